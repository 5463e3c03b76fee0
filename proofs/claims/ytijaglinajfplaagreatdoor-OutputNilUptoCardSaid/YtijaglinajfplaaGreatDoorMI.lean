/-
  The range over a function that yields two values.
  Slices that stay: the beginning of one, and one appended to another.
  Contracts of ledgers: Find, Encode.
  Contracts of ledgers: Encode, and the statements' own encoding.
  Contracts of ledgers: Clone, Equal, Prefix; Get behind the end.
  Contracts of ledgers: DecodeLedger; what it accepts is what Encode writes.
  The contract of the statements' build of layer 39.
  Conditions: those that each theorem states.
-/
import Derived.Test.YtijaglinajfplaaGreatDoorMB
import Derived.Test.YtijaglinajfplaaGreatDoorMG
import Derived.Test.YtijaglinajfplaaGreatDoorMF
set_option maxRecDepth 10000
namespace Go.Proofs.YtijaglinajfplaaGreatDoor
open Go.RowKit

section
variable {n : Nat} {C : Cx} {Q : Exit → Act → World → Prop} {E E' : List (Nat × Value)} {F F' F1 Fs F0 : List Pf} {R R' R0 Rs N N' A : List HP} {k k' : List Fr} {ops l : List Oper} {L L' : List (Nat × Nat)} {Tl : List Nat}
  {i d : Nat} {t ty0 : TypeId} {x y : Operand} {pos : String} {aft : Array Edge} {gd : Option (Nat × Bool)}
/-- One round, as yield. -/
theorem yield2_ok {α : Type} {enc1 enc2 : α → Value} {q : LR} {l p1 p2 : Nat} {J Jx : List α → HP} {pre : List α} {e : α} (hps : q.ps = #[p1, p2]) (hpn1 : p1 < n) (hpn2 : p2 < n) (hag : ∀ a : Act, a.tmps = q.tmps → a.defers = [] → Agree n [] (look E) a)
    (hbody : ∀ G w0 hp0, Wk n ⟨some l, G, w0, hp0, []⟩ [.c q.assign, .r l, .c q.body] (RQ q l G w0 hp0 (J (pre ++ [e])) (Jx (pre ++ [e]))) ((p2, enc2 e) :: (p1, enc1 e) :: E) F [Pt l (.loop (rcd q .ready none)), J pre]) :
    SpecV (.func (.yield l) #[] #[]) [enc1 e, enc2 e] [⟨fun h => ∀ f ∈ F, f.p h, fun _ _ s h f hf => f.m _ _ s (h f hf)⟩] [both (Pt l (.loop (rcd q .ready none))) (J pre)]
      (YPost (fun pre => both (Pt l (.loop (rcd q .ready none))) (J pre)) (fun pre => both (Pt l (.loop (rcd q .done (some .ret)))) (Jx pre)) pre e) := by
  intro G w hp hsat
  have h1 : Sat G w hp F [both (Pt l (.loop (rcd q .ready none))) (J pre)] w := hsat.facts fun hp hF => hF _ (List.mem_cons_self ..)
  obtain ⟨_, h2⟩ := h1.open' (X := Unit) (L := fun _ => [Pt l (.loop (rcd q .ready none)), J pre]) fun _ hh => ⟨(), hh⟩
  have hl := h2.pt Sel.here
  unfold CallsV OpRes
  have hy := run_yield (P := Tryz.prog) (args := #[enc1 e, enc2 e]) hl (by simp [rcd, hps])
  have hi : (invoke (.fn (.yield l) #[]) (#[] ++ [enc1 e, enc2 e].toArray)).run Tryz.prog w = (Instr.yield l #[enc1 e, enc2 e]).run Tryz.prog w := by simp [invoke]
  simp only [hi, hy]
  refine roundIn_of_wpIn trivial ?_
  have ha : Agree n [] (look ((p2, enc2 e) :: (p1, enc1 e) :: E)) ({ tmps := ((rcd q .ready none).params.zip #[enc1 e, enc2 e]).foldl (fun tmps (x : Tmp × Value) => tmps.setIfInBounds x.1 x.2) (rcd q .ready none).tmps, defers := [] } : Act) := by
    have := ((hag ⟨q.tmps, []⟩ rfl rfl).put (d := some p1) (fun t ht => by cases ht; exact hpn1) (enc1 e)).put (d := some p2) (fun t ht => by cases ht; exact hpn2) (enc2 e)
    rw [look_cons, look_cons]
    simpa [rcd, hps, Act.put] using this
  have hb := hbody G w hp _ w ha h2
  refine wpIn_mono (show q.assign.wpIn (fz (some l)) 0 Tryz.prog (after (some l) [.r l, .c q.body] (RQ q l G w hp (J (pre ++ [e])) (Jx (pre ++ [e])))) _ w from hb) ?_
  rintro ex a1 w1 hx
  cases ex with
  | normal =>
    obtain ⟨w2, g1, g2⟩ := hx
    refine ⟨w2, g1, ?_⟩
    have g3 : q.body.wpIn (fz (some l)) 0 Tryz.prog (after (some l) [] (RQ q l G w hp (J (pre ++ [e])) (Jx (pre ++ [e])))) a1 w2 := g2
    rw [after_nil] at g3
    refine wpIn_mono g3 (roundPost_mono ?_)
    rintro e' w' ⟨b, rfl, hs'⟩
    exact ⟨b, rfl, trivial, hs'⟩
  | _ => exact hx.elim
/-- What a function that is ranged over does with yield: the elements xs, in their order. -/
def Iter2 {α : Type} (gf : FuncId) (lb : List Value) (enc1 enc2 : α → Value) (xs : List α) (Fg : List Pf) (A : List HP) : Prop :=
  ∀ (v : Value) (Y : Pf) (I Ix : List α → HP), (∀ pre e, pre ++ [e] <+: xs → SpecV v [enc1 e, enc2 e] [Y] [I pre] (YPost I Ix pre e)) →
    Enters gf ∧ Spec Tryz.prog gf (v :: lb).toArray (Y :: Fg) (I [] :: A) ⟨Option (List α), fun _ => .tuple #[], fun r => ∀ pre, r = some pre → pre <+: xs, fun _ => [], fun r => [match r with | none => I xs | some pre => Ix pre]⟩

/-- The range over a function. -/
theorem k_range2 {α : Type} {g : Operand} {p1 p2 : Nat} {assign body : Code} {gf : FuncId} {lb : Array Value} {enc1 enc2 : α → Value} {xs : List α} {Fg : List Pf} {G : H} {w0 : World} {hp0 : H} {ds : List Deferred} (J Jx : List α → HP) (hit : Iter2 gf lb.toList enc1 enc2 xs Fg A)
    (hbody : ∀ (q : LR) (l : Nat) (pre : List α) (e : α), pre ++ [e] <+: xs → ∀ G w0 hp0, Wk n ⟨some l, G, w0, hp0, []⟩ [.c assign, .r l, .c body] (RQ q l G w0 hp0 (J (pre ++ [e])) (Jx (pre ++ [e]))) ((p2, enc2 e) :: (p1, enc1 e) :: E) F [Pt l (.loop (rcd q .ready none)), J pre])
    (hdone : ∀ D, Wk n ⟨none, G, w0, hp0, { target := .collected D, args := #[] } :: ds⟩ k' Q E F (J xs :: Pt D (.deferred (some [])) :: R'))
    (hstop : ∀ D pre, pre <+: xs → Wret n ⟨none, G, w0, hp0, { target := .collected D, args := #[] } :: ds⟩ Q E F (Jx pre :: Pt D (.deferred (some [])) :: R'))
    (h : nf 1000 k = .c (.rangeFunc g #[p1, p2] assign body) :: k' := by rfl) (hg : ev E g = some (.func (.func gf) #[] lb) := by rfl) (hpn1 : Nat.blt p1 n = true := by rfl) (hpn2 : Nat.blt p2 n = true := by rfl) (hnr : noR k' = true := by rfl)
    (sel : Sels (J [] :: A) R R' := by (repeat (first | exact Sels.nil | exact Sel.here | apply Sel.there | apply Sels.cons)); first | done | fail) (hFg : EntF F Fg := by (repeat (first | exact trivial | exact Sel.here | apply Sel.there | apply EntF.cons)); first | done | fail) : Wk n ⟨none, G, w0, hp0, ds⟩ k Q E F R := fun a w ha hs => nf_ok 1000 k (by
  rw [h]
  show (Code.rangeFunc g #[p1, p2] assign body).wpIn (fz none) 0 Tryz.prog (after none k' Q) a w
  refine wpIn_rangeFunc fun fn hfn => ?_
  let q : LR := ⟨fn, a.tmps, #[p1, p2], assign, body, w.heap.size⟩
  let lo : Obj := .loop (rcd q .ready none)
  have hs1 : Sat G w0 hp0 F (Pt (w.heap.size + 1) lo :: Pt w.heap.size (.deferred (some [])) :: J [] :: (A ++ R')) ((w.alloc (.deferred (some []))).alloc lo) := by
    have := ((hs.sels sel).alloc (.deferred (some []))).alloc lo
    simpa using this
  have hs2 : Sat G w0 hp0 F (both (Pt (w.heap.size + 1) lo) (J []) :: Pt w.heap.size (.deferred (some [])) :: (A ++ R')) ((w.alloc (.deferred (some []))).alloc lo) :=
    (hs1.sels (A := [Pt (w.heap.size + 1) lo, J []]) (.cons .here (.cons (.there .here) .nil))).shut (x := both _ _) fun _ hh => hh
  have hy : ∀ pre e, pre ++ [e] <+: xs → SpecV (.func (.yield (w.heap.size + 1)) #[] #[]) [enc1 e, enc2 e] _ _ _ := fun pre e hpre =>
    yield2_ok (n := n) (E := E) (F := F) (enc1 := enc1) (enc2 := enc2) (q := q) (l := w.heap.size + 1) (p1 := p1) (p2 := p2) (J := J) (Jx := Jx) (pre := pre) (e := e) rfl (Nat.le_of_ble_eq_true hpn1) (Nat.le_of_ble_eq_true hpn2)
      (fun b hb hd => ⟨by rw [hb]; exact ha.size, hd, fun t v hv => by rw [hb]; exact ha.slots t v hv⟩) (fun G w0 hp0 => hbody q _ pre e hpre G w0 hp0)
  obtain ⟨eg, hsp⟩ := hit _ _ _ _ hy
  have hev := ha.ev (x := g) (by rw [evf_look]; exact hg)
  refine ⟨w.heap.size + 1, [{ target := .collected w.heap.size, args := #[] }], (w.alloc (.deferred (some []))).alloc lo, { target := .fn (.func gf) lb, args := #[.func (.yield (w.heap.size + 1)) #[] #[]] }, (w.alloc (.deferred (some []))).alloc lo, gf, #[.func (.yield (w.heap.size + 1)) #[] #[]] ++ lb, (w.alloc (.deferred (some []))).alloc lo, run_enterLoop_outer _ _ _ _ _, ?_, fun _ _ => trivial, ?_, (fun hx => by cases hx), ?_⟩
  · simp only [resolve, hev]
    simp [go_sem, Deferred.ofValue, Act.eval]
  · simp only [invoke]
    exact eg _ _
  · have e1 : #[Value.func (.yield (w.heap.size + 1)) #[] #[]] ++ lb = (Value.func (.yield (w.heap.size + 1)) #[] #[] :: lb.toList).toArray := by rw [← Array.toList_inj]; simp
    rw [e1]
    refine callsIn_fz (sat_call hsp hs2 (.cons .here (sels_pre A _ R')) (fun hp hF f hf => ?_) fun r w' hr hs3 => ?_)
    · rcases List.mem_cons.1 hf with rfl | hf
      · exact hF
      · exact hFg.all hp hF f hf
    · have hds : ({ a with defers := [{ target := .collected w.heap.size, args := #[] }] ++ a.defers } : Act).defers = { target := .collected w.heap.size, args := #[] } :: ds := by simp [ha.defers]
      have ha' : Agree n ({ target := .collected w.heap.size, args := #[] } :: ds) (look E) { a with defers := [{ target := .collected w.heap.size, args := #[] }] ++ a.defers } := ⟨ha.size, hds, ha.slots⟩
      cases r with
      | none =>
        obtain ⟨_, h4⟩ := (show Sat G w0 hp0 F (both (Pt (w.heap.size + 1) lo) (J xs) :: Pt w.heap.size (.deferred (some [])) :: R') w' from hs3).open' (X := Unit) (L := fun _ => [Pt (w.heap.size + 1) lo, J xs]) fun _ hh => ⟨(), hh⟩
        refine ⟨none, _, run_endLoop (h4.pt Sel.here) (by simp [rcd]), ?_⟩
        have h5 := putObj_write (o' := .loop (rcd q .exhausted none)) h4
        exact hdone w.heap.size _ _ ha' (h5.res fun _ hh => sep_tail hh)
      | some pre =>
        obtain ⟨_, h4⟩ := (show Sat G w0 hp0 F (both (Pt (w.heap.size + 1) (.loop (rcd q .done (some .ret)))) (Jx pre) :: Pt w.heap.size (.deferred (some [])) :: R') w' from hs3).open' (X := Unit) (L := fun _ => [Pt (w.heap.size + 1) (.loop (rcd q .done (some .ret))), Jx pre]) fun _ hh => ⟨(), hh⟩
        refine ⟨some .ret, _, run_endLoop (h4.pt Sel.here) (by simp [rcd]), ?_⟩
        have h5 := putObj_write (o' := .loop (rcd q .exhausted (some .ret))) h4
        refine wpIn_ret ?_
        rw [after_ret hnr]
        exact hstop w.heap.size pre (hr pre rfl) _ _ ha' (h5.res fun _ hh => sep_tail hh))
end
end Go.Proofs.YtijaglinajfplaaGreatDoor

set_option maxRecDepth 10000
namespace Go.Proofs.YtijaglinajfplaaGreatDoor
open Go.RowKit

section
variable {n : Nat} {C : Cx} {Q : Exit → Act → World → Prop} {E : List (Nat × Value)} {F F0 : List Pf} {R R0 : List HP} {k : List Fr} {ops l : List Oper}
  {d : Nat} {t ty0 : TypeId} {x y : Operand} {pos : String} {aft : Array Edge} {gd : Option (Nat × Bool)}
theorem src_sl {α : Type} {T sz : Nat} {f : α → List Value} {o : Option Addr} {cap : Nat} {es : List α} (hf : ∀ e, (f e).length = sz) (hs : Sel (Sl T f o cap es) F F0) : Src F R sz (.slice o es.length cap) es.length (es.flatMap f) :=
  ⟨rfl, fun G w0 hp0 w hsat => by
    obtain ⟨hp, hr, st⟩ := hsat
    obtain ⟨hc, rfl | ⟨b, cs, fz, pre, post, rfl, hb, hcs⟩⟩ := st.f _ hs.mem
    · cases o with
      | none => rfl
      | some a =>
        show (loadCells a (0 * sz)).run Tryz.prog w = _
        rw [Nat.zero_mul]
        unfold loadCells
        rfl
    · have h := st.inp _ _ hb
      show (loadCells ⟨b, pre.length, none⟩ (es.length * sz)).run Tryz.prog w = _
      have hfl : (es.flatMap f).length = es.length * sz := flat_len hf es
      have hsz : cs.size = pre.length + (es.length * sz + post.length) := by
        have := congrArg List.length hcs
        simp only [Array.length_toList, List.length_append, hfl] at this
        exact this
      unfold loadCells
      rw [run_loadCells h pre.length (es.length * sz) 0 #[] (by omega)]
      have : ((cs.toList.drop (pre.length + 0)).take (es.length * sz)) = es.flatMap f := by
        rw [hcs, Nat.add_zero, List.drop_append_of_le_length (Nat.le_refl _), List.drop_length, List.nil_append, ← hfl, List.take_append_of_le_length (Nat.le_refl _), List.take_length]
      rw [this]; simp⟩
theorem flat_one {α : Type} {f : α → List Value} (h : ∀ e, (f e).all one1 = true) (es : List α) : (es.flatMap f).all one1 = true := by
  induction es with
  | nil => rfl
  | cons a l ih => rw [List.flatMap_cons, List.all_append, h a, ih]; rfl
/-- append of a slice that stays. -/
theorem l_appF {α : Type} {T sz bytes : Nat} {f : α → List Value} {o o2 : Option Addr} {m cap m2 c : Nat} {xs : List Value} {es : List α} {ts tx : TypeId} {rs tr rx : TRow}
    (nx : ∀ o' cap', Wl n C ops.toArray k Q l ((d, .slice o' (m + es.length) cap') :: E) F (Row T sz o' (m + es.length) cap' (xs ++ es.flatMap f) :: R0))
    (hw : wantL ops E ⟨some d, .call ⟨.builtin .append, #[x, y], #[ts, tx]⟩, ty0, pos, aft, gd⟩ = some true := by rfl) (hn : Nat.blt d n = true := by rfl) (hx : ev E x = some (.slice o m cap) := by rfl) (hy : ev E y = some (.slice o2 m2 c) := by rfl)
    (hts : lookT tab ts = some rs := by rfl) (hrs : rs.k = .slice T := by rfl) (hT : lookT tab T = some tr := by rfl) (hsz : tr.size = sz := by rfl) (hby : tr.bytes = bytes := by rfl) (htx : lookT tab tx = some rx := by rfl) (hnx : rx.k = .slice T := by rfl)
    (hs : Sel (Sl T f o2 c es) F F0 := by (repeat (first | exact Sel.here | apply Sel.there)); first | done | fail) (hrow : Sel (Row T sz o m cap xs) R R0 := by (repeat (first | exact Sel.here | apply Sel.there)); first | done | fail) (hm2 : m2 = es.length := by rfl)
    (hf : ∀ e, (f e).length = sz := by intro; rfl) (hone : ∀ e, (f e).all one1 = true := by intro; rfl) (hb0 : bytes ≠ 0 := by decide) (hroom : (2 * (m + es.length) + 200) * bytes ≤ 281474976710656 := by simp <;> omega) : Wl n C ops.toArray k Q (⟨some d, .call ⟨.builtin .append, #[x, y], #[ts, tx]⟩, ty0, pos, aft, gd⟩ :: l) E F R :=
  wl_op (fun t ht => by cases ht; exact Nat.le_of_ble_eq_true hn) (fun c hc => by cases hc) hw fun a w ha hsat => by
    subst hm2
    exact (app_res ha hx hy hts hrs hT hsz hby htx (.inl hnx) (src_sl (R := R) hf hs) (flat_len hf es) (flat_one hone es) hroom hrow hsat hb0).mono fun v w' ⟨o', cap', hv, hs'⟩ a' ha' => by
      subst hv; exact nx o' cap' a' w' ha' hs'
/-- The beginning of a slice that stays. -/
theorem l_slH {α : Type} {T sz : Nat} {f : α → List Value} {o : Option Addr} {m cap : Nat} {es : List α} {z2 : Int} {y2 : Operand} {rs tr : TRow} (hi : Nat) (hhi : hi ≤ es.length)
    (nx : ∀ o', Wl n C ops.toArray k Q l ((d, .slice o' (es.take hi).length cap) :: E) (Sl T f o' cap (es.take hi) :: F) R)
    (hw : wantL ops E ⟨some d, .slice t x none (some y2) none, ty0, pos, aft, gd⟩ = some true := by rfl) (hn : Nat.blt d n = true := by rfl) (hx : ev E x = some (.slice o m cap) := by rfl) (hy2 : ev E y2 = some (.int .i64 z2) := by rfl)
    (hs : Sel (Sl T f o cap es) F F0 := by (repeat (first | exact Sel.here | apply Sel.there)); first | done | fail) (hts : lookT tab t = some rs := by rfl) (hrs : rs.k = .slice T := by rfl) (hT : lookT tab T = some tr := by rfl) (hsz : tr.size = sz := by rfl) (hf : ∀ e, (f e).length = sz := by intro; rfl)
    (hz2 : z2 = (hi : Int) := by first | rfl | omega) : Wl n C ops.toArray k Q (⟨some d, .slice t x none (some y2) none, ty0, pos, aft, gd⟩ :: l) E F R :=
  wl_op (fun t ht => by cases ht; exact Nat.le_of_ble_eq_true hn) (fun c hc => by cases hc) hw fun a w ha hsat => by
    obtain ⟨hp, hr, st⟩ := hsat
    subst hz2
    have h1 := st.f _ hs.mem
    have hcap : es.length ≤ cap := h1.1
    have h2 := sl_drop (sl_take (m := hi) h1) (lo := 0) (by simp) hf
    have hs1 := tab_ok.sizeOf hT w
    rw [hsz] at hs1
    unfold OpRes
    have hc2 : (0 : Int) ≤ (hi : Int) ∧ (hi : Int) ≤ (cap : Int) := ⟨by omega, by omega⟩
    simp only [execOp, ha.ev (x := x) (by rw [evf_look]; exact hx), ha.ev (x := y2) (by rw [evf_look]; exact hy2), Option.map_some, Option.map_none, Instr.sliceAt, Instr.slice, run_und hts hrs, Instr.sliceBounds, Instr.sliceBound, asIntOf, Sem.run_bind, Result.andThen, Sem.run_pure, if_pos hc2, Int.toNat_natCast, hs1]
    have hl : hi = (es.take hi).length := by simp; omega
    rw [List.drop_zero, Nat.sub_zero] at h2
    rw [Nat.sub_zero, Nat.sub_zero]
    exact fun a' ha' => nx _ a' w (by rw [← hl]; exact ha') (add_fact st h2)
end
end Go.Proofs.YtijaglinajfplaaGreatDoor

set_option maxRecDepth 10000
namespace Go.Proofs.YtijaglinajfplaaGreatDoor
open Go.RowKit

theorem backward_ok (o : Option Addr) (cap m : Nat) : Enters 118 ∧ Spec Tryz.prog 118 #[.slice o m cap] [] []
    ⟨Nat, fun b => .func (.func 184) #[] #[.pointer (some ⟨b, 0, none⟩)], fun _ => True, fun b => [Blk b (.cells #[.slice o m cap] 76)], fun _ => []⟩ := by
  refine ⟨enters_of Tryz.func118 (by kernel_rfl) rfl, spec_of (vs := [_]) Tryz.func118 rfl Tryz.ntmps118 rfl fun G w hp => ?_⟩
  repeat' (first | refine l_run ?_ | refine l_nil ?_ | refine l_one ?_ | refine k_reg ?_ | refine l_ld ?_ | refine l_ldF ?_ | refine l_st ?_ | refine l_al (fun b => ?_) | refine l_bs (fun b => ?_) | refine k_condT ?_ | refine k_condF ?_ | refine k_brk ?_ | refine l_split (fun hc => ?_) (fun hc => ?_) | refine k_cond (fun hc => ?_) (fun hc => ?_))
  refine k_fz ?_
  exact k_ret b rfl trivial

/-- The elements from behind, with their places. -/
def bkw (ls : List Lf) : Nat → List (Nat × Lf)
  | 0 => []
  | m + 1 => match ls[m]? with | some x => (m, x) :: bkw ls m | none => bkw ls m
def ixv (p : Nat × Lf) : Value := .int .i64 (p.1 : Int)
def lfv2 (p : Nat × Lf) : Value := p.2.v

theorem backward_iter (b : Nat) (o : Option Addr) (cap : Nat) (ls : List Lf) (hl : ls.length ≤ 1099511627776) : Iter2 184 [.pointer (some ⟨b, 0, none⟩)] ixv lfv2 (bkw ls ls.length) [Blk b (.cells #[.slice o ls.length cap] 76), Sl 80 lff o cap ls] [] := by
  intro v Y I Ix hy
  refine ⟨enters_of Tryz.func184 (by kernel_rfl) rfl, spec_of (vs := [_, _]) Tryz.func184 rfl Tryz.ntmps184 rfl fun G w hp => ?_⟩
  repeat' (first | refine l_run ?_ | refine l_nil ?_ | refine l_one ?_ | refine k_reg ?_ | refine l_ld ?_ | refine l_ldF ?_ | refine l_st ?_ | refine l_al (fun b => ?_) | refine l_bs (fun b => ?_) | refine k_condT ?_ | refine k_condF ?_ | refine k_brk ?_ | (refine l_split (fun hc => ?_) (fun hc => ?_) <;> (try simp at hc)) | (refine k_cond (fun hc => ?_) (fun hc => ?_) <;> (try simp at hc)))
  rw [wrapi (z := (ls.length : Int) - 1) (by omega) (by omega)]
  refine k_lp (X := { q : (Nat × Int) × List (Nat × Lf) // q.1.1 ≤ ls.length ∧ q.1.2 = (q.1.1 : Int) - 1 ∧ q.2 ++ bkw ls q.1.1 = bkw ls ls.length }) (fun q => [(0, v), (1, .pointer (some ⟨b, 0, none⟩)), (3, .int .i64 q.1.1.2)]) (fun _ => [Y, Blk b (.cells #[.slice o ls.length cap] 76), Sl 80 lff o cap ls]) (fun q => [I q.1.2]) (fun q => q.1.1.1) ⟨((ls.length, (ls.length : Int) - 1), []), by simp, rfl, rfl⟩ ⟨rfl, rfl, rfl, trivial⟩ ?_
  rintro ⟨⟨⟨m, z⟩, pre⟩, hm, hz, he⟩
  dsimp only at hm hz he ⊢
  cases m with
  | zero =>
    have hz' : z = -1 := by omega
    subst hz'
    have hpre : pre = bkw ls ls.length := by rw [← he]; simp [bkw]
    subst hpre
    repeat' (first | refine l_run ?_ | refine l_nil ?_ | refine l_one ?_ | refine k_reg ?_ | refine l_ld ?_ | refine l_ldF ?_ | refine l_st ?_ | refine l_al (fun b => ?_) | refine l_bs (fun b => ?_) | refine k_condT ?_ | refine k_condF ?_ | refine k_brk ?_ | (refine l_split (fun hc => ?_) (fun hc => ?_) <;> (try simp at hc) <;> (try omega)) | (refine k_cond (fun hc => ?_) (fun hc => ?_) <;> (try simp at hc) <;> (try omega)))
    exact k_end none rfl (fun q hq => by cases hq)
  | succ m =>
    have hz' : z = (m : Int) := by omega
    subst hz'
    obtain ⟨x, hx⟩ : ∃ x, ls[m]? = some x := ⟨_, List.getElem?_eq_getElem (by omega)⟩
    rw [bkw, hx] at he
    dsimp only at he
    have hpre : pre ++ [(m, x)] <+: bkw ls ls.length := ⟨bkw ls m, by rw [← he]; simp⟩
    repeat' (first | refine l_run ?_ | refine l_nil ?_ | refine l_one ?_ | refine k_reg ?_ | refine l_ld ?_ | refine l_ldF ?_ | refine l_st ?_ | refine l_al (fun b => ?_) | refine l_bs (fun b => ?_) | refine k_condT ?_ | refine k_condF ?_ | refine l_ixe (es := ls) m x hx (fun b off => ?_) | refine l_ldC ?_ | (refine l_split (fun hc => ?_) (fun hc => ?_) <;> (try simp at hc) <;> (try omega)) | (refine k_cond (fun hc => ?_) (fun hc => ?_) <;> (try simp at hc) <;> (try omega)))
    refine l_callV (hy pre (m, x) hpre) (fun bb _ => ?_)
    cases bb with
    | false =>
      repeat' (first | refine l_run ?_ | refine l_nil ?_ | refine l_one ?_ | refine k_reg ?_ | refine l_ld ?_ | refine l_ldF ?_ | refine l_st ?_ | refine l_al (fun b => ?_) | refine l_bs (fun b => ?_) | refine k_condT ?_ | refine k_condF ?_ | (refine l_split (fun hc => ?_) (fun hc => ?_) <;> (try simp at hc)) | (refine k_cond (fun hc => ?_) (fun hc => ?_) <;> (try simp at hc)))
      exact k_rt (w_lq (w_ret (some (pre ++ [(m, x)])) rfl (fun q hq => by cases hq; exact hpre)))
    | true =>
      repeat' (first | refine l_run ?_ | refine l_nil ?_ | refine l_one ?_ | refine k_reg ?_ | refine l_ld ?_ | refine l_ldF ?_ | refine l_st ?_ | refine l_al (fun b => ?_) | refine l_bs (fun b => ?_) | refine k_condT ?_ | refine k_condF ?_ | (refine l_split (fun hc => ?_) (fun hc => ?_) <;> (try simp at hc)) | (refine k_cond (fun hc => ?_) (fun hc => ?_) <;> (try simp at hc)))
      rw [wrapi (z := (m : Int) - 1) (by omega) (by omega)]
      exact k_next ⟨((m, (m : Int) - 1), pre ++ [(m, x)]), by dsimp only; omega, rfl, by rw [← he]; simp⟩ (by show m < m + 1; omega) ⟨rfl, rfl, rfl, trivial⟩

abbrev JFL (b5 b6 b7 b8 b9 : Nat) (wn : ByteArray) (nu tk i : Int) (ok : Bool) : List HP := [Pt b5 (.cells #[.string wn] 22), Pt b6 (.cells #[.int .i64 nu] 3), Pt b7 (.cells #[.int .i64 tk] 3), Pt b8 (.cells #[.int .i64 i] 3), Pt b9 (.cells #[.bool ok] 4)]
def JF (b5 b6 b7 b8 b9 : Nat) (wn : ByteArray) (nu tk : Int) (pre : List (Nat × Lf)) : HP := fun h => (∀ x ∈ pre, idq x.2 wn nu tk = false) ∧ Sep (JFL b5 b6 b7 b8 b9 wn nu tk 0 false) h
def JFx (b5 b6 b7 b8 b9 : Nat) (wn : ByteArray) (nu tk : Int) (pre : List (Nat × Lf)) : HP := fun h => ∃ q : List (Nat × Lf) × (Nat × Lf), (pre = q.1 ++ [q.2] ∧ (∀ x ∈ q.1, idq x.2 wn nu tk = false) ∧ idq q.2.2 wn nu tk = true) ∧ Sep (JFL b5 b6 b7 b8 b9 wn nu tk (q.2.1 : Int) true) h

theorem bkw_none {ls : List Lf} {wn : ByteArray} {nu tk : Int} : ∀ m, (∀ x ∈ bkw ls m, idq x.2 wn nu tk = false) → lfind ls wn nu tk m = none
  | 0, _ => rfl
  | m + 1, h => by
    rw [lfind]
    rw [bkw] at h
    cases hx : ls[m]? with
    | none => rw [hx] at h; exact bkw_none m h
    | some x =>
      rw [hx] at h
      dsimp only at h ⊢
      rw [if_neg (by simp [h (m, x) (by simp)])]
      exact bkw_none m fun y hy => h y (by simp [hy])
theorem bkw_some {ls : List Lf} {wn : ByteArray} {nu tk : Int} : ∀ (m : Nat) (pre : List (Nat × Lf)) (p : Nat × Lf), pre ++ [p] <+: bkw ls m → (∀ x ∈ pre, idq x.2 wn nu tk = false) → idq p.2 wn nu tk = true → lfind ls wn nu tk m = some p.1
  | 0, pre, p, h, _, _ => by
    obtain ⟨t, ht⟩ := h
    simp [bkw] at ht
  | m + 1, pre, p, h, h0, h1 => by
    rw [lfind]
    rw [bkw] at h
    cases hx : ls[m]? with
    | none => rw [hx] at h; exact bkw_some m pre p h h0 h1
    | some x =>
      rw [hx] at h
      dsimp only at h ⊢
      obtain ⟨t, ht⟩ := h
      cases pre with
      | nil =>
        simp only [List.nil_append, List.cons_append, List.cons.injEq] at ht
        obtain ⟨rfl, _⟩ := ht
        rw [if_pos h1]
      | cons a pre =>
        simp only [List.cons_append, List.cons.injEq] at ht
        obtain ⟨rfl, ht⟩ := ht
        have := h0 (m, x) (by simp)
        rw [if_neg (by simp only at this; simp [this])]
        exact bkw_some m pre p ⟨t, by simpa using ht⟩ (fun y hy => h0 y (by simp [hy])) h1

def fndP (r : Option Nat) : Value := .tuple #[.int .i64 ((r.getD 0 : Nat) : Int), .bool r.isSome]
theorem idq_id (x : Lf) (wn : ByteArray) (nu tk : Int) : idq x wn nu tk = decide (x.e.id = ⟨wn, nu, tk⟩) := by
  rw [Bool.eq_iff_iff]
  simp [idq, En.id]
theorem eqId (a b : Idn) : eqC eqS 20 197 a.v b.v = some (decide (a = b)) := by
  rw [show eqC eqS 20 197 a.v b.v = some ((a.who.toList == b.who.toList) && ((a.nu == b.nu) && ((a.tk == b.tk) && true))) from rfl]
  congr 1
  obtain ⟨a1, a2, a3⟩ := a
  obtain ⟨b1, b2, b3⟩ := b
  simp only [beqSw, beqIw, Idn.mk.injEq]
  rw [Bool.eq_iff_iff]; simp

set_option maxHeartbeats 1000000 in
theorem lgFind_ok (b : Nat) (ls : List Lf) (wn : ByteArray) (nu tk : Int) (hl : ls.length ≤ 1099511627776) : Enters 49 ∧ Spec Tryz.prog 49 #[.pointer (some ⟨b, 0, none⟩), .string wn, .int .i64 nu, .int .i64 tk] [LgF b ls] []
    (RetV (fndP (lfind ls wn nu tk ls.length))) := by
  refine ⟨enters_of Tryz.func49 (by kernel_rfl) rfl, spec_ofM (vs := [_, _, _, _]) Tryz.func49 rfl Tryz.ntmps49 rfl fun G w hp => ?_⟩
  repeat' (first | refine l_run ?_ | refine l_nil ?_ | refine l_one ?_ | refine k_reg ?_ | refine l_ld ?_ | refine l_ldF ?_ | refine l_st ?_ | refine l_al (fun b => ?_) | refine l_bs (fun b => ?_) | refine k_condT ?_ | refine k_condF ?_ | refine k_brk ?_ | refine r_run ?_ | refine r_one ?_ | refine r_ld ?_ | refine r_ldF ?_ | refine r_ldN ?_ | refine r_al (fun b => ?_) | refine r_bs (fun b => ?_) | refine r_st ?_ | refine r_end ?_ | refine l_call (lgAll_ok _ ls) (fun _ _ => ?_) | refine l_call0 (lgAll_ok _ ls) (fun _ _ => ?_) | refine r_call (lgAll_ok _ ls) (fun _ _ => ?_) | refine l_call (backward_ok _ _ _) (fun _ _ => ?_) | refine l_call0 (backward_ok _ _ _) (fun _ _ => ?_) | refine r_call (backward_ok _ _ _) (fun _ _ => ?_) | refine l_split (fun hc => ?_) (fun hc => ?_) | refine r_split (fun hc => ?_) (fun hc => ?_) | refine k_draw 4 [] [(0, 0), (1, 0), (3, 0), (4, 0), (5, 0), (6, 0), (2, 4), (7, 0)] [] ?_ | refine k_cond (fun hc => ?_) (fun hc => ?_))
  rename_i b5 b6 b7 b8 q _ bb _
  obtain ⟨o, cap⟩ := q
  generalize b = b9
  refine k_shut (r := JF b5 b6 b7 b8 b9 wn nu tk []) (Lx := JFL b5 b6 b7 b8 b9 wn nu tk 0 false) (fun h hh => ⟨fun x hx => (by cases hx), hh⟩) ?_
  refine k_range2 (α := Nat × Lf) (enc1 := ixv) (enc2 := lfv2) (xs := bkw ls ls.length) (JF b5 b6 b7 b8 b9 wn nu tk) (JFx b5 b6 b7 b8 b9 wn nu tk) (backward_iter bb o cap ls hl) ?_ ?_ ?_
  · intro lr l pre e hpre G w0 hp0
    obtain ⟨i, x⟩ := e
    have n1 := identity_ok x.e
    refine k_open (X := Unit) (Lx := fun _ => JFL b5 b6 b7 b8 b9 wn nu tk 0 false) (p := fun _ => ∀ x ∈ pre, idq x.2 wn nu tk = false) (r := JF b5 b6 b7 b8 b9 wn nu tk pre) (.there .here) (fun h hh => ⟨(), hh.1, hh.2⟩) (fun _ hall => ?_)
    have hq := eqId x.e.id ⟨wn, nu, tk⟩
    rw [← idq_id] at hq
    cases hi : idq x wn nu tk with
    | true =>
      rw [hi] at hq
      repeat' (first | refine l_run ?_ | refine l_nil ?_ | refine l_one ?_ | refine k_reg ?_ | refine l_ld ?_ | refine l_ldF ?_ | refine l_st ?_ | refine l_al (fun b => ?_) | refine l_bs (fun b => ?_) | refine k_condT ?_ | refine k_condF ?_ | refine k_brk ?_ | refine r_run ?_ | refine r_one ?_ | refine r_ld ?_ | refine r_ldF ?_ | refine r_ldN ?_ | refine r_al (fun b => ?_) | refine r_bs (fun b => ?_) | refine r_st ?_ | refine r_end ?_ | refine l_call (n1) (fun _ _ => ?_) | refine l_call0 (n1) (fun _ _ => ?_) | refine r_call (n1) (fun _ _ => ?_) | refine k_beg ?_ | refine r_seq (b := true) ?_ (he := hq) | (refine l_split (fun hc => ?_) (fun hc => ?_) <;> (try simp at hc)) | (refine r_split (fun hc => ?_) (fun hc => ?_) <;> (try simp at hc)) | refine k_draw 4 [] [(0, 0), (1, 0), (3, 0), (4, 0), (5, 0), (6, 0), (2, 4), (7, 0)] [] ?_ | (refine k_cond (fun hc => ?_) (fun hc => ?_) <;> (try simp at hc)))
      refine k_shut (Lx := JFL b5 b6 b7 b8 b9 wn nu tk (i : Int) true) (r := JFx b5 b6 b7 b8 b9 wn nu tk (pre ++ [(i, x)])) (fun h hh => ⟨(pre, (i, x)), ⟨rfl, hall, hi⟩, hh⟩) ?_
      exact k_rr
    | false =>
      rw [hi] at hq
      repeat' (first | refine l_run ?_ | refine l_nil ?_ | refine l_one ?_ | refine k_reg ?_ | refine l_ld ?_ | refine l_ldF ?_ | refine l_st ?_ | refine l_al (fun b => ?_) | refine l_bs (fun b => ?_) | refine k_condT ?_ | refine k_condF ?_ | refine k_brk ?_ | refine r_run ?_ | refine r_one ?_ | refine r_ld ?_ | refine r_ldF ?_ | refine r_ldN ?_ | refine r_al (fun b => ?_) | refine r_bs (fun b => ?_) | refine r_st ?_ | refine r_end ?_ | refine l_call (n1) (fun _ _ => ?_) | refine l_call0 (n1) (fun _ _ => ?_) | refine r_call (n1) (fun _ _ => ?_) | refine k_beg ?_ | refine r_seq (b := false) ?_ (he := hq) | (refine l_split (fun hc => ?_) (fun hc => ?_) <;> (try simp at hc)) | (refine r_split (fun hc => ?_) (fun hc => ?_) <;> (try simp at hc)) | refine k_draw 4 [] [(0, 0), (1, 0), (3, 0), (4, 0), (5, 0), (6, 0), (2, 4), (7, 0)] [] ?_ | (refine k_cond (fun hc => ?_) (fun hc => ?_) <;> (try simp at hc)))
      refine k_shut (Lx := JFL b5 b6 b7 b8 b9 wn nu tk 0 false) (r := JF b5 b6 b7 b8 b9 wn nu tk (pre ++ [(i, x)])) (fun h hh => ⟨fun y hy => ?_, hh⟩) ?_
      · rcases List.mem_append.1 hy with hy | hy
        · exact hall y hy
        · simp at hy; subst hy; exact hi
      exact k_rn
  · intro D
    refine k_open (X := Unit) (Lx := fun _ => JFL b5 b6 b7 b8 b9 wn nu tk 0 false) (p := fun _ => ∀ x ∈ bkw ls ls.length, idq x.2 wn nu tk = false) (r := JF b5 b6 b7 b8 b9 wn nu tk (bkw ls ls.length)) .here (fun h hh => ⟨(), hh.1, hh.2⟩) (fun _ hall => ?_)
    rw [bkw_none _ hall]
    repeat' (first | refine l_run ?_ | refine l_nil ?_ | refine l_one ?_ | refine k_reg ?_ | refine l_ld ?_ | refine l_ldF ?_ | refine l_st ?_ | refine l_al (fun b => ?_) | refine l_bs (fun b => ?_) | refine k_condT ?_ | refine k_condF ?_ | refine k_brk ?_ | refine r_run ?_ | refine r_one ?_ | refine r_ld ?_ | refine r_ldF ?_ | refine r_ldN ?_ | refine r_al (fun b => ?_) | refine r_bs (fun b => ?_) | refine r_st ?_ | refine r_end ?_ | refine l_split (fun hc => ?_) (fun hc => ?_) | refine r_split (fun hc => ?_) (fun hc => ?_) | refine k_draw 4 [] [(0, 0), (1, 0), (3, 0), (4, 0), (5, 0), (6, 0), (2, 4), (7, 0)] [] ?_ | refine k_cond (fun hc => ?_) (fun hc => ?_))
    exact k_retM () rfl trivial
  · intro D pre hpre
    refine w_open (X := List (Nat × Lf) × (Nat × Lf)) (Lx := fun q => JFL b5 b6 b7 b8 b9 wn nu tk (q.2.1 : Int) true) (r := JFx b5 b6 b7 b8 b9 wn nu tk pre) .here (fun h hh => hh) (fun q hq => ?_)
    obtain ⟨rfl, h1, h2⟩ := hq
    rw [bkw_some _ _ _ hpre h1 h2]
    exact w_retM () rfl trivial
end Go.Proofs.YtijaglinajfplaaGreatDoor

set_option maxRecDepth 10000
namespace Go.Proofs.YtijaglinajfplaaGreatDoor
open Go.RowKit

section
variable {n : Nat} {C : Cx} {Q : Exit → Act → World → Prop} {E : List (Nat × Value)} {F : List Pf} {R R0 : List HP} {k : List Fr}
/-- What a writer holds, written otherwise. -/
theorem k_wtc {b : Nat} {xs ys : List UInt8} (h : xs = ys) (t : Wk n C k Q E F (Wtr b ys :: R0)) (hs : Sel (Wtr b xs) R R0 := by (repeat (first | exact Sel.here | apply Sel.there)); first | done | fail) : Wk n C k Q E F R := by
  subst h; exact fun a w ha hsat => t a w ha (hsat.sel hs)
end
/-- An entry that may be written. -/
def EncOK (x : Lf) : Prop := lchk x = 0 ∧ x.e.who.size ≤ 1000
theorem lchk_zero {x : Lf} (h : lchk x = 0) : 0 ≤ x.e.nu ∧ x.e.nu ≤ 1048576 ∧ 0 ≤ x.e.tk ∧ x.e.tk ≤ 1073741824 ∧ 0 ≤ x.tm ∧ x.tm ≤ 1073741824 ∧ 0 ≤ x.rd ∧ x.rd ≤ 1048576 ∧ ochk x.e.o = 0 := by
  rcases lchk_cases x with ⟨_, he⟩ | ⟨_, _, he⟩ | ⟨_, hr, he⟩
  · rw [he] at h; cases h
  · rw [he] at h; cases h
  · rw [he] at h; exact ⟨hr.1, hr.2.1, hr.2.2.1, hr.2.2.2.1, hr.2.2.2.2.1, hr.2.2.2.2.2.1, hr.2.2.2.2.2.2.1, hr.2.2.2.2.2.2.2, h⟩
theorem lenc_len {x : Lf} (h : EncOK x) : (lenc x).length ≤ 6100 := by
  obtain ⟨z1, z2, z3, z4, z5, z6, z7, z8, hoc⟩ := lchk_zero h.1
  have h0 := h.2
  have l1 := venc_len10 x.e.who.size (by omega)
  have l2 := venc_len10 x.e.nu.toNat (by omega)
  have l3 := venc_len10 x.e.tk.toNat (by omega)
  have l4 := oenc_len hoc
  have l5 := venc_len10 x.tm.toNat (by omega)
  have l6 := venc_len10 x.rd.toNat (by omega)
  have s1 : x.e.who.data.toList.length = x.e.who.size := by simp
  simp only [lenc, List.length_append]; omega
theorem lencs_len : ∀ l : List Lf, (∀ x ∈ l, EncOK x) → (l.flatMap lenc).length ≤ l.length * 6100
  | [], _ => by simp
  | x :: l, h => by
    have h1 := lenc_len (h x (by simp))
    have h2 := lencs_len l fun y hy => h y (by simp [hy])
    simp only [List.flatMap_cons, List.length_append, List.length_cons]; omega
def lencsS (ls : List Lf) : ByteArray := ⟨(lencs ls).toArray⟩

set_option maxHeartbeats 2000000 in
theorem lgEncode_ok (b : Nat) (ls : List Lf) (hl : ls.length ≤ 1000) (hok : ∀ x ∈ ls, EncOK x) : Enters 67 ∧ Spec Tryz.prog 67 #[.pointer (some ⟨b, 0, none⟩)] [LgF b ls] [] (RetV (.string (lencsS ls))) := by
  have n0 := fun bw => wtrNumber_ok bw [] ls.length (by omega) (by simp)
  have hL := lencs_len ls hok
  have hL2 := venc_len10 ls.length (by omega)
  have nB := fun bw => wtrBytes_ok bw (venc ls.length ++ ls.flatMap lenc) (by simp only [List.length_append]; omega)
  refine ⟨enters_of Tryz.func67 (by kernel_rfl) rfl, spec_of (vs := [_]) Tryz.func67 rfl Tryz.ntmps67 rfl fun G w hp => ?_⟩
  refine k_lgf fun o cap => ?_
  repeat' (first | refine l_run ?_ | refine l_nil ?_ | refine l_one ?_ | refine k_reg ?_ | refine l_ld ?_ | refine l_ldF ?_ | refine l_st ?_ | refine l_al (fun b => ?_) | refine l_bs (fun b => ?_) | refine k_condT ?_ | refine k_condF ?_ | refine k_brk ?_ | refine l_call (newWriter_ok) (fun _ _ => ?_) | refine l_call0 (newWriter_ok) (fun _ _ => ?_) | refine l_call (n0 _) (fun _ _ => ?_) | refine l_call0 (n0 _) (fun _ _ => ?_) | (refine l_split (fun hc => ?_) (fun hc => ?_) <;> (try simp at hc)) | (refine k_cond (fun hc => ?_) (fun hc => ?_) <;> (try simp at hc)))
  rename_i bw _ _ _
  refine k_wtc (xs := [] ++ venc ls.length) (ys := venc ls.length ++ (ls.take 0).flatMap lenc) (by simp) ?_
  refine k_lpx (X := { i : Nat // i ≤ ls.length }) (Y := Unit) (fun i => [(3, .pointer (some ⟨bw, 0, none⟩)), (21, .slice o ls.length cap), (22, .int .i64 (ls.length : Int)), (23, .int .i64 (i.1 : Int))]) (fun _ => [Sl 80 lff o cap ls]) (fun i => [Wtr bw (venc ls.length ++ (ls.take i.1).flatMap lenc)]) (fun i => ls.length - i.1)
    (fun _ => [(3, .pointer (some ⟨bw, 0, none⟩))]) (fun _ => []) (fun _ => [Wtr bw (venc ls.length ++ ls.flatMap lenc)]) ⟨0, by omega⟩ ⟨rfl, rfl, rfl, rfl, trivial⟩ ?_ ?_
  · rintro ⟨⟩
    repeat' (first | refine l_run ?_ | refine l_nil ?_ | refine l_one ?_ | refine k_reg ?_ | refine l_ld ?_ | refine l_ldF ?_ | refine l_st ?_ | refine l_al (fun b => ?_) | refine l_bs (fun b => ?_) | refine k_condT ?_ | refine k_condF ?_ | refine k_brk ?_ | refine l_call (nB _) (fun _ _ => ?_) | refine l_call0 (nB _) (fun _ _ => ?_) | (refine l_split (fun hc => ?_) (fun hc => ?_) <;> (try simp at hc)) | (refine k_cond (fun hc => ?_) (fun hc => ?_) <;> (try simp at hc)))
    refine l_frz (sz := 1) (f := bf) (venc ls.length ++ ls.flatMap lenc) ?_ (byt_flat _) rfl
    refine l_b2s ?_
    repeat' (first | refine l_run ?_ | refine l_nil ?_ | refine l_one ?_ | refine k_reg ?_ | refine l_ld ?_ | refine l_ldF ?_ | refine l_st ?_ | refine l_al (fun b => ?_) | refine l_bs (fun b => ?_) | refine k_condT ?_ | refine k_condF ?_ | refine k_brk ?_ | (refine l_split (fun hc => ?_) (fun hc => ?_) <;> (try simp at hc)) | (refine k_cond (fun hc => ?_) (fun hc => ?_) <;> (try simp at hc)))
    exact k_ret () rfl trivial
  · intro hxx
    rintro ⟨i, hi⟩
    dsimp only at hi ⊢
    by_cases hlt : i < ls.length
    · obtain ⟨x, hx⟩ : ∃ x, ls[i]? = some x := ⟨_, List.getElem?_eq_getElem hlt⟩
      have hx0 := hok x (List.mem_of_getElem? hx)
      obtain ⟨z1, z2, z3, z4, z5, z6, z7, z8, hoc⟩ := lchk_zero hx0.1
      have hwho := hx0.2
      have hB : (venc ls.length ++ (ls.take i).flatMap lenc).length ≤ 7000000 := by
        have h1 := venc_len10 ls.length (by omega)
        have h2 := lencs_len (ls.take i) (fun y hy => hok y (List.mem_of_mem_take hy))
        have h3 : (ls.take i).length ≤ 1000 := by simp; omega
        simp only [List.length_append]; omega
      have l1 := venc_len10 x.e.who.size (by omega)
      have l2 := venc_len10 x.e.nu.toNat (by omega)
      have l3 := venc_len10 x.e.tk.toNat (by omega)
      have l4 := oenc_len hoc
      have l5 := venc_len10 x.tm.toNat (by omega)
      have s1 : x.e.who.data.toList.length = x.e.who.size := by simp
      have e1 : x.e.nu = ((x.e.nu.toNat : Nat) : Int) := by omega
      have e2 : x.e.tk = ((x.e.tk.toNat : Nat) : Int) := by omega
      have e3 : x.tm = ((x.tm.toNat : Nat) : Int) := by omega
      have e4 : x.rd = ((x.rd.toNat : Nat) : Int) := by omega
      have hlast : (venc ls.length ++ (ls.take i).flatMap lenc) ++ venc x.e.who.size ++ x.e.who.data.toList ++ venc x.e.nu.toNat ++ venc x.e.tk.toNat ++ oenc x.e.o ++ venc x.tm.toNat ++ venc x.rd.toNat = venc ls.length ++ (ls.take (i + 1)).flatMap lenc := by
        rw [List.take_add_one, hx]
        simp [lenc]
      generalize venc ls.length ++ (ls.take i).flatMap lenc = B at *
      have n1 := wtrText_ok bw B x.e.who (by omega) (by omega)
      have n2 := wtrNumber_ok bw (B ++ venc x.e.who.size ++ x.e.who.data.toList) x.e.nu.toNat (by omega) (by simp only [List.length_append]; omega)
      have n3 := wtrNumber_ok bw (B ++ venc x.e.who.size ++ x.e.who.data.toList ++ venc x.e.nu.toNat) x.e.tk.toNat (by omega) (by simp only [List.length_append]; omega)
      have n4 := outWrite_ok x.e.o bw (B ++ venc x.e.who.size ++ x.e.who.data.toList ++ venc x.e.nu.toNat ++ venc x.e.tk.toNat) hoc (by simp only [List.length_append]; omega)
      have n5 := wtrNumber_ok bw (B ++ venc x.e.who.size ++ x.e.who.data.toList ++ venc x.e.nu.toNat ++ venc x.e.tk.toNat ++ oenc x.e.o) x.tm.toNat (by omega) (by simp only [List.length_append]; omega)
      have n6 := wtrNumber_ok bw (B ++ venc x.e.who.size ++ x.e.who.data.toList ++ venc x.e.nu.toNat ++ venc x.e.tk.toNat ++ oenc x.e.o ++ venc x.tm.toNat) x.rd.toNat (by omega) (by simp only [List.length_append]; omega)
      rw [← e1] at n2
      rw [← e2] at n3
      rw [← e3] at n5
      rw [← e4] at n6
      repeat' (first | refine l_run ?_ | refine l_nil ?_ | refine l_one ?_ | refine k_reg ?_ | refine l_ld ?_ | refine l_ldF ?_ | refine l_st ?_ | refine l_al (fun b => ?_) | refine l_bs (fun b => ?_) | refine k_condT ?_ | refine k_condF ?_ | refine l_call (n1) (fun _ _ => ?_) | refine l_call0 (n1) (fun _ _ => ?_) | refine l_call (n2) (fun _ _ => ?_) | refine l_call0 (n2) (fun _ _ => ?_) | refine l_call (n3) (fun _ _ => ?_) | refine l_call0 (n3) (fun _ _ => ?_) | refine l_call (n4) (fun _ _ => ?_) | refine l_call0 (n4) (fun _ _ => ?_) | refine l_call (n5) (fun _ _ => ?_) | refine l_call0 (n5) (fun _ _ => ?_) | refine l_call (n6) (fun _ _ => ?_) | refine l_call0 (n6) (fun _ _ => ?_) | refine l_ixe (es := ls) i x hx (fun b off => ?_) | refine l_ldC ?_ | (refine l_split (fun hc => ?_) (fun hc => ?_) <;> (try simp at hc) <;> (try omega)) | (refine k_cond (fun hc => ?_) (fun hc => ?_) <;> (try simp at hc) <;> (try omega)))
      rw [wrapi (z := (i : Int) + 1) (by omega) (by omega)]
      refine k_wtc hlast ?_
      exact k_next ⟨i + 1, by omega⟩ (by show ls.length - (i + 1) < ls.length - i; omega) ⟨rfl, rfl, rfl, rfl, trivial⟩
    · obtain rfl : i = ls.length := by omega
      rw [List.take_length]
      repeat' (first | refine l_run ?_ | refine l_nil ?_ | refine l_one ?_ | refine k_reg ?_ | refine l_ld ?_ | refine l_ldF ?_ | refine l_st ?_ | refine l_al (fun b => ?_) | refine l_bs (fun b => ?_) | refine k_condT ?_ | refine k_condF ?_ | (refine l_split (fun hc => ?_) (fun hc => ?_) <;> (try simp at hc) <;> (try omega)) | (refine k_cond (fun hc => ?_) (fun hc => ?_) <;> (try simp at hc) <;> (try omega)))
      exact k_out hxx () ⟨rfl, trivial⟩

set_option maxHeartbeats 2000000 in
theorem encoding_ok (o : Option Addr) (cap : Nat) (ls : List Lf) (hl : ls.length ≤ 1000) (hok : ∀ x ∈ ls, EncOK x) : Enters 66 ∧ Spec Tryz.prog 66 #[.slice o ls.length cap] [Sl 80 lff o cap ls] [] (RetV (.string (lencsS ls))) := by
  have n0 := fun bw => wtrNumber_ok bw [] ls.length (by omega) (by simp)
  have hL := lencs_len ls hok
  have hL2 := venc_len10 ls.length (by omega)
  have nB := fun bw => wtrBytes_ok bw (venc ls.length ++ ls.flatMap lenc) (by simp only [List.length_append]; omega)
  refine ⟨enters_of Tryz.func66 (by kernel_rfl) rfl, spec_of (vs := [_]) Tryz.func66 rfl Tryz.ntmps66 rfl fun G w hp => ?_⟩
  repeat' (first | refine l_run ?_ | refine l_nil ?_ | refine l_one ?_ | refine k_reg ?_ | refine l_ld ?_ | refine l_ldF ?_ | refine l_st ?_ | refine l_al (fun b => ?_) | refine l_bs (fun b => ?_) | refine k_condT ?_ | refine k_condF ?_ | refine k_brk ?_ | refine l_call (newWriter_ok) (fun _ _ => ?_) | refine l_call0 (newWriter_ok) (fun _ _ => ?_) | refine l_call (n0 _) (fun _ _ => ?_) | refine l_call0 (n0 _) (fun _ _ => ?_) | (refine l_split (fun hc => ?_) (fun hc => ?_) <;> (try simp at hc)) | (refine k_cond (fun hc => ?_) (fun hc => ?_) <;> (try simp at hc)))
  rename_i bw _ _ _
  refine k_wtc (xs := [] ++ venc ls.length) (ys := venc ls.length ++ (ls.take 0).flatMap lenc) (by simp) ?_
  refine k_lpx (X := { i : Nat // i ≤ ls.length }) (Y := Unit) (fun i => [(0, .slice o ls.length cap), (3, .pointer (some ⟨bw, 0, none⟩)), (4, .int .i64 (i.1 : Int))]) (fun _ => [Sl 80 lff o cap ls]) (fun i => [Wtr bw (venc ls.length ++ (ls.take i.1).flatMap lenc)]) (fun i => ls.length - i.1)
    (fun _ => [(3, .pointer (some ⟨bw, 0, none⟩))]) (fun _ => []) (fun _ => [Wtr bw (venc ls.length ++ ls.flatMap lenc)]) ⟨0, by omega⟩ ⟨rfl, rfl, rfl, trivial⟩ ?_ ?_
  · rintro ⟨⟩
    repeat' (first | refine l_run ?_ | refine l_nil ?_ | refine l_one ?_ | refine k_reg ?_ | refine l_ld ?_ | refine l_ldF ?_ | refine l_st ?_ | refine l_al (fun b => ?_) | refine l_bs (fun b => ?_) | refine k_condT ?_ | refine k_condF ?_ | refine k_brk ?_ | refine l_call (nB _) (fun _ _ => ?_) | refine l_call0 (nB _) (fun _ _ => ?_) | (refine l_split (fun hc => ?_) (fun hc => ?_) <;> (try simp at hc)) | (refine k_cond (fun hc => ?_) (fun hc => ?_) <;> (try simp at hc)))
    refine l_frz (sz := 1) (f := bf) (venc ls.length ++ ls.flatMap lenc) ?_ (byt_flat _) rfl
    refine l_b2s ?_
    repeat' (first | refine l_run ?_ | refine l_nil ?_ | refine l_one ?_ | refine k_reg ?_ | refine l_ld ?_ | refine l_ldF ?_ | refine l_st ?_ | refine l_al (fun b => ?_) | refine l_bs (fun b => ?_) | refine k_condT ?_ | refine k_condF ?_ | refine k_brk ?_ | (refine l_split (fun hc => ?_) (fun hc => ?_) <;> (try simp at hc)) | (refine k_cond (fun hc => ?_) (fun hc => ?_) <;> (try simp at hc)))
    exact k_ret () rfl trivial
  · intro hxx
    rintro ⟨i, hi⟩
    dsimp only at hi ⊢
    by_cases hlt : i < ls.length
    · obtain ⟨x, hx⟩ : ∃ x, ls[i]? = some x := ⟨_, List.getElem?_eq_getElem hlt⟩
      have hx0 := hok x (List.mem_of_getElem? hx)
      obtain ⟨z1, z2, z3, z4, z5, z6, z7, z8, hoc⟩ := lchk_zero hx0.1
      have hwho := hx0.2
      have hB : (venc ls.length ++ (ls.take i).flatMap lenc).length ≤ 7000000 := by
        have h1 := venc_len10 ls.length (by omega)
        have h2 := lencs_len (ls.take i) (fun y hy => hok y (List.mem_of_mem_take hy))
        have h3 : (ls.take i).length ≤ 1000 := by simp; omega
        simp only [List.length_append]; omega
      have l1 := venc_len10 x.e.who.size (by omega)
      have l2 := venc_len10 x.e.nu.toNat (by omega)
      have l3 := venc_len10 x.e.tk.toNat (by omega)
      have l4 := oenc_len hoc
      have l5 := venc_len10 x.tm.toNat (by omega)
      have s1 : x.e.who.data.toList.length = x.e.who.size := by simp
      have e1 : x.e.nu = ((x.e.nu.toNat : Nat) : Int) := by omega
      have e2 : x.e.tk = ((x.e.tk.toNat : Nat) : Int) := by omega
      have e3 : x.tm = ((x.tm.toNat : Nat) : Int) := by omega
      have e4 : x.rd = ((x.rd.toNat : Nat) : Int) := by omega
      have hlast : (venc ls.length ++ (ls.take i).flatMap lenc) ++ venc x.e.who.size ++ x.e.who.data.toList ++ venc x.e.nu.toNat ++ venc x.e.tk.toNat ++ oenc x.e.o ++ venc x.tm.toNat ++ venc x.rd.toNat = venc ls.length ++ (ls.take (i + 1)).flatMap lenc := by
        rw [List.take_add_one, hx]
        simp [lenc]
      generalize venc ls.length ++ (ls.take i).flatMap lenc = B at *
      have n1 := wtrText_ok bw B x.e.who (by omega) (by omega)
      have n2 := wtrNumber_ok bw (B ++ venc x.e.who.size ++ x.e.who.data.toList) x.e.nu.toNat (by omega) (by simp only [List.length_append]; omega)
      have n3 := wtrNumber_ok bw (B ++ venc x.e.who.size ++ x.e.who.data.toList ++ venc x.e.nu.toNat) x.e.tk.toNat (by omega) (by simp only [List.length_append]; omega)
      have n4 := put_ok x.e.o bw (B ++ venc x.e.who.size ++ x.e.who.data.toList ++ venc x.e.nu.toNat ++ venc x.e.tk.toNat) hoc (by simp only [List.length_append]; omega)
      have n5 := wtrNumber_ok bw (B ++ venc x.e.who.size ++ x.e.who.data.toList ++ venc x.e.nu.toNat ++ venc x.e.tk.toNat ++ oenc x.e.o) x.tm.toNat (by omega) (by simp only [List.length_append]; omega)
      have n6 := wtrNumber_ok bw (B ++ venc x.e.who.size ++ x.e.who.data.toList ++ venc x.e.nu.toNat ++ venc x.e.tk.toNat ++ oenc x.e.o ++ venc x.tm.toNat) x.rd.toNat (by omega) (by simp only [List.length_append]; omega)
      rw [← e1] at n2
      rw [← e2] at n3
      rw [← e3] at n5
      rw [← e4] at n6
      repeat' (first | refine l_run ?_ | refine l_nil ?_ | refine l_one ?_ | refine k_reg ?_ | refine l_ld ?_ | refine l_ldF ?_ | refine l_st ?_ | refine l_al (fun b => ?_) | refine l_bs (fun b => ?_) | refine k_condT ?_ | refine k_condF ?_ | refine l_call (n1) (fun _ _ => ?_) | refine l_call0 (n1) (fun _ _ => ?_) | refine l_call (n2) (fun _ _ => ?_) | refine l_call0 (n2) (fun _ _ => ?_) | refine l_call (n3) (fun _ _ => ?_) | refine l_call0 (n3) (fun _ _ => ?_) | refine l_call (n4) (fun _ _ => ?_) | refine l_call0 (n4) (fun _ _ => ?_) | refine l_call (n5) (fun _ _ => ?_) | refine l_call0 (n5) (fun _ _ => ?_) | refine l_call (n6) (fun _ _ => ?_) | refine l_call0 (n6) (fun _ _ => ?_) | refine l_ixe (es := ls) i x hx (fun b off => ?_) | refine l_ldC ?_ | (refine l_split (fun hc => ?_) (fun hc => ?_) <;> (try simp at hc) <;> (try omega)) | (refine k_cond (fun hc => ?_) (fun hc => ?_) <;> (try simp at hc) <;> (try omega)))
      rw [wrapi (z := (i : Int) + 1) (by omega) (by omega)]
      refine k_wtc hlast ?_
      exact k_next ⟨i + 1, by omega⟩ (by show ls.length - (i + 1) < ls.length - i; omega) ⟨rfl, rfl, rfl, trivial⟩
    · obtain rfl : i = ls.length := by omega
      rw [List.take_length]
      repeat' (first | refine l_run ?_ | refine l_nil ?_ | refine l_one ?_ | refine k_reg ?_ | refine l_ld ?_ | refine l_ldF ?_ | refine l_st ?_ | refine l_al (fun b => ?_) | refine l_bs (fun b => ?_) | refine k_condT ?_ | refine k_condF ?_ | (refine l_split (fun hc => ?_) (fun hc => ?_) <;> (try simp at hc) <;> (try omega)) | (refine k_cond (fun hc => ?_) (fun hc => ?_) <;> (try simp at hc) <;> (try omega)))
      exact k_out hxx () ⟨rfl, trivial⟩
end Go.Proofs.YtijaglinajfplaaGreatDoor

set_option maxRecDepth 10000
namespace Go.Proofs.YtijaglinajfplaaGreatDoor
open Go.RowKit

theorem eqL (a b : Lf) : eqC eqS 20 80 a.v b.v = some (decide (a = b)) := by
  rw [show eqC eqS 20 80 a.v b.v = some (((a.e.who.toList == b.e.who.toList) && ((a.e.nu == b.e.nu) && ((a.e.tk == b.e.tk) && (((a.e.o.ch == b.e.o.ch) && ((a.e.o.tg.toList == b.e.o.tg.toList) && ((a.e.o.tx.toList == b.e.o.tx.toList) && ((a.e.o.us == b.e.o.us) && true)))) && true)))) && ((a.tm == b.tm) && ((a.rd == b.rd) && true))) from rfl]
  congr 1
  obtain ⟨⟨a1, a2, a3, ⟨a4, a5, a6, a7⟩⟩, a8, a9⟩ := a
  obtain ⟨⟨b1, b2, b3, ⟨b4, b5, b6, b7⟩⟩, b8, b9⟩ := b
  simp only [beqSw, beqIw, Lf.mk.injEq, En.mk.injEq, Ou.mk.injEq]
  rw [Bool.eq_iff_iff]; simp [and_assoc]

def pre_eq (us ws : List Lf) (i : Nat) : Prop := ∀ j, j < i → us[j]? = ws[j]?
theorem eq_of_pre {us ws : List Lf} (hl : us.length = ws.length) (h : pre_eq us ws us.length) : us = ws := by
  apply List.ext_getElem?
  intro j
  by_cases hj : j < us.length
  · exact h j hj
  · rw [List.getElem?_eq_none (by omega), List.getElem?_eq_none (by omega)]

set_option maxHeartbeats 1000000 in
theorem equalLf_ok (o1 o2 : Option Addr) (c1 c2 : Nat) (us ws : List Lf) (hl : us.length ≤ 1099511627776) (hlb : ws.length ≤ 1099511627776) : Enters 122 ∧ Spec Tryz.prog 122 #[.slice o1 us.length c1, .slice o2 ws.length c2]
    [Sl 80 lff o1 c1 us, Sl 80 lff o2 c2 ws] [] (RetV (.bool (decide (us = ws)))) := by
  refine ⟨enters_of Tryz.func122 (by kernel_rfl) rfl, spec_of (vs := [_, _]) Tryz.func122 rfl Tryz.ntmps122 rfl fun G w hp => ?_⟩
  by_cases hlen : us.length = ws.length
  · repeat' (first | refine l_run ?_ | refine l_nil ?_ | refine l_one ?_ | refine k_reg ?_ | refine l_ld ?_ | refine l_ldF ?_ | refine l_st ?_ | refine l_al (fun b => ?_) | refine l_bs (fun b => ?_) | refine k_condT ?_ | refine k_condF ?_ | refine k_brk ?_ | refine r_run ?_ | refine r_one ?_ | refine r_ld ?_ | refine r_ldF ?_ | refine r_ldN ?_ | refine r_al (fun b => ?_) | refine r_bs (fun b => ?_) | refine r_st ?_ | refine r_end ?_ | (refine l_split (fun hc => ?_) (fun hc => ?_) <;> (try simp at hc) <;> (try omega)) | (refine r_split (fun hc => ?_) (fun hc => ?_) <;> (try simp at hc) <;> (try omega)) | refine k_draw 6 [] [(0, 0), (1, 0), (2, 0), (3, 0), (4, 0), (5, 0), (6, 0), (7, 0), (8, 0)] [] ?_ | (refine k_cond (fun hc => ?_) (fun hc => ?_) <;> (try simp at hc) <;> (try omega)))
    refine k_lp (X := { i : Nat // i ≤ us.length ∧ pre_eq us ws i }) (fun i => [(0, .slice o1 us.length c1), (1, .slice o2 ws.length c2), (12, .int .i64 (us.length : Int)), (13, .int .i64 (i.1 : Int))]) (fun _ => [Sl 80 lff o1 c1 us, Sl 80 lff o2 c2 ws]) (fun _ => []) (fun i => us.length - i.1) ⟨0, by omega, fun j hj => by omega⟩ ⟨rfl, rfl, rfl, rfl, trivial⟩ ?_
    rintro ⟨i, hi, hp⟩
    dsimp only
    by_cases hlt : i < us.length
    · obtain ⟨x, hx⟩ : ∃ x, us[i]? = some x := ⟨_, List.getElem?_eq_getElem hlt⟩
      obtain ⟨y, hy⟩ : ∃ y, ws[i]? = some y := ⟨_, List.getElem?_eq_getElem (by omega)⟩
      have he := eqL x y
      by_cases hxy : x = y
      · rw [decide_eq_true hxy] at he
        repeat' (first | refine l_run ?_ | refine l_nil ?_ | refine l_one ?_ | refine k_reg ?_ | refine l_ld ?_ | refine l_ldF ?_ | refine l_st ?_ | refine l_al (fun b => ?_) | refine l_bs (fun b => ?_) | refine k_condT ?_ | refine k_condF ?_ | refine r_run ?_ | refine r_one ?_ | refine r_ld ?_ | refine r_ldF ?_ | refine r_ldN ?_ | refine r_al (fun b => ?_) | refine r_bs (fun b => ?_) | refine r_st ?_ | refine r_end ?_ | refine r_ixe (es := us) i x hx (fun b off => ?_) | refine r_ixe (es := ws) i y hy (fun b off => ?_) | refine r_ldC ?_ | refine r_sneq (b := true) ?_ (he := he) | (refine l_split (fun hc => ?_) (fun hc => ?_) <;> (try simp at hc) <;> (try omega)) | (refine r_split (fun hc => ?_) (fun hc => ?_) <;> (try simp at hc) <;> (try omega)) | refine k_draw 6 [] [(0, 0), (1, 0), (2, 0), (3, 0), (4, 0), (5, 0), (6, 0), (7, 0), (8, 0)] [] ?_ | (refine k_cond (fun hc => ?_) (fun hc => ?_) <;> (try simp at hc) <;> (try omega)))
        rw [wrapi (z := (i : Int) + 1) (by omega) (by omega)]
        refine k_next ⟨i + 1, by omega, fun j hj => ?_⟩ (by show us.length - (i + 1) < us.length - i; omega) ⟨rfl, rfl, rfl, rfl, trivial⟩
        by_cases hji : j = i
        · subst hji; rw [hx, hy, hxy]
        · exact hp j (by omega)
      · rw [decide_eq_false hxy] at he
        have hne : decide (us = ws) = false := decide_eq_false fun e => hxy (by subst e; exact Option.some.inj (hx.symm.trans hy))
        rw [hne]
        repeat' (first | refine l_run ?_ | refine l_nil ?_ | refine l_one ?_ | refine k_reg ?_ | refine l_ld ?_ | refine l_ldF ?_ | refine l_st ?_ | refine l_al (fun b => ?_) | refine l_bs (fun b => ?_) | refine k_condT ?_ | refine k_condF ?_ | refine r_run ?_ | refine r_one ?_ | refine r_ld ?_ | refine r_ldF ?_ | refine r_ldN ?_ | refine r_al (fun b => ?_) | refine r_bs (fun b => ?_) | refine r_st ?_ | refine r_end ?_ | refine r_ixe (es := us) i x hx (fun b off => ?_) | refine r_ixe (es := ws) i y hy (fun b off => ?_) | refine r_ldC ?_ | refine r_sneq (b := false) ?_ (he := he) | (refine l_split (fun hc => ?_) (fun hc => ?_) <;> (try simp at hc) <;> (try omega)) | (refine r_split (fun hc => ?_) (fun hc => ?_) <;> (try simp at hc) <;> (try omega)) | refine k_draw 6 [] [(0, 0), (1, 0), (2, 0), (3, 0), (4, 0), (5, 0), (6, 0), (7, 0), (8, 0)] [] ?_ | (refine k_cond (fun hc => ?_) (fun hc => ?_) <;> (try simp at hc) <;> (try omega)))
        exact k_rt (w_lq (w_ret () rfl trivial))
    · obtain rfl : i = us.length := by omega
      rw [decide_eq_true (eq_of_pre hlen hp)]
      repeat' (first | refine l_run ?_ | refine l_nil ?_ | refine l_one ?_ | refine k_reg ?_ | refine l_ld ?_ | refine l_ldF ?_ | refine l_st ?_ | refine l_al (fun b => ?_) | refine l_bs (fun b => ?_) | refine k_condT ?_ | refine k_condF ?_ | refine k_brk ?_ | refine r_run ?_ | refine r_one ?_ | refine r_ld ?_ | refine r_ldF ?_ | refine r_ldN ?_ | refine r_al (fun b => ?_) | refine r_bs (fun b => ?_) | refine r_st ?_ | refine r_end ?_ | (refine l_split (fun hc => ?_) (fun hc => ?_) <;> (try simp at hc) <;> (try omega)) | (refine r_split (fun hc => ?_) (fun hc => ?_) <;> (try simp at hc) <;> (try omega)) | refine k_draw 6 [] [(0, 0), (1, 0), (2, 0), (3, 0), (4, 0), (5, 0), (6, 0), (7, 0), (8, 0)] [] ?_ | (refine k_cond (fun hc => ?_) (fun hc => ?_) <;> (try simp at hc) <;> (try omega)))
      exact k_ret () rfl trivial
  · have hne : decide (us = ws) = false := decide_eq_false fun e => hlen (by rw [e])
    rw [hne]
    repeat' (first | refine l_run ?_ | refine l_nil ?_ | refine l_one ?_ | refine k_reg ?_ | refine l_ld ?_ | refine l_ldF ?_ | refine l_st ?_ | refine l_al (fun b => ?_) | refine l_bs (fun b => ?_) | refine k_condT ?_ | refine k_condF ?_ | refine k_brk ?_ | refine r_run ?_ | refine r_one ?_ | refine r_ld ?_ | refine r_ldF ?_ | refine r_ldN ?_ | refine r_al (fun b => ?_) | refine r_bs (fun b => ?_) | refine r_st ?_ | refine r_end ?_ | (refine l_split (fun hc => ?_) (fun hc => ?_) <;> (try simp at hc) <;> (try omega)) | (refine r_split (fun hc => ?_) (fun hc => ?_) <;> (try simp at hc) <;> (try omega)) | refine k_draw 6 [] [(0, 0), (1, 0), (2, 0), (3, 0), (4, 0), (5, 0), (6, 0), (7, 0), (8, 0)] [] ?_ | (refine k_cond (fun hc => ?_) (fun hc => ?_) <;> (try simp at hc) <;> (try omega)))
    exact k_ret () rfl trivial

theorem lgEqual_ok (b c : Nat) (us ws : List Lf) (hl : us.length ≤ 1099511627776) (hlb : ws.length ≤ 1099511627776) : Enters 54 ∧ Spec Tryz.prog 54 #[.pointer (some ⟨b, 0, none⟩), .pointer (some ⟨c, 0, none⟩)] [LgF b us, LgF c ws] [] (RetV (.bool (decide (us = ws)))) := by
  have n1 := lgAll_ok b us
  have n2 := lgAll_ok c ws
  have n3 := fun o1 c1 o2 c2 => equalLf_ok o1 o2 c1 c2 us ws hl hlb
  refine ⟨enters_of Tryz.func54 (by kernel_rfl) rfl, spec_of (vs := [_, _]) Tryz.func54 rfl Tryz.ntmps54 rfl fun G w hp => ?_⟩
  repeat' (first | refine l_run ?_ | refine l_nil ?_ | refine l_one ?_ | refine k_reg ?_ | refine l_ld ?_ | refine l_ldF ?_ | refine l_st ?_ | refine l_al (fun b => ?_) | refine l_bs (fun b => ?_) | refine k_condT ?_ | refine k_condF ?_ | refine k_brk ?_ | refine l_call (n1) (fun _ _ => ?_) | refine l_call0 (n1) (fun _ _ => ?_) | refine l_call (n2) (fun _ _ => ?_) | refine l_call0 (n2) (fun _ _ => ?_) | refine l_call (n3 _ _ _ _) (fun _ _ => ?_) | refine l_call0 (n3 _ _ _ _) (fun _ _ => ?_) | (refine l_split (fun hc => ?_) (fun hc => ?_) <;> (try simp at hc)) | (refine k_cond (fun hc => ?_) (fun hc => ?_) <;> (try simp at hc)))
  exact k_ret () rfl trivial

theorem lgPrefix_ok (b c : Nat) (us ws : List Lf) (hl : us.length ≤ 1099511627776) (_hlb : ws.length ≤ 1099511627776) : Enters 55 ∧ Spec Tryz.prog 55 #[.pointer (some ⟨b, 0, none⟩), .pointer (some ⟨c, 0, none⟩)] [LgF b us, LgF c ws] [] (RetV (.bool (decide (us <+: ws)))) := by
  have n1 := lgAll_ok b us
  have n2 := lgAll_ok c ws
  refine ⟨enters_of Tryz.func55 (by kernel_rfl) rfl, spec_of (vs := [_, _]) Tryz.func55 rfl Tryz.ntmps55 rfl fun G w hp => ?_⟩
  by_cases hlen : us.length ≤ ws.length
  · have n3 := fun o1 c1 o2 c2 => equalLf_ok o1 o2 c1 c2 us (ws.take us.length) hl (by simp; omega)
    have he : decide (us = ws.take us.length) = decide (us <+: ws) := by rw [Bool.eq_iff_iff]; simp only [decide_eq_true_eq]; exact List.prefix_iff_eq_take.symm
    rw [he] at n3
    repeat' (first | refine l_run ?_ | refine l_nil ?_ | refine l_one ?_ | refine k_reg ?_ | refine l_ld ?_ | refine l_ldF ?_ | refine l_st ?_ | refine l_al (fun b => ?_) | refine l_bs (fun b => ?_) | refine k_condT ?_ | refine k_condF ?_ | refine k_brk ?_ | refine l_call (n1) (fun _ _ => ?_) | refine l_call0 (n1) (fun _ _ => ?_) | refine l_call (n2) (fun _ _ => ?_) | refine l_call0 (n2) (fun _ _ => ?_) | refine l_call (n3 _ _ _ _) (fun _ _ => ?_) | refine l_call0 (n3 _ _ _ _) (fun _ _ => ?_) | refine l_slH (es := ws) us.length hlen (fun o' => ?_) | (refine l_split (fun hc => ?_) (fun hc => ?_) <;> (try simp at hc) <;> (try omega)) | (refine k_cond (fun hc => ?_) (fun hc => ?_) <;> (try simp at hc) <;> (try omega)))
    exact k_ret () rfl trivial
  · have hne : decide (us <+: ws) = false := decide_eq_false fun e => hlen e.length_le
    rw [hne]
    repeat' (first | refine l_run ?_ | refine l_nil ?_ | refine l_one ?_ | refine k_reg ?_ | refine l_ld ?_ | refine l_ldF ?_ | refine l_st ?_ | refine l_al (fun b => ?_) | refine l_bs (fun b => ?_) | refine k_condT ?_ | refine k_condF ?_ | refine k_brk ?_ | refine l_call (n1) (fun _ _ => ?_) | refine l_call0 (n1) (fun _ _ => ?_) | refine l_call (n2) (fun _ _ => ?_) | refine l_call0 (n2) (fun _ _ => ?_) | (refine l_split (fun hc => ?_) (fun hc => ?_) <;> (try simp at hc) <;> (try omega)) | (refine k_cond (fun hc => ?_) (fun hc => ?_) <;> (try simp at hc) <;> (try omega)))
    exact k_ret () rfl trivial

theorem cloneLf_ok (o : Option Addr) (cap : Nat) (us : List Lf) (hl : us.length ≤ 1000000) : Enters 120 ∧ Spec Tryz.prog 120 #[.slice o us.length cap] [Sl 80 lff o cap us] []
    ⟨Option Addr × Nat, fun q => .slice q.1 us.length q.2, fun _ => True, fun _ => [], fun q => [Row 80 9 q.1 us.length q.2 (us.flatMap lff)]⟩ := by
  refine ⟨enters_of Tryz.func120 (by kernel_rfl) rfl, spec_of (vs := [_]) Tryz.func120 rfl Tryz.ntmps120 rfl fun G w hp => ?_⟩
  cases o with
  | none =>
    refine k_fact (X := Unit) (p := fun _ => us = []) (Fx := fun _ => [Sl 80 lff none cap us]) (f := Sl 80 lff none cap us) Sel.here (fun h hh => ⟨(), ?_, fun g hg => by simp only [List.mem_cons, List.not_mem_nil, or_false] at hg; subst hg; exact hh⟩) (fun _ hb => ?_)
    · rcases hh.2 with h1 | ⟨_, _, _, _, _, h1, _⟩
      · exact h1
      · cases h1
    subst hb
    repeat' (first | refine l_run ?_ | refine l_nil ?_ | refine l_one ?_ | refine k_reg ?_ | refine l_ld ?_ | refine l_ldF ?_ | refine l_st ?_ | refine l_al (fun b => ?_) | refine l_bs (fun b => ?_) | refine k_condT ?_ | refine k_condF ?_ | refine k_brk ?_ | (refine l_split (fun hc => ?_) (fun hc => ?_) <;> (try simp at hc)) | (refine k_cond (fun hc => ?_) (fun hc => ?_) <;> (try simp at hc)))
    refine k_shut (Lx := []) (r := Row 80 9 none 0 0 []) (fun h _ => row_nil _ _ h) ?_
    exact k_ret (none, 0) rfl trivial
  | some a =>
    repeat' (first | refine l_run ?_ | refine l_nil ?_ | refine l_one ?_ | refine k_reg ?_ | refine l_ld ?_ | refine l_ldF ?_ | refine l_st ?_ | refine l_al (fun b => ?_) | refine l_bs (fun b => ?_) | refine k_condT ?_ | refine k_condF ?_ | refine k_brk ?_ | refine l_shut (row_zero (sz := 9)) ?_ | refine l_appF (es := us) (fun o' cap' => ?_) | (refine l_split (fun hc => ?_) (fun hc => ?_) <;> (try simp at hc)) | (refine k_cond (fun hc => ?_) (fun hc => ?_) <;> (try simp at hc)))
    rw [Nat.zero_add]
    exact k_ret (o', cap') rfl trivial

theorem lgClone_ok (b : Nat) (us : List Lf) (hl : us.length ≤ 1000000) : Enters 51 ∧ Spec Tryz.prog 51 #[.pointer (some ⟨b, 0, none⟩)] [LgF b us] [] ⟨Nat, fun c => .pointer (some ⟨c, 0, none⟩), fun _ => True, fun _ => [], fun c => [Lg c us]⟩ := by
  have n1 := fun o cap => cloneLf_ok o cap us hl
  refine ⟨enters_of Tryz.func51 (by kernel_rfl) rfl, spec_of (vs := [_]) Tryz.func51 rfl Tryz.ntmps51 rfl fun G w hp => ?_⟩
  refine k_lgf fun o cap => ?_
  repeat' (first | refine l_run ?_ | refine l_nil ?_ | refine l_one ?_ | refine k_reg ?_ | refine l_ld ?_ | refine l_ldF ?_ | refine l_st ?_ | refine l_al (fun b => ?_) | refine l_bs (fun b => ?_) | refine k_condT ?_ | refine k_condF ?_ | refine k_brk ?_ | refine l_call (n1 _ _) (fun _ _ => ?_) | refine l_call0 (n1 _ _) (fun _ _ => ?_) | (refine l_split (fun hc => ?_) (fun hc => ?_) <;> (try simp at hc)) | (refine k_cond (fun hc => ?_) (fun hc => ?_) <;> (try simp at hc)))
  rename_i q _
  obtain ⟨o2, c2⟩ := q
  refine k_lg' (ls := us) (o := o2) (cap := c2) ?_ rfl rfl
  exact k_ret b rfl trivial

theorem lgGet_bad (b : Nat) (ls : List Lf) (z : Int) (hz : z < 0 ∨ (ls.length : Int) ≤ z) : Enters 48 ∧ Spec Tryz.prog 48 #[.pointer (some ⟨b, 0, none⟩), .int .i64 z] [LgF b ls] [] (RetV (.tuple #[(Lf.v ⟨⟨⟨#[]⟩, 0, 0, Ou.z⟩, 0, 0⟩), .int .i64 2])) := by
  refine ⟨enters_of Tryz.func48 (by kernel_rfl) rfl, spec_of (vs := [_, _]) Tryz.func48 rfl Tryz.ntmps48 rfl fun G w hp => ?_⟩
  refine k_lgf fun o cap => ?_
  repeat' (first | refine l_run ?_ | refine l_nil ?_ | refine l_one ?_ | refine k_reg ?_ | refine l_ld ?_ | refine l_ldF ?_ | refine l_st ?_ | refine l_al (fun b => ?_) | refine l_bs (fun b => ?_) | refine k_condT ?_ | refine k_condF ?_ | refine k_brk ?_ | (refine l_split (fun hc => ?_) (fun hc => ?_) <;> (try simp at hc) <;> (try omega)) | (refine k_cond (fun hc => ?_) (fun hc => ?_) <;> (try simp at hc) <;> (try omega)))
  all_goals exact k_ret () rfl trivial
end Go.Proofs.YtijaglinajfplaaGreatDoor

set_option maxRecDepth 10000
namespace Go.Proofs.YtijaglinajfplaaGreatDoor
open Go.RowKit

/-- One entry, read. -/
def lread (s : RS) : Lf × RS :=
  let (who, s1) := rtext s 65536
  let (nu, s2) := rnum s1 1048576
  let (tk, s3) := rnum s2 1073741824
  let (o, s4) := oread s3
  let (tm, s5) := rnum s4 1073741824
  let (rd, s6) := rnum s5 1048576
  (⟨⟨who, nu, tk, o⟩, tm, rd⟩, s6)
/-- So many entries, read and added. -/
def lloop : Nat → List Lf → RS → Option (List Lf × RS)
  | 0, ls, s => some (ls, s)
  | m + 1, ls, s => if leaveE ls (lread s).1 = 0 then lloop m (ls ++ [(lread s).1]) (lread s).2 else none
def ldec (s : ByteArray) : Option (List Lf) :=
  match lloop (rnum ⟨s.data.toList, 0, 0⟩ 100000).1.toNat [] (rnum ⟨s.data.toList, 0, 0⟩ 100000).2 with
  | none => none
  | some (ls, s') => if s'.err = 0 ∧ s'.rest = [] then some ls else none

theorem oread_le (s : RS) : (oread s).2.pos + (oread s).2.rest.length ≤ s.pos + s.rest.length := by
  unfold oread
  dsimp only
  have h1 := rstep_le 0 s (pnum s.rest 4) (pnum_le _ _)
  have h2 := rstep_le ⟨#[]⟩ (rnum s 4).2 (ptext (rnum s 4).2.rest 64) (ptext_le _ _)
  have h3 := rstep_le ⟨#[]⟩ (rtext (rnum s 4).2 64).2 (ptext (rtext (rnum s 4).2 64).2.rest 4096) (ptext_le _ _)
  have h4 := rstep_le 0 (rtext (rtext (rnum s 4).2 64).2 4096).2 (pnum (rtext (rtext (rnum s 4).2 64).2 4096).2.rest 65535) (pnum_le _ _)
  exact Nat.le_trans h4 (Nat.le_trans h3 (Nat.le_trans h2 h1))
theorem rnum_le (s : RS) (m : Int) : (rnum s m).2.pos + (rnum s m).2.rest.length ≤ s.pos + s.rest.length := rstep_le 0 s _ (pnum_le _ _)
theorem rtext_le2 (s : RS) (m : Int) : (rtext s m).2.pos + (rtext s m).2.rest.length ≤ s.pos + s.rest.length := rstep_le _ s _ (ptext_le _ _)
theorem rtext_size (s : RS) (m : Int) : (rtext s m).1.size ≤ s.rest.length := by
  unfold rtext rstep
  split
  · exact Nat.zero_le _
  · split
    · exact Nat.zero_le _
    · unfold ptext
      split
      · exact Nat.zero_le _
      · split
        · exact Nat.zero_le _
        · split
          · exact Nat.zero_le _
          · show (List.toArray _).size ≤ _
            simp; omega
theorem lread_le (s : RS) : (lread s).2.pos + (lread s).2.rest.length ≤ s.pos + s.rest.length := by
  unfold lread
  dsimp only
  exact Nat.le_trans (rnum_le _ _) (Nat.le_trans (rnum_le _ _) (Nat.le_trans (oread_le _) (Nat.le_trans (rnum_le _ _) (Nat.le_trans (rnum_le _ _) (rtext_le2 _ _)))))
theorem lread_who (s : RS) : (lread s).1.e.who.size ≤ s.rest.length := rtext_size s _

/-- A list that Leave has built. -/
def LOK (ls : List Lf) : Prop := ∀ i x, ls[i]? = some x → leaveE (ls.take i) x = 0
theorem lok_nil : LOK [] := fun i x h => by simp at h
theorem lok_snoc {ls : List Lf} {x : Lf} (h : LOK ls) (hx : leaveE ls x = 0) : LOK (ls ++ [x]) := by
  intro i y hi
  by_cases h1 : i < ls.length
  · rw [List.getElem?_append_left h1] at hi
    rw [List.take_append_of_le_length (by omega)]
    exact h i y hi
  · rw [List.getElem?_append_right (by omega)] at hi
    have h2 : i = ls.length := by
      have := (List.getElem?_eq_some_iff.1 hi).1
      simp at this; omega
    subst h2
    simp at hi; subst hi
    simpa using hx
theorem leave_zero {ls : List Lf} {x : Lf} (h : leaveE ls x = 0) : lchk x = 0 ∧ late ls x = false ∧ ls.length < 100000 := by
  unfold leaveE at h
  split at h
  · exact absurd h ‹_›
  · split at h
    · cases h
    · split at h
      · cases h
      · rename_i h1 h2 h3
        exact ⟨by simpa using h1, by simpa using h2, by omega⟩
theorem lok_chk {ls : List Lf} (h : LOK ls) : ∀ x ∈ ls, lchk x = 0 := fun x hx => by
  obtain ⟨i, hi⟩ := List.mem_iff_getElem?.1 hx
  exact (leave_zero (h i x hi)).1

theorem lread_inv {s : RS} (h : (lread s).2.err = 0) : s.err = 0 := by
  unfold lread at h
  dsimp only at h
  obtain ⟨a1, _⟩ := rnum_inv h
  obtain ⟨b1, _⟩ := rnum_inv a1
  unfold oread at b1
  dsimp only at b1
  obtain ⟨c1, _⟩ := rnum_inv b1
  obtain ⟨d1, _⟩ := rtext_inv c1
  obtain ⟨e1, _⟩ := rtext_inv d1
  obtain ⟨f1, _⟩ := rnum_inv e1
  obtain ⟨g1, _⟩ := rnum_inv f1
  obtain ⟨h1, _⟩ := rnum_inv g1
  exact (rtext_inv h1).1
theorem lread_rest {s : RS} (h : (lread s).2.err = 0) : s.rest = lenc (lread s).1 ++ (lread s).2.rest := by
  unfold lread at h ⊢
  dsimp only at h ⊢
  obtain ⟨a1, a2, a3, a4, a5⟩ := rnum_inv h
  obtain ⟨b1, b2, b3, b4, b5⟩ := rnum_inv a1
  unfold oread at a5 b5 b1 ⊢
  dsimp only at a5 b5 b1 ⊢
  obtain ⟨c1, c2, c3, c4, c5⟩ := rnum_inv b1
  obtain ⟨d1, d2, d3, d4⟩ := rtext_inv c1
  obtain ⟨e1, e2, e3, e4⟩ := rtext_inv d1
  obtain ⟨f1, f2, f3, f4, f5⟩ := rnum_inv e1
  obtain ⟨g1, g2, g3, g4, g5⟩ := rnum_inv f1
  obtain ⟨h1, h2, h3, h4, h5⟩ := rnum_inv g1
  obtain ⟨i1, i2, i3, i4⟩ := rtext_inv h1
  refine Eq.trans i4 ?_
  rw [h5, g5, f5, e4, d4, c5, b5, a5]
  simp [lenc, oenc]
theorem lloop_inv : ∀ (m : Nat) (ls : List Lf) (s : RS) (ls' : List Lf) (s' : RS), lloop m ls s = some (ls', s') → LOK ls → LOK ls' ∧ ls'.length = ls.length + m ∧ (s'.err = 0 → s.err = 0 ∧ ∃ more, ls' = ls ++ more ∧ s.rest = more.flatMap lenc ++ s'.rest)
  | 0, ls, s, ls', s', h, hk => by
    obtain ⟨rfl, rfl⟩ := Prod.mk.inj (Option.some.inj h)
    exact ⟨hk, rfl, fun he => ⟨he, [], by simp, by simp⟩⟩
  | m + 1, ls, s, ls', s', h, hk => by
    unfold lloop at h
    split at h
    · rename_i hl
      obtain ⟨h1, h2, h3⟩ := lloop_inv m _ _ _ _ h (lok_snoc hk hl)
      refine ⟨h1, by rw [h2]; simp; omega, fun he => ?_⟩
      obtain ⟨g1, more, g2, g3⟩ := h3 he
      exact ⟨lread_inv g1, (lread s).1 :: more, by rw [g2]; simp, by rw [lread_rest g1, g3]; simp⟩
    · cases h
theorem ldec_inv {s : ByteArray} {ls : List Lf} (h : ldec s = some ls) : LOK ls ∧ ls.length ≤ 100000 ∧ s.data.toList = lencs ls := by
  unfold ldec at h
  split at h
  · cases h
  · rename_i ls' s' hl
    split at h
    · rename_i hc
      obtain rfl := Option.some.inj h
      obtain ⟨h1, h2, h3⟩ := lloop_inv _ _ _ _ _ hl lok_nil
      obtain ⟨h4, more, h5, h6⟩ := h3 hc.1
      obtain ⟨g1, g2, g3, g4, g5⟩ := rnum_inv h4
      rw [hc.2, List.append_nil] at h6
      have h7 : ls' = more := by simpa using h5
      subst h7
      have hlen : ls'.length = (rnum ⟨s.data.toList, 0, 0⟩ 100000).1.toNat := by simpa using h2
      refine ⟨h1, by omega, Eq.trans (show s.data.toList = _ from g5) ?_⟩
      rw [h6, lencs, hlen]
    · cases h

/-! What is written is read again. -/
theorem lread_enc {x : Lf} (hx : EncOK x) (rest : List UInt8) (pos : Nat) : ∃ pos', lread ⟨lenc x ++ rest, pos, 0⟩ = (x, ⟨rest, pos', 0⟩) := by
  obtain ⟨z1, z2, z3, z4, z5, z6, z7, z8, hoc⟩ := lchk_zero hx.1
  obtain ⟨o1, o2, o3, o4⟩ := ochk_zero hoc
  have hw := hx.2
  have e1 : ((x.e.nu.toNat : Nat) : Int) = x.e.nu := by omega
  have e2 : ((x.e.tk.toNat : Nat) : Int) = x.e.tk := by omega
  have e3 : ((x.tm.toNat : Nat) : Int) = x.tm := by omega
  have e4 : ((x.rd.toNat : Nat) : Int) = x.rd := by omega
  have e5 : ((x.e.o.ch.toNat : Nat) : Int) = x.e.o.ch := by omega
  have e6 : ((x.e.o.us.toNat : Nat) : Int) = x.e.o.us := by omega
  have hl : lenc x ++ rest = venc x.e.who.size ++ x.e.who.data.toList ++ (venc x.e.nu.toNat ++ (venc x.e.tk.toNat ++ (venc x.e.o.ch.toNat ++ (venc x.e.o.tg.size ++ x.e.o.tg.data.toList ++ (venc x.e.o.tx.size ++ x.e.o.tx.data.toList ++ (venc x.e.o.us.toNat ++ (venc x.tm.toNat ++ (venc x.rd.toNat ++ rest)))))))) := by simp [lenc, oenc]
  have r1 := rtext_venc x.e.who (venc x.e.nu.toNat ++ (venc x.e.tk.toNat ++ (venc x.e.o.ch.toNat ++ (venc x.e.o.tg.size ++ x.e.o.tg.data.toList ++ (venc x.e.o.tx.size ++ x.e.o.tx.data.toList ++ (venc x.e.o.us.toNat ++ (venc x.tm.toNat ++ (venc x.rd.toNat ++ rest)))))))) pos 65536 (by omega) (by omega)
  have r2 := fun p => rnum_venc x.e.nu.toNat (by omega) (venc x.e.tk.toNat ++ (venc x.e.o.ch.toNat ++ (venc x.e.o.tg.size ++ x.e.o.tg.data.toList ++ (venc x.e.o.tx.size ++ x.e.o.tx.data.toList ++ (venc x.e.o.us.toNat ++ (venc x.tm.toNat ++ (venc x.rd.toNat ++ rest))))))) p 1048576 (by omega)
  have r3 := fun p => rnum_venc x.e.tk.toNat (by omega) (venc x.e.o.ch.toNat ++ (venc x.e.o.tg.size ++ x.e.o.tg.data.toList ++ (venc x.e.o.tx.size ++ x.e.o.tx.data.toList ++ (venc x.e.o.us.toNat ++ (venc x.tm.toNat ++ (venc x.rd.toNat ++ rest)))))) p 1073741824 (by omega)
  have r4 := fun p => rnum_venc x.e.o.ch.toNat (by omega) (venc x.e.o.tg.size ++ x.e.o.tg.data.toList ++ (venc x.e.o.tx.size ++ x.e.o.tx.data.toList ++ (venc x.e.o.us.toNat ++ (venc x.tm.toNat ++ (venc x.rd.toNat ++ rest))))) p 4 (by omega)
  have r5 := fun p => rtext_venc x.e.o.tg (venc x.e.o.tx.size ++ x.e.o.tx.data.toList ++ (venc x.e.o.us.toNat ++ (venc x.tm.toNat ++ (venc x.rd.toNat ++ rest)))) p 64 (by omega) (by omega)
  have r6 := fun p => rtext_venc x.e.o.tx (venc x.e.o.us.toNat ++ (venc x.tm.toNat ++ (venc x.rd.toNat ++ rest))) p 4096 (by omega) (by omega)
  have r7 := fun p => rnum_venc x.e.o.us.toNat (by omega) (venc x.tm.toNat ++ (venc x.rd.toNat ++ rest)) p 65535 (by omega)
  have r8 := fun p => rnum_venc x.tm.toNat (by omega) (venc x.rd.toNat ++ rest) p 1073741824 (by omega)
  have r9 := fun p => rnum_venc x.rd.toNat (by omega) rest p 1048576 (by omega)
  unfold lread oread
  rw [hl]
  simp only [r1, r2, r3, r4, r5, r6, r7, r8, r9, e1, e2, e3, e4, e5, e6]
  exact ⟨_, rfl⟩
theorem lloop_enc : ∀ (more ls : List Lf) (pos : Nat), LOK (ls ++ more) → (∀ x ∈ more, EncOK x) → ∃ pos', lloop more.length ls ⟨more.flatMap lenc, pos, 0⟩ = some (ls ++ more, ⟨[], pos', 0⟩)
  | [], ls, pos, _, _ => ⟨pos, by simp [lloop]⟩
  | x :: more, ls, pos, hk, hx => by
    obtain ⟨p1, h1⟩ := lread_enc (hx x (by simp)) (more.flatMap lenc) pos
    have hle : leaveE ls x = 0 := by
      have := hk ls.length x (by simp)
      simpa using this
    obtain ⟨p2, h2⟩ := lloop_enc more (ls ++ [x]) p1 (by simpa using hk) fun y hy => hx y (by simp [hy])
    refine ⟨p2, ?_⟩
    rw [List.length_cons, lloop, List.flatMap_cons, h1]
    dsimp only
    rw [if_pos hle, h2]; simp
theorem ldec_enc {ls : List Lf} (hk : LOK ls) (hl : ls.length ≤ 100000) (hx : ∀ x ∈ ls, EncOK x) : ldec (lencsS ls) = some ls := by
  have r1 := rnum_venc ls.length (by omega) (ls.flatMap lenc) 0 100000 (by omega)
  obtain ⟨p, h⟩ := lloop_enc ls [] (0 + (venc ls.length).length) (by simpa using hk) hx
  have hd : (lencsS ls).data.toList = venc ls.length ++ ls.flatMap lenc := by simp [lencsS, lencs]
  unfold ldec
  rw [hd, r1]
  dsimp only
  rw [Int.toNat_natCast, h]
  simp

/-! The walk. -/
def LdP (r : Option (List Lf)) : Post := ⟨Nat, fun b => .tuple #[match r with | some _ => .pointer (some ⟨b, 0, none⟩) | none => .pointer none, .int .i64 (if r.isSome then 0 else 3)], fun _ => True, fun _ => [], fun b => match r with | some ls => [Lg b ls] | none => []⟩
structure LX (n : Nat) (s0 : RS) where
  i : Nat
  ls : List Lf
  s : RS
  o : Option Addr
  cap : Nat
  hi : i ≤ n
  hl : ls.length = i
  hs : s.pos + s.rest.length ≤ 1000000
  he : lloop n [] s0 = lloop (n - i) ls s

theorem rnum_ub (s : RS) (m : Int) (hm : 0 ≤ m) : 0 ≤ (rnum s m).1 ∧ (rnum s m).1 ≤ m := by
  unfold rnum rstep
  split
  · exact ⟨Int.le_refl _, hm⟩
  · split
    · exact ⟨Int.le_refl _, hm⟩
    · rename_i h
      simp only [ne_eq, Decidable.not_not] at h
      unfold pnum at h ⊢
      dsimp only at h ⊢
      refine ⟨Int.natCast_nonneg _, ?_⟩
      split at h
      · cases h
      · rename_i h2
        rw [h] at h2
        simp at h2; omega
theorem ldec_split (s : ByteArray) : ∃ (m : Nat) (s0 : RS), rnum ⟨s.data.toList, 0, 0⟩ 100000 = ((m : Int), s0) ∧ m ≤ 100000 ∧ s0.pos + s0.rest.length ≤ s.size ∧
    ldec s = match lloop m [] s0 with | none => none | some (ls, s') => if s'.err = 0 ∧ s'.rest = [] then some ls else none := by
  obtain ⟨h1, h2⟩ := rnum_ub ⟨s.data.toList, 0, 0⟩ 100000 (by decide)
  have h3 := rnum_le ⟨s.data.toList, 0, 0⟩ 100000
  refine ⟨(rnum ⟨s.data.toList, 0, 0⟩ 100000).1.toNat, (rnum ⟨s.data.toList, 0, 0⟩ 100000).2, ?_, by omega, ?_, rfl⟩
  · rw [Int.toNat_of_nonneg h1]
  · have : s.data.toList.length = s.size := by simp
    dsimp only at h3; omega

set_option maxHeartbeats 4000000 in
theorem decodeLedger_ok (s : ByteArray) (hsz : s.size ≤ 1000000) : Enters 64 ∧ Spec Tryz.prog 64 #[.string s] [] [] (LdP (ldec s)) := by
  have hlen : s.data.toList.length = s.size := by simp
  have n1 := fun o cap => newReader_ok o cap s.data.toList (by omega)
  have n2 := fun b o cap => rdrNumber_ok b o cap ⟨s.data.toList, 0, 0⟩ 100000 (by dsimp only; omega)
  obtain ⟨m, s0, hr, hm, hs0, hd⟩ := ldec_split s
  generalize ldec s = d at *
  rw [hr] at n2
  refine ⟨enters_of Tryz.func64 (by kernel_rfl) rfl, spec_of (vs := [_]) Tryz.func64 rfl Tryz.ntmps64 rfl fun G w hp => ?_⟩
  repeat' (first | refine l_run ?_ | refine l_nil ?_ | refine l_one ?_ | refine k_reg ?_ | refine l_ld ?_ | refine l_ldF ?_ | refine l_st ?_ | refine l_al (fun b => ?_) | refine l_bs (fun b => ?_) | refine k_condT ?_ | refine k_condF ?_ | refine k_brk ?_ | refine l_call (n1 _ _) (fun _ _ => ?_) | refine l_call0 (n1 _ _) (fun _ _ => ?_) | refine l_call (n2 _ _ _) (fun _ _ => ?_) | refine l_call0 (n2 _ _ _) (fun _ _ => ?_) | refine l_call (newLedger_ok) (fun _ _ => ?_) | refine l_call0 (newLedger_ok) (fun _ _ => ?_) | refine l_s2b (fun o cap => ?_) | (refine l_split (fun hc => ?_) (fun hc => ?_) <;> (try simp at hc)) | (refine k_cond (fun hc => ?_) (fun hc => ?_) <;> (try simp at hc)))
  rename_i rd _ ql _ q _
  obtain ⟨rb, _, _⟩ := rd
  obtain ⟨o2, cap2⟩ := q
  refine k_lpx (X := LX m s0) (Y := { x : LX m s0 // x.i = m }) (fun x => [(4, .pointer (some ⟨rb, 0, none⟩)), (5, .pointer (some ⟨ql, 0, none⟩)), (14, .int .i64 (m : Int)), (15, .int .i64 (x.i : Int))]) (fun x => [Sl 5 bf x.o x.cap x.s.rest]) (fun x => [Rdr rb x.o x.cap x.s, Lg ql x.ls]) (fun x => m - x.i)
    (fun x => [(4, .pointer (some ⟨rb, 0, none⟩)), (5, .pointer (some ⟨ql, 0, none⟩)), (14, .int .i64 (m : Int)), (15, .int .i64 (m : Int))]) (fun x => [Sl 5 bf x.1.o x.1.cap x.1.s.rest]) (fun x => [Rdr rb x.1.o x.1.cap x.1.s, Lg ql x.1.ls])
    ⟨0, [], s0, o2, cap2, by omega, rfl, by omega, rfl⟩ ⟨rfl, rfl, rfl, rfl, trivial⟩ ?_ ?_
  · rintro ⟨⟨i, ls, s', o, cap, hi, hl, hs, he⟩, him⟩
    dsimp only at him ⊢
    have nC := rdrClose_ok rb o cap s'
    have he' : lloop m [] s0 = some (ls, s') := by rw [he, him, Nat.sub_self, lloop]
    rw [he'] at hd
    dsimp only at hd
    by_cases hc0 : s'.err = 0 ∧ s'.rest = []
    · rw [if_pos hc0] at hd
      subst hd
      rw [(close0 _ _).2 hc0] at nC
      repeat' (first | refine l_run ?_ | refine l_nil ?_ | refine l_one ?_ | refine k_reg ?_ | refine l_ld ?_ | refine l_ldF ?_ | refine l_st ?_ | refine l_al (fun b => ?_) | refine l_bs (fun b => ?_) | refine k_condT ?_ | refine k_condF ?_ | refine k_brk ?_ | refine l_call (nC) (fun _ _ => ?_) | refine l_call0 (nC) (fun _ _ => ?_) | (refine l_split (fun hc => ?_) (fun hc => ?_) <;> (try simp at hc)) | (refine k_cond (fun hc => ?_) (fun hc => ?_) <;> (try simp at hc)))
      exact k_ret ql rfl trivial
    · rw [if_neg hc0] at hd
      subst hd
      have hne : (if s'.err ≠ 0 then s'.err else if s'.rest = [] then 0 else 5) ≠ (0 : Int) := fun h => hc0 ((close0 _ _).1 h)
      generalize (if s'.err ≠ 0 then s'.err else if s'.rest = [] then 0 else 5 : Int) = e at *
      repeat' (first | refine l_run ?_ | refine l_nil ?_ | refine l_one ?_ | refine k_reg ?_ | refine l_ld ?_ | refine l_ldF ?_ | refine l_st ?_ | refine l_al (fun b => ?_) | refine l_bs (fun b => ?_) | refine k_condT ?_ | refine k_condF ?_ | refine k_brk ?_ | refine l_call (nC) (fun _ _ => ?_) | refine l_call0 (nC) (fun _ _ => ?_) | (refine l_split (fun hc => ?_) (fun hc => ?_) <;> (try simp at hc)) | (refine k_cond (fun hc => ?_) (fun hc => ?_) <;> (try simp at hc)))
      · exact k_ret (post := LdP none) (0 : Nat) rfl trivial
      · exact absurd hc hne
  · rintro hx ⟨i, ls, s', o, cap, hi, hl, hs, he⟩
    dsimp only
    by_cases hlt : i < m
    · have g1 := rtext_le2 s' 65536
      have t1 := fun o cap => rdrText_ok rb o cap s' 65536 (by omega)
      have g2 := rnum_le (rtext s' 65536).2 1048576
      have t2 := fun o cap => rdrNumber_ok rb o cap (rtext s' 65536).2 1048576 (by omega)
      have g3 := rnum_le (rnum (rtext s' 65536).2 1048576).2 1073741824
      have t3 := fun o cap => rdrNumber_ok rb o cap (rnum (rtext s' 65536).2 1048576).2 1073741824 (by omega)
      have g4 := oread_le (rnum (rnum (rtext s' 65536).2 1048576).2 1073741824).2
      have t4 := fun o cap => outRead_ok rb o cap (rnum (rnum (rtext s' 65536).2 1048576).2 1073741824).2 (by omega)
      have g5 := rnum_le (oread (rnum (rnum (rtext s' 65536).2 1048576).2 1073741824).2).2 1073741824
      have t5 := fun o cap => rdrNumber_ok rb o cap (oread (rnum (rnum (rtext s' 65536).2 1048576).2 1073741824).2).2 1073741824 (by omega)
      have g6 := rnum_le (rnum (oread (rnum (rnum (rtext s' 65536).2 1048576).2 1073741824).2).2 1073741824).2 1048576
      have t6 := fun o cap => rdrNumber_ok rb o cap (rnum (oread (rnum (rnum (rtext s' 65536).2 1048576).2 1073741824).2).2 1073741824).2 1048576 (by omega)
      have t7 := leave_ok ql ls (lread s').1 (Nat.le_trans (lread_who s') (by omega)) (by omega)
      have hst : lloop (m - i) ls s' = if leaveE ls (lread s').1 = 0 then lloop (m - (i + 1)) (ls ++ [(lread s').1]) (lread s').2 else none := by
        rw [show m - i = (m - (i + 1)) + 1 by omega, lloop]
      by_cases h0 : leaveE ls (lread s').1 = 0
      · rw [lvPost_ok h0] at t7
        rw [if_pos h0] at hst
        repeat' (first | refine l_run ?_ | refine l_nil ?_ | refine l_one ?_ | refine k_reg ?_ | refine l_ld ?_ | refine l_ldF ?_ | refine l_st ?_ | refine l_al (fun b => ?_) | refine l_bs (fun b => ?_) | refine k_condT ?_ | refine k_condF ?_ | refine l_call (t1 _ _) (fun _ _ => ?_) | refine l_call0 (t1 _ _) (fun _ _ => ?_) | refine l_call (t2 _ _) (fun _ _ => ?_) | refine l_call0 (t2 _ _) (fun _ _ => ?_) | refine l_call (t3 _ _) (fun _ _ => ?_) | refine l_call0 (t3 _ _) (fun _ _ => ?_) | refine l_call (t4 _ _) (fun _ _ => ?_) | refine l_call0 (t4 _ _) (fun _ _ => ?_) | refine l_call (t5 _ _) (fun _ _ => ?_) | refine l_call0 (t5 _ _) (fun _ _ => ?_) | refine l_call (t6 _ _) (fun _ _ => ?_) | refine l_call0 (t6 _ _) (fun _ _ => ?_) | refine l_call (t7) (fun _ _ => ?_) | refine l_call0 (t7) (fun _ _ => ?_) | (refine l_split (fun hc => ?_) (fun hc => ?_) <;> (try simp at hc) <;> (try omega)) | (refine k_cond (fun hc => ?_) (fun hc => ?_) <;> (try simp at hc) <;> (try omega)))
        rename_i q6 _ _ _
        rw [wrapi (z := (i : Int) + 1) (by omega) (by omega)]
        exact k_next ⟨i + 1, ls ++ [(lread s').1], (lread s').2, q6.1, q6.2, by omega, by simp [hl], Nat.le_trans (lread_le s') hs, by rw [he, hst]⟩ (by show m - (i + 1) < m - i; omega) ⟨rfl, rfl, rfl, rfl, trivial⟩
      · rw [lvPost_no rfl h0] at t7
        rw [if_neg h0] at hst
        obtain rfl : d = none := by rw [hd, he, hst]
        generalize leaveE ls (lread s').1 = e at *
        repeat' (first | refine l_run ?_ | refine l_nil ?_ | refine l_one ?_ | refine k_reg ?_ | refine l_ld ?_ | refine l_ldF ?_ | refine l_st ?_ | refine l_al (fun b => ?_) | refine l_bs (fun b => ?_) | refine k_condT ?_ | refine k_condF ?_ | refine l_call (t1 _ _) (fun _ _ => ?_) | refine l_call0 (t1 _ _) (fun _ _ => ?_) | refine l_call (t2 _ _) (fun _ _ => ?_) | refine l_call0 (t2 _ _) (fun _ _ => ?_) | refine l_call (t3 _ _) (fun _ _ => ?_) | refine l_call0 (t3 _ _) (fun _ _ => ?_) | refine l_call (t4 _ _) (fun _ _ => ?_) | refine l_call0 (t4 _ _) (fun _ _ => ?_) | refine l_call (t5 _ _) (fun _ _ => ?_) | refine l_call0 (t5 _ _) (fun _ _ => ?_) | refine l_call (t6 _ _) (fun _ _ => ?_) | refine l_call0 (t6 _ _) (fun _ _ => ?_) | refine l_call (t7) (fun _ _ => ?_) | refine l_call0 (t7) (fun _ _ => ?_) | (refine l_split (fun hc => ?_) (fun hc => ?_) <;> (try simp at hc) <;> (try omega)) | (refine k_cond (fun hc => ?_) (fun hc => ?_) <;> (try simp at hc) <;> (try omega)))
        all_goals first
          | exact absurd hc h0
          | exact k_rt (w_lq (w_ret (post := LdP none) (0 : Nat) rfl trivial))
    · obtain rfl : i = m := by omega
      repeat' (first | refine l_run ?_ | refine l_nil ?_ | refine l_one ?_ | refine k_reg ?_ | refine l_ld ?_ | refine l_ldF ?_ | refine l_st ?_ | refine l_al (fun b => ?_) | refine l_bs (fun b => ?_) | refine k_condT ?_ | refine k_condF ?_ | (refine l_split (fun hc => ?_) (fun hc => ?_) <;> (try simp at hc) <;> (try omega)) | (refine k_cond (fun hc => ?_) (fun hc => ?_) <;> (try simp at hc) <;> (try omega)))
      exact k_out hx ⟨⟨i, ls, s', o, cap, hi, hl, hs, he⟩, rfl⟩ ⟨rfl, rfl, rfl, rfl, trivial⟩
end Go.Proofs.YtijaglinajfplaaGreatDoor

set_option maxRecDepth 10000
namespace Go.Proofs.YtijaglinajfplaaGreatDoor
open Go.RowKit

def stepL (ls : List Lf) (x : Lf) : List Lf := if leaveE ls (shL x) = 0 then ls ++ [shL x] else ls
/-- What build builds. -/
def bldL (l : List Lf) : List Lf := l.foldl stepL []
theorem bldL_snoc (l : List Lf) (x : Lf) : bldL (l ++ [x]) = stepL (bldL l) x := by simp [bldL]
theorem stepL_len (ls : List Lf) (x : Lf) : (stepL ls x).length ≤ ls.length + 1 := by unfold stepL; split <;> simp
theorem stepL_ok {ls : List Lf} {x : Lf} (h : LOK ls) (h2 : ∀ y ∈ ls, EncOK y) : LOK (stepL ls x) ∧ ∀ y ∈ stepL ls x, EncOK y := by
  unfold stepL
  split
  · rename_i h0
    refine ⟨lok_snoc h h0, fun y hy => ?_⟩
    rcases List.mem_append.1 hy with hy | hy
    · exact h2 y hy
    · simp at hy; subst hy
      exact ⟨(leave_zero h0).1, Nat.le_trans (cutS_size x.e.who 80) (by omega)⟩
  · exact ⟨h, h2⟩
theorem bldL_ok (l : List Lf) : LOK (bldL l) ∧ (∀ y ∈ bldL l, EncOK y) ∧ (bldL l).length ≤ l.length := by
  have h : ∀ (l ls : List Lf), LOK ls → (∀ y ∈ ls, EncOK y) → LOK (l.foldl stepL ls) ∧ (∀ y ∈ l.foldl stepL ls, EncOK y) ∧ (l.foldl stepL ls).length ≤ ls.length + l.length := by
    intro l
    induction l with
    | nil => exact fun ls h1 h2 => ⟨h1, h2, Nat.le_refl _⟩
    | cons x l ih =>
      intro ls h1 h2
      obtain ⟨g1, g2⟩ := stepL_ok (x := x) h1 h2
      obtain ⟨a, b, c⟩ := ih _ g1 g2
      have := stepL_len ls x
      exact ⟨a, b, by simp only [List.foldl_cons, List.length_cons]; omega⟩
  have := h l [] lok_nil (by simp)
  exact ⟨this.1, this.2.1, by have h3 := this.2.2; rw [List.length_nil, Nat.zero_add] at h3; exact h3⟩

structure B39 (l : List Lf) where
  i : Nat
  o : Option Addr
  cap : Nat
  h1 : i ≤ l.length ∧ i ≤ 30

def B39P (l : List Lf) : Post := ⟨Nat × Option Addr × Nat, fun q => .tuple #[.pointer (some ⟨q.1, 0, none⟩), .slice q.2.1 (bldL (l.take 30)).length q.2.2, .bool true], fun _ => True, fun _ => [],
  fun q => [Lg q.1 (bldL (l.take 30)), Row 80 9 q.2.1 (bldL (l.take 30)).length q.2.2 ((bldL (l.take 30)).flatMap lff)]⟩

set_option maxHeartbeats 4000000 in
theorem build39_ok (o1 : Option Addr) (c1 : Nat) (l : List Lf) (hl : l.length ≤ 1099511627776) :
    Enters 46 ∧ Spec Tryz.prog 46 #[.slice o1 l.length c1] [Sl 80 lff o1 c1 l] [] (B39P l) := by
  refine ⟨enters_of Tryz.func46 (by kernel_rfl) rfl, spec_of (vs := [_]) Tryz.func46 rfl Tryz.ntmps46 rfl fun G w hp => ?_⟩
  repeat' (first | refine l_run ?_ | refine l_nil ?_ | refine l_one ?_ | refine k_reg ?_ | refine l_ld ?_ | refine l_ldF ?_ | refine l_st ?_ | refine l_al (fun b => ?_) | refine l_bs (fun b => ?_) | refine k_condT ?_ | refine k_condF ?_ | refine k_brk ?_ | refine l_call (newLedger_ok) (fun _ _ => ?_) | refine l_call0 (newLedger_ok) (fun _ _ => ?_) | (refine l_split (fun hc => ?_) (fun hc => ?_) <;> (try simp at hc)) | (refine k_cond (fun hc => ?_) (fun hc => ?_) <;> (try simp at hc)))
  rename_i ql _
  refine k_shut (Lx := []) (r := Row 80 9 none 0 0 []) (fun h _ => row_nil _ _ h) ?_
  refine k_lp (X := B39 l) (fun x => [(0, .slice o1 l.length c1), (2, .pointer (some ⟨ql, 0, none⟩)), (3, .slice x.o (bldL (l.take x.i)).length x.cap), (5, .int .i64 (x.i : Int))]) (fun _ => [Sl 80 lff o1 c1 l])
    (fun x => [Lg ql (bldL (l.take x.i)), Row 80 9 x.o (bldL (l.take x.i)).length x.cap ((bldL (l.take x.i)).flatMap lff)]) (fun x => 30 - x.i) ⟨0, none, 0, by omega⟩ ⟨rfl, rfl, rfl, rfl, trivial⟩ ?_
  rintro ⟨i, o, cap, hi⟩
  dsimp only
  by_cases hlt : i < l.length ∧ i < 30
  · obtain ⟨x, hx⟩ : ∃ x, l[i]? = some x := ⟨_, List.getElem?_eq_getElem hlt.1⟩
    have htk : l.take (i + 1) = l.take i ++ [x] := by rw [List.take_add_one, hx]; rfl
    have hbs := bldL_snoc (l.take i) x
    rw [← htk] at hbs
    have hlen := (bldL_ok (l.take i)).2.2
    have hli : (l.take i).length ≤ 30 := by simp; omega
    generalize bldL (l.take i) = ls at *
    have n1 := short_ok x
    have hw : (shL x).e.who.size ≤ 80 := cutS_size x.e.who 80
    have n2 := mleave_ok o cap ls (shL x) (by omega) (by omega)
    have n3 := leave_ok ql ls (shL x) (by omega) (by omega)
    rw [← mleave_leave (by omega)] at n2
    unfold stepL at hbs
    by_cases h0 : leaveE ls (shL x) = 0
    · rw [lvPost_ok h0] at n3
      rw [h0] at n2
      rw [if_pos h0] at hbs
      repeat' (first | refine l_run ?_ | refine l_nil ?_ | refine l_one ?_ | refine k_reg ?_ | refine l_ld ?_ | refine l_ldF ?_ | refine l_st ?_ | refine l_al (fun b => ?_) | refine l_bs (fun b => ?_) | refine k_condT ?_ | refine k_condF ?_ | refine l_call (n1) (fun _ _ => ?_) | refine l_call0 (n1) (fun _ _ => ?_) | refine l_call (n2) (fun _ _ => ?_) | refine l_call0 (n2) (fun _ _ => ?_) | refine l_call (n3) (fun _ _ => ?_) | refine l_call0 (n3) (fun _ _ => ?_) | refine l_ixe (es := l) i x hx (fun b off => ?_) | refine l_ldC ?_ | refine l_app1 (fun o' cap' => ?_) | (refine l_split (fun hc => ?_) (fun hc => ?_) <;> (try simp at hc) <;> (try omega)) | (refine k_cond (fun hc => ?_) (fun hc => ?_) <;> (try simp at hc) <;> (try omega)))
      rw [wrapi (z := (i : Int) + 1) (by omega) (by omega)]
      have e1 : (bldL (l.take (i + 1))).length = ls.length + 1 := by rw [hbs]; simp
      refine k_rowc (T := 80) (sz := 9) (o := o') (cap := cap') (m := ls.length + 1) (m' := (ls ++ [shL x]).length) (ls.flatMap lff ++ lff (shL x)) ((ls ++ [shL x]).flatMap lff) (by simp) (by simp) ?_
      rw [← hbs]
      exact k_next ⟨i + 1, o', cap', by omega⟩ (by show 30 - (i + 1) < 30 - i; omega) ⟨rfl, rfl, by (show _ = some (Value.slice o' (bldL (l.take (i + 1))).length cap')); rw [e1]; rfl, rfl, trivial⟩
    · rw [lvPost_no rfl h0] at n3
      rw [if_neg h0] at hbs
      generalize leaveE ls (shL x) = e at *
      repeat' (first | refine l_run ?_ | refine l_nil ?_ | refine l_one ?_ | refine k_reg ?_ | refine l_ld ?_ | refine l_ldF ?_ | refine l_st ?_ | refine l_al (fun b => ?_) | refine l_bs (fun b => ?_) | refine k_condT ?_ | refine k_condF ?_ | refine l_call (n1) (fun _ _ => ?_) | refine l_call0 (n1) (fun _ _ => ?_) | refine l_call (n2) (fun _ _ => ?_) | refine l_call0 (n2) (fun _ _ => ?_) | refine l_call (n3) (fun _ _ => ?_) | refine l_call0 (n3) (fun _ _ => ?_) | refine l_ixe (es := l) i x hx (fun b off => ?_) | refine l_ldC ?_ | refine l_app1 (fun o' cap' => ?_) | (refine l_split (fun hc => ?_) (fun hc => ?_) <;> (try simp at hc) <;> (try omega)) | (refine k_cond (fun hc => ?_) (fun hc => ?_) <;> (try simp at hc) <;> (try omega)))
      rw [wrapi (z := (i : Int) + 1) (by omega) (by omega)]
      rw [← hbs]
      exact k_next ⟨i + 1, o, cap, by omega⟩ (by show 30 - (i + 1) < 30 - i; omega) ⟨rfl, rfl, rfl, rfl, trivial⟩
  · have htk : l.take i = l.take 30 := by
      by_cases h20 : i = 30
      · rw [h20]
      · rw [List.take_of_length_le (by omega), List.take_of_length_le (by omega)]
    rw [htk]
    repeat' (first | refine l_run ?_ | refine l_nil ?_ | refine l_one ?_ | refine k_reg ?_ | refine l_ld ?_ | refine l_ldF ?_ | refine l_st ?_ | refine l_al (fun b => ?_) | refine l_bs (fun b => ?_) | refine k_condT ?_ | refine k_condF ?_ | refine k_brk ?_ | (refine l_split (fun hc => ?_) (fun hc => ?_) <;> (try simp at hc) <;> (try omega)) | (refine k_cond (fun hc => ?_) (fun hc => ?_) <;> (try simp at hc) <;> (try omega)))
    all_goals exact k_ret (ql, o, cap) rfl trivial
end Go.Proofs.YtijaglinajfplaaGreatDoor
