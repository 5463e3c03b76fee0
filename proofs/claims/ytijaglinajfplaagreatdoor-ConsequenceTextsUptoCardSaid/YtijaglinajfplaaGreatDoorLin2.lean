/-
  Contracts of the package lineage: Parse, Valid, Ordinals, Compare.
  Conditions: those that each theorem states.
-/
import Derived.Test.YtijaglinajfplaaGreatDoorLin
set_option maxRecDepth 10000
namespace Go.Proofs.YtijaglinajfplaaGreatDoor
open Go.RowKit

section
variable {n : Nat} {C : Cx} {Q : Exit → Act → World → Prop} {E E' : List (Nat × Value)} {F : List Pf} {R R0 : List HP} {k : List Fr} {ops l : List Oper}
/-- An owned block that is no more written. -/
theorem k_fz {b : Nat} {o : Obj} (t : Wk n C k Q E (Blk b o :: F) R0) (hs : Sel (Pt b o) R R0 := by (repeat (first | exact Sel.here | apply Sel.there)); first | done | fail) : Wk n C k Q E F R :=
  fun a w ha hsat => t a w ha (hsat.sel hs).freeze
theorem k_add {f : Pf} (h : ∀ hp, f.p hp) (t : Wk n C k Q E (f :: F) R) : Wk n C k Q E F R := fun a w ha ⟨_, _, st⟩ => t a w ha (add_fact st (h _))
theorem w_add {f : Pf} (h : ∀ hp, f.p hp) (t : Wret n C Q E (f :: F) R) : Wret n C Q E F R := fun a w ha ⟨_, _, st⟩ => t a w ha (add_fact st (h _))
theorem sl_nil {α : Type} (T : Nat) (f : α → List Value) (h : H) : (Sl T f none 0 []).p h := ⟨by simp, .inl rfl⟩
/-- A result, seen as another term. -/
theorem w_rv {fn : Func} {v v' : Value} {G : H} {w0 : World} {hp0 : H} (h : v = v') (t : Wret n C (bodyPost Tryz.prog fn ((RetV v').holds G w0 hp0)) E F R) : Wret n C (bodyPost Tryz.prog fn ((RetV v).holds G w0 hp0)) E F R := by subst h; exact t
theorem w_open {X : Type} {r : HP} {Lx : X → List HP} {p : X → Prop} (hs : Sel r R R0) (h : ∀ hh, r hh → ∃ x, p x ∧ Sep (Lx x) hh) (t : ∀ x, p x → Wret n C Q E F (Lx x ++ R0)) : Wret n C Q E F R := fun a w ha hsat => by
  obtain ⟨⟨x, hx⟩, h1⟩ := (hsat.sel hs).open' (X := { x // p x }) (L := fun x => Lx x.1) fun hh hr => let ⟨x, h1, h2⟩ := h hh hr; ⟨⟨x, h1⟩, h2⟩
  exact t x hx a w ha h1
end

theorem parts_ok (s : ByteArray) : Enters 201 ∧ Spec Tryz.prog 201 #[.string s] [] []
    ⟨Nat, fun b => .func (.func 244) #[] #[.pointer (some ⟨b, 0, none⟩)], fun _ => True, fun b => [Blk b (.cells #[.string s] 9)], fun _ => []⟩ := by
  refine ⟨enters_of Tryz.func201 (by kernel_rfl) rfl, spec_of (vs := [_]) Tryz.func201 rfl Tryz.ntmps201 rfl fun G w hp => ?_⟩
  repeat' (first | refine l_run ?_ | refine l_nil ?_ | refine l_one ?_ | refine k_reg ?_ | refine l_ld ?_ | refine l_ldF ?_ | refine l_st ?_ | refine l_al (fun b => ?_) | refine l_bs (fun b => ?_) | refine k_condT ?_ | refine k_condF ?_ | refine k_brk ?_ | refine l_split (fun hc => ?_) (fun hc => ?_) | refine k_cond (fun hc => ?_) (fun hc => ?_))
  refine k_fz ?_
  exact k_ret b rfl trivial

/-- What Parse answers. -/
def lparse (s : ByteArray) : ByteArray × Nat × Int :=
  match (lparts s.data.toList).find? fun p => p.e != 0 with
  | none => (s, 0, 0)
  | some p => (⟨#[]⟩, p.pos, p.e)

theorem parse_find {pre : List Prt} {e : Prt} {xs : List Prt} (h : pre ++ [e] <+: xs) (h0 : ∀ x ∈ pre, x.e = 0) (he : e.e ≠ 0) : xs.find? (fun p => p.e != 0) = some e := by
  obtain ⟨t, rfl⟩ := h
  rw [List.append_assoc, List.find?_append]
  have : pre.find? (fun p => p.e != 0) = none := List.find?_eq_none.2 fun x hx => by simp [h0 x hx]
  simp [this, he]

abbrev JL (b2 b3 b4 : Nat) (p e : Int) : List HP := [Pt b2 (.cells #[.string ⟨#[]⟩] 22), Pt b3 (.cells #[.int .i64 p] 3), Pt b4 (.cells #[.int .i64 e] 47)]
def JP (b2 b3 b4 : Nat) (pre : List Prt) : HP := fun h => (∀ x ∈ pre, x.e = 0) ∧ Sep (JL b2 b3 b4 0 0) h
def JPx (b2 b3 b4 : Nat) (pre : List Prt) : HP := fun h => ∃ q : List Prt × Prt, (pre = q.1 ++ [q.2] ∧ (∀ x ∈ q.1, x.e = 0) ∧ q.2.e ≠ 0) ∧ Sep (JL b2 b3 b4 q.2.pos q.2.e) h

theorem parseL_ok (s : ByteArray) (hs : s.size ≤ 1099511627776) : Enters 142 ∧ Spec Tryz.prog 142 #[.string s] [] []
    (RetV (.tuple #[.string (lparse s).1, .int .i64 ((lparse s).2.1 : Int), .int .i64 (lparse s).2.2])) := by
  refine ⟨enters_of Tryz.func142 (by kernel_rfl) rfl, spec_ofM (vs := [_]) Tryz.func142 rfl Tryz.ntmps142 rfl fun G w hp => ?_⟩
  repeat' (first | refine l_run ?_ | refine l_nil ?_ | refine l_one ?_ | refine k_reg ?_ | refine l_ld ?_ | refine l_ldF ?_ | refine l_st ?_ | refine l_al (fun b => ?_) | refine l_bs (fun b => ?_) | refine k_condT ?_ | refine k_condF ?_ | refine k_brk ?_ | refine r_run ?_ | refine r_one ?_ | refine r_ld ?_ | refine r_ldF ?_ | refine r_ldN ?_ | refine r_al (fun b => ?_) | refine r_bs (fun b => ?_) | refine r_st ?_ | refine r_end ?_ | refine l_call (parts_ok _) (fun _ _ => ?_) | refine l_call0 (parts_ok _) (fun _ _ => ?_) | refine r_call (parts_ok _) (fun _ _ => ?_) | refine l_split (fun hc => ?_) (fun hc => ?_) | refine r_split (fun hc => ?_) (fun hc => ?_) | refine k_draw 4 [] [(0, 0), (1, 0), (2, 0), (3, 0), (4, 4), (5, 4)] [6] ?_ | refine k_cond (fun hc => ?_) (fun hc => ?_))
  rename_i b2 b3 q _
  generalize b = b4
  refine k_shut (r := JP b2 b3 b4 []) (Lx := JL b2 b3 b4 0 0) (fun h hh => ⟨fun x hx => (by cases hx), hh⟩) ?_
  refine k_range (α := Prt) (enc := Prt.v) (xs := lparts s.data.toList) (JP b2 b3 b4) (JPx b2 b3 b4) (parts1_iter s q hs) ?_ ?_ ?_
  · intro lr l pre e hpre G w0 hp0
    refine k_open (X := Unit) (Lx := fun _ => JL b2 b3 b4 0 0) (p := fun _ => ∀ x ∈ pre, x.e = 0) (r := JP b2 b3 b4 pre) (.there .here) (fun h hh => ⟨(), hh.1, hh.2⟩) (fun _ hall => ?_)
    repeat' (first | refine l_run ?_ | refine l_nil ?_ | refine l_one ?_ | refine k_reg ?_ | refine l_ld ?_ | refine l_ldF ?_ | refine l_st ?_ | refine l_al (fun b => ?_) | refine l_bs (fun b => ?_) | refine k_condT ?_ | refine k_condF ?_ | refine k_brk ?_ | refine r_run ?_ | refine r_one ?_ | refine r_ld ?_ | refine r_ldF ?_ | refine r_ldN ?_ | refine r_al (fun b => ?_) | refine r_bs (fun b => ?_) | refine r_st ?_ | refine r_end ?_ | refine k_beg ?_ | refine l_split (fun hc => ?_) (fun hc => ?_) | refine r_split (fun hc => ?_) (fun hc => ?_) | refine k_draw 4 [Pt b2 (.cells _ _ _), Pt b3 (.cells _ _ _), Pt b4 (.cells _ _ _)] [(0, 0), (1, 0), (2, 0), (3, 0), (4, 4), (5, 4), (6, 4)] [] ?_ | refine k_cond (fun hc => ?_) (fun hc => ?_))
    · have he : e.e ≠ 0 := by simpa using hc
      refine k_shut (Lx := JL b2 b3 b4 e.pos e.e) (r := JPx b2 b3 b4 (pre ++ [e])) (fun h hh => ⟨(pre, e), ⟨rfl, hall, he⟩, hh⟩) ?_
      exact k_rr
    · have he : e.e = 0 := by simpa using hc
      refine k_shut (Lx := JL b2 b3 b4 0 0) (r := JP b2 b3 b4 (pre ++ [e])) (fun h hh => ⟨fun x hx => ?_, hh⟩) ?_
      · rcases List.mem_append.1 hx with hx | hx
        · exact hall x hx
        · simp at hx; subst hx; exact he
      exact k_rn
  · intro D
    refine k_open (X := Unit) (Lx := fun _ => JL b2 b3 b4 0 0) (p := fun _ => ∀ x ∈ lparts s.data.toList, x.e = 0) (r := JP b2 b3 b4 (lparts s.data.toList)) .here (fun h hh => ⟨(), hh.1, hh.2⟩) (fun _ hall => ?_)
    have hp : lparse s = (s, 0, 0) := by
      have : (lparts s.data.toList).find? (fun p => p.e != 0) = none := List.find?_eq_none.2 fun x hx => by simp [hall x hx]
      rw [lparse, this]
    rw [hp]
    repeat' (first | refine l_run ?_ | refine l_nil ?_ | refine l_one ?_ | refine k_reg ?_ | refine l_ld ?_ | refine l_ldF ?_ | refine l_st ?_ | refine l_al (fun b => ?_) | refine l_bs (fun b => ?_) | refine k_condT ?_ | refine k_condF ?_ | refine k_brk ?_ | refine r_run ?_ | refine r_one ?_ | refine r_ld ?_ | refine r_ldF ?_ | refine r_ldN ?_ | refine r_al (fun b => ?_) | refine r_bs (fun b => ?_) | refine r_st ?_ | refine r_end ?_ | refine l_split (fun hc => ?_) (fun hc => ?_) | refine r_split (fun hc => ?_) (fun hc => ?_) | refine k_draw 4 [] [(0, 0), (1, 0), (2, 0), (3, 0), (4, 4), (5, 4)] [6] ?_ | refine k_cond (fun hc => ?_) (fun hc => ?_))
    exact k_retM () rfl trivial
  · intro D pre hpre
    refine w_open (X := List Prt × Prt) (Lx := fun q => JL b2 b3 b4 q.2.pos q.2.e) (r := JPx b2 b3 b4 pre) .here (fun h hh => hh) (fun q hq => ?_)
    obtain ⟨rfl, h1, h2⟩ := hq
    rw [lparse, parse_find hpre h1 h2]
    exact w_retM () rfl trivial

theorem lparse_valid (s : ByteArray) : ((lparse s).2.2 == 0) = lvalid s.data.toList := by
  unfold lparse lvalid
  cases h : (lparts s.data.toList).find? fun p => p.e != 0 with
  | none =>
    have h1 := List.find?_eq_none.1 h
    simp at h1
    symm
    simpa using h1
  | some p =>
    have h1 := List.find?_some h
    have h2 := List.mem_of_find?_eq_some h
    simp at h1
    have e1 : (p.e == 0) = false := by simpa using h1
    dsimp only
    rw [e1]
    symm
    rw [List.all_eq_false]
    exact ⟨p, h2, by simpa using h1⟩

theorem valid_ok (s : ByteArray) (hs : s.size ≤ 1099511627776) : Enters 72 ∧ Spec Tryz.prog 72 #[.string s] [] [] (RetV (.bool (lvalid s.data.toList))) := by
  refine ⟨enters_of Tryz.func72 (by kernel_rfl) rfl, spec_of (vs := [_]) Tryz.func72 rfl Tryz.ntmps72 rfl fun G w hp => ?_⟩
  repeat' (first | refine l_run ?_ | refine l_nil ?_ | refine l_one ?_ | refine k_reg ?_ | refine l_ld ?_ | refine l_ldF ?_ | refine l_st ?_ | refine l_al (fun b => ?_) | refine l_bs (fun b => ?_) | refine k_condT ?_ | refine k_condF ?_ | refine k_brk ?_ | refine l_call (parseL_ok s hs) (fun _ _ => ?_) | refine l_call0 (parseL_ok s hs) (fun _ _ => ?_) | refine l_split (fun hc => ?_) (fun hc => ?_) | refine k_cond (fun hc => ?_) (fun hc => ?_))
  refine k_ret () ?_ trivial
  rw [← lparse_valid]; rfl

theorem prts_len : ∀ (m : Nat) (l : List UInt8) (p c : Nat), l.length ≤ m → (prts l p c).length ≤ l.length + 1 := by
  intro m
  induction m with
  | zero =>
    intro l p c hl
    obtain rfl := List.length_eq_zero_iff.1 (show l.length = 0 by omega)
    unfold prts
    split
    · simp
    · rename_i h; simp [ferr] at h; split at h <;> simp_all
  | succ m ih =>
    intro l p c hl
    unfold prts
    split
    · simp
    · split
      · simp
      · rename_i c' rest h
        have h1 := congrArg List.length h
        simp at h1
        split
        · simp; omega
        · have := ih rest (p + (digs l).length + 1) (c + 1) (by omega)
          simp; omega
theorem lparts_len (s : List UInt8) : (lparts s).length ≤ s.length + 1 := by
  unfold lparts
  split
  · simp
  · exact prts_len _ s 0 0 (Nat.le_refl _)

/-- The cell of a number. -/
def zf (z : Int) : List Value := [.int .i64 z]
def ords (l : List Prt) : List Int := l.map fun p => (p.ord : Int)
theorem lords_ok {s : List UInt8} (h : ∀ x ∈ lparts s, x.e = 0) : lords s = ords (lparts s) := by
  have : lvalid s = true := by simpa [lvalid] using h
  rw [lords, if_pos this]; rfl
theorem lords_bad {s : List UInt8} (h : ∃ x ∈ lparts s, x.e ≠ 0) : lords s = [] := by
  have : lvalid s = false := by simpa [lvalid] using h
  rw [lords, this]; rfl

abbrev JOL (b2 b3 : Nat) (pre : List Prt) (q : Option Addr × Nat) : List HP := [Pt b2 (.cells #[.slice none 0 0] 39), Pt b3 (.cells #[.slice q.1 pre.length q.2] 39), Row 3 1 q.1 pre.length q.2 ((ords pre).flatMap zf)]
def JO (b2 b3 : Nat) (pre : List Prt) : HP := fun h => ∃ q, (∀ x ∈ pre, x.e = 0) ∧ Sep (JOL b2 b3 pre q) h
def JOx (b2 : Nat) (pre : List Prt) : HP := fun h => (∃ x ∈ pre, x.e ≠ 0) ∧ Sep [Pt b2 (.cells #[.slice none 0 0] 39)] h

theorem ordinals_ok (s : ByteArray) (hs : s.size ≤ 1099511627776) : Enters 236 ∧ Spec Tryz.prog 236 #[.string s] [] []
    ⟨Option Addr × Nat, fun q => .slice q.1 (lords s.data.toList).length q.2, fun _ => True, fun q => [Sl 3 zf q.1 q.2 (lords s.data.toList)], fun _ => []⟩ := by
  have hlen := lparts_len s.data.toList
  have hsz : s.data.toList.length = s.size := by simp
  refine ⟨enters_of Tryz.func236 (by kernel_rfl) rfl, spec_ofM (vs := [_]) Tryz.func236 rfl Tryz.ntmps236 rfl fun G w hp => ?_⟩
  repeat' (first | refine l_run ?_ | refine l_nil ?_ | refine l_one ?_ | refine k_reg ?_ | refine l_ld ?_ | refine l_ldF ?_ | refine l_st ?_ | refine l_al (fun b => ?_) | refine l_bs (fun b => ?_) | refine k_condT ?_ | refine k_condF ?_ | refine k_brk ?_ | refine l_call (parts_ok _) (fun _ _ => ?_) | refine l_call0 (parts_ok _) (fun _ _ => ?_) | refine l_split (fun hc => ?_) (fun hc => ?_) | refine k_cond (fun hc => ?_) (fun hc => ?_))
  rename_i b2 q _
  generalize b = b3
  refine k_shut (Lx := []) (r := Row 3 1 none 0 0 []) (fun h _ => row_nil _ _ h) ?_
  refine k_shut (Lx := JOL b2 b3 [] (none, 0)) (r := JO b2 b3 []) (fun h hh => ⟨(none, 0), fun x hx => (by cases hx), hh⟩) ?_
  refine k_range (α := Prt) (enc := Prt.v) (xs := lparts s.data.toList) (JO b2 b3) (JOx b2) (parts1_iter s q hs) ?_ ?_ ?_
  · intro lr l pre e hpre G w0 hp0
    have hple := hpre.length_le
    simp only [List.length_append, List.length_singleton] at hple
    refine k_open (X := Option Addr × Nat) (Lx := fun q => JOL b2 b3 pre q) (p := fun _ => ∀ x ∈ pre, x.e = 0) (r := JO b2 b3 pre) (.there .here) (fun h hh => hh) (fun q hall => ?_)
    repeat' (first | refine l_run ?_ | refine l_nil ?_ | refine l_one ?_ | refine k_reg ?_ | refine l_ld ?_ | refine l_ldF ?_ | refine l_st ?_ | refine l_al (fun b => ?_) | refine l_bs (fun b => ?_) | refine k_condT ?_ | refine k_condF ?_ | refine k_brk ?_ | refine k_beg ?_ | refine l_app1 (fun o' cap' => ?_) | refine l_split (fun hc => ?_) (fun hc => ?_) | refine k_cond (fun hc => ?_) (fun hc => ?_))
    · have he : e.e ≠ 0 := by simpa using hc
      refine k_shut (Lx := [Pt b2 (.cells #[.slice none 0 0] 39)]) (r := JOx b2 (pre ++ [e])) (fun h hh => ⟨⟨e, by simp, he⟩, hh⟩) ?_
      exact k_rr
    · have he : e.e = 0 := by simpa using hc
      have e1 : pre.length + 1 = (pre ++ [e]).length := by simp
      have e2 : (ords pre).flatMap zf ++ #[Value.int .i64 (e.ord : Int)].toList = (ords (pre ++ [e])).flatMap zf := by simp [ords, zf]
      rw [e1, e2]
      refine k_shut (Lx := JOL b2 b3 (pre ++ [e]) (o', cap')) (r := JO b2 b3 (pre ++ [e])) (fun h hh => ⟨(o', cap'), fun x hx => ?_, hh⟩) ?_
      · rcases List.mem_append.1 hx with hx | hx
        · exact hall x hx
        · simp at hx; subst hx; exact he
      exact k_rn
  · intro D
    refine k_open (X := Option Addr × Nat) (Lx := fun q => JOL b2 b3 (lparts s.data.toList) q) (p := fun _ => ∀ x ∈ lparts s.data.toList, x.e = 0) (r := JO b2 b3 (lparts s.data.toList)) .here (fun h hh => hh) (fun q hall => ?_)
    dsimp only [JOL]
    rw [lords_ok hall, show (lparts s.data.toList).length = (ords (lparts s.data.toList)).length by simp [ords]]
    repeat' (first | refine l_run ?_ | refine l_nil ?_ | refine l_one ?_ | refine k_reg ?_ | refine l_ld ?_ | refine l_ldF ?_ | refine l_st ?_ | refine l_al (fun b => ?_) | refine l_bs (fun b => ?_) | refine k_condT ?_ | refine k_condF ?_ | refine k_brk ?_ | refine l_split (fun hc => ?_) (fun hc => ?_) | refine k_cond (fun hc => ?_) (fun hc => ?_))
    refine k_frz (sz := 1) (f := zf) (o := q.1) (cap := q.2) (ords (lparts s.data.toList)) ?_ rfl rfl
    exact k_retM q rfl trivial
  · intro D pre hpre
    refine w_open (X := Unit) (Lx := fun _ => [Pt b2 (.cells #[.slice none 0 0] 39)]) (p := fun _ => ∃ x ∈ pre, x.e ≠ 0) (r := JOx b2 pre) .here (fun h hh => ⟨(), hh⟩) (fun q hq => ?_)
    obtain ⟨x, hx, he⟩ := hq
    rw [lords_bad ⟨x, hpre.subset hx, he⟩]
    refine w_add (sl_nil 3 zf) ?_
    exact w_retM (none, 0) rfl trivial

theorem cmpSl_ok (o1 o2 : Option Addr) (c1 c2 : Nat) (e1 e2 : List Int) (h1 : e1.length ≤ 1099511627776) (h2 : e2.length ≤ 1099511627776) : Enters 235 ∧ Spec Tryz.prog 235 #[.slice o1 e1.length c1, .slice o2 e2.length c2]
    [Sl 3 zf o1 c1 e1, Sl 3 zf o2 c2 e2] [] (RetV (.int .i64 (cmpL e1 e2))) := by
  refine ⟨enters_of Tryz.func235 (by kernel_rfl) rfl, spec_of (vs := [_, _]) Tryz.func235 rfl Tryz.ntmps235 rfl fun G w hp => ?_⟩
  repeat' (first | refine l_run ?_ | refine l_nil ?_ | refine l_one ?_ | refine k_reg ?_ | refine l_ld ?_ | refine l_ldF ?_ | refine l_st ?_ | refine l_al (fun b => ?_) | refine l_bs (fun b => ?_) | refine k_condT ?_ | refine k_condF ?_ | refine k_brk ?_ | refine l_split (fun hc => ?_) (fun hc => ?_) | refine k_cond (fun hc => ?_) (fun hc => ?_))
  refine k_lp (X := { i : Nat // i ≤ e1.length ∧ i ≤ e2.length ∧ cmpL e1 e2 = cmpL (e1.drop i) (e2.drop i) }) (fun i => [(0, .slice o1 e1.length c1), (1, .slice o2 e2.length c2), (9, .slice o1 e1.length c1), (10, .int .i64 (e1.length : Int)), (11, .int .i64 (i.1 : Int))]) (fun _ => [Sl 3 zf o1 c1 e1, Sl 3 zf o2 c2 e2]) (fun _ => []) (fun i => e1.length - i.1) ⟨0, by omega, by omega, rfl⟩ ⟨rfl, rfl, rfl, rfl, rfl, trivial⟩ ?_
  rintro ⟨i, hi1, hi2, hi3⟩
  dsimp only
  repeat' (first | refine l_run ?_ | refine l_nil ?_ | refine l_one ?_ | refine k_reg ?_ | refine l_ld ?_ | refine l_ldF ?_ | refine l_st ?_ | refine l_al (fun b => ?_) | refine l_bs (fun b => ?_) | refine k_condT ?_ | refine k_condF ?_ | refine k_brk ?_ | refine l_call (cmp_int _ _) (fun _ _ => ?_) | refine l_call0 (cmp_int _ _) (fun _ _ => ?_) | refine l_ix e1 i (by omega) (fun b off => ?_) | refine l_ix e2 i (by omega) (fun b off => ?_) | refine l_ldC ?_ | (refine l_split (fun hc => ?_) (fun hc => ?_) <;> (try simp at hc)) | (refine k_cond (fun hc => ?_) (fun hc => ?_) <;> (try simp at hc)))
  · have d1 := List.drop_eq_getElem_cons (l := e1) (i := i) (by omega)
    have d2 : e2.drop i = [] := List.drop_eq_nil_of_le (by omega)
    have e : cmpL e1 e2 = 1 := by rw [hi3, d1, d2]; rfl
    exact k_rt (w_lq (w_rv (congrArg (Value.int .i64) e) (w_ret () rfl trivial)))
  · have d1 := List.drop_eq_getElem_cons (l := e1) (i := i) (by omega)
    have d2 := List.drop_eq_getElem_cons (l := e2) (i := i) (by omega)
    have e : cmpL e1 e2 = cmpI e1[i] e2[i] := by rw [hi3, d1, d2, cmpL, if_pos hc]
    exact k_rt (w_lq (w_rv (congrArg (Value.int .i64) e) (w_ret () rfl trivial)))
  · have d1 := List.drop_eq_getElem_cons (l := e1) (i := i) (by omega)
    have d2 := List.drop_eq_getElem_cons (l := e2) (i := i) (by omega)
    rw [wrapi (z := (i : Int) + 1) (by omega) (by omega)]
    exact k_next ⟨i + 1, by omega, by omega, by rw [hi3, d1, d2, cmpL, if_neg (by simp [hc])]⟩ (by show e1.length - (i + 1) < e1.length - i; omega) ⟨rfl, rfl, rfl, rfl, rfl, trivial⟩
  · have d1 : e1.drop i = [] := List.drop_eq_nil_of_le (by omega)
    have d2 := List.drop_eq_getElem_cons (l := e2) (i := i) (by omega)
    rw [hi3, d1, d2]
    exact k_ret () rfl trivial
  · have d1 : e1.drop i = [] := List.drop_eq_nil_of_le (by omega)
    have d2 : e2.drop i = [] := List.drop_eq_nil_of_le (by omega)
    rw [hi3, d1, d2]
    exact k_ret () rfl trivial

theorem lords_len (s : List UInt8) : (lords s).length ≤ s.length + 1 := by
  unfold lords
  split
  · simp; exact lparts_len s
  · simp

theorem compareN_ok (a b : ByteArray) (ha : a.size ≤ 1099511627770) (hb : b.size ≤ 1099511627770) : Enters 187 ∧ Spec Tryz.prog 187 #[.string a, .string b] [] [] (RetV (.int .i64 (cmpN a b))) := by
  have la := lords_len a.data.toList
  have lb := lords_len b.data.toList
  have sa : a.data.toList.length = a.size := by simp
  have sb : b.data.toList.length = b.size := by simp
  have va := valid_ok a (by omega)
  have vb := valid_ok b (by omega)
  have key : (a.toList == b.toList) = decide (a = b) := by
    rw [toList_data, toList_data, Bool.eq_iff_iff]
    simp only [beq_iff_eq, decide_eq_true_eq]
    exact ⟨ba_ext, fun h => by rw [h]⟩
  generalize hr : cmpN a b = r
  unfold cmpN at hr
  cases hva : lvalid a.data.toList <;> cases hvb : lvalid b.data.toList
  all_goals rw [hva] at va hr
  all_goals rw [hvb] at vb hr
  all_goals dsimp only at hr
  all_goals refine ⟨enters_of Tryz.func187 (by kernel_rfl) rfl, spec_of (vs := [_, _]) Tryz.func187 rfl Tryz.ntmps187 rfl fun G w hp => ?_⟩
  all_goals repeat' (first | refine l_run ?_ | refine l_nil ?_ | refine l_one ?_ | refine k_reg ?_ | refine l_ld ?_ | refine l_ldF ?_ | refine l_st ?_ | refine l_al (fun b => ?_) | refine l_bs (fun b => ?_) | refine k_condT ?_ | refine k_condF ?_ | refine k_brk ?_ | refine l_call (va) (fun _ _ => ?_) | refine l_call0 (va) (fun _ _ => ?_) | refine l_call (vb) (fun _ _ => ?_) | refine l_call0 (vb) (fun _ _ => ?_) | refine l_call (ordinals_ok a (by omega)) (fun _ _ => ?_) | refine l_call0 (ordinals_ok a (by omega)) (fun _ _ => ?_) | refine l_call (ordinals_ok b (by omega)) (fun _ _ => ?_) | refine l_call0 (ordinals_ok b (by omega)) (fun _ _ => ?_) | refine l_call (cmpSl_ok _ _ _ _ (lords a.data.toList) (lords b.data.toList) (by omega) (by omega)) (fun _ _ => ?_) | refine l_call0 (cmpSl_ok _ _ _ _ (lords a.data.toList) (lords b.data.toList) (by omega) (by omega)) (fun _ _ => ?_) | refine l_call (cmp_lin _ _) (fun _ _ => ?_) | refine l_call0 (cmp_lin _ _) (fun _ _ => ?_) | refine l_split (fun hc => ?_) (fun hc => ?_) | refine k_cond (fun hc => ?_) (fun hc => ?_))
  all_goals first | rw [key, decide_eq_true_eq] at hc | rw [key, decide_eq_false_iff_not] at hc
  all_goals first
    | (rw [if_pos hc] at hr; subst hr; exact k_ret () rfl trivial)
    | (rw [if_neg hc] at hr; subst hr; exact k_ret () rfl trivial)
end Go.Proofs.YtijaglinajfplaaGreatDoor
