/-
  Contracts of cmp.Or and of the package object: Compare, Word, Check.
  The contract of object.Name.Check.
  Contracts of the package state: the search tree.
  Contracts of the package state: with, find.
  More rules for regions that draw their order: what is owned may be set fast, facts may be drawn from facts.
  Contracts of the package state: With.
  Contracts of the package state: the nodes in order, Kind.
  Conditions: those that each theorem states.
-/
import Derived.Test.YtgaipgbgppdfeaaGreatDoorMC
set_option maxRecDepth 10000
namespace Go.Proofs.YtgaipgbgppdfeaaGreatDoor
open Go.RowKit

theorem row_pt {T sz m b : Nat} {cs : Array Value} (hm : cs.size = m * sz) (h : H) (hb : Sep [Pt b (.cells cs T)] h) : Row T sz (some ⟨b, 0, none⟩) m m cs.toList h := by
  obtain ⟨h1, h2, _, s1, _, hx, _⟩ := hb
  refine .inr ⟨b, [], (0, 0), rfl, ?_, by simpa using hm, by simpa using hm, Nat.le_refl _, .inl rfl⟩
  simpa using s1 _ _ hx

/-- The first that is not 0. -/
def or0 : List Int → Int
  | [] => 0
  | x :: l => if x ≠ 0 then x else or0 l

theorem or_ok (o : Option Addr) (c : Nat) (es : List Int) (h1 : es.length ≤ 1099511627776) : Spec Tryz.prog 208 #[.slice o es.length c] [Sl 3 zf o c es] [] (RetV (.int .i64 (or0 es))) := by
  refine (show Enters 208 ∧ Spec Tryz.prog 208 #[.slice o es.length c] [Sl 3 zf o c es] [] (RetV (.int .i64 (or0 es))) from ?_).2
  refine ⟨enters_of Tryz.func208 (by kernel_rfl) rfl, spec_of (vs := [_]) Tryz.func208 rfl Tryz.ntmps208 rfl fun G w hp => ?_⟩
  repeat' (first | refine l_run ?_ | refine l_nil ?_ | refine l_one ?_ | refine k_reg ?_ | refine l_ld ?_ | refine l_ldF ?_ | refine l_st ?_ | refine l_al (fun b => ?_) | refine l_bs (fun b => ?_) | refine k_condT ?_ | refine k_condF ?_ | refine k_brk ?_ | refine l_split (fun hc => ?_) (fun hc => ?_) | refine k_cond (fun hc => ?_) (fun hc => ?_))
  refine k_lp (X := { i : Nat // i ≤ es.length ∧ or0 es = or0 (es.drop i) }) (fun i => [(3, .int .i64 0), (6, .slice o es.length c), (7, .int .i64 (es.length : Int)), (8, .int .i64 (i.1 : Int))]) (fun _ => [Sl 3 zf o c es]) (fun _ => []) (fun i => es.length - i.1) ⟨0, by omega, rfl⟩ ⟨rfl, rfl, rfl, rfl, trivial⟩ ?_
  rintro ⟨i, hi1, hi3⟩
  dsimp only
  repeat' (first | refine l_run ?_ | refine l_nil ?_ | refine l_one ?_ | refine k_reg ?_ | refine l_ld ?_ | refine l_ldF ?_ | refine l_st ?_ | refine l_al (fun b => ?_) | refine l_bs (fun b => ?_) | refine k_condT ?_ | refine k_condF ?_ | refine k_brk ?_ | refine l_ix es i (by omega) (fun b off => ?_) | refine l_ldC ?_ | (refine l_split (fun hc => ?_) (fun hc => ?_) <;> (try simp at hc)) | (refine k_cond (fun hc => ?_) (fun hc => ?_) <;> (try simp at hc)))
  · have d1 := List.drop_eq_getElem_cons (l := es) (i := i) (by omega)
    have e : or0 es = es[i] := by rw [hi3, d1, or0, if_pos hc]
    exact k_rt (w_lq (w_rv (congrArg (Value.int .i64) e) (w_ret () rfl trivial)))
  · have d1 := List.drop_eq_getElem_cons (l := es) (i := i) (by omega)
    rw [wrapi (z := (i : Int) + 1) (by omega) (by omega)]
    exact k_next ⟨i + 1, by omega, by rw [hi3, d1, or0, if_neg (by simp [hc])]⟩ (by show es.length - (i + 1) < es.length - i; omega) ⟨rfl, rfl, rfl, rfl, trivial⟩
  · have d1 : es.drop i = [] := List.drop_eq_nil_of_le (by omega)
    rw [hi3, d1]
    exact k_ret () rfl trivial

theorem or3_ok (b : Nat) (x y z : Int) : Enters 208 ∧ Spec Tryz.prog 208 #[.slice (some ⟨b, 0, none⟩) 3 3] [] [Pt b (.cells #[.int .i64 x, .int .i64 y, .int .i64 z] 3)] (RetV (.int .i64 (or0 [x, y, z]))) := by
  refine ⟨enters_of Tryz.func208 (by kernel_rfl) rfl, fun G w hp hs => ?_⟩
  have h1 := (hs.shut (R := []) (L := [Pt b (.cells #[.int .i64 x, .int .i64 y, .int .i64 z] 3)]) (x := Row 3 1 (some ⟨b, 0, none⟩) 3 3 [.int .i64 x, .int .i64 y, .int .i64 z]) fun h hh => row_pt rfl h hh)
  have h2 := frz_row (f := zf) (es := [x, y, z]) rfl rfl Sel.here h1
  exact sat_call (or_ok (some ⟨b, 0, none⟩) 3 [x, y, z] (by simp)) h2 .nil (fun hp hF f hf => by simp at hf; subst hf; exact hF _ (by simp)) fun x w' hx h3 => ⟨x, rfl, hx, h3.facts (F' := []) (fun _ _ _ h => by cases h)⟩

theorem compareO_ok (a a' : Nm) (ha : a.owner.size ≤ 1099511627770) (hb : a'.owner.size ≤ 1099511627770) : Enters 137 ∧ Spec Tryz.prog 137 #[a.v, a'.v] [] [] (RetV (.int .i64 (cmpO a a'))) := by
  generalize hr : cmpO a a' = r
  unfold cmpO at hr
  refine ⟨enters_of Tryz.func137 (by kernel_rfl) rfl, spec_of (vs := [_, _]) Tryz.func137 rfl Tryz.ntmps137 rfl fun G w hp => ?_⟩
  repeat' (first | refine l_run ?_ | refine l_nil ?_ | refine l_one ?_ | refine k_reg ?_ | refine l_ld ?_ | refine l_ldF ?_ | refine l_st ?_ | refine l_al (fun b => ?_) | refine l_bs (fun b => ?_) | refine k_condT ?_ | refine k_condF ?_ | refine k_brk ?_ | refine r_run ?_ | refine r_one ?_ | refine r_ld ?_ | refine r_ldF ?_ | refine r_ldN ?_ | refine r_al (fun b => ?_) | refine r_bs (fun b => ?_) | refine r_st ?_ | refine r_end ?_ | refine l_call (cmp_int _ _) (fun _ _ => ?_) | refine l_call0 (cmp_int _ _) (fun _ _ => ?_) | refine r_call (cmp_int _ _) (fun _ _ => ?_) | refine l_call (compareN_ok a.owner a'.owner ha hb) (fun _ _ => ?_) | refine l_call0 (compareN_ok a.owner a'.owner ha hb) (fun _ _ => ?_) | refine r_call (compareN_ok a.owner a'.owner ha hb) (fun _ _ => ?_) | refine l_call (cmp_str _ _) (fun _ _ => ?_) | refine l_call0 (cmp_str _ _) (fun _ _ => ?_) | refine r_call (cmp_str _ _) (fun _ _ => ?_) | refine l_call (or3_ok _ _ _ _) (fun _ _ => ?_) | refine l_call0 (or3_ok _ _ _ _) (fun _ _ => ?_) | refine r_call (or3_ok _ _ _ _) (fun _ _ => ?_) | (refine l_split (fun hc => ?_) (fun hc => ?_) <;> (try simp at hc)) | (refine r_split (fun hc => ?_) (fun hc => ?_) <;> (try simp at hc)) | refine k_draw 7 [] [(0, 0), (1, 0), (2, 0), (3, 0), (5, 0), (6, 0), (7, 0), (8, 0), (10, 0), (11, 0), (12, 0), (13, 0), (4, 4), (9, 4), (14, 4), (15, 1), (16, 4), (17, 0)] [] ?_ | (refine k_cond (fun hc => ?_) (fun hc => ?_) <;> (try simp at hc)))
  · rw [if_pos hc] at hr; subst hr; exact k_ret () rfl trivial
  · rename_i h _ _
    rw [if_neg (by simp [h]), if_pos hc] at hr; subst hr; exact k_ret () rfl trivial
  · rename_i h _ _ _ _ _ _ _ _ _ _ _
    rw [if_neg (by simp_all), if_neg (by simp_all)] at hr
    have e : r = or0 [cmpI a.number a'.number, cmpI a.index a'.index, cmpS a.text a'.text] := by
      rw [← hr]
      simp only [or0]
      split
      · rfl
      · split
        · rfl
        · split
          · rfl
          · omega
    subst e
    exact k_ret () rfl trivial

/-- What the names of a kind use. -/
structure Usage where
  word : ByteArray
  owner : Bool
  number : Bool
  index : Bool
  text : Bool
  most : Int
  deriving Inhabited
def uf (u : Usage) : List Value := [.string u.word, .bool u.owner, .bool u.number, .bool u.index, .bool u.text, .int .i64 u.most]
def usages : List Usage := [
  ⟨⟨#[]⟩, false, false, false, false, 0⟩,
  ⟨⟨#[112, 114, 111, 99, 101, 115, 115]⟩, true, false, false, false, 0⟩,
  ⟨⟨#[114, 101, 103, 105, 115, 116, 101, 114, 115]⟩, true, false, false, false, 0⟩,
  ⟨⟨#[112, 97, 103, 101]⟩, true, false, true, false, 63⟩,
  ⟨⟨#[116, 97, 98, 108, 101]⟩, true, false, false, false, 0⟩,
  ⟨⟨#[99, 111, 117, 110, 116, 101, 114]⟩, true, false, false, false, 0⟩,
  ⟨⟨#[112, 101, 110, 100, 105, 110, 103]⟩, true, false, false, false, 0⟩,
  ⟨⟨#[110, 111, 100, 101]⟩, true, true, false, false, 0⟩,
  ⟨⟨#[98, 108, 111, 99, 107]⟩, true, true, true, false, 63⟩,
  ⟨⟨#[101, 110, 116, 114, 121]⟩, true, true, false, true, 0⟩,
  ⟨⟨#[108, 105, 115, 116, 105, 110, 103]⟩, true, true, false, false, 0⟩,
  ⟨⟨#[112, 105, 112, 101]⟩, true, true, false, false, 0⟩,
  ⟨⟨#[108, 111, 99, 107]⟩, true, true, false, false, 0⟩,
  ⟨⟨#[116, 101, 114, 109, 105, 110, 97, 108]⟩, false, true, false, false, 0⟩,
  ⟨⟨#[97, 99, 99, 111, 117, 110, 116]⟩, false, false, false, true, 0⟩,
  ⟨⟨#[99, 108, 111, 99, 107]⟩, false, false, false, false, 0⟩,
  ⟨⟨#[112, 111, 114, 116]⟩, false, true, false, false, 0⟩,
  ⟨⟨#[98, 111, 120]⟩, false, false, false, true, 0⟩,
  ⟨⟨#[111, 117, 116]⟩, true, true, true, false, 1073741824⟩,
  ⟨⟨#[115, 104, 101, 108, 108]⟩, true, false, false, false, 0⟩,
  ⟨⟨#[101, 112, 111, 99, 104]⟩, false, false, false, false, 0⟩]

/-- The table of the kinds, as it lies in memory. -/
def Usg : Pf := ⟨fun h => ∃ T fz, h 0 = some (.cells (usages.flatMap uf).toArray T fz), fun _ _ s ⟨T, fz, h⟩ => ⟨T, fz, s _ _ h⟩⟩

section
variable {n : Nat} {C : Cx} {Q : Exit → Act → World → Prop} {E E' : List (Nat × Value)} {F F0 : List Pf} {R : List HP} {k : List Fr} {ops l : List Oper}
  {d : Nat} {t ty0 : TypeId} {x y : Operand} {pos : String} {aft : Array Edge} {gd : Option (Nat × Bool)}
theorem run_indexArr {T sz m i b : Nat} {w : World} {rs tr : TRow} (hts : lookT tab t = some rs) (hrs : rs.k = .arr m T) (hT : lookT tab T = some tr) (hsz : tr.size = sz) {z : Int} (hz : z = (i : Int)) (hi : i < m) :
    (Instr.indexAt t (.pointer (some ⟨b, 0, none⟩)) (.int .i64 z)).run Tryz.prog w = .ok (.pointer (some ⟨b, i * sz, none⟩)) w := by
  obtain ⟨d1, hd1, hk1⟩ := tab_ok.und hts
  rw [hrs] at hk1
  have hu1 : (underlying t).run Tryz.prog w = .ok (.array m T) w := by
    cases d1 <;> simp [chkKind] at hk1
    obtain ⟨rfl, rfl⟩ := hk1
    simp [underlying, hd1, go_sem]
  have hs1 := tab_ok.sizeOf hT w
  rw [hsz] at hs1
  subst hz
  unfold Instr.indexAt
  simp only [asIntOf, Sem.run_bind, Sem.run_pure, Result.andThen, hu1, Instr.sureAddr]
  have hc : (0 : Int) ≤ (i : Int) ∧ (i : Int) < ((m : Nat) : Int) := ⟨by omega, by omega⟩
  rw [if_pos hc]
  simp only [Sem.run_bind, hs1, Result.andThen, Sem.run_pure, Int.toNat_natCast]
  rw [add_add rfl, Nat.zero_add]

theorem l_usg {m T : Nat} {z : Int} {rs tr : TRow} (i : Nat) (hlt : i < usages.length)
    (nx : ∀ T' o, o = i * 6 → Wl n C ops.toArray k Q l ((d, .pointer (some ⟨0, o, none⟩)) :: E) (Cel T' 0 o (uf usages[i]) :: F) R)
    (hw : wantL ops E ⟨some d, .indexAddr t x y, ty0, pos, aft, gd⟩ = some true := by rfl) (hn : Nat.blt d n = true := by rfl) (hx : ev E x = some (.pointer (some ⟨0, 0, none⟩)) := by rfl) (hy : ev E y = some (.int .i64 z) := by rfl)
    (hs : Sel Usg F F0 := by (repeat (first | exact Sel.here | apply Sel.there)); first | done | fail) (hts : lookT tab t = some rs := by rfl) (hrs : rs.k = .arr m T := by rfl) (hT : lookT tab T = some tr := by rfl) (hsz : tr.size = 6 := by rfl) (hm : m = usages.length := by rfl)
    (hz : z = (i : Int) := by first | rfl | omega) : Wl n C ops.toArray k Q (⟨some d, .indexAddr t x y, ty0, pos, aft, gd⟩ :: l) E F R :=
  wl_op (fun t ht => by cases ht; exact Nat.le_of_ble_eq_true hn) (fun c hc => by cases hc) hw fun a w ha hsat => by
    obtain ⟨hp, hr, st⟩ := hsat
    obtain ⟨T', fz, h1⟩ := st.f _ hs.mem
    have hr1 := run_indexArr (w := w) (b := 0) hts hrs hT hsz hz (by rw [hm]; exact hlt)
    unfold OpRes
    simp only [execOp, ha.ev (x := x) (by rw [evf_look]; exact hx), ha.ev (x := y) (by rw [evf_look]; exact hy), Sem.run_bind, Result.andThen, hr1, Sem.run_pure]
    have hc : (Cel T' 0 (i * 6) (uf usages[i])).p hp := by
      refine ⟨_, (T', fz), (usages.take i).flatMap uf, (usages.drop (i + 1)).flatMap uf, h1, ?_, ?_⟩
      · simpa using flat_split (f := uf) (List.getElem?_eq_getElem hlt)
      · rw [flat_len (sz := 6) (fun _ => rfl)]
        simp; omega
    exact fun a' ha' => nx T' _ rfl a' w ha' (add_fact st hc)
end

def isE (s : ByteArray) : Bool := s.toList == ByteArray.toList ⟨#[]⟩
theorem isE_eq (s : ByteArray) : isE s = decide (s = ⟨#[]⟩) := by
  unfold isE
  rw [toList_data, toList_data, Bool.eq_iff_iff]
  simp only [beq_iff_eq, decide_eq_true_eq]
  exact ⟨fun h => ba_ext h, fun h => by rw [h]⟩

/-- A text that a name may have. -/
def badc (c : UInt8) : Bool := decide ((c.toNat : Int) < 33) || (decide ((126 : Int) < c.toNat) || ((c.toNat : Int) == 47))
def oword (s : ByteArray) : Bool := !isE s && decide (s.size ≤ 32) && s.data.toList.all fun c => !badc c
def within (x m : Int) : Bool := decide (0 ≤ x) && decide (x ≤ m)

/-- What Check answers, by what the names of the kind use. -/
def uchk (u : Usage) (a : Nm) : Int :=
  if (!u.owner && !isE a.owner) || (!u.number && a.number != 0) || (!u.index && a.index != 0) || (!u.text && !isE a.text) then 1
  else if u.owner && !lvalid a.owner.data.toList then 12
  else if (u.number && !within a.number 1073741824) || (u.index && !within a.index u.most) then 2
  else if u.text && !oword a.text then 12
  else 0
def nchk (a : Nm) : Int := if 1 ≤ a.kind ∧ a.kind ≤ 20 then uchk (usages.getD a.kind.toNat default) a else 11

theorem word_ok (s : ByteArray) (hs : s.size ≤ 1099511627776) : Enters 184 ∧ Spec Tryz.prog 184 #[.string s] [] [] (RetV (.bool (oword s))) := by
  have hsz : s.data.toList.length = s.size := by simp
  generalize hr : oword s = r
  unfold oword at hr
  refine ⟨enters_of Tryz.func184 (by kernel_rfl) rfl, spec_of (vs := [_]) Tryz.func184 rfl Tryz.ntmps184 rfl fun G w hp => ?_⟩
  repeat' (first | refine l_run ?_ | refine l_nil ?_ | refine l_one ?_ | refine k_reg ?_ | refine l_ld ?_ | refine l_ldF ?_ | refine l_st ?_ | refine l_al (fun b => ?_) | refine l_bs (fun b => ?_) | refine k_condT ?_ | refine k_condF ?_ | refine k_brk ?_ | refine l_split (fun hc => ?_) (fun hc => ?_) | refine k_cond (fun hc => ?_) (fun hc => ?_))
  · have hc : isE s = true := hc
    rw [hc] at hr; simp at hr; subst hr
    exact k_ret () rfl trivial
  · rename_i h1
    have h1 : isE s = false := h1
    have h2 : ¬ s.size ≤ 32 := by simp at hc; omega
    rw [h1, decide_eq_false h2] at hr; simp at hr; subst hr
    exact k_ret () rfl trivial
  rename_i h1
  have h1 : isE s = false := h1
  have h2 : s.size ≤ 32 := by simp at hc; omega
  rw [h1, decide_eq_true h2] at hr; simp only [Bool.not_false, Bool.and_self, Bool.true_and] at hr
  refine k_lp (X := { i : Nat // i ≤ s.size ∧ ∀ j, j < i → ∀ c, s.data.toList[j]? = some c → badc c = false }) (fun i => [(0, .string s), (12, .int .i64 (s.size : Int)), (13, .int .i64 (i.1 : Int))]) (fun _ => []) (fun _ => []) (fun i => s.size - i.1) ⟨0, by omega, fun j hj => by omega⟩ ⟨rfl, rfl, rfl, trivial⟩ ?_
  rintro ⟨i, hi1, hi2⟩
  dsimp only
  by_cases hlt : i < s.data.toList.length
  · obtain ⟨c, hcc⟩ : ∃ c, s.data.toList[i]? = some c := ⟨_, List.getElem?_eq_getElem hlt⟩
    have bad : badc c = true → r = false := fun hb => by
      rw [← hr, List.all_eq_false]
      exact ⟨c, List.mem_of_getElem? hcc, by simp [hb]⟩
    repeat' (first | refine l_run ?_ | refine l_nil ?_ | refine l_one ?_ | refine k_reg ?_ | refine l_ld ?_ | refine l_ldF ?_ | refine l_st ?_ | refine l_al (fun b => ?_) | refine l_bs (fun b => ?_) | refine k_condT ?_ | refine k_condF ?_ | refine k_brk ?_ | refine l_six (s := s) i c hcc ?_ | (refine l_split (fun hc => ?_) (fun hc => ?_) <;> (try simp at hc) <;> (try omega)) | (refine k_cond (fun hc => ?_) (fun hc => ?_) <;> (try simp at hc) <;> (try omega)))
    all_goals try (
      have e := bad (by simp [badc]; omega)
      exact k_rt (w_lq (w_rv (congrArg Value.bool e) (w_ret () rfl trivial))))
    rw [wrapi (z := (i : Int) + 1) (by omega) (by omega)]
    refine k_next ⟨i + 1, by omega, fun j hj c' hc' => ?_⟩ (by show s.size - (i + 1) < s.size - i; omega) ⟨rfl, rfl, rfl, trivial⟩
    by_cases hij : j = i
    · subst hij
      obtain rfl := Option.some.inj (hcc.symm.trans hc')
      simp [badc]; omega
    · exact hi2 j (by omega) c' hc'
  · have e : r = true := by
      rw [← hr, List.all_eq_true]
      intro c hc
      obtain ⟨j, hj, rfl⟩ := List.mem_iff_getElem.1 hc
      rw [hi2 j (by omega) _ (List.getElem?_eq_getElem hj)]; rfl
    repeat' (first | refine l_run ?_ | refine l_nil ?_ | refine l_one ?_ | refine k_reg ?_ | refine l_ld ?_ | refine l_ldF ?_ | refine l_st ?_ | refine l_al (fun b => ?_) | refine l_bs (fun b => ?_) | refine k_condT ?_ | refine k_condF ?_ | refine k_brk ?_ | (refine l_split (fun hc => ?_) (fun hc => ?_) <;> (try simp at hc) <;> (try omega)) | (refine k_cond (fun hc => ?_) (fun hc => ?_) <;> (try simp at hc) <;> (try omega)))
    subst e
    exact k_ret () rfl trivial

end Go.Proofs.YtgaipgbgppdfeaaGreatDoor

set_option maxRecDepth 10000
set_option maxHeartbeats 4000000
namespace Go.Proofs.YtgaipgbgppdfeaaGreatDoor
open Go.RowKit

theorem klt {a : Nm} (hk : 1 ≤ a.kind ∧ a.kind ≤ 20) : a.kind.toNat < usages.length := by show a.kind.toNat < 21; omega

theorem chk_TFFF (a : Nm) (ha : a.owner.size ≤ 1099511627776) (ht : a.text.size ≤ 1099511627776) (hk : 1 ≤ a.kind ∧ a.kind ≤ 20) (uw : ByteArray) (um : Int) (hu : usages[a.kind.toNat]'(klt hk) = ⟨uw, true, false, false, false, um⟩) :
    Enters 112 ∧ Spec Tryz.prog 112 #[a.v] [Usg] [] (RetV (.int .i64 (uchk ⟨uw, true, false, false, false, um⟩ a))) := by
  have v1 := valid_ok a.owner ha
  have v2 := word_ok a.text ht
  have v3 := isKind_ok a.kind
  have e3 : (decide (1 ≤ a.kind) && decide (a.kind ≤ 20)) = true := by simp [hk]
  rw [e3] at v3
  generalize hr : uchk ⟨uw, true, false, false, false, um⟩ a = r
  unfold uchk at hr
  simp only [Bool.not_false, Bool.not_true, Bool.true_and, Bool.false_and, Bool.or_false, Bool.false_or] at hr
  refine ⟨enters_of Tryz.func112 (by kernel_rfl) rfl, spec_of (vs := [_]) Tryz.func112 rfl Tryz.ntmps112 rfl fun G w hp => ?_⟩
  repeat' (first | refine l_run ?_ | refine l_nil ?_ | refine l_one ?_ | refine k_reg ?_ | refine l_ld ?_ | refine l_ldF ?_ | refine l_st ?_ | refine l_al (fun b => ?_) | refine l_bs (fun b => ?_) | refine k_condT ?_ | refine k_condF ?_ | refine k_brk ?_ | refine l_call (v3) (fun _ _ => ?_) | refine l_call0 (v3) (fun _ _ => ?_) | refine l_split (fun hc => ?_) (fun hc => ?_))
  refine l_usg a.kind.toNat (klt hk) (fun T' o ho => ?_)
  rw [hu]
  repeat' (first | refine l_run ?_ | refine l_nil ?_ | refine l_one ?_ | refine k_reg ?_ | refine l_ld ?_ | refine l_ldF ?_ | refine l_st ?_ | refine l_al (fun b => ?_) | refine l_bs (fun b => ?_) | refine k_condT ?_ | refine k_condF ?_ | refine k_brk ?_ | refine l_call (v1) (fun _ _ => ?_) | refine l_call0 (v1) (fun _ _ => ?_) | refine l_call (v2) (fun _ _ => ?_) | refine l_call0 (v2) (fun _ _ => ?_) | refine l_call (within_ok _ _) (fun _ _ => ?_) | refine l_call0 (within_ok _ _) (fun _ _ => ?_) | refine l_ldC ?_ | refine l_split (fun hc => ?_) (fun hc => ?_) | refine k_cond (fun hc => ?_) (fun hc => ?_))
  all_goals (refine k_ret () ?_ trivial; rw [← hr]; clear hr v1 v2 v3 hu hk e3; simp only [cond_true, Bool.not_false] at *; simp_all [isE, resV, RetV])

theorem chk_TFTF (a : Nm) (ha : a.owner.size ≤ 1099511627776) (ht : a.text.size ≤ 1099511627776) (hk : 1 ≤ a.kind ∧ a.kind ≤ 20) (uw : ByteArray) (um : Int) (hu : usages[a.kind.toNat]'(klt hk) = ⟨uw, true, false, true, false, um⟩) :
    Enters 112 ∧ Spec Tryz.prog 112 #[a.v] [Usg] [] (RetV (.int .i64 (uchk ⟨uw, true, false, true, false, um⟩ a))) := by
  have v1 := valid_ok a.owner ha
  have v2 := word_ok a.text ht
  have v3 := isKind_ok a.kind
  have e3 : (decide (1 ≤ a.kind) && decide (a.kind ≤ 20)) = true := by simp [hk]
  rw [e3] at v3
  generalize hr : uchk ⟨uw, true, false, true, false, um⟩ a = r
  unfold uchk at hr
  simp only [Bool.not_false, Bool.not_true, Bool.true_and, Bool.false_and, Bool.or_false, Bool.false_or] at hr
  refine ⟨enters_of Tryz.func112 (by kernel_rfl) rfl, spec_of (vs := [_]) Tryz.func112 rfl Tryz.ntmps112 rfl fun G w hp => ?_⟩
  repeat' (first | refine l_run ?_ | refine l_nil ?_ | refine l_one ?_ | refine k_reg ?_ | refine l_ld ?_ | refine l_ldF ?_ | refine l_st ?_ | refine l_al (fun b => ?_) | refine l_bs (fun b => ?_) | refine k_condT ?_ | refine k_condF ?_ | refine k_brk ?_ | refine l_call (v3) (fun _ _ => ?_) | refine l_call0 (v3) (fun _ _ => ?_) | refine l_split (fun hc => ?_) (fun hc => ?_))
  refine l_usg a.kind.toNat (klt hk) (fun T' o ho => ?_)
  rw [hu]
  repeat' (first | refine l_run ?_ | refine l_nil ?_ | refine l_one ?_ | refine k_reg ?_ | refine l_ld ?_ | refine l_ldF ?_ | refine l_st ?_ | refine l_al (fun b => ?_) | refine l_bs (fun b => ?_) | refine k_condT ?_ | refine k_condF ?_ | refine k_brk ?_ | refine l_call (v1) (fun _ _ => ?_) | refine l_call0 (v1) (fun _ _ => ?_) | refine l_call (v2) (fun _ _ => ?_) | refine l_call0 (v2) (fun _ _ => ?_) | refine l_call (within_ok _ _) (fun _ _ => ?_) | refine l_call0 (within_ok _ _) (fun _ _ => ?_) | refine l_ldC ?_ | refine l_split (fun hc => ?_) (fun hc => ?_) | refine k_cond (fun hc => ?_) (fun hc => ?_))
  all_goals (refine k_ret () ?_ trivial; rw [← hr]; clear hr v1 v2 v3 hu hk e3; simp only [cond_true, Bool.not_false] at *; simp_all [isE, within, resV, RetV])

theorem chk_TTFF (a : Nm) (ha : a.owner.size ≤ 1099511627776) (ht : a.text.size ≤ 1099511627776) (hk : 1 ≤ a.kind ∧ a.kind ≤ 20) (uw : ByteArray) (um : Int) (hu : usages[a.kind.toNat]'(klt hk) = ⟨uw, true, true, false, false, um⟩) :
    Enters 112 ∧ Spec Tryz.prog 112 #[a.v] [Usg] [] (RetV (.int .i64 (uchk ⟨uw, true, true, false, false, um⟩ a))) := by
  have v1 := valid_ok a.owner ha
  have v2 := word_ok a.text ht
  have v3 := isKind_ok a.kind
  have e3 : (decide (1 ≤ a.kind) && decide (a.kind ≤ 20)) = true := by simp [hk]
  rw [e3] at v3
  generalize hr : uchk ⟨uw, true, true, false, false, um⟩ a = r
  unfold uchk at hr
  simp only [Bool.not_false, Bool.not_true, Bool.true_and, Bool.false_and, Bool.or_false, Bool.false_or] at hr
  refine ⟨enters_of Tryz.func112 (by kernel_rfl) rfl, spec_of (vs := [_]) Tryz.func112 rfl Tryz.ntmps112 rfl fun G w hp => ?_⟩
  repeat' (first | refine l_run ?_ | refine l_nil ?_ | refine l_one ?_ | refine k_reg ?_ | refine l_ld ?_ | refine l_ldF ?_ | refine l_st ?_ | refine l_al (fun b => ?_) | refine l_bs (fun b => ?_) | refine k_condT ?_ | refine k_condF ?_ | refine k_brk ?_ | refine l_call (v3) (fun _ _ => ?_) | refine l_call0 (v3) (fun _ _ => ?_) | refine l_split (fun hc => ?_) (fun hc => ?_))
  refine l_usg a.kind.toNat (klt hk) (fun T' o ho => ?_)
  rw [hu]
  repeat' (first | refine l_run ?_ | refine l_nil ?_ | refine l_one ?_ | refine k_reg ?_ | refine l_ld ?_ | refine l_ldF ?_ | refine l_st ?_ | refine l_al (fun b => ?_) | refine l_bs (fun b => ?_) | refine k_condT ?_ | refine k_condF ?_ | refine k_brk ?_ | refine l_call (v1) (fun _ _ => ?_) | refine l_call0 (v1) (fun _ _ => ?_) | refine l_call (v2) (fun _ _ => ?_) | refine l_call0 (v2) (fun _ _ => ?_) | refine l_call (within_ok _ _) (fun _ _ => ?_) | refine l_call0 (within_ok _ _) (fun _ _ => ?_) | refine l_ldC ?_ | refine l_split (fun hc => ?_) (fun hc => ?_) | refine k_cond (fun hc => ?_) (fun hc => ?_))
  all_goals (refine k_ret () ?_ trivial; rw [← hr]; clear hr v1 v2 v3 hu hk e3; simp only [cond_true, Bool.not_false] at *; simp_all [isE, within, resV, RetV])

theorem chk_TTTF (a : Nm) (ha : a.owner.size ≤ 1099511627776) (ht : a.text.size ≤ 1099511627776) (hk : 1 ≤ a.kind ∧ a.kind ≤ 20) (uw : ByteArray) (um : Int) (hu : usages[a.kind.toNat]'(klt hk) = ⟨uw, true, true, true, false, um⟩) :
    Enters 112 ∧ Spec Tryz.prog 112 #[a.v] [Usg] [] (RetV (.int .i64 (uchk ⟨uw, true, true, true, false, um⟩ a))) := by
  have v1 := valid_ok a.owner ha
  have v2 := word_ok a.text ht
  have v3 := isKind_ok a.kind
  have e3 : (decide (1 ≤ a.kind) && decide (a.kind ≤ 20)) = true := by simp [hk]
  rw [e3] at v3
  generalize hr : uchk ⟨uw, true, true, true, false, um⟩ a = r
  unfold uchk at hr
  simp only [Bool.not_false, Bool.not_true, Bool.true_and, Bool.false_and, Bool.or_false, Bool.false_or] at hr
  refine ⟨enters_of Tryz.func112 (by kernel_rfl) rfl, spec_of (vs := [_]) Tryz.func112 rfl Tryz.ntmps112 rfl fun G w hp => ?_⟩
  repeat' (first | refine l_run ?_ | refine l_nil ?_ | refine l_one ?_ | refine k_reg ?_ | refine l_ld ?_ | refine l_ldF ?_ | refine l_st ?_ | refine l_al (fun b => ?_) | refine l_bs (fun b => ?_) | refine k_condT ?_ | refine k_condF ?_ | refine k_brk ?_ | refine l_call (v3) (fun _ _ => ?_) | refine l_call0 (v3) (fun _ _ => ?_) | refine l_split (fun hc => ?_) (fun hc => ?_))
  refine l_usg a.kind.toNat (klt hk) (fun T' o ho => ?_)
  rw [hu]
  repeat' (first | refine l_run ?_ | refine l_nil ?_ | refine l_one ?_ | refine k_reg ?_ | refine l_ld ?_ | refine l_ldF ?_ | refine l_st ?_ | refine l_al (fun b => ?_) | refine l_bs (fun b => ?_) | refine k_condT ?_ | refine k_condF ?_ | refine k_brk ?_ | refine l_call (v1) (fun _ _ => ?_) | refine l_call0 (v1) (fun _ _ => ?_) | refine l_call (v2) (fun _ _ => ?_) | refine l_call0 (v2) (fun _ _ => ?_) | refine l_call (within_ok _ _) (fun _ _ => ?_) | refine l_call0 (within_ok _ _) (fun _ _ => ?_) | refine l_ldC ?_ | refine l_split (fun hc => ?_) (fun hc => ?_) | refine k_cond (fun hc => ?_) (fun hc => ?_))
  all_goals (refine k_ret () ?_ trivial; rw [← hr]; clear hr v1 v2 v3 hu hk e3; simp only [cond_true, Bool.not_false] at *; simp_all [isE, within, resV, RetV])

theorem chk_TTFT (a : Nm) (ha : a.owner.size ≤ 1099511627776) (ht : a.text.size ≤ 1099511627776) (hk : 1 ≤ a.kind ∧ a.kind ≤ 20) (uw : ByteArray) (um : Int) (hu : usages[a.kind.toNat]'(klt hk) = ⟨uw, true, true, false, true, um⟩) :
    Enters 112 ∧ Spec Tryz.prog 112 #[a.v] [Usg] [] (RetV (.int .i64 (uchk ⟨uw, true, true, false, true, um⟩ a))) := by
  have v1 := valid_ok a.owner ha
  have v2 := word_ok a.text ht
  have v3 := isKind_ok a.kind
  have e3 : (decide (1 ≤ a.kind) && decide (a.kind ≤ 20)) = true := by simp [hk]
  rw [e3] at v3
  generalize hr : uchk ⟨uw, true, true, false, true, um⟩ a = r
  unfold uchk at hr
  simp only [Bool.not_false, Bool.not_true, Bool.true_and, Bool.false_and, Bool.or_false, Bool.false_or] at hr
  refine ⟨enters_of Tryz.func112 (by kernel_rfl) rfl, spec_of (vs := [_]) Tryz.func112 rfl Tryz.ntmps112 rfl fun G w hp => ?_⟩
  repeat' (first | refine l_run ?_ | refine l_nil ?_ | refine l_one ?_ | refine k_reg ?_ | refine l_ld ?_ | refine l_ldF ?_ | refine l_st ?_ | refine l_al (fun b => ?_) | refine l_bs (fun b => ?_) | refine k_condT ?_ | refine k_condF ?_ | refine k_brk ?_ | refine l_call (v3) (fun _ _ => ?_) | refine l_call0 (v3) (fun _ _ => ?_) | refine l_split (fun hc => ?_) (fun hc => ?_))
  refine l_usg a.kind.toNat (klt hk) (fun T' o ho => ?_)
  rw [hu]
  repeat' (first | refine l_run ?_ | refine l_nil ?_ | refine l_one ?_ | refine k_reg ?_ | refine l_ld ?_ | refine l_ldF ?_ | refine l_st ?_ | refine l_al (fun b => ?_) | refine l_bs (fun b => ?_) | refine k_condT ?_ | refine k_condF ?_ | refine k_brk ?_ | refine l_call (v1) (fun _ _ => ?_) | refine l_call0 (v1) (fun _ _ => ?_) | refine l_call (v2) (fun _ _ => ?_) | refine l_call0 (v2) (fun _ _ => ?_) | refine l_call (within_ok _ _) (fun _ _ => ?_) | refine l_call0 (within_ok _ _) (fun _ _ => ?_) | refine l_ldC ?_ | refine l_split (fun hc => ?_) (fun hc => ?_) | refine k_cond (fun hc => ?_) (fun hc => ?_))
  all_goals (refine k_ret () ?_ trivial; rw [← hr]; clear hr v1 v2 v3 hu hk e3; simp only [cond_true, Bool.not_false] at *; simp_all [within, resV, RetV])

theorem chk_FTFF (a : Nm) (ha : a.owner.size ≤ 1099511627776) (ht : a.text.size ≤ 1099511627776) (hk : 1 ≤ a.kind ∧ a.kind ≤ 20) (uw : ByteArray) (um : Int) (hu : usages[a.kind.toNat]'(klt hk) = ⟨uw, false, true, false, false, um⟩) :
    Enters 112 ∧ Spec Tryz.prog 112 #[a.v] [Usg] [] (RetV (.int .i64 (uchk ⟨uw, false, true, false, false, um⟩ a))) := by
  have v1 := valid_ok a.owner ha
  have v2 := word_ok a.text ht
  have v3 := isKind_ok a.kind
  have e3 : (decide (1 ≤ a.kind) && decide (a.kind ≤ 20)) = true := by simp [hk]
  rw [e3] at v3
  generalize hr : uchk ⟨uw, false, true, false, false, um⟩ a = r
  unfold uchk at hr
  simp only [Bool.not_false, Bool.not_true, Bool.true_and, Bool.false_and, Bool.or_false] at hr
  refine ⟨enters_of Tryz.func112 (by kernel_rfl) rfl, spec_of (vs := [_]) Tryz.func112 rfl Tryz.ntmps112 rfl fun G w hp => ?_⟩
  repeat' (first | refine l_run ?_ | refine l_nil ?_ | refine l_one ?_ | refine k_reg ?_ | refine l_ld ?_ | refine l_ldF ?_ | refine l_st ?_ | refine l_al (fun b => ?_) | refine l_bs (fun b => ?_) | refine k_condT ?_ | refine k_condF ?_ | refine k_brk ?_ | refine l_call (v3) (fun _ _ => ?_) | refine l_call0 (v3) (fun _ _ => ?_) | refine l_split (fun hc => ?_) (fun hc => ?_))
  refine l_usg a.kind.toNat (klt hk) (fun T' o ho => ?_)
  rw [hu]
  repeat' (first | refine l_run ?_ | refine l_nil ?_ | refine l_one ?_ | refine k_reg ?_ | refine l_ld ?_ | refine l_ldF ?_ | refine l_st ?_ | refine l_al (fun b => ?_) | refine l_bs (fun b => ?_) | refine k_condT ?_ | refine k_condF ?_ | refine k_brk ?_ | refine l_call (v1) (fun _ _ => ?_) | refine l_call0 (v1) (fun _ _ => ?_) | refine l_call (v2) (fun _ _ => ?_) | refine l_call0 (v2) (fun _ _ => ?_) | refine l_call (within_ok _ _) (fun _ _ => ?_) | refine l_call0 (within_ok _ _) (fun _ _ => ?_) | refine l_ldC ?_ | refine l_split (fun hc => ?_) (fun hc => ?_) | refine k_cond (fun hc => ?_) (fun hc => ?_))
  all_goals (refine k_ret () ?_ trivial; rw [← hr]; clear hr v1 v2 v3 hu hk e3; simp only [cond_true, Bool.not_false] at *; simp_all [isE, within, resV, RetV])

theorem chk_FFFT (a : Nm) (ha : a.owner.size ≤ 1099511627776) (ht : a.text.size ≤ 1099511627776) (hk : 1 ≤ a.kind ∧ a.kind ≤ 20) (uw : ByteArray) (um : Int) (hu : usages[a.kind.toNat]'(klt hk) = ⟨uw, false, false, false, true, um⟩) :
    Enters 112 ∧ Spec Tryz.prog 112 #[a.v] [Usg] [] (RetV (.int .i64 (uchk ⟨uw, false, false, false, true, um⟩ a))) := by
  have v1 := valid_ok a.owner ha
  have v2 := word_ok a.text ht
  have v3 := isKind_ok a.kind
  have e3 : (decide (1 ≤ a.kind) && decide (a.kind ≤ 20)) = true := by simp [hk]
  rw [e3] at v3
  generalize hr : uchk ⟨uw, false, false, false, true, um⟩ a = r
  unfold uchk at hr
  simp only [Bool.not_false, Bool.not_true, Bool.true_and, Bool.false_and, Bool.or_false] at hr
  refine ⟨enters_of Tryz.func112 (by kernel_rfl) rfl, spec_of (vs := [_]) Tryz.func112 rfl Tryz.ntmps112 rfl fun G w hp => ?_⟩
  repeat' (first | refine l_run ?_ | refine l_nil ?_ | refine l_one ?_ | refine k_reg ?_ | refine l_ld ?_ | refine l_ldF ?_ | refine l_st ?_ | refine l_al (fun b => ?_) | refine l_bs (fun b => ?_) | refine k_condT ?_ | refine k_condF ?_ | refine k_brk ?_ | refine l_call (v3) (fun _ _ => ?_) | refine l_call0 (v3) (fun _ _ => ?_) | refine l_split (fun hc => ?_) (fun hc => ?_))
  refine l_usg a.kind.toNat (klt hk) (fun T' o ho => ?_)
  rw [hu]
  repeat' (first | refine l_run ?_ | refine l_nil ?_ | refine l_one ?_ | refine k_reg ?_ | refine l_ld ?_ | refine l_ldF ?_ | refine l_st ?_ | refine l_al (fun b => ?_) | refine l_bs (fun b => ?_) | refine k_condT ?_ | refine k_condF ?_ | refine k_brk ?_ | refine l_call (v1) (fun _ _ => ?_) | refine l_call0 (v1) (fun _ _ => ?_) | refine l_call (v2) (fun _ _ => ?_) | refine l_call0 (v2) (fun _ _ => ?_) | refine l_call (within_ok _ _) (fun _ _ => ?_) | refine l_call0 (within_ok _ _) (fun _ _ => ?_) | refine l_ldC ?_ | refine l_split (fun hc => ?_) (fun hc => ?_) | refine k_cond (fun hc => ?_) (fun hc => ?_))
  all_goals (refine k_ret () ?_ trivial; rw [← hr]; clear hr v1 v2 v3 hu hk e3; simp only [cond_true, Bool.not_false] at *; simp_all [isE, resV, RetV])

theorem chk_FFFF (a : Nm) (ha : a.owner.size ≤ 1099511627776) (ht : a.text.size ≤ 1099511627776) (hk : 1 ≤ a.kind ∧ a.kind ≤ 20) (uw : ByteArray) (um : Int) (hu : usages[a.kind.toNat]'(klt hk) = ⟨uw, false, false, false, false, um⟩) :
    Enters 112 ∧ Spec Tryz.prog 112 #[a.v] [Usg] [] (RetV (.int .i64 (uchk ⟨uw, false, false, false, false, um⟩ a))) := by
  have v1 := valid_ok a.owner ha
  have v2 := word_ok a.text ht
  have v3 := isKind_ok a.kind
  have e3 : (decide (1 ≤ a.kind) && decide (a.kind ≤ 20)) = true := by simp [hk]
  rw [e3] at v3
  generalize hr : uchk ⟨uw, false, false, false, false, um⟩ a = r
  unfold uchk at hr
  simp only [Bool.not_false, Bool.true_and, Bool.false_and, Bool.or_false] at hr
  refine ⟨enters_of Tryz.func112 (by kernel_rfl) rfl, spec_of (vs := [_]) Tryz.func112 rfl Tryz.ntmps112 rfl fun G w hp => ?_⟩
  repeat' (first | refine l_run ?_ | refine l_nil ?_ | refine l_one ?_ | refine k_reg ?_ | refine l_ld ?_ | refine l_ldF ?_ | refine l_st ?_ | refine l_al (fun b => ?_) | refine l_bs (fun b => ?_) | refine k_condT ?_ | refine k_condF ?_ | refine k_brk ?_ | refine l_call (v3) (fun _ _ => ?_) | refine l_call0 (v3) (fun _ _ => ?_) | refine l_split (fun hc => ?_) (fun hc => ?_))
  refine l_usg a.kind.toNat (klt hk) (fun T' o ho => ?_)
  rw [hu]
  repeat' (first | refine l_run ?_ | refine l_nil ?_ | refine l_one ?_ | refine k_reg ?_ | refine l_ld ?_ | refine l_ldF ?_ | refine l_st ?_ | refine l_al (fun b => ?_) | refine l_bs (fun b => ?_) | refine k_condT ?_ | refine k_condF ?_ | refine k_brk ?_ | refine l_call (v1) (fun _ _ => ?_) | refine l_call0 (v1) (fun _ _ => ?_) | refine l_call (v2) (fun _ _ => ?_) | refine l_call0 (v2) (fun _ _ => ?_) | refine l_call (within_ok _ _) (fun _ _ => ?_) | refine l_call0 (within_ok _ _) (fun _ _ => ?_) | refine l_ldC ?_ | refine l_split (fun hc => ?_) (fun hc => ?_) | refine k_cond (fun hc => ?_) (fun hc => ?_))
  all_goals (refine k_ret () ?_ trivial; rw [← hr]; clear hr v1 v2 v3 hu hk e3; simp only [cond_true, Bool.not_false] at *; simp_all [isE, resV, RetV])

def okf (u : Usage) : Bool := (u.owner || !u.index) && (u.owner || !(u.number && u.text)) && !(u.index && u.text) && (!(u.owner && u.text) || u.number)
theorem okf_all : usages.all okf = true := by decide

theorem nameCheck_ok (a : Nm) (ha : a.owner.size ≤ 1099511627776) (ht : a.text.size ≤ 1099511627776) : Enters 112 ∧ Spec Tryz.prog 112 #[a.v] [Usg] [] (RetV (.int .i64 (nchk a))) := by
  by_cases hk : 1 ≤ a.kind ∧ a.kind ≤ 20
  · have hn : nchk a = uchk (usages[a.kind.toNat]'(klt hk)) a := by
      rw [nchk, if_pos hk, List.getD_eq_getElem?_getD, List.getElem?_eq_getElem (klt hk), Option.getD_some]
    rw [hn]
    have hu : okf (usages[a.kind.toNat]'(klt hk)) = true := List.all_eq_true.1 okf_all _ (List.getElem_mem (klt hk))
    generalize hus : usages[a.kind.toNat]'(klt hk) = u at *
    obtain ⟨uw, uo, un, ui, ut, um⟩ := u
    cases uo <;> cases un <;> cases ui <;> cases ut
    all_goals first
      | (simp [okf] at hu; done)
      | exact chk_TFFF a ha ht hk _ _ hus
      | exact chk_TFTF a ha ht hk _ _ hus
      | exact chk_TTFF a ha ht hk _ _ hus
      | exact chk_TTTF a ha ht hk _ _ hus
      | exact chk_TTFT a ha ht hk _ _ hus
      | exact chk_FTFF a ha ht hk _ _ hus
      | exact chk_FFFT a ha ht hk _ _ hus
      | exact chk_FFFF a ha ht hk _ _ hus
  · have hn : nchk a = 11 := by rw [nchk, if_neg hk]
    rw [hn]
    have v3 := isKind_ok a.kind
    have e3 : (decide (1 ≤ a.kind) && decide (a.kind ≤ 20)) = false := by simp; omega
    rw [e3] at v3
    refine ⟨enters_of Tryz.func112 (by kernel_rfl) rfl, spec_of (vs := [_]) Tryz.func112 rfl Tryz.ntmps112 rfl fun G w hp => ?_⟩
    repeat' (first | refine l_run ?_ | refine l_nil ?_ | refine l_one ?_ | refine k_reg ?_ | refine l_ld ?_ | refine l_ldF ?_ | refine l_st ?_ | refine l_al (fun b => ?_) | refine l_bs (fun b => ?_) | refine k_condT ?_ | refine k_condF ?_ | refine k_brk ?_ | refine l_call (v3) (fun _ _ => ?_) | refine l_call0 (v3) (fun _ _ => ?_) | refine l_split (fun hc => ?_) (fun hc => ?_) | refine k_cond (fun hc => ?_) (fun hc => ?_))
    exact k_ret () rfl trivial
end Go.Proofs.YtgaipgbgppdfeaaGreatDoor

set_option maxRecDepth 10000
namespace Go.Proofs.YtgaipgbgppdfeaaGreatDoor
open Go.RowKit

section
variable {n : Nat} {C : Cx} {Q : Exit → Act → World → Prop} {E E' : List (Nat × Value)} {F F1 : List Pf} {R R0 : List HP} {k : List Fr} {ops l : List Oper}
/-- A fact that follows from others. -/
theorem k_mk {f : Pf} (h : ∀ hp, (∀ x ∈ F1, x.p hp) → f.p hp) (t : Wk n C k Q E (f :: F) R) (hF : EntF F F1 := by (repeat (first | exact trivial | exact Sel.here | apply Sel.there | apply EntF.cons)); first | done | fail) : Wk n C k Q E F R :=
  fun a w ha ⟨hp, _, st⟩ => t a w ha (add_fact st (h hp (hF.all hp st.f)))
end

/-- The cells of a node. -/
abbrev ndc (pl pr : Option Addr) (a : Nm) (v : ByteArray) (h s b : Int) : Obj := .cells #[.pointer pl, .pointer pr, .int .i64 a.kind, .string a.owner, .int .i64 a.number, .int .i64 a.index, .string a.text, .string v, .int .i64 h, .int .i64 s, .int .i64 b] 243

def TrP : Option Addr → Tr → H → Prop
  | p, .nil, _ => p = none
  | p, .node l a v r, h => ∃ b pl pr, p = some ⟨b, 0, none⟩ ∧ h b = some (ndc pl pr a v (Tr.node l a v r).ht (Tr.node l a v r).sz (Tr.node l a v r).by_) ∧ TrP pl l h ∧ TrP pr r h
theorem trP_mono : ∀ (t : Tr) (p : Option Addr) (h k : H), Sub h k → TrP p t h → TrP p t k
  | .nil, _, _, _, _, hh => hh
  | .node l _ _ r, _, h, k, s, ⟨b, pl, pr, h1, h2, h3, h4⟩ => ⟨b, pl, pr, h1, s _ _ h2, trP_mono l pl h k s h3, trP_mono r pr h k s h4⟩
/-- A tree in memory. -/
def TrF (p : Option Addr) (t : Tr) : Pf := ⟨TrP p t, trP_mono t p⟩
/-- A node with a name and a value. -/
def Nd (p : Option Addr) (a : Nm) (v : ByteArray) : Pf := ⟨fun h => ∃ b pl pr x y z, p = some ⟨b, 0, none⟩ ∧ h b = some (ndc pl pr a v x y z), fun _ _ s ⟨b, pl, pr, x, y, z, h1, h2⟩ => ⟨b, pl, pr, x, y, z, h1, s _ _ h2⟩⟩



theorem nd_of {p : Option Addr} {l r : Tr} {a : Nm} {v : ByteArray} {h : H} (hh : TrP p (.node l a v r) h) : (Nd p a v).p h :=
  let ⟨b, pl, pr, h1, h2, _, _⟩ := hh
  ⟨b, pl, pr, _, _, _, h1, h2⟩

section
variable {n : Nat} {C : Cx} {Q : Exit → Act → World → Prop} {E E' : List (Nat × Value)} {F F0 : List Pf} {R R0 : List HP} {k : List Fr} {ops l : List Oper}
/-- A node of a tree is opened. -/
theorem k_tr {p : Option Addr} {l r : Tr} {a : Nm} {v : ByteArray} (t : ∀ b pl pr, p = some ⟨b, 0, none⟩ → Wk n C k Q E (Blk b (ndc pl pr a v (Tr.node l a v r).ht (Tr.node l a v r).sz (Tr.node l a v r).by_) :: Nd p a v :: TrF pl l :: TrF pr r :: F) R) (hs : Sel (TrF p (.node l a v r)) F F0 := by (repeat (first | exact Sel.here | apply Sel.there)); first | done | fail) : Wk n C k Q E F R := by
  refine k_fact (X := Nat × Option Addr × Option Addr) (Fx := fun x => [Blk x.1 (ndc x.2.1 x.2.2 a v (Tr.node l a v r).ht (Tr.node l a v r).sz (Tr.node l a v r).by_), Nd p a v, TrF x.2.1 l, TrF x.2.2 r]) (p := fun x => p = some ⟨x.1, 0, none⟩) (f := TrF p (.node l a v r)) hs (fun h hh => ?_) (fun x hp => t x.1 x.2.1 x.2.2 hp)
  have hn := nd_of hh
  obtain ⟨b, pl, pr, h1, h2, h3, h4⟩ := hh
  refine ⟨(b, pl, pr), h1, fun f hf => ?_⟩
  simp only [List.mem_cons, List.not_mem_nil, or_false] at hf
  rcases hf with rfl | rfl | rfl | rfl
  · exact h2
  · exact hn
  · exact h3
  · exact h4
theorem k_trn {p : Option Addr} (t : p = none → Wk n C k Q E F R) (hs : Sel (TrF p .nil) F F0 := by (repeat (first | exact Sel.here | apply Sel.there)); first | done | fail) : Wk n C k Q E F R :=
  k_fact (X := Unit) (Fx := fun _ => []) (p := fun _ => p = none) (f := TrF p .nil) hs (fun h hh => ⟨(), hh, fun _ hx => by cases hx⟩) (fun _ hp => t hp)
end

end Go.Proofs.YtgaipgbgppdfeaaGreatDoor

set_option maxRecDepth 10000
namespace Go.Proofs.YtgaipgbgppdfeaaGreatDoor
open Go.RowKit


/-- A tree whose numbers are not too great. -/
structure Okt (t : Tr) : Prop where
  s : t.sz ≤ 1000000
  b : t.by_ ≤ 1000000000000
  o : ∀ x ∈ t.els, x.1.owner.size ≤ 1099511627770
theorem Okt.l {l r : Tr} {b : Nm} {u : ByteArray} (h : Okt (.node l b u r)) : Okt l := by
  have h1 := h.s
  have h2 := h.b
  simp only [Tr.sz] at h1
  simp only [Tr.by_] at h2
  exact ⟨by omega, by omega, fun x hx => h.o x (by simp [Tr.els, hx])⟩
theorem Okt.r {l r : Tr} {b : Nm} {u : ByteArray} (h : Okt (.node l b u r)) : Okt r := by
  have h1 := h.s
  have h2 := h.b
  simp only [Tr.sz] at h1
  simp only [Tr.by_] at h2
  exact ⟨by omega, by omega, fun x hx => h.o x (by simp [Tr.els, hx])⟩
theorem Okt.m {l r : Tr} {b : Nm} {u : ByteArray} (h : Okt (.node l b u r)) : b.owner.size ≤ 1099511627770 := h.o (b, u) (by simp [Tr.els])

section
variable {n : Nat} {C : Cx} {Q : Exit → Act → World → Prop} {E E' : List (Nat × Value)} {F F0 : List Pf} {R R0 : List HP} {k : List Fr}
theorem l_nd {ops l : List Oper} {p : Option Addr} {a : Nm} {v : ByteArray} (t : ∀ b pl pr x y z, p = some ⟨b, 0, none⟩ → Wl n C ops.toArray k Q l E (Blk b (ndc pl pr a v x y z) :: F) R) (hs : Sel (Nd p a v) F F0 := by (repeat (first | exact Sel.here | apply Sel.there)); first | done | fail) : Wl n C ops.toArray k Q l E F R :=
  l_fact (X := Nat × Option Addr × Option Addr × Int × Int × Int) (Fx := fun x => [Blk x.1 (ndc x.2.1 x.2.2.1 a v x.2.2.2.1 x.2.2.2.2.1 x.2.2.2.2.2)]) (p := fun x => p = some ⟨x.1, 0, none⟩) (f := Nd p a v) hs (fun h ⟨b, pl, pr, x, y, z, h1, h2⟩ => ⟨(b, pl, pr, x, y, z), h1, fun f hf => by simp at hf; subst hf; exact h2⟩) (fun x hp => t x.1 x.2.1 x.2.2.1 x.2.2.2.1 x.2.2.2.2.1 x.2.2.2.2.2 hp)
end

def PtrPost (t : Tr) : Post := ⟨Nat, fun b => .pointer (some ⟨b, 0, none⟩), fun _ => True, fun b => [TrF (some ⟨b, 0, none⟩) t], fun _ => []⟩


/-- What find hands back. -/
def FdF (q : Option Addr) (r : Option ByteArray) : Pf :=
  match r with
  | none => ⟨fun _ => q = none, fun _ _ _ h => h⟩
  | some v => ⟨fun h => ∃ a, (Nd q a v).p h, fun _ _ s ⟨a, h⟩ => ⟨a, (Nd q a v).m _ _ s h⟩⟩

structure FX (a : Nm) (t : Tr) where
  q : Option Addr
  s : Tr
  h1 : Tr.find a t = Tr.find a s
  h2 : Okt s

set_option maxHeartbeats 1000000 in
theorem find_ok (a : Nm) (ha : a.owner.size ≤ 1099511627770) (t : Tr) (p : Option Addr) (ht : Okt t) : Enters 143 ∧ Spec Tryz.prog 143 #[.pointer p, a.v] [TrF p t] [] ⟨Option Addr, fun q => .pointer q, fun _ => True, fun q => [FdF q (Tr.find a t)], fun _ => []⟩ := by
  refine ⟨enters_of Tryz.func143 (by kernel_rfl) rfl, spec_of (vs := [_, _]) Tryz.func143 rfl Tryz.ntmps143 rfl fun G w hp => ?_⟩
  repeat' (first | refine l_run ?_ | refine l_nil ?_ | refine l_one ?_ | refine k_reg ?_ | refine l_ld ?_ | refine l_ldF ?_ | refine l_st ?_ | refine l_al (fun b => ?_) | refine l_bs (fun b => ?_) | refine k_condT ?_ | refine k_condF ?_ | refine k_brk ?_ | refine r_run ?_ | refine r_one ?_ | refine r_ld ?_ | refine r_ldF ?_ | refine r_ldN ?_ | refine r_al (fun b => ?_) | refine r_bs (fun b => ?_) | refine r_st ?_ | refine r_end ?_ | refine l_split (fun hc => ?_) (fun hc => ?_) | refine r_split (fun hc => ?_) (fun hc => ?_) | refine k_draw 2 [] [(0, 0), (1, 0), (2, 0), (3, 0), (4, 0), (5, 4), (6, 0)] [] ?_ | refine k_cond (fun hc => ?_) (fun hc => ?_))
  refine k_lp (X := FX a t) (fun x => [(0, .pointer x.q), (3, .pointer (some ⟨b, 0, none⟩))]) (fun x => [TrF x.q x.s]) (fun _ => [Pt b (.cells #[.int .i64 a.kind, .string a.owner, .int .i64 a.number, .int .i64 a.index, .string a.text] 69)]) (fun x => x.s.sz) ⟨p, t, rfl, ht⟩ ⟨rfl, rfl, trivial⟩ ?_
  rintro ⟨q, s, h1, h2⟩
  dsimp only
  cases s with
  | nil =>
    refine k_trn fun hp => ?_
    subst hp
    rw [Tr.find] at h1
    repeat' (first | refine l_run ?_ | refine l_nil ?_ | refine l_one ?_ | refine k_reg ?_ | refine l_ld ?_ | refine l_ldF ?_ | refine l_st ?_ | refine l_al (fun b => ?_) | refine l_bs (fun b => ?_) | refine k_condT ?_ | refine k_condF ?_ | refine k_brk ?_ | refine r_run ?_ | refine r_one ?_ | refine r_ld ?_ | refine r_ldF ?_ | refine r_ldN ?_ | refine r_al (fun b => ?_) | refine r_bs (fun b => ?_) | refine r_st ?_ | refine r_end ?_ | refine l_split (fun hc => ?_) (fun hc => ?_) | refine r_split (fun hc => ?_) (fun hc => ?_) | refine k_draw 2 [] [(0, 0), (1, 0), (2, 0), (3, 0), (4, 0), (5, 4), (6, 0)] [] ?_ | refine k_cond (fun hc => ?_) (fun hc => ?_))
    rw [h1]
    refine k_mk (F1 := []) (f := FdF none none) (fun _ _ => rfl) ?_
    exact k_ret none rfl trivial
  | node l c u r =>
    refine k_tr (p := q) (l := l) (r := r) (a := c) (v := u) (fun bb pl pr hp => ?_)
    subst hp
    rw [Tr.find] at h1
    repeat' (first | refine l_run ?_ | refine l_nil ?_ | refine l_one ?_ | refine k_reg ?_ | refine l_ld ?_ | refine l_ldF ?_ | refine l_st ?_ | refine l_al (fun b => ?_) | refine l_bs (fun b => ?_) | refine k_condT ?_ | refine k_condF ?_ | refine k_brk ?_ | refine r_run ?_ | refine r_one ?_ | refine r_ld ?_ | refine r_ldF ?_ | refine r_ldN ?_ | refine r_al (fun b => ?_) | refine r_bs (fun b => ?_) | refine r_st ?_ | refine r_end ?_ | refine l_call (compareO_ok a c ha h2.m) (fun _ _ => ?_) | refine l_call0 (compareO_ok a c ha h2.m) (fun _ _ => ?_) | refine r_call (compareO_ok a c ha h2.m) (fun _ _ => ?_) | (refine l_split (fun hc => ?_) (fun hc => ?_) <;> (try simp at hc)) | (refine r_split (fun hc => ?_) (fun hc => ?_) <;> (try simp at hc)) | refine k_draw 2 [] [(0, 0), (1, 0), (2, 0), (3, 0), (4, 0), (5, 4), (6, 0)] [] ?_ | (refine k_cond (fun hc => ?_) (fun hc => ?_) <;> (try simp at hc)))
    · rw [if_pos hc] at h1
      refine k_mk (F1 := [Nd (some ⟨bb, 0, none⟩) c u]) (f := FdF (some ⟨bb, 0, none⟩) (Tr.find a t)) (fun hp hF => by rw [h1]; exact ⟨c, hF _ (by simp)⟩) ?_
      exact k_rt (w_lq (w_ret (some ⟨bb, 0, none⟩) rfl trivial))
    · rw [if_neg (by omega), if_pos hc] at h1
      exact k_next ⟨pl, l, h1, h2.l⟩ (by simp only [Tr.sz]; omega) ⟨rfl, rfl, trivial⟩
    · rw [if_neg (by omega), if_neg (by omega)] at h1
      exact k_next ⟨pr, r, h1, h2.r⟩ (by simp only [Tr.sz]; omega) ⟨rfl, rfl, trivial⟩

/-- A state in memory: its tree. -/
def StF (ps : Option Addr) (t : Tr) : Pf := ⟨fun h => ∃ b p, ps = some ⟨b, 0, none⟩ ∧ h b = some (.cells #[.pointer p] 170) ∧ TrP p t h, fun h k s ⟨b, p, h1, h2, h3⟩ => ⟨b, p, h1, s _ _ h2, trP_mono t p h k s h3⟩⟩

structure StOK (es : Al) : Prop where
  srt : Srt es
  len : es.length ≤ 65536
  own : ∀ x ∈ es, x.1.owner.size ≤ 1099511627770
  val : ∀ x ∈ es, x.2.size ≤ 65536
/-- A state in memory: its names and values, in order. -/
def St (ps : Option Addr) (es : Al) : Pf := ⟨fun h => ∃ t : Tr, t.els = es ∧ StOK es ∧ (StF ps t).p h, fun _ _ s ⟨t, h1, h2, h3⟩ => ⟨t, h1, h2, (StF ps t).m _ _ s h3⟩⟩

theorem ab_le {m : Nat} : ∀ {l : Al}, (∀ x ∈ l, x.2.size ≤ m) → Tr.ab l ≤ l.length * m
  | [], _ => by simp [Tr.ab]
  | x :: l, h => by
    have h1 := ab_le (l := l) fun y hy => h y (List.mem_cons_of_mem _ hy)
    have h2 := h x (by simp)
    simp only [Tr.ab, List.map_cons, List.sum_cons, List.length_cons] at h1 ⊢
    rw [Nat.succ_mul]; omega
theorem StOK.okt {t : Tr} (h : StOK t.els) : Okt t := by
  have h1 := ab_le h.val
  have h2 := h.len
  refine ⟨by rw [Tr.sz_els]; omega, ?_, h.own⟩
  rw [Tr.by_els]
  have : t.els.length * 65536 ≤ 65536 * 65536 := Nat.mul_le_mul_right _ h2
  omega

section
variable {n : Nat} {C : Cx} {Q : Exit → Act → World → Prop} {E E' : List (Nat × Value)} {F F0 : List Pf} {R R0 : List HP} {k : List Fr}
theorem k_st {ps : Option Addr} {es : Al} (t : ∀ b p (t : Tr), ps = some ⟨b, 0, none⟩ → t.els = es → StOK es → Wk n C k Q E (Blk b (.cells #[.pointer p] 170) :: TrF p t :: F) R) (hs : Sel (St ps es) F F0 := by (repeat (first | exact Sel.here | apply Sel.there)); first | done | fail) : Wk n C k Q E F R :=
  k_fact (X := Nat × Option Addr × Tr) (Fx := fun x => [Blk x.1 (.cells #[.pointer x.2.1] 170), TrF x.2.1 x.2.2]) (p := fun x => ps = some ⟨x.1, 0, none⟩ ∧ x.2.2.els = es ∧ StOK es) (f := St ps es) hs
    (fun h ⟨t, h1, h2, b, p, h3, h4, h5⟩ => ⟨(b, p, t), ⟨h3, h1, h2⟩, fun f hf => by
      simp only [List.mem_cons, List.not_mem_nil, or_false] at hf
      rcases hf with rfl | rfl
      · exact h4
      · exact h5⟩) (fun x hp => t x.1 x.2.1 x.2.2 hp.1 hp.2.1 hp.2.2)
end

theorem stateNew_ok : Enters 36 ∧ Spec Tryz.prog 36 #[] [] [] ⟨Nat, fun b => .pointer (some ⟨b, 0, none⟩), fun _ => True, fun b => [St (some ⟨b, 0, none⟩) []], fun _ => []⟩ := by
  refine ⟨enters_of Tryz.func36 (by kernel_rfl) rfl, spec_of (vs := []) Tryz.func36 rfl Tryz.ntmps36 rfl fun G w hp => ?_⟩
  repeat' (first | refine l_run ?_ | refine l_nil ?_ | refine l_one ?_ | refine k_reg ?_ | refine l_ld ?_ | refine l_ldF ?_ | refine l_st ?_ | refine l_al (fun b => ?_) | refine l_bs (fun b => ?_) | refine k_condT ?_ | refine k_condF ?_ | refine k_brk ?_ | refine l_split (fun hc => ?_) (fun hc => ?_) | refine k_cond (fun hc => ?_) (fun hc => ?_))
  refine k_fz ?_
  refine k_mk (F1 := [Blk b (.cells #[.pointer none] 170)]) (f := St (some ⟨b, 0, none⟩) []) (fun hp hF => ⟨.nil, rfl, ⟨List.Pairwise.nil, by simp, by simp, by simp⟩, b, none, rfl, hF (Blk b (.cells #[.pointer none] 170)) (by simp), rfl⟩) ?_
  exact k_ret b rfl trivial


theorem stateGet_ok (ps : Option Addr) (es : Al) (a : Nm) (ha : a.owner.size ≤ 1099511627770) : Enters 116 ∧ Spec Tryz.prog 116 #[.pointer ps, a.v] [St ps es] [] (RetV (.tuple #[.string ((getO a es).getD ⟨#[]⟩), .bool (getO a es).isSome])) := by
  refine ⟨enters_of Tryz.func116 (by kernel_rfl) rfl, spec_of (vs := [_, _]) Tryz.func116 rfl Tryz.ntmps116 rfl fun G w hp => ?_⟩
  refine k_st (ps := ps) (es := es) (fun b p t hp he hok => ?_)
  subst hp
  subst he
  rw [← find_els a t hok.srt]
  have hf := find_ok a ha t p hok.okt
  cases hfd : Tr.find a t with
  | none =>
    rw [hfd] at hf
    repeat' (first | refine l_run ?_ | refine l_nil ?_ | refine l_one ?_ | refine k_reg ?_ | refine l_ld ?_ | refine l_ldF ?_ | refine l_st ?_ | refine l_al (fun b => ?_) | refine l_bs (fun b => ?_) | refine k_condT ?_ | refine k_condF ?_ | refine k_brk ?_ | refine r_run ?_ | refine r_one ?_ | refine r_ld ?_ | refine r_ldF ?_ | refine r_ldN ?_ | refine r_al (fun b => ?_) | refine r_bs (fun b => ?_) | refine r_st ?_ | refine r_end ?_ | refine l_call (hf) (fun _ _ => ?_) | refine l_call0 (hf) (fun _ _ => ?_) | refine r_call (hf) (fun _ _ => ?_) | refine l_split (fun hc => ?_) (fun hc => ?_) | refine r_split (fun hc => ?_) (fun hc => ?_) | refine k_draw 3 [] [(0, 0), (1, 0), (2, 0), (3, 0), (4, 0), (5, 4), (6, 0)] [] ?_)
    rename_i q _
    refine l_fact (X := Unit) (Fx := fun _ => []) (p := fun _ => q = none) (f := FdF q none) .here (fun h hh => ⟨(), hh, fun _ hx => by cases hx⟩) (fun _ hp => ?_)
    subst hp
    repeat' (first | refine l_run ?_ | refine l_nil ?_ | refine l_one ?_ | refine k_reg ?_ | refine l_ld ?_ | refine l_ldF ?_ | refine l_st ?_ | refine l_al (fun b => ?_) | refine l_bs (fun b => ?_) | refine k_condT ?_ | refine k_condF ?_ | refine k_brk ?_ | refine r_run ?_ | refine r_one ?_ | refine r_ld ?_ | refine r_ldF ?_ | refine r_ldN ?_ | refine r_al (fun b => ?_) | refine r_bs (fun b => ?_) | refine r_st ?_ | refine r_end ?_ | refine l_split (fun hc => ?_) (fun hc => ?_) | refine r_split (fun hc => ?_) (fun hc => ?_) | refine k_draw 3 [] [(0, 0), (1, 0), (2, 0), (3, 0), (4, 0), (5, 4), (6, 0)] [] ?_ | refine k_cond (fun hc => ?_) (fun hc => ?_))
    exact k_ret () rfl trivial
  | some v =>
    rw [hfd] at hf
    repeat' (first | refine l_run ?_ | refine l_nil ?_ | refine l_one ?_ | refine k_reg ?_ | refine l_ld ?_ | refine l_ldF ?_ | refine l_st ?_ | refine l_al (fun b => ?_) | refine l_bs (fun b => ?_) | refine k_condT ?_ | refine k_condF ?_ | refine k_brk ?_ | refine r_run ?_ | refine r_one ?_ | refine r_ld ?_ | refine r_ldF ?_ | refine r_ldN ?_ | refine r_al (fun b => ?_) | refine r_bs (fun b => ?_) | refine r_st ?_ | refine r_end ?_ | refine l_call (hf) (fun _ _ => ?_) | refine l_call0 (hf) (fun _ _ => ?_) | refine r_call (hf) (fun _ _ => ?_) | refine l_split (fun hc => ?_) (fun hc => ?_) | refine r_split (fun hc => ?_) (fun hc => ?_) | refine k_draw 3 [] [(0, 0), (1, 0), (2, 0), (3, 0), (4, 0), (5, 4), (6, 0)] [] ?_)
    rename_i q _
    refine l_fact (X := Nm) (Fx := fun a => [Nd q a v]) (p := fun _ => True) (f := FdF q (some v)) .here (fun h ⟨a, hh⟩ => ⟨a, trivial, fun f hf => by simp at hf; subst hf; exact hh⟩) (fun a' _ => ?_)
    refine l_nd (p := q) (a := a') (v := v) (fun bm pl' pr' x y z hp => ?_)
    subst hp
    repeat' (first | refine l_run ?_ | refine l_nil ?_ | refine l_one ?_ | refine k_reg ?_ | refine l_ld ?_ | refine l_ldF ?_ | refine l_st ?_ | refine l_al (fun b => ?_) | refine l_bs (fun b => ?_) | refine k_condT ?_ | refine k_condF ?_ | refine k_brk ?_ | refine r_run ?_ | refine r_one ?_ | refine r_ld ?_ | refine r_ldF ?_ | refine r_ldN ?_ | refine r_al (fun b => ?_) | refine r_bs (fun b => ?_) | refine r_st ?_ | refine r_end ?_ | refine l_split (fun hc => ?_) (fun hc => ?_) | refine r_split (fun hc => ?_) (fun hc => ?_) | refine k_draw 3 [] [(0, 0), (1, 0), (2, 0), (3, 0), (4, 0), (5, 4), (6, 0)] [] ?_ | refine k_cond (fun hc => ?_) (fun hc => ?_))
    exact k_ret () rfl trivial
end Go.Proofs.YtgaipgbgppdfeaaGreatDoor

namespace Go.Proofs.YtgaipgbgppdfeaaGreatDoor
open Go.RowKit

/-- Whoever has F and N has F' and N'. -/
def ImpR (F : List Pf) (N : List HP) (F' : List Pf) (N' : List HP) : Prop := ∀ G w hp w', Sat G w hp F N w' → Sat G w hp F' N' w'

theorem ImpR.more {F F' : List Pf} {N N' : List HP} (h : ImpR F N F' N') (r : HP) : ImpR F (r :: N) F' (r :: N') := by
  intro G w hp w' hs
  have h0 : Sat G w hp F (N ++ [r]) w' := hs.res fun k hk => by
    have := (sels_pre N r []).sep (h := k) (by simpa using hk)
    simpa using this
  obtain ⟨G', hp', h1, h2⟩ := sat_frame (F1 := F) (A := N) (R' := [r]) (hs := h0) (sel := by
    have : ∀ (A B : List HP), Sels A (A ++ B) B := fun A B => by
      induction A with
      | nil => exact .nil
      | cons x A ih => exact .cons .here ih
    exact this N [r]) fun _ h => h
  have h3 := h2 _ _ _ (h _ _ _ _ h1)
  refine (h3.facts (F' := F') fun hp hF x hx => hF x (List.mem_append_left _ hx)).res fun k hk => ?_
  obtain ⟨k1, k2, d, s1, s2, a1, a2⟩ := sep_append hk
  obtain ⟨j1, j2, d', t1, t2, b1, _⟩ := a2
  exact ⟨j1, k1, (d.symm.sub t1), t1.trans s2, s1, b1, a1⟩

section
variable {P : Program} {T : Tab} {n : Nat} {ds : List Deferred} {ops : Array Oper} {End : Env → List Pf → List HP → Prop}
theorem WS.imp (hEnd : ∀ e F N F' N', ImpR F N F' N' → End e F' N' → End e F N) : ∀ (L : List (Nat × Nat)) (hs : H) (e : Env) (F : List Pf) (N : List HP) (F' : List Pf) (N' : List HP), (L.all fun y => y.2 != 5) = true → ImpR F N F' N' → WS P T n ds ops hs End L e F' N' → WS P T n ds ops hs End L e F N
  | [], _, e, F, N, F', N', _, p, h => hEnd e F N F' N' p h
  | (i, k) :: L, hs, e, F, N, F', N', h5, p, h => by
    rw [List.all_cons, Bool.and_eq_true] at h5
    obtain ⟨h50, h5⟩ := h5
    intro o ho
    have h := h o ho
    cases hw : wantF ops e o with
    | none => simp only [hw] at h
    | some b =>
      cases b with
      | false =>
        simp only [hw] at h
        exact WS.imp hEnd L _ _ F N F' N' h5 p h
      | true =>
        simp only [hw] at h
        split at h
        · obtain ⟨v, h1, h2⟩ := h
          exact ⟨v, h1, WS.imp hEnd L _ _ F N F' N' h5 p h2⟩
        · obtain ⟨obj, mk, h1, h2⟩ := h
          exact ⟨obj, mk, h1, fun b => WS.imp hEnd L _ _ F (Pt b obj :: N) F' (Pt b obj :: N') h5 (p.more _) (h2 b)⟩
        · obtain ⟨obj, mk, h1, h2⟩ := h
          exact ⟨obj, mk, h1, fun b hb => WS.imp hEnd L _ _ F N F' N' h5 p (h2 b hb)⟩
        · obtain ⟨v, h1, h2⟩ := h
          exact ⟨v, fun a G w hp ha hsub hsat => h1 a G w hp ha hsub (p _ _ _ _ hsat), WS.imp hEnd L _ _ F N F' N' h5 p h2⟩
        · obtain ⟨post, h1, h2⟩ := h
          exact ⟨post, fun a G w hp ha hsub hsat => h1 a G w hp ha hsub (p _ _ _ _ hsat), h2⟩
        · cases h50
        · exact h.elim
end

variable {n : Nat} {C : Cx} {Q : Exit → Act → World → Prop} {E E' : List (Nat × Value)} {F F' F1 Fs : List Pf} {R R' R0 Rs N N' A : List HP} {k k' : List Fr} {ops l : List Oper} {L L' : List (Nat × Nat)} {Tl : List Nat}

/-- A contract that says less. -/
theorem Spec.imp {P : Program} {f : FuncId} {args : Array Value} {post post' : Post} (h : Spec P f args F R post)
    (k : ∀ G w hp x w', post.pure x → Sat G w hp (post.F x) (post.R x) w' → post'.holds G w hp (.returned (post.val x)) w') : Spec P f args F R post' := fun G w hp hs =>
  (h G w hp hs).mono (by rintro e w' ⟨x, rfl, hx, hs⟩; exact k G w hp x w' hx hs)
end Go.Proofs.YtgaipgbgppdfeaaGreatDoor

set_option maxRecDepth 10000
namespace Go.Proofs.YtgaipgbgppdfeaaGreatDoor
open Go.RowKit



/-- What With answers. -/
def withE (es : Al) (a : Nm) (v : ByteArray) : Int := if nchk a ≠ 0 then 12 else if 65536 < v.size then 5 else if 65536 ≤ es.length ∧ getO a es = none then 9 else 0
def StR (q : Option Addr) (e : Int) (es : Al) : Pf := if e = 0 then St q es else ⟨fun _ => q = none, fun _ _ _ h => h⟩


end Go.Proofs.YtgaipgbgppdfeaaGreatDoor

set_option maxRecDepth 10000
namespace Go.Proofs.YtgaipgbgppdfeaaGreatDoor
open Go.RowKit

/-- A node: its block, its name, its value. -/
abbrev El := Nat × Nm × ByteArray
def elv (e : El) : Value := .pointer (some ⟨e.1, 0, none⟩)

/-- A tree with the blocks of its nodes. -/
inductive AT where
  | nil
  | node (b : Nat) (l : AT) (a : Nm) (v : ByteArray) (r : AT)
namespace AT
def ptr : AT → Option Addr
  | nil => none
  | node b _ _ _ _ => some ⟨b, 0, none⟩
def tr : AT → Tr
  | nil => .nil
  | node _ l a v r => .node l.tr a v r.tr
def els : AT → List El
  | nil => []
  | node b l a v r => l.els ++ (b, a, v) :: r.els
def P : AT → H → Prop
  | nil, _ => True
  | node b l a v r, h => h b = some (ndc l.ptr r.ptr a v (Tr.node l.tr a v r.tr).ht (Tr.node l.tr a v r.tr).sz (Tr.node l.tr a v r.tr).by_) ∧ l.P h ∧ r.P h
theorem mono : ∀ (t : AT) (h k : H), Sub h k → t.P h → t.P k
  | nil, _, _, _, _ => trivial
  | node _ l _ _ r, h, k, s, ⟨h1, h2, h3⟩ => ⟨s _ _ h1, mono l h k s h2, mono r h k s h3⟩
theorem nd : ∀ (t : AT) (h : H), t.P h → ∀ e ∈ t.els, (Nd (some ⟨e.1, 0, none⟩) e.2.1 e.2.2).p h
  | nil, _, _, e, he => by cases he
  | node b l a v r, h, ⟨h1, h2, h3⟩, e, he => by
    rcases List.mem_append.1 he with he | he
    · exact nd l h h2 e he
    · rcases List.mem_cons.1 he with rfl | he
      · exact ⟨b, _, _, _, _, _, rfl, h1⟩
      · exact nd r h h3 e he
end AT
def AtF (t : AT) : Pf := ⟨t.P, t.mono⟩

def EPost {α : Type} (I Ix : List α → HP) (ys xs : List α) : Post := ⟨Option (List α), fun r => .bool r.isNone, fun r => ∀ q, r = some q → q <+: xs, fun _ => [], fun r => [match r with | none => I ys | some q => Ix q]⟩

/-- The cells of a name. -/
def nmf (a : Nm) : List Value := [.int .i64 a.kind, .string a.owner, .int .i64 a.number, .int .i64 a.index, .string a.text]
/-- The names of a kind. -/
def kn (es : Al) (k : Int) : List Nm := (es.filter fun x => x.1.kind == k).map (·.1)
def kne (l : List El) (k : Int) : List Nm := (l.filter fun x => x.2.1.kind == k).map (·.2.1)

end Go.Proofs.YtgaipgbgppdfeaaGreatDoor
