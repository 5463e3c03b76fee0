/-
  Contracts of cmp.Or and of the package object: Compare, Word, Check.
  The contract of object.Name.Check.
  Contracts of the package state: the search tree.
  Contracts of the package state: with, find.
  More rules for regions that draw their order: what is owned may be set fast, facts may be drawn from facts.
  Contracts of the package state: With.
  Contracts of the package state: the nodes in order, Kind.
  Conditions: those that each theorem states.
-/
import Derived.Test.YtiggkcknmjgicaaGreatDoorMC
set_option maxRecDepth 10000
namespace Go.Proofs.YtiggkcknmjgicaaGreatDoor
open Go.RowKit

theorem row_pt {T sz m b : Nat} {cs : Array Value} (hm : cs.size = m * sz) (h : H) (hb : Sep [Pt b (.cells cs T)] h) : Row T sz (some ⟨b, 0, none⟩) m m cs.toList h := by
  obtain ⟨h1, h2, _, s1, _, hx, _⟩ := hb
  refine .inr ⟨b, [], (0, 0), rfl, ?_, by simpa using hm, by simpa using hm, Nat.le_refl _, .inl rfl⟩
  simpa using s1 _ _ hx

/-- The first that is not 0. -/
def or0 : List Int → Int
  | [] => 0
  | x :: l => if x ≠ 0 then x else or0 l

theorem or_ok (o : Option Addr) (c : Nat) (es : List Int) (h1 : es.length ≤ 1099511627776) : Spec Tryz.prog 121 #[.slice o es.length c] [Sl 3 zf o c es] [] (RetV (.int .i64 (or0 es))) := by
  refine (show Enters 121 ∧ Spec Tryz.prog 121 #[.slice o es.length c] [Sl 3 zf o c es] [] (RetV (.int .i64 (or0 es))) from ?_).2
  refine ⟨enters_of Tryz.func121 (by kernel_rfl) rfl, spec_of (vs := [_]) Tryz.func121 rfl Tryz.ntmps121 rfl fun G w hp => ?_⟩
  repeat' (first | refine l_run ?_ | refine l_nil ?_ | refine l_one ?_ | refine k_reg ?_ | refine l_ld ?_ | refine l_ldF ?_ | refine l_st ?_ | refine l_al (fun b => ?_) | refine l_bs (fun b => ?_) | refine k_condT ?_ | refine k_condF ?_ | refine k_brk ?_ | refine l_split (fun hc => ?_) (fun hc => ?_) | refine k_cond (fun hc => ?_) (fun hc => ?_))
  refine k_lp (X := { i : Nat // i ≤ es.length ∧ or0 es = or0 (es.drop i) }) (fun i => [(3, .int .i64 0), (6, .slice o es.length c), (7, .int .i64 (es.length : Int)), (8, .int .i64 (i.1 : Int))]) (fun _ => [Sl 3 zf o c es]) (fun _ => []) (fun i => es.length - i.1) ⟨0, by omega, rfl⟩ ⟨rfl, rfl, rfl, rfl, trivial⟩ ?_
  rintro ⟨i, hi1, hi3⟩
  dsimp only
  repeat' (first | refine l_run ?_ | refine l_nil ?_ | refine l_one ?_ | refine k_reg ?_ | refine l_ld ?_ | refine l_ldF ?_ | refine l_st ?_ | refine l_al (fun b => ?_) | refine l_bs (fun b => ?_) | refine k_condT ?_ | refine k_condF ?_ | refine k_brk ?_ | refine l_ix es i (by omega) (fun b off => ?_) | refine l_ldC ?_ | (refine l_split (fun hc => ?_) (fun hc => ?_) <;> (try simp at hc)) | (refine k_cond (fun hc => ?_) (fun hc => ?_) <;> (try simp at hc)))
  · have d1 := List.drop_eq_getElem_cons (l := es) (i := i) (by omega)
    have e : or0 es = es[i] := by rw [hi3, d1, or0, if_pos hc]
    exact k_rt (w_lq (w_rv (congrArg (Value.int .i64) e) (w_ret () rfl trivial)))
  · have d1 := List.drop_eq_getElem_cons (l := es) (i := i) (by omega)
    rw [wrapi (z := (i : Int) + 1) (by omega) (by omega)]
    exact k_next ⟨i + 1, by omega, by rw [hi3, d1, or0, if_neg (by simp [hc])]⟩ (by show es.length - (i + 1) < es.length - i; omega) ⟨rfl, rfl, rfl, rfl, trivial⟩
  · have d1 : es.drop i = [] := List.drop_eq_nil_of_le (by omega)
    rw [hi3, d1]
    exact k_ret () rfl trivial

theorem or3_ok (b : Nat) (x y z : Int) : Enters 121 ∧ Spec Tryz.prog 121 #[.slice (some ⟨b, 0, none⟩) 3 3] [] [Pt b (.cells #[.int .i64 x, .int .i64 y, .int .i64 z] 3)] (RetV (.int .i64 (or0 [x, y, z]))) := by
  refine ⟨enters_of Tryz.func121 (by kernel_rfl) rfl, fun G w hp hs => ?_⟩
  have h1 := (hs.shut (R := []) (L := [Pt b (.cells #[.int .i64 x, .int .i64 y, .int .i64 z] 3)]) (x := Row 3 1 (some ⟨b, 0, none⟩) 3 3 [.int .i64 x, .int .i64 y, .int .i64 z]) fun h hh => row_pt rfl h hh)
  have h2 := frz_row (f := zf) (es := [x, y, z]) rfl rfl Sel.here h1
  exact sat_call (or_ok (some ⟨b, 0, none⟩) 3 [x, y, z] (by simp)) h2 .nil (fun hp hF f hf => by simp at hf; subst hf; exact hF _ (by simp)) fun x w' hx h3 => ⟨x, rfl, hx, h3.facts (F' := []) (fun _ _ _ h => by cases h)⟩

theorem compareO_ok (a a' : Nm) (ha : a.owner.size ≤ 1099511627770) (hb : a'.owner.size ≤ 1099511627770) : Enters 67 ∧ Spec Tryz.prog 67 #[a.v, a'.v] [] [] (RetV (.int .i64 (cmpO a a'))) := by
  generalize hr : cmpO a a' = r
  unfold cmpO at hr
  refine ⟨enters_of Tryz.func67 (by kernel_rfl) rfl, spec_of (vs := [_, _]) Tryz.func67 rfl Tryz.ntmps67 rfl fun G w hp => ?_⟩
  repeat' (first | refine l_run ?_ | refine l_nil ?_ | refine l_one ?_ | refine k_reg ?_ | refine l_ld ?_ | refine l_ldF ?_ | refine l_st ?_ | refine l_al (fun b => ?_) | refine l_bs (fun b => ?_) | refine k_condT ?_ | refine k_condF ?_ | refine k_brk ?_ | refine r_run ?_ | refine r_one ?_ | refine r_ld ?_ | refine r_ldF ?_ | refine r_ldN ?_ | refine r_al (fun b => ?_) | refine r_bs (fun b => ?_) | refine r_st ?_ | refine r_end ?_ | refine l_call (cmp_int _ _) (fun _ _ => ?_) | refine l_call0 (cmp_int _ _) (fun _ _ => ?_) | refine r_call (cmp_int _ _) (fun _ _ => ?_) | refine l_call (compareN_ok a.owner a'.owner ha hb) (fun _ _ => ?_) | refine l_call0 (compareN_ok a.owner a'.owner ha hb) (fun _ _ => ?_) | refine r_call (compareN_ok a.owner a'.owner ha hb) (fun _ _ => ?_) | refine l_call (cmp_str _ _) (fun _ _ => ?_) | refine l_call0 (cmp_str _ _) (fun _ _ => ?_) | refine r_call (cmp_str _ _) (fun _ _ => ?_) | refine l_call (or3_ok _ _ _ _) (fun _ _ => ?_) | refine l_call0 (or3_ok _ _ _ _) (fun _ _ => ?_) | refine r_call (or3_ok _ _ _ _) (fun _ _ => ?_) | (refine l_split (fun hc => ?_) (fun hc => ?_) <;> (try simp at hc)) | (refine r_split (fun hc => ?_) (fun hc => ?_) <;> (try simp at hc)) | refine k_draw 7 [] [(0, 0), (1, 0), (2, 0), (3, 0), (5, 0), (6, 0), (7, 0), (8, 0), (10, 0), (11, 0), (12, 0), (13, 0), (4, 4), (9, 4), (14, 4), (15, 1), (16, 4), (17, 0)] [] ?_ | (refine k_cond (fun hc => ?_) (fun hc => ?_) <;> (try simp at hc)))
  · rw [if_pos hc] at hr; subst hr; exact k_ret () rfl trivial
  · rename_i h _ _
    rw [if_neg (by simp [h]), if_pos hc] at hr; subst hr; exact k_ret () rfl trivial
  · rename_i h _ _ _ _ _ _ _ _ _ _ _
    rw [if_neg (by simp_all), if_neg (by simp_all)] at hr
    have e : r = or0 [cmpI a.number a'.number, cmpI a.index a'.index, cmpS a.text a'.text] := by
      rw [← hr]
      simp only [or0]
      split
      · rfl
      · split
        · rfl
        · split
          · rfl
          · omega
    subst e
    exact k_ret () rfl trivial

/-- What the names of a kind use. -/
structure Usage where
  word : ByteArray
  owner : Bool
  number : Bool
  index : Bool
  text : Bool
  most : Int
  deriving Inhabited
def uf (u : Usage) : List Value := [.string u.word, .bool u.owner, .bool u.number, .bool u.index, .bool u.text, .int .i64 u.most]
def usages : List Usage := [
  ⟨⟨#[]⟩, false, false, false, false, 0⟩,
  ⟨⟨#[112, 114, 111, 99, 101, 115, 115]⟩, true, false, false, false, 0⟩,
  ⟨⟨#[114, 101, 103, 105, 115, 116, 101, 114, 115]⟩, true, false, false, false, 0⟩,
  ⟨⟨#[112, 97, 103, 101]⟩, true, false, true, false, 63⟩,
  ⟨⟨#[116, 97, 98, 108, 101]⟩, true, false, false, false, 0⟩,
  ⟨⟨#[99, 111, 117, 110, 116, 101, 114]⟩, true, false, false, false, 0⟩,
  ⟨⟨#[112, 101, 110, 100, 105, 110, 103]⟩, true, false, false, false, 0⟩,
  ⟨⟨#[110, 111, 100, 101]⟩, true, true, false, false, 0⟩,
  ⟨⟨#[98, 108, 111, 99, 107]⟩, true, true, true, false, 63⟩,
  ⟨⟨#[101, 110, 116, 114, 121]⟩, true, true, false, true, 0⟩,
  ⟨⟨#[108, 105, 115, 116, 105, 110, 103]⟩, true, true, false, false, 0⟩,
  ⟨⟨#[112, 105, 112, 101]⟩, true, true, false, false, 0⟩,
  ⟨⟨#[108, 111, 99, 107]⟩, true, true, false, false, 0⟩,
  ⟨⟨#[116, 101, 114, 109, 105, 110, 97, 108]⟩, false, true, false, false, 0⟩,
  ⟨⟨#[97, 99, 99, 111, 117, 110, 116]⟩, false, false, false, true, 0⟩,
  ⟨⟨#[99, 108, 111, 99, 107]⟩, false, false, false, false, 0⟩,
  ⟨⟨#[112, 111, 114, 116]⟩, false, true, false, false, 0⟩,
  ⟨⟨#[98, 111, 120]⟩, false, false, false, true, 0⟩,
  ⟨⟨#[111, 117, 116]⟩, true, true, true, false, 1073741824⟩,
  ⟨⟨#[115, 104, 101, 108, 108]⟩, true, false, false, false, 0⟩,
  ⟨⟨#[101, 112, 111, 99, 104]⟩, false, false, false, false, 0⟩]

/-- The table of the kinds, as it lies in memory. -/
def Usg : Pf := ⟨fun h => ∃ T fz, h 0 = some (.cells (usages.flatMap uf).toArray T fz), fun _ _ s ⟨T, fz, h⟩ => ⟨T, fz, s _ _ h⟩⟩

section
variable {n : Nat} {C : Cx} {Q : Exit → Act → World → Prop} {E E' : List (Nat × Value)} {F F0 : List Pf} {R : List HP} {k : List Fr} {ops l : List Oper}
  {d : Nat} {t ty0 : TypeId} {x y : Operand} {pos : String} {aft : Array Edge} {gd : Option (Nat × Bool)}
theorem run_indexArr {T sz m i b : Nat} {w : World} {rs tr : TRow} (hts : lookT tab t = some rs) (hrs : rs.k = .arr m T) (hT : lookT tab T = some tr) (hsz : tr.size = sz) {z : Int} (hz : z = (i : Int)) (hi : i < m) :
    (Instr.indexAt t (.pointer (some ⟨b, 0, none⟩)) (.int .i64 z)).run Tryz.prog w = .ok (.pointer (some ⟨b, i * sz, none⟩)) w := by
  obtain ⟨d1, hd1, hk1⟩ := tab_ok.und hts
  rw [hrs] at hk1
  have hu1 : (underlying t).run Tryz.prog w = .ok (.array m T) w := by
    cases d1 <;> simp [chkKind] at hk1
    obtain ⟨rfl, rfl⟩ := hk1
    simp [underlying, hd1, go_sem]
  have hs1 := tab_ok.sizeOf hT w
  rw [hsz] at hs1
  subst hz
  unfold Instr.indexAt
  simp only [asIntOf, Sem.run_bind, Sem.run_pure, Result.andThen, hu1, Instr.sureAddr]
  have hc : (0 : Int) ≤ (i : Int) ∧ (i : Int) < ((m : Nat) : Int) := ⟨by omega, by omega⟩
  rw [if_pos hc]
  simp only [Sem.run_bind, hs1, Result.andThen, Sem.run_pure, Int.toNat_natCast]
  rw [add_add rfl, Nat.zero_add]

theorem l_usg {m T : Nat} {z : Int} {rs tr : TRow} (i : Nat) (hlt : i < usages.length)
    (nx : ∀ T' o, o = i * 6 → Wl n C ops.toArray k Q l ((d, .pointer (some ⟨0, o, none⟩)) :: E) (Cel T' 0 o (uf usages[i]) :: F) R)
    (hw : wantL ops E ⟨some d, .indexAddr t x y, ty0, pos, aft, gd⟩ = some true := by rfl) (hn : Nat.blt d n = true := by rfl) (hx : ev E x = some (.pointer (some ⟨0, 0, none⟩)) := by rfl) (hy : ev E y = some (.int .i64 z) := by rfl)
    (hs : Sel Usg F F0 := by (repeat (first | exact Sel.here | apply Sel.there)); first | done | fail) (hts : lookT tab t = some rs := by rfl) (hrs : rs.k = .arr m T := by rfl) (hT : lookT tab T = some tr := by rfl) (hsz : tr.size = 6 := by rfl) (hm : m = usages.length := by rfl)
    (hz : z = (i : Int) := by first | rfl | omega) : Wl n C ops.toArray k Q (⟨some d, .indexAddr t x y, ty0, pos, aft, gd⟩ :: l) E F R :=
  wl_op (fun t ht => by cases ht; exact Nat.le_of_ble_eq_true hn) (fun c hc => by cases hc) hw fun a w ha hsat => by
    obtain ⟨hp, hr, st⟩ := hsat
    obtain ⟨T', fz, h1⟩ := st.f _ hs.mem
    have hr1 := run_indexArr (w := w) (b := 0) hts hrs hT hsz hz (by rw [hm]; exact hlt)
    unfold OpRes
    simp only [execOp, ha.ev (x := x) (by rw [evf_look]; exact hx), ha.ev (x := y) (by rw [evf_look]; exact hy), Sem.run_bind, Result.andThen, hr1, Sem.run_pure]
    have hc : (Cel T' 0 (i * 6) (uf usages[i])).p hp := by
      refine ⟨_, (T', fz), (usages.take i).flatMap uf, (usages.drop (i + 1)).flatMap uf, h1, ?_, ?_⟩
      · simpa using flat_split (f := uf) (List.getElem?_eq_getElem hlt)
      · rw [flat_len (sz := 6) (fun _ => rfl)]
        simp; omega
    exact fun a' ha' => nx T' _ rfl a' w ha' (add_fact st hc)
end

def isE (s : ByteArray) : Bool := s.toList == ByteArray.toList ⟨#[]⟩
theorem isE_eq (s : ByteArray) : isE s = decide (s = ⟨#[]⟩) := by
  unfold isE
  rw [toList_data, toList_data, Bool.eq_iff_iff]
  simp only [beq_iff_eq, decide_eq_true_eq]
  exact ⟨fun h => ba_ext h, fun h => by rw [h]⟩

/-- A text that a name may have. -/
def badc (c : UInt8) : Bool := decide ((c.toNat : Int) < 33) || (decide ((126 : Int) < c.toNat) || ((c.toNat : Int) == 47))
def oword (s : ByteArray) : Bool := !isE s && decide (s.size ≤ 32) && s.data.toList.all fun c => !badc c
def within (x m : Int) : Bool := decide (0 ≤ x) && decide (x ≤ m)

/-- What Check answers, by what the names of the kind use. -/
def uchk (u : Usage) (a : Nm) : Int :=
  if (!u.owner && !isE a.owner) || (!u.number && a.number != 0) || (!u.index && a.index != 0) || (!u.text && !isE a.text) then 1
  else if u.owner && !lvalid a.owner.data.toList then 12
  else if (u.number && !within a.number 1073741824) || (u.index && !within a.index u.most) then 2
  else if u.text && !oword a.text then 12
  else 0
def nchk (a : Nm) : Int := if 1 ≤ a.kind ∧ a.kind ≤ 20 then uchk (usages.getD a.kind.toNat default) a else 11

theorem word_ok (s : ByteArray) (hs : s.size ≤ 1099511627776) : Enters 125 ∧ Spec Tryz.prog 125 #[.string s] [] [] (RetV (.bool (oword s))) := by
  have hsz : s.data.toList.length = s.size := by simp
  generalize hr : oword s = r
  unfold oword at hr
  refine ⟨enters_of Tryz.func125 (by kernel_rfl) rfl, spec_of (vs := [_]) Tryz.func125 rfl Tryz.ntmps125 rfl fun G w hp => ?_⟩
  repeat' (first | refine l_run ?_ | refine l_nil ?_ | refine l_one ?_ | refine k_reg ?_ | refine l_ld ?_ | refine l_ldF ?_ | refine l_st ?_ | refine l_al (fun b => ?_) | refine l_bs (fun b => ?_) | refine k_condT ?_ | refine k_condF ?_ | refine k_brk ?_ | refine l_split (fun hc => ?_) (fun hc => ?_) | refine k_cond (fun hc => ?_) (fun hc => ?_))
  · have hc : isE s = true := hc
    rw [hc] at hr; simp at hr; subst hr
    exact k_ret () rfl trivial
  · rename_i h1
    have h1 : isE s = false := h1
    have h2 : ¬ s.size ≤ 32 := by simp at hc; omega
    rw [h1, decide_eq_false h2] at hr; simp at hr; subst hr
    exact k_ret () rfl trivial
  rename_i h1
  have h1 : isE s = false := h1
  have h2 : s.size ≤ 32 := by simp at hc; omega
  rw [h1, decide_eq_true h2] at hr; simp only [Bool.not_false, Bool.and_self, Bool.true_and] at hr
  refine k_lp (X := { i : Nat // i ≤ s.size ∧ ∀ j, j < i → ∀ c, s.data.toList[j]? = some c → badc c = false }) (fun i => [(0, .string s), (12, .int .i64 (s.size : Int)), (13, .int .i64 (i.1 : Int))]) (fun _ => []) (fun _ => []) (fun i => s.size - i.1) ⟨0, by omega, fun j hj => by omega⟩ ⟨rfl, rfl, rfl, trivial⟩ ?_
  rintro ⟨i, hi1, hi2⟩
  dsimp only
  by_cases hlt : i < s.data.toList.length
  · obtain ⟨c, hcc⟩ : ∃ c, s.data.toList[i]? = some c := ⟨_, List.getElem?_eq_getElem hlt⟩
    have bad : badc c = true → r = false := fun hb => by
      rw [← hr, List.all_eq_false]
      exact ⟨c, List.mem_of_getElem? hcc, by simp [hb]⟩
    repeat' (first | refine l_run ?_ | refine l_nil ?_ | refine l_one ?_ | refine k_reg ?_ | refine l_ld ?_ | refine l_ldF ?_ | refine l_st ?_ | refine l_al (fun b => ?_) | refine l_bs (fun b => ?_) | refine k_condT ?_ | refine k_condF ?_ | refine k_brk ?_ | refine l_six (s := s) i c hcc ?_ | (refine l_split (fun hc => ?_) (fun hc => ?_) <;> (try simp at hc) <;> (try omega)) | (refine k_cond (fun hc => ?_) (fun hc => ?_) <;> (try simp at hc) <;> (try omega)))
    all_goals try (
      have e := bad (by simp [badc]; omega)
      exact k_rt (w_lq (w_rv (congrArg Value.bool e) (w_ret () rfl trivial))))
    rw [wrapi (z := (i : Int) + 1) (by omega) (by omega)]
    refine k_next ⟨i + 1, by omega, fun j hj c' hc' => ?_⟩ (by show s.size - (i + 1) < s.size - i; omega) ⟨rfl, rfl, rfl, trivial⟩
    by_cases hij : j = i
    · subst hij
      obtain rfl := Option.some.inj (hcc.symm.trans hc')
      simp [badc]; omega
    · exact hi2 j (by omega) c' hc'
  · have e : r = true := by
      rw [← hr, List.all_eq_true]
      intro c hc
      obtain ⟨j, hj, rfl⟩ := List.mem_iff_getElem.1 hc
      rw [hi2 j (by omega) _ (List.getElem?_eq_getElem hj)]; rfl
    repeat' (first | refine l_run ?_ | refine l_nil ?_ | refine l_one ?_ | refine k_reg ?_ | refine l_ld ?_ | refine l_ldF ?_ | refine l_st ?_ | refine l_al (fun b => ?_) | refine l_bs (fun b => ?_) | refine k_condT ?_ | refine k_condF ?_ | refine k_brk ?_ | (refine l_split (fun hc => ?_) (fun hc => ?_) <;> (try simp at hc) <;> (try omega)) | (refine k_cond (fun hc => ?_) (fun hc => ?_) <;> (try simp at hc) <;> (try omega)))
    subst e
    exact k_ret () rfl trivial

end Go.Proofs.YtiggkcknmjgicaaGreatDoor

set_option maxRecDepth 10000
set_option maxHeartbeats 4000000
namespace Go.Proofs.YtiggkcknmjgicaaGreatDoor
open Go.RowKit

theorem klt {a : Nm} (hk : 1 ≤ a.kind ∧ a.kind ≤ 20) : a.kind.toNat < usages.length := by show a.kind.toNat < 21; omega

theorem chk_TFFF (a : Nm) (ha : a.owner.size ≤ 1099511627776) (ht : a.text.size ≤ 1099511627776) (hk : 1 ≤ a.kind ∧ a.kind ≤ 20) (uw : ByteArray) (um : Int) (hu : usages[a.kind.toNat]'(klt hk) = ⟨uw, true, false, false, false, um⟩) :
    Enters 70 ∧ Spec Tryz.prog 70 #[a.v] [Usg] [] (RetV (.int .i64 (uchk ⟨uw, true, false, false, false, um⟩ a))) := by
  have v1 := valid_ok a.owner ha
  have v2 := word_ok a.text ht
  have v3 := isKind_ok a.kind
  have e3 : (decide (1 ≤ a.kind) && decide (a.kind ≤ 20)) = true := by simp [hk]
  rw [e3] at v3
  generalize hr : uchk ⟨uw, true, false, false, false, um⟩ a = r
  unfold uchk at hr
  simp only [Bool.not_false, Bool.not_true, Bool.true_and, Bool.false_and, Bool.or_false, Bool.false_or] at hr
  refine ⟨enters_of Tryz.func70 (by kernel_rfl) rfl, spec_of (vs := [_]) Tryz.func70 rfl Tryz.ntmps70 rfl fun G w hp => ?_⟩
  repeat' (first | refine l_run ?_ | refine l_nil ?_ | refine l_one ?_ | refine k_reg ?_ | refine l_ld ?_ | refine l_ldF ?_ | refine l_st ?_ | refine l_al (fun b => ?_) | refine l_bs (fun b => ?_) | refine k_condT ?_ | refine k_condF ?_ | refine k_brk ?_ | refine l_call (v3) (fun _ _ => ?_) | refine l_call0 (v3) (fun _ _ => ?_) | refine l_split (fun hc => ?_) (fun hc => ?_))
  refine l_usg a.kind.toNat (klt hk) (fun T' o ho => ?_)
  rw [hu]
  repeat' (first | refine l_run ?_ | refine l_nil ?_ | refine l_one ?_ | refine k_reg ?_ | refine l_ld ?_ | refine l_ldF ?_ | refine l_st ?_ | refine l_al (fun b => ?_) | refine l_bs (fun b => ?_) | refine k_condT ?_ | refine k_condF ?_ | refine k_brk ?_ | refine l_call (v1) (fun _ _ => ?_) | refine l_call0 (v1) (fun _ _ => ?_) | refine l_call (v2) (fun _ _ => ?_) | refine l_call0 (v2) (fun _ _ => ?_) | refine l_call (within_ok _ _) (fun _ _ => ?_) | refine l_call0 (within_ok _ _) (fun _ _ => ?_) | refine l_ldC ?_ | refine l_split (fun hc => ?_) (fun hc => ?_) | refine k_cond (fun hc => ?_) (fun hc => ?_))
  all_goals (refine k_ret () ?_ trivial; rw [← hr]; clear hr v1 v2 v3 hu hk e3; simp only [cond_true, Bool.not_false] at *; simp_all [isE, resV, RetV])

theorem chk_TFTF (a : Nm) (ha : a.owner.size ≤ 1099511627776) (ht : a.text.size ≤ 1099511627776) (hk : 1 ≤ a.kind ∧ a.kind ≤ 20) (uw : ByteArray) (um : Int) (hu : usages[a.kind.toNat]'(klt hk) = ⟨uw, true, false, true, false, um⟩) :
    Enters 70 ∧ Spec Tryz.prog 70 #[a.v] [Usg] [] (RetV (.int .i64 (uchk ⟨uw, true, false, true, false, um⟩ a))) := by
  have v1 := valid_ok a.owner ha
  have v2 := word_ok a.text ht
  have v3 := isKind_ok a.kind
  have e3 : (decide (1 ≤ a.kind) && decide (a.kind ≤ 20)) = true := by simp [hk]
  rw [e3] at v3
  generalize hr : uchk ⟨uw, true, false, true, false, um⟩ a = r
  unfold uchk at hr
  simp only [Bool.not_false, Bool.not_true, Bool.true_and, Bool.false_and, Bool.or_false, Bool.false_or] at hr
  refine ⟨enters_of Tryz.func70 (by kernel_rfl) rfl, spec_of (vs := [_]) Tryz.func70 rfl Tryz.ntmps70 rfl fun G w hp => ?_⟩
  repeat' (first | refine l_run ?_ | refine l_nil ?_ | refine l_one ?_ | refine k_reg ?_ | refine l_ld ?_ | refine l_ldF ?_ | refine l_st ?_ | refine l_al (fun b => ?_) | refine l_bs (fun b => ?_) | refine k_condT ?_ | refine k_condF ?_ | refine k_brk ?_ | refine l_call (v3) (fun _ _ => ?_) | refine l_call0 (v3) (fun _ _ => ?_) | refine l_split (fun hc => ?_) (fun hc => ?_))
  refine l_usg a.kind.toNat (klt hk) (fun T' o ho => ?_)
  rw [hu]
  repeat' (first | refine l_run ?_ | refine l_nil ?_ | refine l_one ?_ | refine k_reg ?_ | refine l_ld ?_ | refine l_ldF ?_ | refine l_st ?_ | refine l_al (fun b => ?_) | refine l_bs (fun b => ?_) | refine k_condT ?_ | refine k_condF ?_ | refine k_brk ?_ | refine l_call (v1) (fun _ _ => ?_) | refine l_call0 (v1) (fun _ _ => ?_) | refine l_call (v2) (fun _ _ => ?_) | refine l_call0 (v2) (fun _ _ => ?_) | refine l_call (within_ok _ _) (fun _ _ => ?_) | refine l_call0 (within_ok _ _) (fun _ _ => ?_) | refine l_ldC ?_ | refine l_split (fun hc => ?_) (fun hc => ?_) | refine k_cond (fun hc => ?_) (fun hc => ?_))
  all_goals (refine k_ret () ?_ trivial; rw [← hr]; clear hr v1 v2 v3 hu hk e3; simp only [cond_true, Bool.not_false] at *; simp_all [isE, within, resV, RetV])

theorem chk_TTFF (a : Nm) (ha : a.owner.size ≤ 1099511627776) (ht : a.text.size ≤ 1099511627776) (hk : 1 ≤ a.kind ∧ a.kind ≤ 20) (uw : ByteArray) (um : Int) (hu : usages[a.kind.toNat]'(klt hk) = ⟨uw, true, true, false, false, um⟩) :
    Enters 70 ∧ Spec Tryz.prog 70 #[a.v] [Usg] [] (RetV (.int .i64 (uchk ⟨uw, true, true, false, false, um⟩ a))) := by
  have v1 := valid_ok a.owner ha
  have v2 := word_ok a.text ht
  have v3 := isKind_ok a.kind
  have e3 : (decide (1 ≤ a.kind) && decide (a.kind ≤ 20)) = true := by simp [hk]
  rw [e3] at v3
  generalize hr : uchk ⟨uw, true, true, false, false, um⟩ a = r
  unfold uchk at hr
  simp only [Bool.not_false, Bool.not_true, Bool.true_and, Bool.false_and, Bool.or_false, Bool.false_or] at hr
  refine ⟨enters_of Tryz.func70 (by kernel_rfl) rfl, spec_of (vs := [_]) Tryz.func70 rfl Tryz.ntmps70 rfl fun G w hp => ?_⟩
  repeat' (first | refine l_run ?_ | refine l_nil ?_ | refine l_one ?_ | refine k_reg ?_ | refine l_ld ?_ | refine l_ldF ?_ | refine l_st ?_ | refine l_al (fun b => ?_) | refine l_bs (fun b => ?_) | refine k_condT ?_ | refine k_condF ?_ | refine k_brk ?_ | refine l_call (v3) (fun _ _ => ?_) | refine l_call0 (v3) (fun _ _ => ?_) | refine l_split (fun hc => ?_) (fun hc => ?_))
  refine l_usg a.kind.toNat (klt hk) (fun T' o ho => ?_)
  rw [hu]
  repeat' (first | refine l_run ?_ | refine l_nil ?_ | refine l_one ?_ | refine k_reg ?_ | refine l_ld ?_ | refine l_ldF ?_ | refine l_st ?_ | refine l_al (fun b => ?_) | refine l_bs (fun b => ?_) | refine k_condT ?_ | refine k_condF ?_ | refine k_brk ?_ | refine l_call (v1) (fun _ _ => ?_) | refine l_call0 (v1) (fun _ _ => ?_) | refine l_call (v2) (fun _ _ => ?_) | refine l_call0 (v2) (fun _ _ => ?_) | refine l_call (within_ok _ _) (fun _ _ => ?_) | refine l_call0 (within_ok _ _) (fun _ _ => ?_) | refine l_ldC ?_ | refine l_split (fun hc => ?_) (fun hc => ?_) | refine k_cond (fun hc => ?_) (fun hc => ?_))
  all_goals (refine k_ret () ?_ trivial; rw [← hr]; clear hr v1 v2 v3 hu hk e3; simp only [cond_true, Bool.not_false] at *; simp_all [isE, within, resV, RetV])

theorem chk_TTTF (a : Nm) (ha : a.owner.size ≤ 1099511627776) (ht : a.text.size ≤ 1099511627776) (hk : 1 ≤ a.kind ∧ a.kind ≤ 20) (uw : ByteArray) (um : Int) (hu : usages[a.kind.toNat]'(klt hk) = ⟨uw, true, true, true, false, um⟩) :
    Enters 70 ∧ Spec Tryz.prog 70 #[a.v] [Usg] [] (RetV (.int .i64 (uchk ⟨uw, true, true, true, false, um⟩ a))) := by
  have v1 := valid_ok a.owner ha
  have v2 := word_ok a.text ht
  have v3 := isKind_ok a.kind
  have e3 : (decide (1 ≤ a.kind) && decide (a.kind ≤ 20)) = true := by simp [hk]
  rw [e3] at v3
  generalize hr : uchk ⟨uw, true, true, true, false, um⟩ a = r
  unfold uchk at hr
  simp only [Bool.not_false, Bool.not_true, Bool.true_and, Bool.false_and, Bool.or_false, Bool.false_or] at hr
  refine ⟨enters_of Tryz.func70 (by kernel_rfl) rfl, spec_of (vs := [_]) Tryz.func70 rfl Tryz.ntmps70 rfl fun G w hp => ?_⟩
  repeat' (first | refine l_run ?_ | refine l_nil ?_ | refine l_one ?_ | refine k_reg ?_ | refine l_ld ?_ | refine l_ldF ?_ | refine l_st ?_ | refine l_al (fun b => ?_) | refine l_bs (fun b => ?_) | refine k_condT ?_ | refine k_condF ?_ | refine k_brk ?_ | refine l_call (v3) (fun _ _ => ?_) | refine l_call0 (v3) (fun _ _ => ?_) | refine l_split (fun hc => ?_) (fun hc => ?_))
  refine l_usg a.kind.toNat (klt hk) (fun T' o ho => ?_)
  rw [hu]
  repeat' (first | refine l_run ?_ | refine l_nil ?_ | refine l_one ?_ | refine k_reg ?_ | refine l_ld ?_ | refine l_ldF ?_ | refine l_st ?_ | refine l_al (fun b => ?_) | refine l_bs (fun b => ?_) | refine k_condT ?_ | refine k_condF ?_ | refine k_brk ?_ | refine l_call (v1) (fun _ _ => ?_) | refine l_call0 (v1) (fun _ _ => ?_) | refine l_call (v2) (fun _ _ => ?_) | refine l_call0 (v2) (fun _ _ => ?_) | refine l_call (within_ok _ _) (fun _ _ => ?_) | refine l_call0 (within_ok _ _) (fun _ _ => ?_) | refine l_ldC ?_ | refine l_split (fun hc => ?_) (fun hc => ?_) | refine k_cond (fun hc => ?_) (fun hc => ?_))
  all_goals (refine k_ret () ?_ trivial; rw [← hr]; clear hr v1 v2 v3 hu hk e3; simp only [cond_true, Bool.not_false] at *; simp_all [isE, within, resV, RetV])

theorem chk_TTFT (a : Nm) (ha : a.owner.size ≤ 1099511627776) (ht : a.text.size ≤ 1099511627776) (hk : 1 ≤ a.kind ∧ a.kind ≤ 20) (uw : ByteArray) (um : Int) (hu : usages[a.kind.toNat]'(klt hk) = ⟨uw, true, true, false, true, um⟩) :
    Enters 70 ∧ Spec Tryz.prog 70 #[a.v] [Usg] [] (RetV (.int .i64 (uchk ⟨uw, true, true, false, true, um⟩ a))) := by
  have v1 := valid_ok a.owner ha
  have v2 := word_ok a.text ht
  have v3 := isKind_ok a.kind
  have e3 : (decide (1 ≤ a.kind) && decide (a.kind ≤ 20)) = true := by simp [hk]
  rw [e3] at v3
  generalize hr : uchk ⟨uw, true, true, false, true, um⟩ a = r
  unfold uchk at hr
  simp only [Bool.not_false, Bool.not_true, Bool.true_and, Bool.false_and, Bool.or_false, Bool.false_or] at hr
  refine ⟨enters_of Tryz.func70 (by kernel_rfl) rfl, spec_of (vs := [_]) Tryz.func70 rfl Tryz.ntmps70 rfl fun G w hp => ?_⟩
  repeat' (first | refine l_run ?_ | refine l_nil ?_ | refine l_one ?_ | refine k_reg ?_ | refine l_ld ?_ | refine l_ldF ?_ | refine l_st ?_ | refine l_al (fun b => ?_) | refine l_bs (fun b => ?_) | refine k_condT ?_ | refine k_condF ?_ | refine k_brk ?_ | refine l_call (v3) (fun _ _ => ?_) | refine l_call0 (v3) (fun _ _ => ?_) | refine l_split (fun hc => ?_) (fun hc => ?_))
  refine l_usg a.kind.toNat (klt hk) (fun T' o ho => ?_)
  rw [hu]
  repeat' (first | refine l_run ?_ | refine l_nil ?_ | refine l_one ?_ | refine k_reg ?_ | refine l_ld ?_ | refine l_ldF ?_ | refine l_st ?_ | refine l_al (fun b => ?_) | refine l_bs (fun b => ?_) | refine k_condT ?_ | refine k_condF ?_ | refine k_brk ?_ | refine l_call (v1) (fun _ _ => ?_) | refine l_call0 (v1) (fun _ _ => ?_) | refine l_call (v2) (fun _ _ => ?_) | refine l_call0 (v2) (fun _ _ => ?_) | refine l_call (within_ok _ _) (fun _ _ => ?_) | refine l_call0 (within_ok _ _) (fun _ _ => ?_) | refine l_ldC ?_ | refine l_split (fun hc => ?_) (fun hc => ?_) | refine k_cond (fun hc => ?_) (fun hc => ?_))
  all_goals (refine k_ret () ?_ trivial; rw [← hr]; clear hr v1 v2 v3 hu hk e3; simp only [cond_true, Bool.not_false] at *; simp_all [within, resV, RetV])

theorem chk_FTFF (a : Nm) (ha : a.owner.size ≤ 1099511627776) (ht : a.text.size ≤ 1099511627776) (hk : 1 ≤ a.kind ∧ a.kind ≤ 20) (uw : ByteArray) (um : Int) (hu : usages[a.kind.toNat]'(klt hk) = ⟨uw, false, true, false, false, um⟩) :
    Enters 70 ∧ Spec Tryz.prog 70 #[a.v] [Usg] [] (RetV (.int .i64 (uchk ⟨uw, false, true, false, false, um⟩ a))) := by
  have v1 := valid_ok a.owner ha
  have v2 := word_ok a.text ht
  have v3 := isKind_ok a.kind
  have e3 : (decide (1 ≤ a.kind) && decide (a.kind ≤ 20)) = true := by simp [hk]
  rw [e3] at v3
  generalize hr : uchk ⟨uw, false, true, false, false, um⟩ a = r
  unfold uchk at hr
  simp only [Bool.not_false, Bool.not_true, Bool.true_and, Bool.false_and, Bool.or_false] at hr
  refine ⟨enters_of Tryz.func70 (by kernel_rfl) rfl, spec_of (vs := [_]) Tryz.func70 rfl Tryz.ntmps70 rfl fun G w hp => ?_⟩
  repeat' (first | refine l_run ?_ | refine l_nil ?_ | refine l_one ?_ | refine k_reg ?_ | refine l_ld ?_ | refine l_ldF ?_ | refine l_st ?_ | refine l_al (fun b => ?_) | refine l_bs (fun b => ?_) | refine k_condT ?_ | refine k_condF ?_ | refine k_brk ?_ | refine l_call (v3) (fun _ _ => ?_) | refine l_call0 (v3) (fun _ _ => ?_) | refine l_split (fun hc => ?_) (fun hc => ?_))
  refine l_usg a.kind.toNat (klt hk) (fun T' o ho => ?_)
  rw [hu]
  repeat' (first | refine l_run ?_ | refine l_nil ?_ | refine l_one ?_ | refine k_reg ?_ | refine l_ld ?_ | refine l_ldF ?_ | refine l_st ?_ | refine l_al (fun b => ?_) | refine l_bs (fun b => ?_) | refine k_condT ?_ | refine k_condF ?_ | refine k_brk ?_ | refine l_call (v1) (fun _ _ => ?_) | refine l_call0 (v1) (fun _ _ => ?_) | refine l_call (v2) (fun _ _ => ?_) | refine l_call0 (v2) (fun _ _ => ?_) | refine l_call (within_ok _ _) (fun _ _ => ?_) | refine l_call0 (within_ok _ _) (fun _ _ => ?_) | refine l_ldC ?_ | refine l_split (fun hc => ?_) (fun hc => ?_) | refine k_cond (fun hc => ?_) (fun hc => ?_))
  all_goals (refine k_ret () ?_ trivial; rw [← hr]; clear hr v1 v2 v3 hu hk e3; simp only [cond_true, Bool.not_false] at *; simp_all [isE, within, resV, RetV])

theorem chk_FFFT (a : Nm) (ha : a.owner.size ≤ 1099511627776) (ht : a.text.size ≤ 1099511627776) (hk : 1 ≤ a.kind ∧ a.kind ≤ 20) (uw : ByteArray) (um : Int) (hu : usages[a.kind.toNat]'(klt hk) = ⟨uw, false, false, false, true, um⟩) :
    Enters 70 ∧ Spec Tryz.prog 70 #[a.v] [Usg] [] (RetV (.int .i64 (uchk ⟨uw, false, false, false, true, um⟩ a))) := by
  have v1 := valid_ok a.owner ha
  have v2 := word_ok a.text ht
  have v3 := isKind_ok a.kind
  have e3 : (decide (1 ≤ a.kind) && decide (a.kind ≤ 20)) = true := by simp [hk]
  rw [e3] at v3
  generalize hr : uchk ⟨uw, false, false, false, true, um⟩ a = r
  unfold uchk at hr
  simp only [Bool.not_false, Bool.not_true, Bool.true_and, Bool.false_and, Bool.or_false] at hr
  refine ⟨enters_of Tryz.func70 (by kernel_rfl) rfl, spec_of (vs := [_]) Tryz.func70 rfl Tryz.ntmps70 rfl fun G w hp => ?_⟩
  repeat' (first | refine l_run ?_ | refine l_nil ?_ | refine l_one ?_ | refine k_reg ?_ | refine l_ld ?_ | refine l_ldF ?_ | refine l_st ?_ | refine l_al (fun b => ?_) | refine l_bs (fun b => ?_) | refine k_condT ?_ | refine k_condF ?_ | refine k_brk ?_ | refine l_call (v3) (fun _ _ => ?_) | refine l_call0 (v3) (fun _ _ => ?_) | refine l_split (fun hc => ?_) (fun hc => ?_))
  refine l_usg a.kind.toNat (klt hk) (fun T' o ho => ?_)
  rw [hu]
  repeat' (first | refine l_run ?_ | refine l_nil ?_ | refine l_one ?_ | refine k_reg ?_ | refine l_ld ?_ | refine l_ldF ?_ | refine l_st ?_ | refine l_al (fun b => ?_) | refine l_bs (fun b => ?_) | refine k_condT ?_ | refine k_condF ?_ | refine k_brk ?_ | refine l_call (v1) (fun _ _ => ?_) | refine l_call0 (v1) (fun _ _ => ?_) | refine l_call (v2) (fun _ _ => ?_) | refine l_call0 (v2) (fun _ _ => ?_) | refine l_call (within_ok _ _) (fun _ _ => ?_) | refine l_call0 (within_ok _ _) (fun _ _ => ?_) | refine l_ldC ?_ | refine l_split (fun hc => ?_) (fun hc => ?_) | refine k_cond (fun hc => ?_) (fun hc => ?_))
  all_goals (refine k_ret () ?_ trivial; rw [← hr]; clear hr v1 v2 v3 hu hk e3; simp only [cond_true, Bool.not_false] at *; simp_all [isE, resV, RetV])

theorem chk_FFFF (a : Nm) (ha : a.owner.size ≤ 1099511627776) (ht : a.text.size ≤ 1099511627776) (hk : 1 ≤ a.kind ∧ a.kind ≤ 20) (uw : ByteArray) (um : Int) (hu : usages[a.kind.toNat]'(klt hk) = ⟨uw, false, false, false, false, um⟩) :
    Enters 70 ∧ Spec Tryz.prog 70 #[a.v] [Usg] [] (RetV (.int .i64 (uchk ⟨uw, false, false, false, false, um⟩ a))) := by
  have v1 := valid_ok a.owner ha
  have v2 := word_ok a.text ht
  have v3 := isKind_ok a.kind
  have e3 : (decide (1 ≤ a.kind) && decide (a.kind ≤ 20)) = true := by simp [hk]
  rw [e3] at v3
  generalize hr : uchk ⟨uw, false, false, false, false, um⟩ a = r
  unfold uchk at hr
  simp only [Bool.not_false, Bool.true_and, Bool.false_and, Bool.or_false] at hr
  refine ⟨enters_of Tryz.func70 (by kernel_rfl) rfl, spec_of (vs := [_]) Tryz.func70 rfl Tryz.ntmps70 rfl fun G w hp => ?_⟩
  repeat' (first | refine l_run ?_ | refine l_nil ?_ | refine l_one ?_ | refine k_reg ?_ | refine l_ld ?_ | refine l_ldF ?_ | refine l_st ?_ | refine l_al (fun b => ?_) | refine l_bs (fun b => ?_) | refine k_condT ?_ | refine k_condF ?_ | refine k_brk ?_ | refine l_call (v3) (fun _ _ => ?_) | refine l_call0 (v3) (fun _ _ => ?_) | refine l_split (fun hc => ?_) (fun hc => ?_))
  refine l_usg a.kind.toNat (klt hk) (fun T' o ho => ?_)
  rw [hu]
  repeat' (first | refine l_run ?_ | refine l_nil ?_ | refine l_one ?_ | refine k_reg ?_ | refine l_ld ?_ | refine l_ldF ?_ | refine l_st ?_ | refine l_al (fun b => ?_) | refine l_bs (fun b => ?_) | refine k_condT ?_ | refine k_condF ?_ | refine k_brk ?_ | refine l_call (v1) (fun _ _ => ?_) | refine l_call0 (v1) (fun _ _ => ?_) | refine l_call (v2) (fun _ _ => ?_) | refine l_call0 (v2) (fun _ _ => ?_) | refine l_call (within_ok _ _) (fun _ _ => ?_) | refine l_call0 (within_ok _ _) (fun _ _ => ?_) | refine l_ldC ?_ | refine l_split (fun hc => ?_) (fun hc => ?_) | refine k_cond (fun hc => ?_) (fun hc => ?_))
  all_goals (refine k_ret () ?_ trivial; rw [← hr]; clear hr v1 v2 v3 hu hk e3; simp only [cond_true, Bool.not_false] at *; simp_all [isE, resV, RetV])

def okf (u : Usage) : Bool := (u.owner || !u.index) && (u.owner || !(u.number && u.text)) && !(u.index && u.text) && (!(u.owner && u.text) || u.number)
theorem okf_all : usages.all okf = true := by decide

theorem nameCheck_ok (a : Nm) (ha : a.owner.size ≤ 1099511627776) (ht : a.text.size ≤ 1099511627776) : Enters 70 ∧ Spec Tryz.prog 70 #[a.v] [Usg] [] (RetV (.int .i64 (nchk a))) := by
  by_cases hk : 1 ≤ a.kind ∧ a.kind ≤ 20
  · have hn : nchk a = uchk (usages[a.kind.toNat]'(klt hk)) a := by
      rw [nchk, if_pos hk, List.getD_eq_getElem?_getD, List.getElem?_eq_getElem (klt hk), Option.getD_some]
    rw [hn]
    have hu : okf (usages[a.kind.toNat]'(klt hk)) = true := List.all_eq_true.1 okf_all _ (List.getElem_mem (klt hk))
    generalize hus : usages[a.kind.toNat]'(klt hk) = u at *
    obtain ⟨uw, uo, un, ui, ut, um⟩ := u
    cases uo <;> cases un <;> cases ui <;> cases ut
    all_goals first
      | (simp [okf] at hu; done)
      | exact chk_TFFF a ha ht hk _ _ hus
      | exact chk_TFTF a ha ht hk _ _ hus
      | exact chk_TTFF a ha ht hk _ _ hus
      | exact chk_TTTF a ha ht hk _ _ hus
      | exact chk_TTFT a ha ht hk _ _ hus
      | exact chk_FTFF a ha ht hk _ _ hus
      | exact chk_FFFT a ha ht hk _ _ hus
      | exact chk_FFFF a ha ht hk _ _ hus
  · have hn : nchk a = 11 := by rw [nchk, if_neg hk]
    rw [hn]
    have v3 := isKind_ok a.kind
    have e3 : (decide (1 ≤ a.kind) && decide (a.kind ≤ 20)) = false := by simp; omega
    rw [e3] at v3
    refine ⟨enters_of Tryz.func70 (by kernel_rfl) rfl, spec_of (vs := [_]) Tryz.func70 rfl Tryz.ntmps70 rfl fun G w hp => ?_⟩
    repeat' (first | refine l_run ?_ | refine l_nil ?_ | refine l_one ?_ | refine k_reg ?_ | refine l_ld ?_ | refine l_ldF ?_ | refine l_st ?_ | refine l_al (fun b => ?_) | refine l_bs (fun b => ?_) | refine k_condT ?_ | refine k_condF ?_ | refine k_brk ?_ | refine l_call (v3) (fun _ _ => ?_) | refine l_call0 (v3) (fun _ _ => ?_) | refine l_split (fun hc => ?_) (fun hc => ?_) | refine k_cond (fun hc => ?_) (fun hc => ?_))
    exact k_ret () rfl trivial
end Go.Proofs.YtiggkcknmjgicaaGreatDoor

set_option maxRecDepth 10000
namespace Go.Proofs.YtiggkcknmjgicaaGreatDoor
open Go.RowKit

section
variable {n : Nat} {C : Cx} {Q : Exit → Act → World → Prop} {E E' : List (Nat × Value)} {F F1 : List Pf} {R R0 : List HP} {k : List Fr} {ops l : List Oper}
/-- A fact that follows from others. -/
theorem k_mk {f : Pf} (h : ∀ hp, (∀ x ∈ F1, x.p hp) → f.p hp) (t : Wk n C k Q E (f :: F) R) (hF : EntF F F1 := by (repeat (first | exact trivial | exact Sel.here | apply Sel.there | apply EntF.cons)); first | done | fail) : Wk n C k Q E F R :=
  fun a w ha ⟨hp, _, st⟩ => t a w ha (add_fact st (h hp (hF.all hp st.f)))
theorem l_mk {f : Pf} (h : ∀ hp, (∀ x ∈ F1, x.p hp) → f.p hp) (t : Wl n C ops.toArray k Q l E (f :: F) R) (hF : EntF F F1 := by (repeat (first | exact trivial | exact Sel.here | apply Sel.there | apply EntF.cons)); first | done | fail) : Wl n C ops.toArray k Q l E F R :=
  fun a w ha ⟨hp, _, st⟩ => t a w ha (add_fact st (h hp (hF.all hp st.f)))
end

/-- The cells of a node. -/
abbrev ndc (pl pr : Option Addr) (a : Nm) (v : ByteArray) (h s b : Int) : Obj := .cells #[.pointer pl, .pointer pr, .int .i64 a.kind, .string a.owner, .int .i64 a.number, .int .i64 a.index, .string a.text, .string v, .int .i64 h, .int .i64 s, .int .i64 b] 146

def TrP : Option Addr → Tr → H → Prop
  | p, .nil, _ => p = none
  | p, .node l a v r, h => ∃ b pl pr, p = some ⟨b, 0, none⟩ ∧ h b = some (ndc pl pr a v (Tr.node l a v r).ht (Tr.node l a v r).sz (Tr.node l a v r).by_) ∧ TrP pl l h ∧ TrP pr r h
theorem trP_mono : ∀ (t : Tr) (p : Option Addr) (h k : H), Sub h k → TrP p t h → TrP p t k
  | .nil, _, _, _, _, hh => hh
  | .node l _ _ r, _, h, k, s, ⟨b, pl, pr, h1, h2, h3, h4⟩ => ⟨b, pl, pr, h1, s _ _ h2, trP_mono l pl h k s h3, trP_mono r pr h k s h4⟩
/-- A tree in memory. -/
def TrF (p : Option Addr) (t : Tr) : Pf := ⟨TrP p t, trP_mono t p⟩
/-- A node with a name and a value. -/
def Nd (p : Option Addr) (a : Nm) (v : ByteArray) : Pf := ⟨fun h => ∃ b pl pr x y z, p = some ⟨b, 0, none⟩ ∧ h b = some (ndc pl pr a v x y z), fun _ _ s ⟨b, pl, pr, x, y, z, h1, h2⟩ => ⟨b, pl, pr, x, y, z, h1, s _ _ h2⟩⟩

theorem heightOf_ok (p : Option Addr) (t : Tr) : Enters 177 ∧ Spec Tryz.prog 177 #[.pointer p] [TrF p t] [] (RetV (.int .i64 (t.ht : Int))) := by
  refine ⟨enters_of Tryz.func177 (by kernel_rfl) rfl, spec_of (vs := [_]) Tryz.func177 rfl Tryz.ntmps177 rfl fun G w hp => ?_⟩
  cases t with
  | nil =>
    refine k_fact (X := Unit) (Fx := fun _ => []) (p := fun _ => p = none) (f := TrF p .nil) .here (fun h hh => ⟨(), hh, fun _ hx => by cases hx⟩) (fun _ hp => ?_)
    subst hp
    repeat' (first | refine l_run ?_ | refine l_nil ?_ | refine l_one ?_ | refine k_reg ?_ | refine l_ld ?_ | refine l_ldF ?_ | refine l_st ?_ | refine l_al (fun b => ?_) | refine l_bs (fun b => ?_) | refine k_condT ?_ | refine k_condF ?_ | refine k_brk ?_ | refine l_split (fun hc => ?_) (fun hc => ?_) | refine k_cond (fun hc => ?_) (fun hc => ?_))
    exact k_ret () rfl trivial
  | node l a v r =>
    refine k_fact (X := Nat × Option Addr × Option Addr) (Fx := fun x => [Blk x.1 (ndc x.2.1 x.2.2 a v (Tr.node l a v r).ht (Tr.node l a v r).sz (Tr.node l a v r).by_)]) (p := fun x => p = some ⟨x.1, 0, none⟩) (f := TrF p (.node l a v r)) .here (fun h ⟨b, pl, pr, h1, h2, _, _⟩ => ⟨(b, pl, pr), h1, fun f hf => by simp at hf; subst hf; exact h2⟩) (fun x hp => ?_)
    subst hp
    repeat' (first | refine l_run ?_ | refine l_nil ?_ | refine l_one ?_ | refine k_reg ?_ | refine l_ld ?_ | refine l_ldF ?_ | refine l_st ?_ | refine l_al (fun b => ?_) | refine l_bs (fun b => ?_) | refine k_condT ?_ | refine k_condF ?_ | refine k_brk ?_ | refine l_split (fun hc => ?_) (fun hc => ?_) | refine k_cond (fun hc => ?_) (fun hc => ?_))
    exact k_ret () rfl trivial
theorem sizeOf_ok (p : Option Addr) (t : Tr) : Enters 126 ∧ Spec Tryz.prog 126 #[.pointer p] [TrF p t] [] (RetV (.int .i64 (t.sz : Int))) := by
  refine ⟨enters_of Tryz.func126 (by kernel_rfl) rfl, spec_of (vs := [_]) Tryz.func126 rfl Tryz.ntmps126 rfl fun G w hp => ?_⟩
  cases t with
  | nil =>
    refine k_fact (X := Unit) (Fx := fun _ => []) (p := fun _ => p = none) (f := TrF p .nil) .here (fun h hh => ⟨(), hh, fun _ hx => by cases hx⟩) (fun _ hp => ?_)
    subst hp
    repeat' (first | refine l_run ?_ | refine l_nil ?_ | refine l_one ?_ | refine k_reg ?_ | refine l_ld ?_ | refine l_ldF ?_ | refine l_st ?_ | refine l_al (fun b => ?_) | refine l_bs (fun b => ?_) | refine k_condT ?_ | refine k_condF ?_ | refine k_brk ?_ | refine l_split (fun hc => ?_) (fun hc => ?_) | refine k_cond (fun hc => ?_) (fun hc => ?_))
    exact k_ret () rfl trivial
  | node l a v r =>
    refine k_fact (X := Nat × Option Addr × Option Addr) (Fx := fun x => [Blk x.1 (ndc x.2.1 x.2.2 a v (Tr.node l a v r).ht (Tr.node l a v r).sz (Tr.node l a v r).by_)]) (p := fun x => p = some ⟨x.1, 0, none⟩) (f := TrF p (.node l a v r)) .here (fun h ⟨b, pl, pr, h1, h2, _, _⟩ => ⟨(b, pl, pr), h1, fun f hf => by simp at hf; subst hf; exact h2⟩) (fun x hp => ?_)
    subst hp
    repeat' (first | refine l_run ?_ | refine l_nil ?_ | refine l_one ?_ | refine k_reg ?_ | refine l_ld ?_ | refine l_ldF ?_ | refine l_st ?_ | refine l_al (fun b => ?_) | refine l_bs (fun b => ?_) | refine k_condT ?_ | refine k_condF ?_ | refine k_brk ?_ | refine l_split (fun hc => ?_) (fun hc => ?_) | refine k_cond (fun hc => ?_) (fun hc => ?_))
    exact k_ret () rfl trivial
theorem bytesOf_ok (p : Option Addr) (t : Tr) : Enters 178 ∧ Spec Tryz.prog 178 #[.pointer p] [TrF p t] [] (RetV (.int .i64 (t.by_ : Int))) := by
  refine ⟨enters_of Tryz.func178 (by kernel_rfl) rfl, spec_of (vs := [_]) Tryz.func178 rfl Tryz.ntmps178 rfl fun G w hp => ?_⟩
  cases t with
  | nil =>
    refine k_fact (X := Unit) (Fx := fun _ => []) (p := fun _ => p = none) (f := TrF p .nil) .here (fun h hh => ⟨(), hh, fun _ hx => by cases hx⟩) (fun _ hp => ?_)
    subst hp
    repeat' (first | refine l_run ?_ | refine l_nil ?_ | refine l_one ?_ | refine k_reg ?_ | refine l_ld ?_ | refine l_ldF ?_ | refine l_st ?_ | refine l_al (fun b => ?_) | refine l_bs (fun b => ?_) | refine k_condT ?_ | refine k_condF ?_ | refine k_brk ?_ | refine l_split (fun hc => ?_) (fun hc => ?_) | refine k_cond (fun hc => ?_) (fun hc => ?_))
    exact k_ret () rfl trivial
  | node l a v r =>
    refine k_fact (X := Nat × Option Addr × Option Addr) (Fx := fun x => [Blk x.1 (ndc x.2.1 x.2.2 a v (Tr.node l a v r).ht (Tr.node l a v r).sz (Tr.node l a v r).by_)]) (p := fun x => p = some ⟨x.1, 0, none⟩) (f := TrF p (.node l a v r)) .here (fun h ⟨b, pl, pr, h1, h2, _, _⟩ => ⟨(b, pl, pr), h1, fun f hf => by simp at hf; subst hf; exact h2⟩) (fun x hp => ?_)
    subst hp
    repeat' (first | refine l_run ?_ | refine l_nil ?_ | refine l_one ?_ | refine k_reg ?_ | refine l_ld ?_ | refine l_ldF ?_ | refine l_st ?_ | refine l_al (fun b => ?_) | refine l_bs (fun b => ?_) | refine k_condT ?_ | refine k_condF ?_ | refine k_brk ?_ | refine l_split (fun hc => ?_) (fun hc => ?_) | refine k_cond (fun hc => ?_) (fun hc => ?_))
    exact k_ret () rfl trivial

theorem join_ok (pl pm pr : Option Addr) (l r : Tr) (a : Nm) (v : ByteArray) (hs : l.sz + r.sz ≤ 1099511627776) (hb : v.size + l.by_ + r.by_ ≤ 1152921504606846976) : Enters 127 ∧ Spec Tryz.prog 127 #[.pointer pl, .pointer pm, .pointer pr] [TrF pl l, Nd pm a v, TrF pr r] []
    ⟨Nat, fun b => .pointer (some ⟨b, 0, none⟩), fun _ => True, fun b => [TrF (some ⟨b, 0, none⟩) (.node l a v r)], fun _ => []⟩ := by
  have hl := l.ht_sz
  have hr := r.ht_sz
  refine ⟨enters_of Tryz.func127 (by kernel_rfl) rfl, spec_of (vs := [_, _, _]) Tryz.func127 rfl Tryz.ntmps127 rfl fun G w hp => ?_⟩
  refine k_fact (X := Nat × Option Addr × Option Addr × Int × Int × Int) (Fx := fun x => [Blk x.1 (ndc x.2.1 x.2.2.1 a v x.2.2.2.1 x.2.2.2.2.1 x.2.2.2.2.2)]) (p := fun x => pm = some ⟨x.1, 0, none⟩) (f := Nd pm a v) (.there .here) (fun h ⟨b, pl, pr, x, y, z, h1, h2⟩ => ⟨(b, pl, pr, x, y, z), h1, fun f hf => by simp at hf; subst hf; exact h2⟩) (fun x hp => ?_)
  subst hp
  repeat' (first | refine l_run ?_ | refine l_nil ?_ | refine l_one ?_ | refine k_reg ?_ | refine l_ld ?_ | refine l_ldF ?_ | refine l_st ?_ | refine l_al (fun b => ?_) | refine l_bs (fun b => ?_) | refine k_condT ?_ | refine k_condF ?_ | refine k_brk ?_ | refine r_run ?_ | refine r_one ?_ | refine r_ld ?_ | refine r_ldF ?_ | refine r_ldN ?_ | refine r_al (fun b => ?_) | refine r_bs (fun b => ?_) | refine r_st ?_ | refine r_end ?_ | refine l_call (heightOf_ok pl l) (fun _ _ => ?_) | refine l_call0 (heightOf_ok pl l) (fun _ _ => ?_) | refine r_call (heightOf_ok pl l) (fun _ _ => ?_) | refine l_call (heightOf_ok pr r) (fun _ _ => ?_) | refine l_call0 (heightOf_ok pr r) (fun _ _ => ?_) | refine r_call (heightOf_ok pr r) (fun _ _ => ?_) | refine l_call (sizeOf_ok pl l) (fun _ _ => ?_) | refine l_call0 (sizeOf_ok pl l) (fun _ _ => ?_) | refine r_call (sizeOf_ok pl l) (fun _ _ => ?_) | refine l_call (sizeOf_ok pr r) (fun _ _ => ?_) | refine l_call0 (sizeOf_ok pr r) (fun _ _ => ?_) | refine r_call (sizeOf_ok pr r) (fun _ _ => ?_) | refine l_call (bytesOf_ok pl l) (fun _ _ => ?_) | refine l_call0 (bytesOf_ok pl l) (fun _ _ => ?_) | refine r_call (bytesOf_ok pl l) (fun _ _ => ?_) | refine l_call (bytesOf_ok pr r) (fun _ _ => ?_) | refine l_call0 (bytesOf_ok pr r) (fun _ _ => ?_) | refine r_call (bytesOf_ok pr r) (fun _ _ => ?_) | refine l_split (fun hc => ?_) (fun hc => ?_) | refine r_split (fun hc => ?_) (fun hc => ?_) | refine k_draw 1 [] [(0, 0), (1, 0), (2, 0), (3, 0), (4, 0), (5, 0), (6, 0), (7, 0), (8, 0), (9, 0), (10, 0), (12, 0), (16, 0), (19, 0), (22, 0), (23, 0), (24, 0), (25, 0), (26, 0), (27, 0), (30, 0), (11, 4), (13, 4), (14, 0), (15, 0), (17, 4), (18, 0), (20, 4), (21, 0), (28, 4), (29, 0), (31, 4), (32, 0), (33, 0), (34, 1), (35, 0)] [] ?_ | refine k_cond (fun hc => ?_) (fun hc => ?_))
  have e1 : IntKind.i64.wrap (1 + if (l.ht : Int) < r.ht then (r.ht : Int) else l.ht) = ((Tr.node l a v r).ht : Int) := by
    rw [wrapi (by split <;> omega) (by split <;> omega)]; simp only [Tr.ht]; split <;> omega
  have e2 : IntKind.i64.wrap (IntKind.i64.wrap (1 + (l.sz : Int)) + r.sz) = ((Tr.node l a v r).sz : Int) := by
    rw [wrapi (z := 1 + (l.sz : Int)) (by omega) (by omega), wrapi (by omega) (by omega)]; simp only [Tr.sz]; omega
  have e3 : IntKind.i64.wrap (IntKind.i64.wrap ((v.size : Int) + l.by_) + r.by_) = ((Tr.node l a v r).by_ : Int) := by
    rw [wrapi (z := (v.size : Int) + l.by_) (by omega) (by omega), wrapi (by omega) (by omega)]; simp only [Tr.by_]; omega
  rw [e1, e2, e3]
  refine k_fz ?_
  refine k_mk (F1 := [Blk b (ndc pl pr a v (Tr.node l a v r).ht (Tr.node l a v r).sz (Tr.node l a v r).by_), TrF pl l, TrF pr r]) (f := TrF (some ⟨b, 0, none⟩) (.node l a v r)) (fun hp hF => ⟨b, pl, pr, rfl, hF (Blk b (ndc pl pr a v (Tr.node l a v r).ht (Tr.node l a v r).sz (Tr.node l a v r).by_)) (by simp), hF (TrF pl l) (by simp), hF (TrF pr r) (by simp)⟩) ?_
  exact k_ret b rfl trivial

theorem nd_of {p : Option Addr} {l r : Tr} {a : Nm} {v : ByteArray} {h : H} (hh : TrP p (.node l a v r) h) : (Nd p a v).p h :=
  let ⟨b, pl, pr, h1, h2, _, _⟩ := hh
  ⟨b, pl, pr, _, _, _, h1, h2⟩

section
variable {n : Nat} {C : Cx} {Q : Exit → Act → World → Prop} {E E' : List (Nat × Value)} {F F0 : List Pf} {R R0 : List HP} {k : List Fr} {ops l : List Oper}
/-- A node of a tree is opened. -/
theorem k_tr {p : Option Addr} {l r : Tr} {a : Nm} {v : ByteArray} (t : ∀ b pl pr, p = some ⟨b, 0, none⟩ → Wk n C k Q E (Blk b (ndc pl pr a v (Tr.node l a v r).ht (Tr.node l a v r).sz (Tr.node l a v r).by_) :: Nd p a v :: TrF pl l :: TrF pr r :: F) R) (hs : Sel (TrF p (.node l a v r)) F F0 := by (repeat (first | exact Sel.here | apply Sel.there)); first | done | fail) : Wk n C k Q E F R := by
  refine k_fact (X := Nat × Option Addr × Option Addr) (Fx := fun x => [Blk x.1 (ndc x.2.1 x.2.2 a v (Tr.node l a v r).ht (Tr.node l a v r).sz (Tr.node l a v r).by_), Nd p a v, TrF x.2.1 l, TrF x.2.2 r]) (p := fun x => p = some ⟨x.1, 0, none⟩) (f := TrF p (.node l a v r)) hs (fun h hh => ?_) (fun x hp => t x.1 x.2.1 x.2.2 hp)
  have hn := nd_of hh
  obtain ⟨b, pl, pr, h1, h2, h3, h4⟩ := hh
  refine ⟨(b, pl, pr), h1, fun f hf => ?_⟩
  simp only [List.mem_cons, List.not_mem_nil, or_false] at hf
  rcases hf with rfl | rfl | rfl | rfl
  · exact h2
  · exact hn
  · exact h3
  · exact h4
theorem k_trn {p : Option Addr} (t : p = none → Wk n C k Q E F R) (hs : Sel (TrF p .nil) F F0 := by (repeat (first | exact Sel.here | apply Sel.there)); first | done | fail) : Wk n C k Q E F R :=
  k_fact (X := Unit) (Fx := fun _ => []) (p := fun _ => p = none) (f := TrF p .nil) hs (fun h hh => ⟨(), hh, fun _ hx => by cases hx⟩) (fun _ hp => t hp)
end

set_option maxHeartbeats 2000000 in
theorem balance_ok (pl pm pr : Option Addr) (l r : Tr) (a : Nm) (v : ByteArray) (hs : l.sz + r.sz ≤ 1099511627776) (hb : v.size + l.by_ + r.by_ ≤ 1152921504606846976) : Enters 128 ∧ Spec Tryz.prog 128 #[.pointer pl, .pointer pm, .pointer pr] [TrF pl l, Nd pm a v, TrF pr r] []
    ⟨Nat, fun b => .pointer (some ⟨b, 0, none⟩), fun _ => True, fun b => [TrF (some ⟨b, 0, none⟩) (Tr.bal l a v r)], fun _ => []⟩ := by
  have hl := l.ht_sz
  have hr := r.ht_sz
  have w1 := wrapi (z := (l.ht : Int) - r.ht) (by omega) (by omega)
  refine ⟨enters_of Tryz.func128 (by kernel_rfl) rfl, spec_of (vs := [_, _, _]) Tryz.func128 rfl Tryz.ntmps128 rfl fun G w hp => ?_⟩
  generalize hbal : Tr.bal l a v r = t
  unfold Tr.bal at hbal
  have k1 := hs
  have k2 := hb
  by_cases h1 : r.ht + 1 < l.ht
  · rw [if_pos h1] at hbal
    cases l with
    | nil => simp [Tr.ht] at h1
    | node ll la lv lr =>
      dsimp only at hbal
      simp only [Tr.sz] at k1
      simp only [Tr.by_] at k2
      refine k_tr (p := pl) (l := ll) (r := lr) (a := la) (v := lv) (fun b pll plr hp => ?_)
      subst hp
      by_cases h2 : lr.ht ≤ ll.ht
      · rw [if_pos h2] at hbal
        subst hbal
        repeat' (first | refine l_run ?_ | refine l_nil ?_ | refine l_one ?_ | refine k_reg ?_ | refine l_ld ?_ | refine l_ldF ?_ | refine l_st ?_ | refine l_al (fun b => ?_) | refine l_bs (fun b => ?_) | refine k_condT ?_ | refine k_condF ?_ | refine k_brk ?_ | refine r_run ?_ | refine r_one ?_ | refine r_ld ?_ | refine r_ldF ?_ | refine r_ldN ?_ | refine r_al (fun b => ?_) | refine r_bs (fun b => ?_) | refine r_st ?_ | refine r_end ?_ | refine l_call (heightOf_ok _ (Tr.node ll la lv lr)) (fun _ _ => ?_) | refine l_call0 (heightOf_ok _ (Tr.node ll la lv lr)) (fun _ _ => ?_) | refine r_call (heightOf_ok _ (Tr.node ll la lv lr)) (fun _ _ => ?_) | refine l_call (heightOf_ok pr r) (fun _ _ => ?_) | refine l_call0 (heightOf_ok pr r) (fun _ _ => ?_) | refine r_call (heightOf_ok pr r) (fun _ _ => ?_) | refine l_call (heightOf_ok pll ll) (fun _ _ => ?_) | refine l_call0 (heightOf_ok pll ll) (fun _ _ => ?_) | refine r_call (heightOf_ok pll ll) (fun _ _ => ?_) | refine l_call (heightOf_ok plr lr) (fun _ _ => ?_) | refine l_call0 (heightOf_ok plr lr) (fun _ _ => ?_) | refine r_call (heightOf_ok plr lr) (fun _ _ => ?_) | refine l_call (join_ok plr pm pr lr r a v (by first | omega | (simp only [Tr.sz]; omega)) (by first | omega | (simp only [Tr.by_]; omega))) (fun _ _ => ?_) | refine l_call0 (join_ok plr pm pr lr r a v (by first | omega | (simp only [Tr.sz]; omega)) (by first | omega | (simp only [Tr.by_]; omega))) (fun _ _ => ?_) | refine r_call (join_ok plr pm pr lr r a v (by first | omega | (simp only [Tr.sz]; omega)) (by first | omega | (simp only [Tr.by_]; omega))) (fun _ _ => ?_) | refine l_call (join_ok pll _ _ ll (.node lr a v r) la lv (by first | omega | (simp only [Tr.sz]; omega)) (by first | omega | (simp only [Tr.by_]; omega))) (fun _ _ => ?_) | refine l_call0 (join_ok pll _ _ ll (.node lr a v r) la lv (by first | omega | (simp only [Tr.sz]; omega)) (by first | omega | (simp only [Tr.by_]; omega))) (fun _ _ => ?_) | refine r_call (join_ok pll _ _ ll (.node lr a v r) la lv (by first | omega | (simp only [Tr.sz]; omega)) (by first | omega | (simp only [Tr.by_]; omega))) (fun _ _ => ?_) | rw [w1] | (refine l_split (fun hc => ?_) (fun hc => ?_) <;> (try simp at hc) <;> (try omega)) | (refine r_split (fun hc => ?_) (fun hc => ?_) <;> (try simp at hc) <;> (try omega)) | refine k_draw 2 [] [(0, 0), (1, 0), (2, 0), (3, 0), (4, 0), (5, 0), (6, 0), (8, 0), (9, 0), (10, 0), (11, 0), (7, 4), (12, 4), (13, 0), (14, 0), (15, 0)] [] ?_ | refine k_draw 3 [] [(0, 0), (1, 0), (2, 0), (3, 0), (4, 0), (5, 0), (6, 0), (7, 0), (8, 0), (9, 0), (10, 0), (11, 4), (12, 4), (13, 0)] [] ?_ | refine k_draw 6 [] [(0, 0), (1, 0), (2, 0), (3, 0), (4, 0), (5, 0), (6, 0), (7, 0), (8, 0), (10, 0), (11, 0), (12, 0), (13, 0), (14, 0), (15, 0), (16, 0), (9, 4), (17, 4), (18, 4), (19, 0)] [] ?_ | refine k_draw 7 [] [(0, 0), (1, 0), (2, 0), (3, 0), (4, 0), (5, 0), (6, 0), (8, 0), (9, 0), (10, 0), (11, 0), (7, 4), (12, 4), (13, 0), (14, 0), (15, 0)] [] ?_ | refine k_draw 8 [] [(0, 0), (1, 0), (2, 0), (3, 0), (4, 0), (5, 0), (7, 0), (8, 0), (9, 0), (10, 0), (11, 0), (6, 4), (12, 4), (13, 0)] [] ?_ | refine k_draw 11 [] [(0, 0), (1, 0), (2, 0), (3, 0), (4, 0), (5, 0), (7, 0), (8, 0), (9, 0), (10, 0), (11, 0), (12, 0), (13, 0), (14, 0), (15, 0), (16, 0), (6, 4), (17, 4), (18, 4), (19, 0)] [] ?_ | (refine k_cond (fun hc => ?_) (fun hc => ?_) <;> (try simp at hc) <;> (try omega)))
        rename_i q _
        exact k_ret q rfl trivial
      · rw [if_neg h2] at hbal
        cases lr with
        | nil => simp [Tr.ht] at h2
        | node il ia iv ir =>
          dsimp only at hbal
          subst hbal
          simp only [Tr.sz] at k1
          simp only [Tr.by_] at k2
          refine k_tr (p := plr) (l := il) (r := ir) (a := ia) (v := iv) (fun b2 pil pir hp => ?_)
          subst hp
          repeat' (first | refine l_run ?_ | refine l_nil ?_ | refine l_one ?_ | refine k_reg ?_ | refine l_ld ?_ | refine l_ldF ?_ | refine l_st ?_ | refine l_al (fun b => ?_) | refine l_bs (fun b => ?_) | refine k_condT ?_ | refine k_condF ?_ | refine k_brk ?_ | refine r_run ?_ | refine r_one ?_ | refine r_ld ?_ | refine r_ldF ?_ | refine r_ldN ?_ | refine r_al (fun b => ?_) | refine r_bs (fun b => ?_) | refine r_st ?_ | refine r_end ?_ | refine l_call (heightOf_ok _ (Tr.node ll la lv (Tr.node il ia iv ir))) (fun _ _ => ?_) | refine l_call0 (heightOf_ok _ (Tr.node ll la lv (Tr.node il ia iv ir))) (fun _ _ => ?_) | refine r_call (heightOf_ok _ (Tr.node ll la lv (Tr.node il ia iv ir))) (fun _ _ => ?_) | refine l_call (heightOf_ok pr r) (fun _ _ => ?_) | refine l_call0 (heightOf_ok pr r) (fun _ _ => ?_) | refine r_call (heightOf_ok pr r) (fun _ _ => ?_) | refine l_call (heightOf_ok pll ll) (fun _ _ => ?_) | refine l_call0 (heightOf_ok pll ll) (fun _ _ => ?_) | refine r_call (heightOf_ok pll ll) (fun _ _ => ?_) | refine l_call (heightOf_ok _ (Tr.node il ia iv ir)) (fun _ _ => ?_) | refine l_call0 (heightOf_ok _ (Tr.node il ia iv ir)) (fun _ _ => ?_) | refine r_call (heightOf_ok _ (Tr.node il ia iv ir)) (fun _ _ => ?_) | refine l_call (join_ok pll _ pil ll il la lv (by first | omega | (simp only [Tr.sz]; omega)) (by first | omega | (simp only [Tr.by_]; omega))) (fun _ _ => ?_) | refine l_call0 (join_ok pll _ pil ll il la lv (by first | omega | (simp only [Tr.sz]; omega)) (by first | omega | (simp only [Tr.by_]; omega))) (fun _ _ => ?_) | refine r_call (join_ok pll _ pil ll il la lv (by first | omega | (simp only [Tr.sz]; omega)) (by first | omega | (simp only [Tr.by_]; omega))) (fun _ _ => ?_) | refine l_call (join_ok pir pm pr ir r a v (by first | omega | (simp only [Tr.sz]; omega)) (by first | omega | (simp only [Tr.by_]; omega))) (fun _ _ => ?_) | refine l_call0 (join_ok pir pm pr ir r a v (by first | omega | (simp only [Tr.sz]; omega)) (by first | omega | (simp only [Tr.by_]; omega))) (fun _ _ => ?_) | refine r_call (join_ok pir pm pr ir r a v (by first | omega | (simp only [Tr.sz]; omega)) (by first | omega | (simp only [Tr.by_]; omega))) (fun _ _ => ?_) | refine l_call (join_ok _ _ _ (.node ll la lv il) (.node ir a v r) ia iv (by first | omega | (simp only [Tr.sz]; omega)) (by first | omega | (simp only [Tr.by_]; omega))) (fun _ _ => ?_) | refine l_call0 (join_ok _ _ _ (.node ll la lv il) (.node ir a v r) ia iv (by first | omega | (simp only [Tr.sz]; omega)) (by first | omega | (simp only [Tr.by_]; omega))) (fun _ _ => ?_) | refine r_call (join_ok _ _ _ (.node ll la lv il) (.node ir a v r) ia iv (by first | omega | (simp only [Tr.sz]; omega)) (by first | omega | (simp only [Tr.by_]; omega))) (fun _ _ => ?_) | rw [w1] | (refine l_split (fun hc => ?_) (fun hc => ?_) <;> (try simp at hc) <;> (try omega)) | (refine r_split (fun hc => ?_) (fun hc => ?_) <;> (try simp at hc) <;> (try omega)) | refine k_draw 2 [] [(0, 0), (1, 0), (2, 0), (3, 0), (4, 0), (5, 0), (6, 0), (8, 0), (9, 0), (10, 0), (11, 0), (7, 4), (12, 4), (13, 0), (14, 0), (15, 0)] [] ?_ | refine k_draw 3 [] [(0, 0), (1, 0), (2, 0), (3, 0), (4, 0), (5, 0), (6, 0), (7, 0), (8, 0), (9, 0), (10, 0), (11, 4), (12, 4), (13, 0)] [] ?_ | refine k_draw 6 [] [(0, 0), (1, 0), (2, 0), (3, 0), (4, 0), (5, 0), (6, 0), (7, 0), (8, 0), (10, 0), (11, 0), (12, 0), (13, 0), (14, 0), (15, 0), (16, 0), (9, 4), (17, 4), (18, 4), (19, 0)] [] ?_ | refine k_draw 7 [] [(0, 0), (1, 0), (2, 0), (3, 0), (4, 0), (5, 0), (6, 0), (8, 0), (9, 0), (10, 0), (11, 0), (7, 4), (12, 4), (13, 0), (14, 0), (15, 0)] [] ?_ | refine k_draw 8 [] [(0, 0), (1, 0), (2, 0), (3, 0), (4, 0), (5, 0), (7, 0), (8, 0), (9, 0), (10, 0), (11, 0), (6, 4), (12, 4), (13, 0)] [] ?_ | refine k_draw 11 [] [(0, 0), (1, 0), (2, 0), (3, 0), (4, 0), (5, 0), (7, 0), (8, 0), (9, 0), (10, 0), (11, 0), (12, 0), (13, 0), (14, 0), (15, 0), (16, 0), (6, 4), (17, 4), (18, 4), (19, 0)] [] ?_ | (refine k_cond (fun hc => ?_) (fun hc => ?_) <;> (try simp at hc) <;> (try omega)))
          rename_i q _
          exact k_ret q rfl trivial
  · rw [if_neg h1] at hbal
    by_cases h3 : l.ht + 1 < r.ht
    · rw [if_pos h3] at hbal
      cases r with
      | nil => simp [Tr.ht] at h3
      | node rl ra rv rr =>
        dsimp only at hbal
        simp only [Tr.sz] at k1
        simp only [Tr.by_] at k2
        refine k_tr (p := pr) (l := rl) (r := rr) (a := ra) (v := rv) (fun b prl prr hp => ?_)
        subst hp
        by_cases h2 : rl.ht ≤ rr.ht
        · rw [if_pos h2] at hbal
          subst hbal
          repeat' (first | refine l_run ?_ | refine l_nil ?_ | refine l_one ?_ | refine k_reg ?_ | refine l_ld ?_ | refine l_ldF ?_ | refine l_st ?_ | refine l_al (fun b => ?_) | refine l_bs (fun b => ?_) | refine k_condT ?_ | refine k_condF ?_ | refine k_brk ?_ | refine r_run ?_ | refine r_one ?_ | refine r_ld ?_ | refine r_ldF ?_ | refine r_ldN ?_ | refine r_al (fun b => ?_) | refine r_bs (fun b => ?_) | refine r_st ?_ | refine r_end ?_ | refine l_call (heightOf_ok pl l) (fun _ _ => ?_) | refine l_call0 (heightOf_ok pl l) (fun _ _ => ?_) | refine r_call (heightOf_ok pl l) (fun _ _ => ?_) | refine l_call (heightOf_ok _ (Tr.node rl ra rv rr)) (fun _ _ => ?_) | refine l_call0 (heightOf_ok _ (Tr.node rl ra rv rr)) (fun _ _ => ?_) | refine r_call (heightOf_ok _ (Tr.node rl ra rv rr)) (fun _ _ => ?_) | refine l_call (heightOf_ok prl rl) (fun _ _ => ?_) | refine l_call0 (heightOf_ok prl rl) (fun _ _ => ?_) | refine r_call (heightOf_ok prl rl) (fun _ _ => ?_) | refine l_call (heightOf_ok prr rr) (fun _ _ => ?_) | refine l_call0 (heightOf_ok prr rr) (fun _ _ => ?_) | refine r_call (heightOf_ok prr rr) (fun _ _ => ?_) | refine l_call (join_ok pl pm prl l rl a v (by first | omega | (simp only [Tr.sz]; omega)) (by first | omega | (simp only [Tr.by_]; omega))) (fun _ _ => ?_) | refine l_call0 (join_ok pl pm prl l rl a v (by first | omega | (simp only [Tr.sz]; omega)) (by first | omega | (simp only [Tr.by_]; omega))) (fun _ _ => ?_) | refine r_call (join_ok pl pm prl l rl a v (by first | omega | (simp only [Tr.sz]; omega)) (by first | omega | (simp only [Tr.by_]; omega))) (fun _ _ => ?_) | refine l_call (join_ok _ _ prr (.node l a v rl) rr ra rv (by first | omega | (simp only [Tr.sz]; omega)) (by first | omega | (simp only [Tr.by_]; omega))) (fun _ _ => ?_) | refine l_call0 (join_ok _ _ prr (.node l a v rl) rr ra rv (by first | omega | (simp only [Tr.sz]; omega)) (by first | omega | (simp only [Tr.by_]; omega))) (fun _ _ => ?_) | refine r_call (join_ok _ _ prr (.node l a v rl) rr ra rv (by first | omega | (simp only [Tr.sz]; omega)) (by first | omega | (simp only [Tr.by_]; omega))) (fun _ _ => ?_) | rw [w1] | (refine l_split (fun hc => ?_) (fun hc => ?_) <;> (try simp at hc) <;> (try omega)) | (refine r_split (fun hc => ?_) (fun hc => ?_) <;> (try simp at hc) <;> (try omega)) | refine k_draw 2 [] [(0, 0), (1, 0), (2, 0), (3, 0), (4, 0), (5, 0), (6, 0), (8, 0), (9, 0), (10, 0), (11, 0), (7, 4), (12, 4), (13, 0), (14, 0), (15, 0)] [] ?_ | refine k_draw 3 [] [(0, 0), (1, 0), (2, 0), (3, 0), (4, 0), (5, 0), (6, 0), (7, 0), (8, 0), (9, 0), (10, 0), (11, 4), (12, 4), (13, 0)] [] ?_ | refine k_draw 6 [] [(0, 0), (1, 0), (2, 0), (3, 0), (4, 0), (5, 0), (6, 0), (7, 0), (8, 0), (10, 0), (11, 0), (12, 0), (13, 0), (14, 0), (15, 0), (16, 0), (9, 4), (17, 4), (18, 4), (19, 0)] [] ?_ | refine k_draw 7 [] [(0, 0), (1, 0), (2, 0), (3, 0), (4, 0), (5, 0), (6, 0), (8, 0), (9, 0), (10, 0), (11, 0), (7, 4), (12, 4), (13, 0), (14, 0), (15, 0)] [] ?_ | refine k_draw 8 [] [(0, 0), (1, 0), (2, 0), (3, 0), (4, 0), (5, 0), (7, 0), (8, 0), (9, 0), (10, 0), (11, 0), (6, 4), (12, 4), (13, 0)] [] ?_ | refine k_draw 11 [] [(0, 0), (1, 0), (2, 0), (3, 0), (4, 0), (5, 0), (7, 0), (8, 0), (9, 0), (10, 0), (11, 0), (12, 0), (13, 0), (14, 0), (15, 0), (16, 0), (6, 4), (17, 4), (18, 4), (19, 0)] [] ?_ | (refine k_cond (fun hc => ?_) (fun hc => ?_) <;> (try simp at hc) <;> (try omega)))
          rename_i q _
          exact k_ret q rfl trivial
        · rw [if_neg h2] at hbal
          cases rl with
          | nil => simp [Tr.ht] at h2
          | node il ia iv ir =>
            dsimp only at hbal
            subst hbal
            simp only [Tr.sz] at k1
            simp only [Tr.by_] at k2
            refine k_tr (p := prl) (l := il) (r := ir) (a := ia) (v := iv) (fun b2 pil pir hp => ?_)
            subst hp
            repeat' (first | refine l_run ?_ | refine l_nil ?_ | refine l_one ?_ | refine k_reg ?_ | refine l_ld ?_ | refine l_ldF ?_ | refine l_st ?_ | refine l_al (fun b => ?_) | refine l_bs (fun b => ?_) | refine k_condT ?_ | refine k_condF ?_ | refine k_brk ?_ | refine r_run ?_ | refine r_one ?_ | refine r_ld ?_ | refine r_ldF ?_ | refine r_ldN ?_ | refine r_al (fun b => ?_) | refine r_bs (fun b => ?_) | refine r_st ?_ | refine r_end ?_ | refine l_call (heightOf_ok pl l) (fun _ _ => ?_) | refine l_call0 (heightOf_ok pl l) (fun _ _ => ?_) | refine r_call (heightOf_ok pl l) (fun _ _ => ?_) | refine l_call (heightOf_ok _ (Tr.node (Tr.node il ia iv ir) ra rv rr)) (fun _ _ => ?_) | refine l_call0 (heightOf_ok _ (Tr.node (Tr.node il ia iv ir) ra rv rr)) (fun _ _ => ?_) | refine r_call (heightOf_ok _ (Tr.node (Tr.node il ia iv ir) ra rv rr)) (fun _ _ => ?_) | refine l_call (heightOf_ok prr rr) (fun _ _ => ?_) | refine l_call0 (heightOf_ok prr rr) (fun _ _ => ?_) | refine r_call (heightOf_ok prr rr) (fun _ _ => ?_) | refine l_call (heightOf_ok _ (Tr.node il ia iv ir)) (fun _ _ => ?_) | refine l_call0 (heightOf_ok _ (Tr.node il ia iv ir)) (fun _ _ => ?_) | refine r_call (heightOf_ok _ (Tr.node il ia iv ir)) (fun _ _ => ?_) | refine l_call (join_ok pl pm pil l il a v (by first | omega | (simp only [Tr.sz]; omega)) (by first | omega | (simp only [Tr.by_]; omega))) (fun _ _ => ?_) | refine l_call0 (join_ok pl pm pil l il a v (by first | omega | (simp only [Tr.sz]; omega)) (by first | omega | (simp only [Tr.by_]; omega))) (fun _ _ => ?_) | refine r_call (join_ok pl pm pil l il a v (by first | omega | (simp only [Tr.sz]; omega)) (by first | omega | (simp only [Tr.by_]; omega))) (fun _ _ => ?_) | refine l_call (join_ok pir _ prr ir rr ra rv (by first | omega | (simp only [Tr.sz]; omega)) (by first | omega | (simp only [Tr.by_]; omega))) (fun _ _ => ?_) | refine l_call0 (join_ok pir _ prr ir rr ra rv (by first | omega | (simp only [Tr.sz]; omega)) (by first | omega | (simp only [Tr.by_]; omega))) (fun _ _ => ?_) | refine r_call (join_ok pir _ prr ir rr ra rv (by first | omega | (simp only [Tr.sz]; omega)) (by first | omega | (simp only [Tr.by_]; omega))) (fun _ _ => ?_) | refine l_call (join_ok _ _ _ (.node l a v il) (.node ir ra rv rr) ia iv (by first | omega | (simp only [Tr.sz]; omega)) (by first | omega | (simp only [Tr.by_]; omega))) (fun _ _ => ?_) | refine l_call0 (join_ok _ _ _ (.node l a v il) (.node ir ra rv rr) ia iv (by first | omega | (simp only [Tr.sz]; omega)) (by first | omega | (simp only [Tr.by_]; omega))) (fun _ _ => ?_) | refine r_call (join_ok _ _ _ (.node l a v il) (.node ir ra rv rr) ia iv (by first | omega | (simp only [Tr.sz]; omega)) (by first | omega | (simp only [Tr.by_]; omega))) (fun _ _ => ?_) | rw [w1] | (refine l_split (fun hc => ?_) (fun hc => ?_) <;> (try simp at hc) <;> (try omega)) | (refine r_split (fun hc => ?_) (fun hc => ?_) <;> (try simp at hc) <;> (try omega)) | refine k_draw 2 [] [(0, 0), (1, 0), (2, 0), (3, 0), (4, 0), (5, 0), (6, 0), (8, 0), (9, 0), (10, 0), (11, 0), (7, 4), (12, 4), (13, 0), (14, 0), (15, 0)] [] ?_ | refine k_draw 3 [] [(0, 0), (1, 0), (2, 0), (3, 0), (4, 0), (5, 0), (6, 0), (7, 0), (8, 0), (9, 0), (10, 0), (11, 4), (12, 4), (13, 0)] [] ?_ | refine k_draw 6 [] [(0, 0), (1, 0), (2, 0), (3, 0), (4, 0), (5, 0), (6, 0), (7, 0), (8, 0), (10, 0), (11, 0), (12, 0), (13, 0), (14, 0), (15, 0), (16, 0), (9, 4), (17, 4), (18, 4), (19, 0)] [] ?_ | refine k_draw 7 [] [(0, 0), (1, 0), (2, 0), (3, 0), (4, 0), (5, 0), (6, 0), (8, 0), (9, 0), (10, 0), (11, 0), (7, 4), (12, 4), (13, 0), (14, 0), (15, 0)] [] ?_ | refine k_draw 8 [] [(0, 0), (1, 0), (2, 0), (3, 0), (4, 0), (5, 0), (7, 0), (8, 0), (9, 0), (10, 0), (11, 0), (6, 4), (12, 4), (13, 0)] [] ?_ | refine k_draw 11 [] [(0, 0), (1, 0), (2, 0), (3, 0), (4, 0), (5, 0), (7, 0), (8, 0), (9, 0), (10, 0), (11, 0), (12, 0), (13, 0), (14, 0), (15, 0), (16, 0), (6, 4), (17, 4), (18, 4), (19, 0)] [] ?_ | (refine k_cond (fun hc => ?_) (fun hc => ?_) <;> (try simp at hc) <;> (try omega)))
            rename_i q _
            exact k_ret q rfl trivial
    · rw [if_neg h3] at hbal
      subst hbal
      repeat' (first | refine l_run ?_ | refine l_nil ?_ | refine l_one ?_ | refine k_reg ?_ | refine l_ld ?_ | refine l_ldF ?_ | refine l_st ?_ | refine l_al (fun b => ?_) | refine l_bs (fun b => ?_) | refine k_condT ?_ | refine k_condF ?_ | refine k_brk ?_ | refine r_run ?_ | refine r_one ?_ | refine r_ld ?_ | refine r_ldF ?_ | refine r_ldN ?_ | refine r_al (fun b => ?_) | refine r_bs (fun b => ?_) | refine r_st ?_ | refine r_end ?_ | refine l_call (heightOf_ok pl l) (fun _ _ => ?_) | refine l_call0 (heightOf_ok pl l) (fun _ _ => ?_) | refine r_call (heightOf_ok pl l) (fun _ _ => ?_) | refine l_call (heightOf_ok pr r) (fun _ _ => ?_) | refine l_call0 (heightOf_ok pr r) (fun _ _ => ?_) | refine r_call (heightOf_ok pr r) (fun _ _ => ?_) | refine l_call (join_ok pl pm pr l r a v hs hb) (fun _ _ => ?_) | refine l_call0 (join_ok pl pm pr l r a v hs hb) (fun _ _ => ?_) | refine r_call (join_ok pl pm pr l r a v hs hb) (fun _ _ => ?_) | rw [w1] | (refine l_split (fun hc => ?_) (fun hc => ?_) <;> (try simp at hc) <;> (try omega)) | (refine r_split (fun hc => ?_) (fun hc => ?_) <;> (try simp at hc) <;> (try omega)) | refine k_draw 2 [] [(0, 0), (1, 0), (2, 0), (3, 0), (4, 0), (5, 0), (6, 0), (8, 0), (9, 0), (10, 0), (11, 0), (7, 4), (12, 4), (13, 0), (14, 0), (15, 0)] [] ?_ | refine k_draw 3 [] [(0, 0), (1, 0), (2, 0), (3, 0), (4, 0), (5, 0), (6, 0), (7, 0), (8, 0), (9, 0), (10, 0), (11, 4), (12, 4), (13, 0)] [] ?_ | refine k_draw 6 [] [(0, 0), (1, 0), (2, 0), (3, 0), (4, 0), (5, 0), (6, 0), (7, 0), (8, 0), (10, 0), (11, 0), (12, 0), (13, 0), (14, 0), (15, 0), (16, 0), (9, 4), (17, 4), (18, 4), (19, 0)] [] ?_ | refine k_draw 7 [] [(0, 0), (1, 0), (2, 0), (3, 0), (4, 0), (5, 0), (6, 0), (8, 0), (9, 0), (10, 0), (11, 0), (7, 4), (12, 4), (13, 0), (14, 0), (15, 0)] [] ?_ | refine k_draw 8 [] [(0, 0), (1, 0), (2, 0), (3, 0), (4, 0), (5, 0), (7, 0), (8, 0), (9, 0), (10, 0), (11, 0), (6, 4), (12, 4), (13, 0)] [] ?_ | refine k_draw 11 [] [(0, 0), (1, 0), (2, 0), (3, 0), (4, 0), (5, 0), (7, 0), (8, 0), (9, 0), (10, 0), (11, 0), (12, 0), (13, 0), (14, 0), (15, 0), (16, 0), (6, 4), (17, 4), (18, 4), (19, 0)] [] ?_ | (refine k_cond (fun hc => ?_) (fun hc => ?_) <;> (try simp at hc) <;> (try omega)))
      rename_i q _
      exact k_ret q rfl trivial
end Go.Proofs.YtiggkcknmjgicaaGreatDoor

set_option maxRecDepth 10000
namespace Go.Proofs.YtiggkcknmjgicaaGreatDoor
open Go.RowKit

theorem sz_bal (l : Tr) (a : Nm) (v : ByteArray) (r : Tr) : (Tr.bal l a v r).sz = 1 + l.sz + r.sz := by
  rw [Tr.sz_els, Tr.els_bal, Tr.sz_els l, Tr.sz_els r]; simp; omega
theorem by_bal (l : Tr) (a : Nm) (v : ByteArray) (r : Tr) : (Tr.bal l a v r).by_ = v.size + l.by_ + r.by_ := by
  rw [Tr.by_els, Tr.els_bal, Tr.by_els l, Tr.by_els r]; simp [Tr.ab]; omega
theorem sz_put (a : Nm) (v : ByteArray) : ∀ t : Tr, (Tr.put a v t).sz ≤ t.sz + 1
  | .nil => by simp [Tr.put, Tr.sz]
  | .node l b u r => by
    have := sz_put a v l
    have := sz_put a v r
    unfold Tr.put
    split
    · rw [sz_bal]; simp only [Tr.sz]; omega
    · split
      · rw [sz_bal]; simp only [Tr.sz]; omega
      · simp only [Tr.sz]; omega
theorem by_put (a : Nm) (v : ByteArray) : ∀ t : Tr, (Tr.put a v t).by_ ≤ t.by_ + v.size
  | .nil => by simp [Tr.put, Tr.by_]
  | .node l b u r => by
    have := by_put a v l
    have := by_put a v r
    unfold Tr.put
    split
    · rw [by_bal]; simp only [Tr.by_]; omega
    · split
      · rw [by_bal]; simp only [Tr.by_]; omega
      · simp only [Tr.by_]; omega

/-- A tree whose numbers are not too great. -/
structure Okt (t : Tr) : Prop where
  s : t.sz ≤ 1000000
  b : t.by_ ≤ 1000000000000
  o : ∀ x ∈ t.els, x.1.owner.size ≤ 1099511627770
theorem Okt.l {l r : Tr} {b : Nm} {u : ByteArray} (h : Okt (.node l b u r)) : Okt l := by
  have h1 := h.s
  have h2 := h.b
  simp only [Tr.sz] at h1
  simp only [Tr.by_] at h2
  exact ⟨by omega, by omega, fun x hx => h.o x (by simp [Tr.els, hx])⟩
theorem Okt.r {l r : Tr} {b : Nm} {u : ByteArray} (h : Okt (.node l b u r)) : Okt r := by
  have h1 := h.s
  have h2 := h.b
  simp only [Tr.sz] at h1
  simp only [Tr.by_] at h2
  exact ⟨by omega, by omega, fun x hx => h.o x (by simp [Tr.els, hx])⟩
theorem Okt.m {l r : Tr} {b : Nm} {u : ByteArray} (h : Okt (.node l b u r)) : b.owner.size ≤ 1099511627770 := h.o (b, u) (by simp [Tr.els])

section
variable {n : Nat} {C : Cx} {Q : Exit → Act → World → Prop} {E E' : List (Nat × Value)} {F F0 : List Pf} {R R0 : List HP} {k : List Fr}
theorem l_nd {ops l : List Oper} {p : Option Addr} {a : Nm} {v : ByteArray} (t : ∀ b pl pr x y z, p = some ⟨b, 0, none⟩ → Wl n C ops.toArray k Q l E (Blk b (ndc pl pr a v x y z) :: F) R) (hs : Sel (Nd p a v) F F0 := by (repeat (first | exact Sel.here | apply Sel.there)); first | done | fail) : Wl n C ops.toArray k Q l E F R :=
  l_fact (X := Nat × Option Addr × Option Addr × Int × Int × Int) (Fx := fun x => [Blk x.1 (ndc x.2.1 x.2.2.1 a v x.2.2.2.1 x.2.2.2.2.1 x.2.2.2.2.2)]) (p := fun x => p = some ⟨x.1, 0, none⟩) (f := Nd p a v) hs (fun h ⟨b, pl, pr, x, y, z, h1, h2⟩ => ⟨(b, pl, pr, x, y, z), h1, fun f hf => by simp at hf; subst hf; exact h2⟩) (fun x hp => t x.1 x.2.1 x.2.2.1 x.2.2.2.1 x.2.2.2.2.1 x.2.2.2.2.2 hp)
theorem k_nd {p : Option Addr} {a : Nm} {v : ByteArray} (t : ∀ b pl pr x y z, p = some ⟨b, 0, none⟩ → Wk n C k Q E (Blk b (ndc pl pr a v x y z) :: F) R) (hs : Sel (Nd p a v) F F0 := by (repeat (first | exact Sel.here | apply Sel.there)); first | done | fail) : Wk n C k Q E F R :=
  k_fact (X := Nat × Option Addr × Option Addr × Int × Int × Int) (Fx := fun x => [Blk x.1 (ndc x.2.1 x.2.2.1 a v x.2.2.2.1 x.2.2.2.2.1 x.2.2.2.2.2)]) (p := fun x => p = some ⟨x.1, 0, none⟩) (f := Nd p a v) hs (fun h ⟨b, pl, pr, x, y, z, h1, h2⟩ => ⟨(b, pl, pr, x, y, z), h1, fun f hf => by simp at hf; subst hf; exact h2⟩) (fun x hp => t x.1 x.2.1 x.2.2.1 x.2.2.2.1 x.2.2.2.2.1 x.2.2.2.2.2 hp)
end

def PtrPost (t : Tr) : Post := ⟨Nat, fun b => .pointer (some ⟨b, 0, none⟩), fun _ => True, fun b => [TrF (some ⟨b, 0, none⟩) t], fun _ => []⟩

set_option maxHeartbeats 1000000 in
theorem with_ok (a : Nm) (v : ByteArray) (pm : Option Addr) (ha : a.owner.size ≤ 1099511627770) (hv : v.size ≤ 1000000) : ∀ (t : Tr) (p : Option Addr), Okt t → Enters 73 ∧ Spec Tryz.prog 73 #[.pointer p, .pointer pm] [TrF p t, Nd pm a v] [] (PtrPost (Tr.put a v t)) := by
  intro t
  induction t with
  | nil =>
    intro p hok
    refine ⟨enters_of Tryz.func73 (by kernel_rfl) rfl, spec_of (vs := [_, _]) Tryz.func73 rfl Tryz.ntmps73 rfl fun G w hp => ?_⟩
    refine k_trn fun hp => ?_
    subst hp
    refine k_add (f := TrF none .nil) (fun _ => rfl) ?_
    repeat' (first | refine l_run ?_ | refine l_nil ?_ | refine l_one ?_ | refine k_reg ?_ | refine l_ld ?_ | refine l_ldF ?_ | refine l_st ?_ | refine l_al (fun b => ?_) | refine l_bs (fun b => ?_) | refine k_condT ?_ | refine k_condF ?_ | refine k_brk ?_ | refine r_run ?_ | refine r_one ?_ | refine r_ld ?_ | refine r_ldF ?_ | refine r_ldN ?_ | refine r_al (fun b => ?_) | refine r_bs (fun b => ?_) | refine r_st ?_ | refine r_end ?_ | refine l_call (join_ok none pm none .nil .nil a v (by simp [Tr.sz]) (by simp [Tr.by_]; omega)) (fun _ _ => ?_) | refine l_call0 (join_ok none pm none .nil .nil a v (by simp [Tr.sz]) (by simp [Tr.by_]; omega)) (fun _ _ => ?_) | refine r_call (join_ok none pm none .nil .nil a v (by simp [Tr.sz]) (by simp [Tr.by_]; omega)) (fun _ _ => ?_) | (refine l_split (fun hc => ?_) (fun hc => ?_) <;> (try simp at hc)) | (refine r_split (fun hc => ?_) (fun hc => ?_) <;> (try simp at hc)) | refine k_draw 3 [] [(0, 0), (1, 0), (2, 0), (3, 0), (4, 0), (5, 0), (6, 0), (7, 0), (8, 4), (9, 0)] [] ?_ | refine k_draw 5 [] [(0, 0), (1, 0), (2, 0), (3, 0), (4, 0), (6, 0), (7, 0), (8, 0), (9, 0), (10, 0), (5, 4), (11, 4), (12, 0)] [] ?_ | refine k_draw 7 [] [(0, 0), (1, 0), (2, 0), (3, 0), (4, 0), (5, 0), (6, 0), (7, 0), (8, 0), (9, 0), (10, 4), (11, 4), (12, 0)] [] ?_ | refine k_draw 8 [] [(0, 0), (1, 0), (2, 0), (3, 0), (4, 0), (5, 0), (6, 0), (7, 0), (8, 0), (9, 4), (10, 0)] [] ?_ | (refine k_cond (fun hc => ?_) (fun hc => ?_) <;> (try simp at hc)))
    rename_i q _
    exact k_ret q rfl trivial
  | node l b u r ihl ihr =>
    intro p hok
    have hl := ihl
    have h1 := hok.s
    have h2 := hok.b
    simp only [Tr.sz] at h1
    simp only [Tr.by_] at h2
    have s1 := sz_put a v l
    have s2 := sz_put a v r
    have b1 := by_put a v l
    have b2 := by_put a v r
    refine ⟨enters_of Tryz.func73 (by kernel_rfl) rfl, spec_of (vs := [_, _]) Tryz.func73 rfl Tryz.ntmps73 rfl fun G w hp => ?_⟩
    refine k_tr (p := p) (l := l) (r := r) (a := b) (v := u) (fun bb pl pr hp => ?_)
    subst hp
    refine k_nd (p := pm) (a := a) (v := v) (fun bm pl' pr' x y z hp => ?_)
    subst hp
    generalize hput : Tr.put a v (.node l b u r) = t
    unfold Tr.put at hput
    repeat' (first | refine l_run ?_ | refine l_nil ?_ | refine l_one ?_ | refine k_reg ?_ | refine l_ld ?_ | refine l_ldF ?_ | refine l_st ?_ | refine l_al (fun b => ?_) | refine l_bs (fun b => ?_) | refine k_condT ?_ | refine k_condF ?_ | refine k_brk ?_ | refine r_run ?_ | refine r_one ?_ | refine r_ld ?_ | refine r_ldF ?_ | refine r_ldN ?_ | refine r_al (fun b => ?_) | refine r_bs (fun b => ?_) | refine r_st ?_ | refine r_end ?_ | refine l_call (compareO_ok a b ha hok.m) (fun _ _ => ?_) | refine l_call0 (compareO_ok a b ha hok.m) (fun _ _ => ?_) | refine r_call (compareO_ok a b ha hok.m) (fun _ _ => ?_) | refine l_call (ihl pl hok.l) (fun _ _ => ?_) | refine l_call0 (ihl pl hok.l) (fun _ _ => ?_) | refine r_call (ihl pl hok.l) (fun _ _ => ?_) | refine l_call (ihr pr hok.r) (fun _ _ => ?_) | refine l_call0 (ihr pr hok.r) (fun _ _ => ?_) | refine r_call (ihr pr hok.r) (fun _ _ => ?_) | refine l_call (balance_ok _ _ pr (Tr.put a v l) r b u (by omega) (by omega)) (fun _ _ => ?_) | refine l_call0 (balance_ok _ _ pr (Tr.put a v l) r b u (by omega) (by omega)) (fun _ _ => ?_) | refine r_call (balance_ok _ _ pr (Tr.put a v l) r b u (by omega) (by omega)) (fun _ _ => ?_) | refine l_call (balance_ok pl _ _ l (Tr.put a v r) b u (by omega) (by omega)) (fun _ _ => ?_) | refine l_call0 (balance_ok pl _ _ l (Tr.put a v r) b u (by omega) (by omega)) (fun _ _ => ?_) | refine r_call (balance_ok pl _ _ l (Tr.put a v r) b u (by omega) (by omega)) (fun _ _ => ?_) | refine l_call (join_ok pl _ pr l r a v (by omega) (by omega)) (fun _ _ => ?_) | refine l_call0 (join_ok pl _ pr l r a v (by omega) (by omega)) (fun _ _ => ?_) | refine r_call (join_ok pl _ pr l r a v (by omega) (by omega)) (fun _ _ => ?_) | (refine l_split (fun hc => ?_) (fun hc => ?_) <;> (try simp at hc)) | (refine r_split (fun hc => ?_) (fun hc => ?_) <;> (try simp at hc)) | refine k_draw 3 [] [(0, 0), (1, 0), (2, 0), (3, 0), (4, 0), (5, 0), (6, 0), (7, 0), (8, 4), (9, 0)] [] ?_ | refine k_draw 5 [] [(0, 0), (1, 0), (2, 0), (3, 0), (4, 0), (6, 0), (7, 0), (8, 0), (9, 0), (10, 0), (5, 4), (11, 4), (12, 0)] [] ?_ | refine k_draw 7 [] [(0, 0), (1, 0), (2, 0), (3, 0), (4, 0), (5, 0), (6, 0), (7, 0), (8, 0), (9, 0), (10, 4), (11, 4), (12, 0)] [] ?_ | refine k_draw 8 [] [(0, 0), (1, 0), (2, 0), (3, 0), (4, 0), (5, 0), (6, 0), (7, 0), (8, 0), (9, 4), (10, 0)] [] ?_ | (refine k_cond (fun hc => ?_) (fun hc => ?_) <;> (try simp at hc)))
    all_goals rename_i q _
    · rw [if_pos hc] at hput
      subst hput
      exact k_ret q rfl trivial
    · rw [if_neg (by omega), if_pos hc] at hput
      subst hput
      exact k_ret q rfl trivial
    · rw [if_neg (by omega), if_neg (by omega)] at hput
      subst hput
      exact k_ret q rfl trivial

/-- What find hands back. -/
def FdF (q : Option Addr) (r : Option ByteArray) : Pf :=
  match r with
  | none => ⟨fun _ => q = none, fun _ _ _ h => h⟩
  | some v => ⟨fun h => ∃ a, (Nd q a v).p h, fun _ _ s ⟨a, h⟩ => ⟨a, (Nd q a v).m _ _ s h⟩⟩

structure FX (a : Nm) (t : Tr) where
  q : Option Addr
  s : Tr
  h1 : Tr.find a t = Tr.find a s
  h2 : Okt s

set_option maxHeartbeats 1000000 in
theorem find_ok (a : Nm) (ha : a.owner.size ≤ 1099511627770) (t : Tr) (p : Option Addr) (ht : Okt t) : Enters 72 ∧ Spec Tryz.prog 72 #[.pointer p, a.v] [TrF p t] [] ⟨Option Addr, fun q => .pointer q, fun _ => True, fun q => [FdF q (Tr.find a t)], fun _ => []⟩ := by
  refine ⟨enters_of Tryz.func72 (by kernel_rfl) rfl, spec_of (vs := [_, _]) Tryz.func72 rfl Tryz.ntmps72 rfl fun G w hp => ?_⟩
  repeat' (first | refine l_run ?_ | refine l_nil ?_ | refine l_one ?_ | refine k_reg ?_ | refine l_ld ?_ | refine l_ldF ?_ | refine l_st ?_ | refine l_al (fun b => ?_) | refine l_bs (fun b => ?_) | refine k_condT ?_ | refine k_condF ?_ | refine k_brk ?_ | refine r_run ?_ | refine r_one ?_ | refine r_ld ?_ | refine r_ldF ?_ | refine r_ldN ?_ | refine r_al (fun b => ?_) | refine r_bs (fun b => ?_) | refine r_st ?_ | refine r_end ?_ | refine l_split (fun hc => ?_) (fun hc => ?_) | refine r_split (fun hc => ?_) (fun hc => ?_) | refine k_draw 2 [] [(0, 0), (1, 0), (2, 0), (3, 0), (4, 0), (5, 4), (6, 0)] [] ?_ | refine k_cond (fun hc => ?_) (fun hc => ?_))
  refine k_lp (X := FX a t) (fun x => [(0, .pointer x.q), (3, .pointer (some ⟨b, 0, none⟩))]) (fun x => [TrF x.q x.s]) (fun _ => [Pt b (.cells #[.int .i64 a.kind, .string a.owner, .int .i64 a.number, .int .i64 a.index, .string a.text] 78)]) (fun x => x.s.sz) ⟨p, t, rfl, ht⟩ ⟨rfl, rfl, trivial⟩ ?_
  rintro ⟨q, s, h1, h2⟩
  dsimp only
  cases s with
  | nil =>
    refine k_trn fun hp => ?_
    subst hp
    rw [Tr.find] at h1
    repeat' (first | refine l_run ?_ | refine l_nil ?_ | refine l_one ?_ | refine k_reg ?_ | refine l_ld ?_ | refine l_ldF ?_ | refine l_st ?_ | refine l_al (fun b => ?_) | refine l_bs (fun b => ?_) | refine k_condT ?_ | refine k_condF ?_ | refine k_brk ?_ | refine r_run ?_ | refine r_one ?_ | refine r_ld ?_ | refine r_ldF ?_ | refine r_ldN ?_ | refine r_al (fun b => ?_) | refine r_bs (fun b => ?_) | refine r_st ?_ | refine r_end ?_ | refine l_split (fun hc => ?_) (fun hc => ?_) | refine r_split (fun hc => ?_) (fun hc => ?_) | refine k_draw 2 [] [(0, 0), (1, 0), (2, 0), (3, 0), (4, 0), (5, 4), (6, 0)] [] ?_ | refine k_cond (fun hc => ?_) (fun hc => ?_))
    rw [h1]
    refine k_mk (F1 := []) (f := FdF none none) (fun _ _ => rfl) ?_
    exact k_ret none rfl trivial
  | node l c u r =>
    refine k_tr (p := q) (l := l) (r := r) (a := c) (v := u) (fun bb pl pr hp => ?_)
    subst hp
    rw [Tr.find] at h1
    repeat' (first | refine l_run ?_ | refine l_nil ?_ | refine l_one ?_ | refine k_reg ?_ | refine l_ld ?_ | refine l_ldF ?_ | refine l_st ?_ | refine l_al (fun b => ?_) | refine l_bs (fun b => ?_) | refine k_condT ?_ | refine k_condF ?_ | refine k_brk ?_ | refine r_run ?_ | refine r_one ?_ | refine r_ld ?_ | refine r_ldF ?_ | refine r_ldN ?_ | refine r_al (fun b => ?_) | refine r_bs (fun b => ?_) | refine r_st ?_ | refine r_end ?_ | refine l_call (compareO_ok a c ha h2.m) (fun _ _ => ?_) | refine l_call0 (compareO_ok a c ha h2.m) (fun _ _ => ?_) | refine r_call (compareO_ok a c ha h2.m) (fun _ _ => ?_) | (refine l_split (fun hc => ?_) (fun hc => ?_) <;> (try simp at hc)) | (refine r_split (fun hc => ?_) (fun hc => ?_) <;> (try simp at hc)) | refine k_draw 2 [] [(0, 0), (1, 0), (2, 0), (3, 0), (4, 0), (5, 4), (6, 0)] [] ?_ | (refine k_cond (fun hc => ?_) (fun hc => ?_) <;> (try simp at hc)))
    · rw [if_pos hc] at h1
      refine k_mk (F1 := [Nd (some ⟨bb, 0, none⟩) c u]) (f := FdF (some ⟨bb, 0, none⟩) (Tr.find a t)) (fun hp hF => by rw [h1]; exact ⟨c, hF _ (by simp)⟩) ?_
      exact k_rt (w_lq (w_ret (some ⟨bb, 0, none⟩) rfl trivial))
    · rw [if_neg (by omega), if_pos hc] at h1
      exact k_next ⟨pl, l, h1, h2.l⟩ (by simp only [Tr.sz]; omega) ⟨rfl, rfl, trivial⟩
    · rw [if_neg (by omega), if_neg (by omega)] at h1
      exact k_next ⟨pr, r, h1, h2.r⟩ (by simp only [Tr.sz]; omega) ⟨rfl, rfl, trivial⟩

/-- A state in memory: its tree. -/
def StF (ps : Option Addr) (t : Tr) : Pf := ⟨fun h => ∃ b p, ps = some ⟨b, 0, none⟩ ∧ h b = some (.cells #[.pointer p] 117) ∧ TrP p t h, fun h k s ⟨b, p, h1, h2, h3⟩ => ⟨b, p, h1, s _ _ h2, trP_mono t p h k s h3⟩⟩

structure StOK (es : Al) : Prop where
  srt : Srt es
  len : es.length ≤ 65536
  own : ∀ x ∈ es, x.1.owner.size ≤ 1099511627770
  val : ∀ x ∈ es, x.2.size ≤ 65536
/-- A state in memory: its names and values, in order. -/
def St (ps : Option Addr) (es : Al) : Pf := ⟨fun h => ∃ t : Tr, t.els = es ∧ StOK es ∧ (StF ps t).p h, fun _ _ s ⟨t, h1, h2, h3⟩ => ⟨t, h1, h2, (StF ps t).m _ _ s h3⟩⟩

theorem ab_le {m : Nat} : ∀ {l : Al}, (∀ x ∈ l, x.2.size ≤ m) → Tr.ab l ≤ l.length * m
  | [], _ => by simp [Tr.ab]
  | x :: l, h => by
    have h1 := ab_le (l := l) fun y hy => h y (List.mem_cons_of_mem _ hy)
    have h2 := h x (by simp)
    simp only [Tr.ab, List.map_cons, List.sum_cons, List.length_cons] at h1 ⊢
    rw [Nat.succ_mul]; omega
theorem StOK.okt {t : Tr} (h : StOK t.els) : Okt t := by
  have h1 := ab_le h.val
  have h2 := h.len
  refine ⟨by rw [Tr.sz_els]; omega, ?_, h.own⟩
  rw [Tr.by_els]
  have : t.els.length * 65536 ≤ 65536 * 65536 := Nat.mul_le_mul_right _ h2
  omega

section
variable {n : Nat} {C : Cx} {Q : Exit → Act → World → Prop} {E E' : List (Nat × Value)} {F F0 : List Pf} {R R0 : List HP} {k : List Fr}
theorem k_st {ps : Option Addr} {es : Al} (t : ∀ b p (t : Tr), ps = some ⟨b, 0, none⟩ → t.els = es → StOK es → Wk n C k Q E (Blk b (.cells #[.pointer p] 117) :: TrF p t :: F) R) (hs : Sel (St ps es) F F0 := by (repeat (first | exact Sel.here | apply Sel.there)); first | done | fail) : Wk n C k Q E F R :=
  k_fact (X := Nat × Option Addr × Tr) (Fx := fun x => [Blk x.1 (.cells #[.pointer x.2.1] 117), TrF x.2.1 x.2.2]) (p := fun x => ps = some ⟨x.1, 0, none⟩ ∧ x.2.2.els = es ∧ StOK es) (f := St ps es) hs
    (fun h ⟨t, h1, h2, b, p, h3, h4, h5⟩ => ⟨(b, p, t), ⟨h3, h1, h2⟩, fun f hf => by
      simp only [List.mem_cons, List.not_mem_nil, or_false] at hf
      rcases hf with rfl | rfl
      · exact h4
      · exact h5⟩) (fun x hp => t x.1 x.2.1 x.2.2 hp.1 hp.2.1 hp.2.2)
end

theorem stateNew_ok : Enters 15 ∧ Spec Tryz.prog 15 #[] [] [] ⟨Nat, fun b => .pointer (some ⟨b, 0, none⟩), fun _ => True, fun b => [St (some ⟨b, 0, none⟩) []], fun _ => []⟩ := by
  refine ⟨enters_of Tryz.func15 (by kernel_rfl) rfl, spec_of (vs := []) Tryz.func15 rfl Tryz.ntmps15 rfl fun G w hp => ?_⟩
  repeat' (first | refine l_run ?_ | refine l_nil ?_ | refine l_one ?_ | refine k_reg ?_ | refine l_ld ?_ | refine l_ldF ?_ | refine l_st ?_ | refine l_al (fun b => ?_) | refine l_bs (fun b => ?_) | refine k_condT ?_ | refine k_condF ?_ | refine k_brk ?_ | refine l_split (fun hc => ?_) (fun hc => ?_) | refine k_cond (fun hc => ?_) (fun hc => ?_))
  refine k_fz ?_
  refine k_mk (F1 := [Blk b (.cells #[.pointer none] 117)]) (f := St (some ⟨b, 0, none⟩) []) (fun hp hF => ⟨.nil, rfl, ⟨List.Pairwise.nil, by simp, by simp, by simp⟩, b, none, rfl, hF (Blk b (.cells #[.pointer none] 117)) (by simp), rfl⟩) ?_
  exact k_ret b rfl trivial

theorem stateLen_ok (ps : Option Addr) (es : Al) : Enters 71 ∧ Spec Tryz.prog 71 #[.pointer ps] [St ps es] [] (RetV (.int .i64 (es.length : Int))) := by
  refine ⟨enters_of Tryz.func71 (by kernel_rfl) rfl, spec_of (vs := [_]) Tryz.func71 rfl Tryz.ntmps71 rfl fun G w hp => ?_⟩
  refine k_st (ps := ps) (es := es) (fun b p t hp he hok => ?_)
  subst hp
  subst he
  rw [← Tr.sz_els]
  repeat' (first | refine l_run ?_ | refine l_nil ?_ | refine l_one ?_ | refine k_reg ?_ | refine l_ld ?_ | refine l_ldF ?_ | refine l_st ?_ | refine l_al (fun b => ?_) | refine l_bs (fun b => ?_) | refine k_condT ?_ | refine k_condF ?_ | refine k_brk ?_ | refine l_call (sizeOf_ok p t) (fun _ _ => ?_) | refine l_call0 (sizeOf_ok p t) (fun _ _ => ?_) | refine l_split (fun hc => ?_) (fun hc => ?_) | refine k_cond (fun hc => ?_) (fun hc => ?_))
  exact k_ret () rfl trivial

theorem stateGet_ok (ps : Option Addr) (es : Al) (a : Nm) (ha : a.owner.size ≤ 1099511627770) : Enters 69 ∧ Spec Tryz.prog 69 #[.pointer ps, a.v] [St ps es] [] (RetV (.tuple #[.string ((getO a es).getD ⟨#[]⟩), .bool (getO a es).isSome])) := by
  refine ⟨enters_of Tryz.func69 (by kernel_rfl) rfl, spec_of (vs := [_, _]) Tryz.func69 rfl Tryz.ntmps69 rfl fun G w hp => ?_⟩
  refine k_st (ps := ps) (es := es) (fun b p t hp he hok => ?_)
  subst hp
  subst he
  rw [← find_els a t hok.srt]
  have hf := find_ok a ha t p hok.okt
  cases hfd : Tr.find a t with
  | none =>
    rw [hfd] at hf
    repeat' (first | refine l_run ?_ | refine l_nil ?_ | refine l_one ?_ | refine k_reg ?_ | refine l_ld ?_ | refine l_ldF ?_ | refine l_st ?_ | refine l_al (fun b => ?_) | refine l_bs (fun b => ?_) | refine k_condT ?_ | refine k_condF ?_ | refine k_brk ?_ | refine r_run ?_ | refine r_one ?_ | refine r_ld ?_ | refine r_ldF ?_ | refine r_ldN ?_ | refine r_al (fun b => ?_) | refine r_bs (fun b => ?_) | refine r_st ?_ | refine r_end ?_ | refine l_call (hf) (fun _ _ => ?_) | refine l_call0 (hf) (fun _ _ => ?_) | refine r_call (hf) (fun _ _ => ?_) | refine l_split (fun hc => ?_) (fun hc => ?_) | refine r_split (fun hc => ?_) (fun hc => ?_) | refine k_draw 3 [] [(0, 0), (1, 0), (2, 0), (3, 0), (4, 0), (5, 4), (6, 0)] [] ?_)
    rename_i q _
    refine l_fact (X := Unit) (Fx := fun _ => []) (p := fun _ => q = none) (f := FdF q none) .here (fun h hh => ⟨(), hh, fun _ hx => by cases hx⟩) (fun _ hp => ?_)
    subst hp
    repeat' (first | refine l_run ?_ | refine l_nil ?_ | refine l_one ?_ | refine k_reg ?_ | refine l_ld ?_ | refine l_ldF ?_ | refine l_st ?_ | refine l_al (fun b => ?_) | refine l_bs (fun b => ?_) | refine k_condT ?_ | refine k_condF ?_ | refine k_brk ?_ | refine r_run ?_ | refine r_one ?_ | refine r_ld ?_ | refine r_ldF ?_ | refine r_ldN ?_ | refine r_al (fun b => ?_) | refine r_bs (fun b => ?_) | refine r_st ?_ | refine r_end ?_ | refine l_split (fun hc => ?_) (fun hc => ?_) | refine r_split (fun hc => ?_) (fun hc => ?_) | refine k_draw 3 [] [(0, 0), (1, 0), (2, 0), (3, 0), (4, 0), (5, 4), (6, 0)] [] ?_ | refine k_cond (fun hc => ?_) (fun hc => ?_))
    exact k_ret () rfl trivial
  | some v =>
    rw [hfd] at hf
    repeat' (first | refine l_run ?_ | refine l_nil ?_ | refine l_one ?_ | refine k_reg ?_ | refine l_ld ?_ | refine l_ldF ?_ | refine l_st ?_ | refine l_al (fun b => ?_) | refine l_bs (fun b => ?_) | refine k_condT ?_ | refine k_condF ?_ | refine k_brk ?_ | refine r_run ?_ | refine r_one ?_ | refine r_ld ?_ | refine r_ldF ?_ | refine r_ldN ?_ | refine r_al (fun b => ?_) | refine r_bs (fun b => ?_) | refine r_st ?_ | refine r_end ?_ | refine l_call (hf) (fun _ _ => ?_) | refine l_call0 (hf) (fun _ _ => ?_) | refine r_call (hf) (fun _ _ => ?_) | refine l_split (fun hc => ?_) (fun hc => ?_) | refine r_split (fun hc => ?_) (fun hc => ?_) | refine k_draw 3 [] [(0, 0), (1, 0), (2, 0), (3, 0), (4, 0), (5, 4), (6, 0)] [] ?_)
    rename_i q _
    refine l_fact (X := Nm) (Fx := fun a => [Nd q a v]) (p := fun _ => True) (f := FdF q (some v)) .here (fun h ⟨a, hh⟩ => ⟨a, trivial, fun f hf => by simp at hf; subst hf; exact hh⟩) (fun a' _ => ?_)
    refine l_nd (p := q) (a := a') (v := v) (fun bm pl' pr' x y z hp => ?_)
    subst hp
    repeat' (first | refine l_run ?_ | refine l_nil ?_ | refine l_one ?_ | refine k_reg ?_ | refine l_ld ?_ | refine l_ldF ?_ | refine l_st ?_ | refine l_al (fun b => ?_) | refine l_bs (fun b => ?_) | refine k_condT ?_ | refine k_condF ?_ | refine k_brk ?_ | refine r_run ?_ | refine r_one ?_ | refine r_ld ?_ | refine r_ldF ?_ | refine r_ldN ?_ | refine r_al (fun b => ?_) | refine r_bs (fun b => ?_) | refine r_st ?_ | refine r_end ?_ | refine l_split (fun hc => ?_) (fun hc => ?_) | refine r_split (fun hc => ?_) (fun hc => ?_) | refine k_draw 3 [] [(0, 0), (1, 0), (2, 0), (3, 0), (4, 0), (5, 4), (6, 0)] [] ?_ | refine k_cond (fun hc => ?_) (fun hc => ?_))
    exact k_ret () rfl trivial
end Go.Proofs.YtiggkcknmjgicaaGreatDoor

namespace Go.Proofs.YtiggkcknmjgicaaGreatDoor
open Go.RowKit

/-- Whoever has F and N has F' and N'. -/
def ImpR (F : List Pf) (N : List HP) (F' : List Pf) (N' : List HP) : Prop := ∀ G w hp w', Sat G w hp F N w' → Sat G w hp F' N' w'

theorem ImpR.more {F F' : List Pf} {N N' : List HP} (h : ImpR F N F' N') (r : HP) : ImpR F (r :: N) F' (r :: N') := by
  intro G w hp w' hs
  have h0 : Sat G w hp F (N ++ [r]) w' := hs.res fun k hk => by
    have := (sels_pre N r []).sep (h := k) (by simpa using hk)
    simpa using this
  obtain ⟨G', hp', h1, h2⟩ := sat_frame (F1 := F) (A := N) (R' := [r]) (hs := h0) (sel := by
    have : ∀ (A B : List HP), Sels A (A ++ B) B := fun A B => by
      induction A with
      | nil => exact .nil
      | cons x A ih => exact .cons .here ih
    exact this N [r]) fun _ h => h
  have h3 := h2 _ _ _ (h _ _ _ _ h1)
  refine (h3.facts (F' := F') fun hp hF x hx => hF x (List.mem_append_left _ hx)).res fun k hk => ?_
  obtain ⟨k1, k2, d, s1, s2, a1, a2⟩ := sep_append hk
  obtain ⟨j1, j2, d', t1, t2, b1, _⟩ := a2
  exact ⟨j1, k1, (d.symm.sub t1), t1.trans s2, s1, b1, a1⟩

section
variable {P : Program} {T : Tab} {n : Nat} {ds : List Deferred} {ops : Array Oper} {End : Env → List Pf → List HP → Prop}
theorem WS.imp (hEnd : ∀ e F N F' N', ImpR F N F' N' → End e F' N' → End e F N) : ∀ (L : List (Nat × Nat)) (hs : H) (e : Env) (F : List Pf) (N : List HP) (F' : List Pf) (N' : List HP), (L.all fun y => y.2 != 5) = true → ImpR F N F' N' → WS P T n ds ops hs End L e F' N' → WS P T n ds ops hs End L e F N
  | [], _, e, F, N, F', N', _, p, h => hEnd e F N F' N' p h
  | (i, k) :: L, hs, e, F, N, F', N', h5, p, h => by
    rw [List.all_cons, Bool.and_eq_true] at h5
    obtain ⟨h50, h5⟩ := h5
    intro o ho
    have h := h o ho
    cases hw : wantF ops e o with
    | none => simp only [hw] at h
    | some b =>
      cases b with
      | false =>
        simp only [hw] at h
        exact WS.imp hEnd L _ _ F N F' N' h5 p h
      | true =>
        simp only [hw] at h
        split at h
        · obtain ⟨v, h1, h2⟩ := h
          exact ⟨v, h1, WS.imp hEnd L _ _ F N F' N' h5 p h2⟩
        · obtain ⟨obj, mk, h1, h2⟩ := h
          exact ⟨obj, mk, h1, fun b => WS.imp hEnd L _ _ F (Pt b obj :: N) F' (Pt b obj :: N') h5 (p.more _) (h2 b)⟩
        · obtain ⟨obj, mk, h1, h2⟩ := h
          exact ⟨obj, mk, h1, fun b hb => WS.imp hEnd L _ _ F N F' N' h5 p (h2 b hb)⟩
        · obtain ⟨v, h1, h2⟩ := h
          exact ⟨v, fun a G w hp ha hsub hsat => h1 a G w hp ha hsub (p _ _ _ _ hsat), WS.imp hEnd L _ _ F N F' N' h5 p h2⟩
        · obtain ⟨post, h1, h2⟩ := h
          exact ⟨post, fun a G w hp ha hsub hsat => h1 a G w hp ha hsub (p _ _ _ _ hsat), h2⟩
        · cases h50
        · exact h.elim
end

variable {n : Nat} {C : Cx} {Q : Exit → Act → World → Prop} {E E' : List (Nat × Value)} {F F' F1 Fs : List Pf} {R R' R0 Rs N N' A : List HP} {k k' : List Fr} {ops l : List Oper} {L L' : List (Nat × Nat)} {Tl : List Nat}
theorem r_imp (p : ImpR F N F' N') (t : Wr n C ops k Q Tl Fs R L E F' N') (h5 : (L.all fun y => y.2 != 5) = true) : Wr n C ops k Q Tl Fs R L E F N := fun hp hr w st hz sb =>
  WS.imp (fun _ _ _ _ _ p h a w ha hs => h a w ha (p _ _ _ _ hs)) L _ _ F N F' N' h5 p (t hp hr w st hz sb)
theorem r_fz {b : Nat} {o : Obj} (t : Wr n C ops k Q Tl Fs R L E (Blk b o :: F) N') (hs : Sel (Pt b o) N N' := by (repeat (first | exact Sel.here | apply Sel.there)); first | done | fail) (h5 : (L.all fun y => y.2 != 5) = true := by rfl) : Wr n C ops k Q Tl Fs R L E F N :=
  r_imp (fun _ _ _ _ h => (h.sel hs).freeze) t h5
theorem r_mk {f : Pf} (h : ∀ hp, (∀ x ∈ F1, x.p hp) → f.p hp) (t : Wr n C ops k Q Tl Fs R L E (f :: F) N) (hF : EntF F F1 := by (repeat (first | exact trivial | exact Sel.here | apply Sel.there | apply EntF.cons)); first | done | fail) (h5 : (L.all fun y => y.2 != 5) = true := by rfl) : Wr n C ops k Q Tl Fs R L E F N :=
  r_imp (fun _ _ _ _ ⟨hp, _, st⟩ => add_fact st (h hp (hF.all hp st.f))) t h5

/-- A contract that says less. -/
theorem Spec.imp {P : Program} {f : FuncId} {args : Array Value} {post post' : Post} (h : Spec P f args F R post)
    (k : ∀ G w hp x w', post.pure x → Sat G w hp (post.F x) (post.R x) w' → post'.holds G w hp (.returned (post.val x)) w') : Spec P f args F R post' := fun G w hp hs =>
  (h G w hp hs).mono (by rintro e w' ⟨x, rfl, hx, hs⟩; exact k G w hp x w' hx hs)
end Go.Proofs.YtiggkcknmjgicaaGreatDoor

set_option maxRecDepth 10000
namespace Go.Proofs.YtiggkcknmjgicaaGreatDoor
open Go.RowKit

theorem find_none {a : Nm} (ha : a.owner.size ≤ 1099511627770) {t : Tr} (p : Option Addr) (ht : Okt t) (hf : Tr.find a t = none) : Enters 72 ∧ Spec Tryz.prog 72 #[.pointer p, a.v] [TrF p t] [] (RetV (.pointer none)) := by
  have h := find_ok a ha t p ht
  rw [hf] at h
  refine ⟨h.1, h.2.imp ?_⟩
  rintro G w hp q w' _ ⟨hp', hr, st⟩
  have hq : q = none := st.f (FdF q none) (by simp)
  subst hq
  exact ⟨(), rfl, trivial, hp', hr, st.inp, st.inr, st.ing, st.d1, st.d2, st.d3, st.sub, (fun _ h => by cases h), st.r, st.same⟩
theorem find_some {a : Nm} (ha : a.owner.size ≤ 1099511627770) {t : Tr} (p : Option Addr) (ht : Okt t) {v : ByteArray} (hf : Tr.find a t = some v) : Enters 72 ∧ Spec Tryz.prog 72 #[.pointer p, a.v] [TrF p t] []
    ⟨Nat, fun b => .pointer (some ⟨b, 0, none⟩), fun _ => True, fun b => [FdF (some ⟨b, 0, none⟩) (some v)], fun _ => []⟩ := by
  have h := find_ok a ha t p ht
  rw [hf] at h
  refine ⟨h.1, h.2.imp ?_⟩
  rintro G w hp q w' _ hs
  obtain ⟨hp', hr, st⟩ := hs
  obtain ⟨a', b, pl, pr, x, y, z, hq, h2⟩ : ∃ a', (Nd q a' v).p hp' := st.f (FdF q (some v)) (by simp)
  subst hq
  exact ⟨b, rfl, trivial, hp', hr, st⟩

theorem insO_same (a : Nm) (v : ByteArray) : ∀ l : Al, Srt l → getO a l ≠ none → (insO a v l).length = l.length
  | [], _, h => absurd rfl h
  | (b, u) :: l, hs, h => by
    have hp := List.pairwise_cons.1 hs
    rw [getO] at h
    unfold insO
    by_cases h0 : cmpO a b = 0
    · rw [if_neg (by omega), if_neg (by omega)]; simp
    · rw [if_neg h0] at h
      split
      · rename_i hc
        exact absurd (getO_none fun x hx => by have := cmpO_trans hc (hp.1 x hx); omega) h
      · rw [if_pos (by omega)]
        simp [insO_same a v l hp.2 h]

/-- What With answers. -/
def withE (es : Al) (a : Nm) (v : ByteArray) : Int := if nchk a ≠ 0 then 12 else if 65536 < v.size then 5 else if 65536 ≤ es.length ∧ getO a es = none then 9 else 0
def StR (q : Option Addr) (e : Int) (es : Al) : Pf := if e = 0 then St q es else ⟨fun _ => q = none, fun _ _ _ h => h⟩

theorem stOK_ins {es : Al} {a : Nm} {v : ByteArray} (h : StOK es) (ha : a.owner.size ≤ 1099511627770) (he : withE es a v = 0) : StOK (insO a v es) := by
  have hl := h.len
  have h1 := insO_len a v es
  unfold withE at he
  split at he
  · cases he
  · split at he
    · cases he
    · split at he
      · cases he
      · rename_i h3 h4 h5
        refine ⟨srt_ins a v es h.srt, ?_, fun x hx => ?_, fun x hx => ?_⟩
        · by_cases h6 : getO a es = none
          · have : ¬ 65536 ≤ es.length := fun h7 => h5 ⟨h7, h6⟩
            omega
          · rw [insO_same a v es h.srt h6]; exact hl
        · rcases mem_insO a v es x hx with rfl | hx
          · exact ha
          · exact h.own x hx
        · rcases mem_insO a v es x hx with rfl | hx
          · show v.size ≤ 65536; omega
          · exact h.val x hx

set_option maxHeartbeats 1000000 in
theorem stateWith_ok (ps : Option Addr) (es : Al) (a : Nm) (v : ByteArray) (ha : a.owner.size ≤ 1099511627770) (hat : a.text.size ≤ 1099511627776) : Enters 26 ∧ Spec Tryz.prog 26 #[.pointer ps, a.v, .string v] [St ps es, Usg] []
    ⟨Option Addr, fun q => .tuple #[.pointer q, .int .i64 (withE es a v)], fun _ => True, fun q => [StR q (withE es a v) (insO a v es)], fun _ => []⟩ := by
  have hchk := nameCheck_ok a (by omega) hat
  refine ⟨enters_of Tryz.func26 (by kernel_rfl) rfl, spec_of (vs := [_, _, _]) Tryz.func26 rfl Tryz.ntmps26 rfl fun G w hp => ?_⟩
  refine k_mk (F1 := [St ps es]) (f := St ps es) (fun hp hF => hF _ (by simp)) ?_
  refine k_st (ps := ps) (es := es) (fun bs p t hp he hok => ?_)
  have hst : ∀ q : Option Addr, q = none → withE es a v ≠ 0 → ∀ hp : H, (StR q (withE es a v) (insO a v es)).p hp := fun q hq hne hp => by
    unfold StR; rw [if_neg hne]; exact hq
  subst hp
  by_cases h1 : nchk a = 0
  · rw [h1] at hchk
    by_cases h2 : 65536 < v.size
    · have he : withE es a v = 5 := by rw [withE, if_neg (by simp [h1]), if_pos h2]
      rw [he] at hst ⊢
      repeat' (first | refine l_run ?_ | refine l_nil ?_ | refine l_one ?_ | refine k_reg ?_ | refine l_ld ?_ | refine l_ldF ?_ | refine l_st ?_ | refine l_al (fun b => ?_) | refine l_bs (fun b => ?_) | refine k_condT ?_ | refine k_condF ?_ | refine k_brk ?_ | refine r_run ?_ | refine r_one ?_ | refine r_ld ?_ | refine r_ldF ?_ | refine r_ldN ?_ | refine r_al (fun b => ?_) | refine r_bs (fun b => ?_) | refine r_st ?_ | refine r_end ?_ | refine l_call (hchk) (fun _ _ => ?_) | refine l_call0 (hchk) (fun _ _ => ?_) | refine r_call (hchk) (fun _ _ => ?_) | (refine l_split (fun hc => ?_) (fun hc => ?_) <;> (try simp at hc) <;> (try omega)) | (refine r_split (fun hc => ?_) (fun hc => ?_) <;> (try simp at hc) <;> (try omega)) | refine k_draw 7 [] [(0, 0), (1, 4), (2, 0), (3, 0), (4, 0), (5, 0), (6, 0), (7, 0), (8, 0), (9, 4), (10, 0), (11, 0), (12, 0)] [] ?_ | refine k_draw 9 [] [(0, 0), (1, 0), (2, 0), (3, 0), (4, 0), (5, 0), (6, 0), (7, 1), (8, 4), (9, 0), (10, 1), (11, 0), (12, 0)] [] ?_ | (refine k_cond (fun hc => ?_) (fun hc => ?_) <;> (try simp at hc) <;> (try omega)))
      refine k_add (hst none rfl (by decide)) ?_
      exact k_ret none rfl trivial
    · have hfd := find_els a t (he ▸ hok.srt)
      by_cases h3 : 65536 ≤ es.length ∧ getO a es = none
      · have he9 : withE es a v = 9 := by rw [withE, if_neg (by simp [h1]), if_neg h2, if_pos h3]
        rw [he9] at hst ⊢
        repeat' (first | refine l_run ?_ | refine l_nil ?_ | refine l_one ?_ | refine k_reg ?_ | refine l_ld ?_ | refine l_ldF ?_ | refine l_st ?_ | refine l_al (fun b => ?_) | refine l_bs (fun b => ?_) | refine k_condT ?_ | refine k_condF ?_ | refine k_brk ?_ | refine r_run ?_ | refine r_one ?_ | refine r_ld ?_ | refine r_ldF ?_ | refine r_ldN ?_ | refine r_al (fun b => ?_) | refine r_bs (fun b => ?_) | refine r_st ?_ | refine r_end ?_ | refine l_call (hchk) (fun _ _ => ?_) | refine l_call0 (hchk) (fun _ _ => ?_) | refine r_call (hchk) (fun _ _ => ?_) | refine l_call (stateLen_ok (some ⟨bs, 0, none⟩) es) (fun _ _ => ?_) | refine l_call0 (stateLen_ok (some ⟨bs, 0, none⟩) es) (fun _ _ => ?_) | refine r_call (stateLen_ok (some ⟨bs, 0, none⟩) es) (fun _ _ => ?_) | refine l_call (find_none ha p (StOK.okt (he ▸ hok)) (by rw [hfd, he]; exact h3.2)) (fun _ _ => ?_) | refine l_call0 (find_none ha p (StOK.okt (he ▸ hok)) (by rw [hfd, he]; exact h3.2)) (fun _ _ => ?_) | refine r_call (find_none ha p (StOK.okt (he ▸ hok)) (by rw [hfd, he]; exact h3.2)) (fun _ _ => ?_) | (refine l_split (fun hc => ?_) (fun hc => ?_) <;> (try simp at hc) <;> (try omega)) | (refine r_split (fun hc => ?_) (fun hc => ?_) <;> (try simp at hc) <;> (try omega)) | refine k_draw 7 [] [(0, 0), (1, 4), (2, 0), (3, 0), (4, 0), (5, 0), (6, 0), (7, 0), (8, 0), (9, 4), (10, 0), (11, 0), (12, 0)] [] ?_ | refine k_draw 9 [] [(0, 0), (1, 0), (2, 0), (3, 0), (4, 0), (5, 0), (6, 0), (7, 1), (8, 4), (9, 0), (10, 1), (11, 0), (12, 0)] [] ?_ | (refine k_cond (fun hc => ?_) (fun hc => ?_) <;> (try simp at hc) <;> (try omega)))
        refine k_add (hst none rfl (by decide)) ?_
        exact k_ret none rfl trivial
      · have he0 : withE es a v = 0 := by rw [withE, if_neg (by simp [h1]), if_neg h2, if_neg h3]
        have hok2 := stOK_ins hok ha he0
        rw [he0]
        have hokt : Okt t := StOK.okt (he ▸ hok)
        have hels : (Tr.put a v t).els = insO a v es := by rw [els_put a v t (he ▸ hok.srt), he]
        have hX : 65536 ≤ es.length → Tr.find a t = some ((getO a es).getD ⟨#[]⟩) := fun h4 => by
          rw [hfd, he]
          cases hg : getO a es with
          | none => exact absurd ⟨h4, hg⟩ h3
          | some v0 => rfl
        repeat' (first | refine l_run ?_ | refine l_nil ?_ | refine l_one ?_ | refine k_reg ?_ | refine l_ld ?_ | refine l_ldF ?_ | refine l_st ?_ | refine l_al (fun b => ?_) | refine l_bs (fun b => ?_) | refine k_condT ?_ | refine k_condF ?_ | refine k_brk ?_ | refine r_run ?_ | refine r_one ?_ | refine r_ld ?_ | refine r_ldF ?_ | refine r_ldN ?_ | refine r_al (fun b => ?_) | refine r_bs (fun b => ?_) | refine r_st ?_ | refine r_end ?_ | refine l_call (hchk) (fun _ _ => ?_) | refine l_call0 (hchk) (fun _ _ => ?_) | refine r_call (hchk) (fun _ _ => ?_) | refine l_call (stateLen_ok (some ⟨bs, 0, none⟩) es) (fun _ _ => ?_) | refine l_call0 (stateLen_ok (some ⟨bs, 0, none⟩) es) (fun _ _ => ?_) | refine r_call (stateLen_ok (some ⟨bs, 0, none⟩) es) (fun _ _ => ?_) | refine l_call (find_some ha p hokt (hX (by omega))) (fun _ _ => ?_) | refine l_call0 (find_some ha p hokt (hX (by omega))) (fun _ _ => ?_) | refine r_call (find_some ha p hokt (hX (by omega))) (fun _ _ => ?_) | (refine l_split (fun hc => ?_) (fun hc => ?_) <;> (try simp at hc) <;> (try omega)) | (refine r_split (fun hc => ?_) (fun hc => ?_) <;> (try simp at hc) <;> (try omega)) | refine k_draw 7 [] [(0, 0), (1, 4), (2, 0), (3, 0), (4, 0), (5, 0), (6, 0), (7, 0), (8, 0), (9, 4), (10, 0), (11, 0), (12, 0)] [] ?_ | (refine k_cond (fun hc => ?_) (fun hc => ?_) <;> (try simp at hc) <;> (try omega)))
        all_goals refine k_draw 9 [] [(0, 0), (1, 0), (2, 0), (3, 0), (4, 0), (5, 0), (6, 0), (7, 1), (8, 4), (9, 0), (10, 1), (11, 0), (12, 0)] [] ?_
        all_goals repeat' (first | refine l_run ?_ | refine l_nil ?_ | refine l_one ?_ | refine k_reg ?_ | refine l_ld ?_ | refine l_ldF ?_ | refine l_st ?_ | refine l_al (fun b => ?_) | refine l_bs (fun b => ?_) | refine k_condT ?_ | refine k_condF ?_ | refine k_brk ?_ | refine r_run ?_ | refine r_one ?_ | refine r_ld ?_ | refine r_ldF ?_ | refine r_ldN ?_ | refine r_al (fun b => ?_) | refine r_bs (fun b => ?_) | refine r_st ?_ | refine r_end ?_ | refine l_split (fun hc => ?_) (fun hc => ?_) | refine r_split (fun hc => ?_) (fun hc => ?_) | refine k_draw 7 [] [(0, 0), (1, 4), (2, 0), (3, 0), (4, 0), (5, 0), (6, 0), (7, 0), (8, 0), (9, 4), (10, 0), (11, 0), (12, 0)] [] ?_ | refine k_draw 9 [] [(0, 0), (1, 0), (2, 0), (3, 0), (4, 0), (5, 0), (6, 0), (7, 1), (8, 4), (9, 0), (10, 1), (11, 0), (12, 0)] [] ?_ | refine k_cond (fun hc => ?_) (fun hc => ?_))
        all_goals
          refine r_fz (b := b) ?_
          refine r_mk (F1 := [Blk b (ndc none none a v 0 0 0)]) (f := Nd (some ⟨b, 0, none⟩) a v) (fun hp hF => ⟨b, none, none, 0, 0, 0, rfl, hF (Blk b (ndc none none a v 0 0 0)) (by simp)⟩) ?_
          refine r_call (with_ok a v (some ⟨b, 0, none⟩) ha (by omega) t p hokt) (fun q _ => ?_)
        all_goals repeat' (first | refine l_run ?_ | refine l_nil ?_ | refine l_one ?_ | refine k_reg ?_ | refine l_ld ?_ | refine l_ldF ?_ | refine l_st ?_ | refine l_al (fun b => ?_) | refine l_bs (fun b => ?_) | refine k_condT ?_ | refine k_condF ?_ | refine k_brk ?_ | refine r_run ?_ | refine r_one ?_ | refine r_ld ?_ | refine r_ldF ?_ | refine r_ldN ?_ | refine r_al (fun b => ?_) | refine r_bs (fun b => ?_) | refine r_st ?_ | refine r_end ?_ | refine l_split (fun hc => ?_) (fun hc => ?_) | refine r_split (fun hc => ?_) (fun hc => ?_) | refine k_draw 7 [] [(0, 0), (1, 4), (2, 0), (3, 0), (4, 0), (5, 0), (6, 0), (7, 0), (8, 0), (9, 4), (10, 0), (11, 0), (12, 0)] [] ?_ | refine k_draw 9 [] [(0, 0), (1, 0), (2, 0), (3, 0), (4, 0), (5, 0), (6, 0), (7, 1), (8, 4), (9, 0), (10, 1), (11, 0), (12, 0)] [] ?_ | refine k_cond (fun hc => ?_) (fun hc => ?_))
        all_goals
          rename_i q _ _
          refine k_fz (b := b) ?_
          refine k_mk (F1 := [Blk b (.cells #[.pointer (some ⟨q, 0, none⟩)] 117), TrF (some ⟨q, 0, none⟩) (Tr.put a v t)]) (f := StR (some ⟨b, 0, none⟩) 0 (insO a v es)) (fun hp hF => ⟨Tr.put a v t, hels, hok2, b, _, rfl, hF (Blk b (.cells #[.pointer (some ⟨q, 0, none⟩)] 117)) (by simp), hF (TrF (some ⟨q, 0, none⟩) (Tr.put a v t)) (by simp)⟩) ?_
          exact k_ret (some ⟨b, 0, none⟩) rfl trivial
  · have he : withE es a v = 12 := by rw [withE, if_pos h1]
    rw [he] at hst ⊢
    have hb : (nchk a != 0) = true := by simp [h1]
    repeat' (first | refine l_run ?_ | refine l_nil ?_ | refine l_one ?_ | refine k_reg ?_ | refine l_ld ?_ | refine l_ldF ?_ | refine l_st ?_ | refine l_al (fun b => ?_) | refine l_bs (fun b => ?_) | refine k_condT ?_ | refine k_condF ?_ | refine k_brk ?_ | refine r_run ?_ | refine r_one ?_ | refine r_ld ?_ | refine r_ldF ?_ | refine r_ldN ?_ | refine r_al (fun b => ?_) | refine r_bs (fun b => ?_) | refine r_st ?_ | refine r_end ?_ | refine l_call (hchk) (fun _ _ => ?_) | refine l_call0 (hchk) (fun _ _ => ?_) | refine r_call (hchk) (fun _ _ => ?_) | (refine l_split (fun hc => ?_) (fun hc => ?_) <;> (try simp at hc) <;> (try omega)) | (refine r_split (fun hc => ?_) (fun hc => ?_) <;> (try simp at hc) <;> (try omega)) | refine k_draw 7 [] [(0, 0), (1, 4), (2, 0), (3, 0), (4, 0), (5, 0), (6, 0), (7, 0), (8, 0), (9, 4), (10, 0), (11, 0), (12, 0)] [] ?_ | refine k_draw 9 [] [(0, 0), (1, 0), (2, 0), (3, 0), (4, 0), (5, 0), (6, 0), (7, 1), (8, 4), (9, 0), (10, 1), (11, 0), (12, 0)] [] ?_ | (refine k_cond (fun hc => ?_) (fun hc => ?_) <;> (try simp at hc) <;> (try omega)))
    refine k_add (hst none rfl (by decide)) ?_
    exact k_ret none rfl trivial
end Go.Proofs.YtiggkcknmjgicaaGreatDoor

set_option maxRecDepth 10000
namespace Go.Proofs.YtiggkcknmjgicaaGreatDoor
open Go.RowKit

/-- A node: its block, its name, its value. -/
abbrev El := Nat × Nm × ByteArray
def elv (e : El) : Value := .pointer (some ⟨e.1, 0, none⟩)

/-- A tree with the blocks of its nodes. -/
inductive AT where
  | nil
  | node (b : Nat) (l : AT) (a : Nm) (v : ByteArray) (r : AT)
namespace AT
def ptr : AT → Option Addr
  | nil => none
  | node b _ _ _ _ => some ⟨b, 0, none⟩
def tr : AT → Tr
  | nil => .nil
  | node _ l a v r => .node l.tr a v r.tr
def els : AT → List El
  | nil => []
  | node b l a v r => l.els ++ (b, a, v) :: r.els
def P : AT → H → Prop
  | nil, _ => True
  | node b l a v r, h => h b = some (ndc l.ptr r.ptr a v (Tr.node l.tr a v r.tr).ht (Tr.node l.tr a v r.tr).sz (Tr.node l.tr a v r.tr).by_) ∧ l.P h ∧ r.P h
theorem mono : ∀ (t : AT) (h k : H), Sub h k → t.P h → t.P k
  | nil, _, _, _, _ => trivial
  | node _ l _ _ r, h, k, s, ⟨h1, h2, h3⟩ => ⟨s _ _ h1, mono l h k s h2, mono r h k s h3⟩
theorem tr_els : ∀ t : AT, t.tr.els = t.els.map (·.2)
  | nil => rfl
  | node _ l a v r => by simp [tr, els, Tr.els, tr_els l, tr_els r]
theorem of_tr : ∀ (t : Tr) (p : Option Addr) (h : H), TrP p t h → ∃ x : AT, x.tr = t ∧ p = x.ptr ∧ x.P h
  | .nil, p, h, hh => ⟨nil, rfl, hh, trivial⟩
  | .node l a v r, p, h, ⟨b, pl, pr, h1, h2, h3, h4⟩ => by
    obtain ⟨xl, rfl, rfl, ql⟩ := of_tr l pl h h3
    obtain ⟨xr, rfl, rfl, qr⟩ := of_tr r pr h h4
    exact ⟨node b xl a v xr, rfl, h1, h2, ql, qr⟩
theorem nd : ∀ (t : AT) (h : H), t.P h → ∀ e ∈ t.els, (Nd (some ⟨e.1, 0, none⟩) e.2.1 e.2.2).p h
  | nil, _, _, e, he => by cases he
  | node b l a v r, h, ⟨h1, h2, h3⟩, e, he => by
    rcases List.mem_append.1 he with he | he
    · exact nd l h h2 e he
    · rcases List.mem_cons.1 he with rfl | he
      · exact ⟨b, _, _, _, _, _, rfl, h1⟩
      · exact nd r h h3 e he
end AT
def AtF (t : AT) : Pf := ⟨t.P, t.mono⟩

def EPost {α : Type} (I Ix : List α → HP) (ys xs : List α) : Post := ⟨Option (List α), fun r => .bool r.isNone, fun r => ∀ q, r = some q → q <+: xs, fun _ => [], fun r => [match r with | none => I ys | some q => Ix q]⟩

set_option maxHeartbeats 1000000 in
theorem each_ok (v : Value) (Y : Pf) (I Ix : List El → HP) (xs : List El) (hy : ∀ pre e, pre ++ [e] <+: xs → SpecV v [elv e] [Y] [I pre] (YPost I Ix pre e)) : ∀ (t : AT) (pre : List El), pre ++ t.els <+: xs →
    Enters 176 ∧ Spec Tryz.prog 176 #[.pointer t.ptr, v] [Y, AtF t] [I pre] (EPost I Ix (pre ++ t.els) xs) := by
  intro t
  induction t with
  | nil =>
    intro pre hpre
    refine ⟨enters_of Tryz.func176 (by kernel_rfl) rfl, spec_of (vs := [_, _]) Tryz.func176 rfl Tryz.ntmps176 rfl fun G w hp => ?_⟩
    repeat' (first | refine l_run ?_ | refine l_nil ?_ | refine l_one ?_ | refine k_reg ?_ | refine l_ld ?_ | refine l_ldF ?_ | refine l_st ?_ | refine l_al (fun b => ?_) | refine l_bs (fun b => ?_) | refine k_condT ?_ | refine k_condF ?_ | refine k_brk ?_ | refine l_split (fun hc => ?_) (fun hc => ?_) | refine k_cond (fun hc => ?_) (fun hc => ?_))
    simp only [AT.els, List.append_nil]
    exact k_ret none rfl (fun q hq => by cases hq)
  | node b l a u r ihl ihr =>
    intro pre hpre
    have e0 : pre ++ (AT.node b l a u r).els = pre ++ l.els ++ [(b, a, u)] ++ r.els := by simp [AT.els]
    rw [e0] at hpre ⊢
    have p1 : pre ++ l.els <+: xs := List.IsPrefix.trans ⟨[(b, a, u)] ++ r.els, by simp⟩ hpre
    have p2 : pre ++ l.els ++ [(b, a, u)] <+: xs := List.IsPrefix.trans ⟨r.els, by simp⟩ hpre
    have hl := ihl pre p1
    have hr := ihr (pre ++ l.els ++ [(b, a, u)]) hpre
    have hyy := hy (pre ++ l.els) (b, a, u) p2
    refine ⟨enters_of Tryz.func176 (by kernel_rfl) rfl, spec_of (vs := [_, _]) Tryz.func176 rfl Tryz.ntmps176 rfl fun G w hp => ?_⟩
    refine k_fact (X := Unit) (Fx := fun _ => [Blk b (ndc l.ptr r.ptr a u (Tr.node l.tr a u r.tr).ht (Tr.node l.tr a u r.tr).sz (Tr.node l.tr a u r.tr).by_), AtF l, AtF r]) (p := fun _ => True) (f := AtF (.node b l a u r)) (.there .here) (fun h ⟨h1, h2, h3⟩ => ⟨(), trivial, fun f hf => by
      simp only [List.mem_cons, List.not_mem_nil, or_false] at hf
      rcases hf with rfl | rfl | rfl
      · exact h1
      · exact h2
      · exact h3⟩) (fun _ _ => ?_)
    repeat' (first | refine l_run ?_ | refine l_nil ?_ | refine l_one ?_ | refine k_reg ?_ | refine l_ld ?_ | refine l_ldF ?_ | refine l_st ?_ | refine l_al (fun b => ?_) | refine l_bs (fun b => ?_) | refine k_condT ?_ | refine k_condF ?_ | refine k_brk ?_ | refine l_split (fun hc => ?_) (fun hc => ?_) | refine k_cond (fun hc => ?_) (fun hc => ?_))
    refine l_call hl (fun q hq => ?_)
    cases q with
    | some q =>
      repeat' (first | refine l_run ?_ | refine l_nil ?_ | refine l_one ?_ | refine k_reg ?_ | refine l_ld ?_ | refine l_ldF ?_ | refine l_st ?_ | refine l_al (fun b => ?_) | refine l_bs (fun b => ?_) | refine k_condT ?_ | refine k_condF ?_ | refine k_brk ?_ | refine l_split (fun hc => ?_) (fun hc => ?_) | refine k_cond (fun hc => ?_) (fun hc => ?_))
      exact k_ret (some q) rfl hq
    | none =>
      repeat' (first | refine l_run ?_ | refine l_nil ?_ | refine l_one ?_ | refine k_reg ?_ | refine l_ld ?_ | refine l_ldF ?_ | refine l_st ?_ | refine l_al (fun b => ?_) | refine l_bs (fun b => ?_) | refine k_condT ?_ | refine k_condF ?_ | refine k_brk ?_ | refine l_split (fun hc => ?_) (fun hc => ?_) | refine k_cond (fun hc => ?_) (fun hc => ?_))
      refine l_callV hyy (fun bb _ => ?_)
      cases bb with
      | false =>
        repeat' (first | refine l_run ?_ | refine l_nil ?_ | refine l_one ?_ | refine k_reg ?_ | refine l_ld ?_ | refine l_ldF ?_ | refine l_st ?_ | refine l_al (fun b => ?_) | refine l_bs (fun b => ?_) | refine k_condT ?_ | refine k_condF ?_ | refine k_brk ?_ | refine l_split (fun hc => ?_) (fun hc => ?_) | refine k_cond (fun hc => ?_) (fun hc => ?_))
        exact k_ret (some (pre ++ l.els ++ [(b, a, u)])) rfl (fun q hq => by cases hq; exact p2)
      | true =>
        repeat' (first | refine l_run ?_ | refine l_nil ?_ | refine l_one ?_ | refine k_reg ?_ | refine l_ld ?_ | refine l_ldF ?_ | refine l_st ?_ | refine l_al (fun b => ?_) | refine l_bs (fun b => ?_) | refine k_condT ?_ | refine k_condF ?_ | refine k_brk ?_ | refine l_split (fun hc => ?_) (fun hc => ?_) | refine k_cond (fun hc => ?_) (fun hc => ?_))
        refine l_call hr (fun q hq => ?_)
        repeat' (first | refine l_run ?_ | refine l_nil ?_ | refine l_one ?_ | refine k_reg ?_ | refine l_ld ?_ | refine l_ldF ?_ | refine l_st ?_ | refine l_al (fun b => ?_) | refine l_bs (fun b => ?_) | refine k_condT ?_ | refine k_condF ?_ | refine k_brk ?_ | refine l_split (fun hc => ?_) (fun hc => ?_) | refine k_cond (fun hc => ?_) (fun hc => ?_))
        exact k_ret q rfl hq

theorem nodes_ok (ps : Option Addr) : Enters 123 ∧ Spec Tryz.prog 123 #[.pointer ps] [] []
    ⟨Nat, fun b => .func (.func 175) #[] #[.pointer (some ⟨b, 0, none⟩)], fun _ => True, fun b => [Blk b (.cells #[.pointer ps] 23)], fun _ => []⟩ := by
  refine ⟨enters_of Tryz.func123 (by kernel_rfl) rfl, spec_of (vs := [_]) Tryz.func123 rfl Tryz.ntmps123 rfl fun G w hp => ?_⟩
  repeat' (first | refine l_run ?_ | refine l_nil ?_ | refine l_one ?_ | refine k_reg ?_ | refine l_ld ?_ | refine l_ldF ?_ | refine l_st ?_ | refine l_al (fun b => ?_) | refine l_bs (fun b => ?_) | refine k_condT ?_ | refine k_condF ?_ | refine k_brk ?_ | refine l_split (fun hc => ?_) (fun hc => ?_) | refine k_cond (fun hc => ?_) (fun hc => ?_))
  refine k_fz ?_
  exact k_ret b rfl trivial

theorem nodes1_iter (b bs : Nat) (t : AT) : Iter 175 [.pointer (some ⟨b, 0, none⟩)] elv t.els [Blk b (.cells #[.pointer (some ⟨bs, 0, none⟩)] 23), Blk bs (.cells #[.pointer t.ptr] 117), AtF t] [] := by
  intro v Y I Ix hy
  have he := each_ok v Y I Ix t.els hy t [] (by simp)
  refine ⟨enters_of Tryz.func175 (by kernel_rfl) rfl, spec_of (vs := [_, _]) Tryz.func175 rfl Tryz.ntmps175 rfl fun G w hp => ?_⟩
  repeat' (first | refine l_run ?_ | refine l_nil ?_ | refine l_one ?_ | refine k_reg ?_ | refine l_ld ?_ | refine l_ldF ?_ | refine l_st ?_ | refine l_al (fun b => ?_) | refine l_bs (fun b => ?_) | refine k_condT ?_ | refine k_condF ?_ | refine k_brk ?_ | refine l_call (he) (fun _ _ => ?_) | refine l_call0 (he) (fun _ _ => ?_) | refine l_split (fun hc => ?_) (fun hc => ?_) | refine k_cond (fun hc => ?_) (fun hc => ?_))
  rename_i r hr
  cases r with
  | none => exact k_end none rfl (fun q hq => by cases hq)
  | some q => exact k_end (some q) rfl (fun q' hq => by cases hq; exact hr q rfl)

/-- The cells of a name. -/
def nmf (a : Nm) : List Value := [.int .i64 a.kind, .string a.owner, .int .i64 a.number, .int .i64 a.index, .string a.text]
/-- The names of a kind. -/
def kn (es : Al) (k : Int) : List Nm := (es.filter fun x => x.1.kind == k).map (·.1)
def kne (l : List El) (k : Int) : List Nm := (l.filter fun x => x.2.1.kind == k).map (·.2.1)
theorem kne_eq (t : AT) (k : Int) : kne t.els k = kn t.tr.els k := by
  rw [AT.tr_els, kn, kne, List.filter_map, List.map_map]; rfl

abbrev JKL (bk b5 : Nat) (k : Int) (pre : List El) (q : Option Addr × Nat) : List HP := [Pt bk (.cells #[.int .i64 k] 3), Pt b5 (.cells #[.slice q.1 (kne pre k).length q.2] 62), Row 78 5 q.1 (kne pre k).length q.2 ((kne pre k).flatMap nmf)]
def JK (bk b5 : Nat) (k : Int) (pre : List El) : HP := fun h => ∃ q, True ∧ Sep (JKL bk b5 k pre q) h

set_option maxHeartbeats 1000000 in
theorem kind_ok (ps : Option Addr) (es : Al) (k : Int) : Enters 68 ∧ Spec Tryz.prog 68 #[.pointer ps, .int .i64 k] [St ps es] []
    ⟨Option Addr × Nat, fun q => .slice q.1 (kn es k).length q.2, fun _ => True, fun q => [Sl 78 nmf q.1 q.2 (kn es k)], fun _ => []⟩ := by
  refine ⟨enters_of Tryz.func68 (by kernel_rfl) rfl, spec_ofM (vs := [_, _]) Tryz.func68 rfl Tryz.ntmps68 rfl fun G w hp => ?_⟩
  refine k_st (ps := ps) (es := es) (fun bs p t hp he hok => ?_)
  subst hp
  refine k_fact (X := AT) (Fx := fun x => [AtF x]) (p := fun x => x.tr = t ∧ p = x.ptr) (f := TrF p t) (.there .here) (fun h hh => let ⟨x, h1, h2, h3⟩ := AT.of_tr t p h hh; ⟨x, ⟨h1, h2⟩, fun f hf => by simp at hf; subst hf; exact h3⟩) (fun x hx => ?_)
  obtain ⟨rfl, rfl⟩ := hx
  have hlen : x.els.length ≤ 65536 := by
    have := hok.len
    rw [← he, AT.tr_els] at this
    simpa using this
  repeat' (first | refine l_run ?_ | refine l_nil ?_ | refine l_one ?_ | refine k_reg ?_ | refine l_ld ?_ | refine l_ldF ?_ | refine l_st ?_ | refine l_al (fun b => ?_) | refine l_bs (fun b => ?_) | refine k_condT ?_ | refine k_condF ?_ | refine k_brk ?_ | refine r_run ?_ | refine r_one ?_ | refine r_ld ?_ | refine r_ldF ?_ | refine r_ldN ?_ | refine r_al (fun b => ?_) | refine r_bs (fun b => ?_) | refine r_st ?_ | refine r_end ?_ | refine l_call (nodes_ok _) (fun _ _ => ?_) | refine l_call0 (nodes_ok _) (fun _ _ => ?_) | refine r_call (nodes_ok _) (fun _ _ => ?_) | refine l_split (fun hc => ?_) (fun hc => ?_) | refine r_split (fun hc => ?_) (fun hc => ?_) | refine k_draw 4 [] [(0, 0), (1, 0), (2, 0), (3, 0), (4, 0), (5, 0), (6, 0)] [] ?_ | refine k_draw 5 [] [(0, 0), (1, 0), (2, 0), (3, 0), (4, 0), (5, 1), (6, 4)] [7] ?_ | refine k_cond (fun hc => ?_) (fun hc => ?_))
  rename_i bk q _
  generalize b = b5
  refine k_shut (Lx := []) (r := Row 78 5 none 0 0 []) (fun h _ => row_nil _ _ h) ?_
  refine k_shut (Lx := JKL bk b5 k [] (none, 0)) (r := JK bk b5 k []) (fun h hh => ⟨(none, 0), trivial, hh⟩) ?_
  refine k_range (α := El) (enc := elv) (xs := x.els) (JK bk b5 k) (fun _ _ => False) (nodes1_iter q bs x) ?_ ?_ ?_
  · intro lr l pre e hpre G w0 hp0
    have hple := hpre.length_le
    simp only [List.length_append, List.length_singleton] at hple
    have hkl : (kne pre k).length ≤ pre.length := by simp only [kne, List.length_map]; exact List.length_filter_le ..
    refine k_open (X := Option Addr × Nat) (Lx := fun q => JKL bk b5 k pre q) (p := fun _ => True) (r := JK bk b5 k pre) (.there .here) (fun h hh => hh) (fun q _ => ?_)
    refine k_mk (F1 := [AtF x]) (f := Nd (some ⟨e.1, 0, none⟩) e.2.1 e.2.2) (fun hp hF => x.nd hp (hF (AtF x) (by simp)) e (hpre.subset (by simp))) ?_
    refine k_nd (p := some ⟨e.1, 0, none⟩) (a := e.2.1) (v := e.2.2) (fun bm pl' pr' y0 y1 y2 hp => ?_)
    obtain ⟨eb, ea, ev⟩ := e
    dsimp only at hp ⊢
    obtain rfl : eb = bm := by injection hp with hp; injection hp
    repeat' (first | refine l_run ?_ | refine l_nil ?_ | refine l_one ?_ | refine k_reg ?_ | refine l_ld ?_ | refine l_ldF ?_ | refine l_st ?_ | refine l_al (fun b => ?_) | refine l_bs (fun b => ?_) | refine k_condT ?_ | refine k_condF ?_ | refine k_brk ?_ | refine r_run ?_ | refine r_one ?_ | refine r_ld ?_ | refine r_ldF ?_ | refine r_ldN ?_ | refine r_al (fun b => ?_) | refine r_bs (fun b => ?_) | refine r_st ?_ | refine r_end ?_ | refine k_beg ?_ | refine r_app1 (fun o' cap' => ?_) | refine l_split (fun hc => ?_) (fun hc => ?_) | refine r_split (fun hc => ?_) (fun hc => ?_) | refine k_draw 4 [] [(0, 0), (1, 0), (2, 0), (3, 0), (4, 0), (5, 0), (6, 0)] [] ?_ | refine k_draw 5 [Row _ _ _ _ _ _] [(0, 0), (1, 0), (2, 0), (3, 0), (4, 0), (5, 1), (6, 4)] [7] ?_ | refine k_cond (fun hc => ?_) (fun hc => ?_))
    · have hkk : ea.kind = k := by simpa using hc
      have e1 : kne (pre ++ [(eb, ea, ev)]) k = kne pre k ++ [ea] := by simp [kne, hkk]
      have e2 : (kne pre k).length + 1 = (kne (pre ++ [(eb, ea, ev)]) k).length := by rw [e1]; simp
      have e3 : (kne pre k).flatMap nmf ++ #[Value.int .i64 ea.kind, .string ea.owner, .int .i64 ea.number, .int .i64 ea.index, .string ea.text].toList = (kne (pre ++ [(eb, ea, ev)]) k).flatMap nmf := by rw [e1]; simp [nmf]
      rw [e2, e3]
      refine k_shut (Lx := JKL bk b5 k (pre ++ [(eb, ea, ev)]) (o', cap')) (r := JK bk b5 k (pre ++ [(eb, ea, ev)])) (fun h hh => ⟨(o', cap'), trivial, hh⟩) ?_
      exact k_rn
    · have hkk : ea.kind ≠ k := by simpa using hc
      have e1 : kne (pre ++ [(eb, ea, ev)]) k = kne pre k := by simp [kne, hkk]
      refine k_shut (Lx := JKL bk b5 k pre q) (r := JK bk b5 k (pre ++ [(eb, ea, ev)])) (fun h hh => ⟨q, trivial, by rw [JKL, e1]; exact hh⟩) ?_
      exact k_rn
  · intro D
    refine k_open (X := Option Addr × Nat) (Lx := fun q => JKL bk b5 k x.els q) (p := fun _ => True) (r := JK bk b5 k x.els) .here (fun h hh => hh) (fun q _ => ?_)
    dsimp only [JKL]
    rw [kne_eq, he]
    repeat' (first | refine l_run ?_ | refine l_nil ?_ | refine l_one ?_ | refine k_reg ?_ | refine l_ld ?_ | refine l_ldF ?_ | refine l_st ?_ | refine l_al (fun b => ?_) | refine l_bs (fun b => ?_) | refine k_condT ?_ | refine k_condF ?_ | refine k_brk ?_ | refine r_run ?_ | refine r_one ?_ | refine r_ld ?_ | refine r_ldF ?_ | refine r_ldN ?_ | refine r_al (fun b => ?_) | refine r_bs (fun b => ?_) | refine r_st ?_ | refine r_end ?_ | refine l_split (fun hc => ?_) (fun hc => ?_) | refine r_split (fun hc => ?_) (fun hc => ?_) | refine k_draw 4 [] [(0, 0), (1, 0), (2, 0), (3, 0), (4, 0), (5, 0), (6, 0)] [] ?_ | refine k_draw 5 [] [(0, 0), (1, 0), (2, 0), (3, 0), (4, 0), (5, 1), (6, 4)] [7] ?_ | refine k_cond (fun hc => ?_) (fun hc => ?_))
    refine k_frz (sz := 5) (f := nmf) (o := q.1) (cap := q.2) (kn es k) ?_ rfl rfl
    exact k_retM q rfl trivial
  · intro D pre hpre
    exact w_open (X := Empty) (Lx := fun _ => []) (p := fun _ => False) .here (fun h hh => hh.elim) (fun q hq => hq.elim)
end Go.Proofs.YtiggkcknmjgicaaGreatDoor
