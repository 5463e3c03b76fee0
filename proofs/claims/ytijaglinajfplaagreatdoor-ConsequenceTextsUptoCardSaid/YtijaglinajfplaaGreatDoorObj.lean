/-
  Contracts of cmp.Or and of the package object: Compare, Word, Check.
  Conditions: those that each theorem states.
-/
import Derived.Test.YtijaglinajfplaaGreatDoorLin2
import Derived.Test.YtijaglinajfplaaGreatDoorTreeP
set_option maxRecDepth 10000
namespace Go.Proofs.YtijaglinajfplaaGreatDoor
open Go.RowKit

theorem row_pt {T sz m b : Nat} {cs : Array Value} (hm : cs.size = m * sz) (h : H) (hb : Sep [Pt b (.cells cs T)] h) : Row T sz (some ⟨b, 0, none⟩) m m cs.toList h := by
  obtain ⟨h1, h2, _, s1, _, hx, _⟩ := hb
  refine .inr ⟨b, [], (0, 0), rfl, ?_, by simpa using hm, by simpa using hm, Nat.le_refl _, .inl rfl⟩
  simpa using s1 _ _ hx

/-- The first that is not 0. -/
def or0 : List Int → Int
  | [] => 0
  | x :: l => if x ≠ 0 then x else or0 l

theorem or_ok (o : Option Addr) (c : Nat) (es : List Int) (h1 : es.length ≤ 1099511627776) : Spec Tryz.prog 188 #[.slice o es.length c] [Sl 3 zf o c es] [] (RetV (.int .i64 (or0 es))) := by
  refine (show Enters 188 ∧ Spec Tryz.prog 188 #[.slice o es.length c] [Sl 3 zf o c es] [] (RetV (.int .i64 (or0 es))) from ?_).2
  refine ⟨enters_of Tryz.func188 (by kernel_rfl) rfl, spec_of (vs := [_]) Tryz.func188 rfl Tryz.ntmps188 rfl fun G w hp => ?_⟩
  repeat' (first | refine l_run ?_ | refine l_nil ?_ | refine l_one ?_ | refine k_reg ?_ | refine l_ld ?_ | refine l_ldF ?_ | refine l_st ?_ | refine l_al (fun b => ?_) | refine l_bs (fun b => ?_) | refine k_condT ?_ | refine k_condF ?_ | refine k_brk ?_ | refine l_split (fun hc => ?_) (fun hc => ?_) | refine k_cond (fun hc => ?_) (fun hc => ?_))
  refine k_lp (X := { i : Nat // i ≤ es.length ∧ or0 es = or0 (es.drop i) }) (fun i => [(3, .int .i64 0), (6, .slice o es.length c), (7, .int .i64 (es.length : Int)), (8, .int .i64 (i.1 : Int))]) (fun _ => [Sl 3 zf o c es]) (fun _ => []) (fun i => es.length - i.1) ⟨0, by omega, rfl⟩ ⟨rfl, rfl, rfl, rfl, trivial⟩ ?_
  rintro ⟨i, hi1, hi3⟩
  dsimp only
  repeat' (first | refine l_run ?_ | refine l_nil ?_ | refine l_one ?_ | refine k_reg ?_ | refine l_ld ?_ | refine l_ldF ?_ | refine l_st ?_ | refine l_al (fun b => ?_) | refine l_bs (fun b => ?_) | refine k_condT ?_ | refine k_condF ?_ | refine k_brk ?_ | refine l_ix es i (by omega) (fun b off => ?_) | refine l_ldC ?_ | (refine l_split (fun hc => ?_) (fun hc => ?_) <;> (try simp at hc)) | (refine k_cond (fun hc => ?_) (fun hc => ?_) <;> (try simp at hc)))
  · have d1 := List.drop_eq_getElem_cons (l := es) (i := i) (by omega)
    have e : or0 es = es[i] := by rw [hi3, d1, or0, if_pos hc]
    exact k_rt (w_lq (w_rv (congrArg (Value.int .i64) e) (w_ret () rfl trivial)))
  · have d1 := List.drop_eq_getElem_cons (l := es) (i := i) (by omega)
    rw [wrapi (z := (i : Int) + 1) (by omega) (by omega)]
    exact k_next ⟨i + 1, by omega, by rw [hi3, d1, or0, if_neg (by simp [hc])]⟩ (by show es.length - (i + 1) < es.length - i; omega) ⟨rfl, rfl, rfl, rfl, trivial⟩
  · have d1 : es.drop i = [] := List.drop_eq_nil_of_le (by omega)
    rw [hi3, d1]
    exact k_ret () rfl trivial

theorem or3_ok (b : Nat) (x y z : Int) : Enters 188 ∧ Spec Tryz.prog 188 #[.slice (some ⟨b, 0, none⟩) 3 3] [] [Pt b (.cells #[.int .i64 x, .int .i64 y, .int .i64 z] 3)] (RetV (.int .i64 (or0 [x, y, z]))) := by
  refine ⟨enters_of Tryz.func188 (by kernel_rfl) rfl, fun G w hp hs => ?_⟩
  have h1 := (hs.shut (R := []) (L := [Pt b (.cells #[.int .i64 x, .int .i64 y, .int .i64 z] 3)]) (x := Row 3 1 (some ⟨b, 0, none⟩) 3 3 [.int .i64 x, .int .i64 y, .int .i64 z]) fun h hh => row_pt rfl h hh)
  have h2 := frz_row (f := zf) (es := [x, y, z]) rfl rfl Sel.here h1
  exact sat_call (or_ok (some ⟨b, 0, none⟩) 3 [x, y, z] (by simp)) h2 .nil (fun hp hF f hf => by simp at hf; subst hf; exact hF _ (by simp)) fun x w' hx h3 => ⟨x, rfl, hx, h3.facts (F' := []) (fun _ _ _ h => by cases h)⟩

theorem compareO_ok (a a' : Nm) (ha : a.owner.size ≤ 1099511627770) (hb : a'.owner.size ≤ 1099511627770) : Enters 127 ∧ Spec Tryz.prog 127 #[a.v, a'.v] [] [] (RetV (.int .i64 (cmpO a a'))) := by
  generalize hr : cmpO a a' = r
  unfold cmpO at hr
  refine ⟨enters_of Tryz.func127 (by kernel_rfl) rfl, spec_of (vs := [_, _]) Tryz.func127 rfl Tryz.ntmps127 rfl fun G w hp => ?_⟩
  repeat' (first | refine l_run ?_ | refine l_nil ?_ | refine l_one ?_ | refine k_reg ?_ | refine l_ld ?_ | refine l_ldF ?_ | refine l_st ?_ | refine l_al (fun b => ?_) | refine l_bs (fun b => ?_) | refine k_condT ?_ | refine k_condF ?_ | refine k_brk ?_ | refine r_run ?_ | refine r_one ?_ | refine r_ld ?_ | refine r_ldF ?_ | refine r_ldN ?_ | refine r_al (fun b => ?_) | refine r_bs (fun b => ?_) | refine r_st ?_ | refine r_end ?_ | refine l_call (cmp_int _ _) (fun _ _ => ?_) | refine l_call0 (cmp_int _ _) (fun _ _ => ?_) | refine r_call (cmp_int _ _) (fun _ _ => ?_) | refine l_call (compareN_ok a.owner a'.owner ha hb) (fun _ _ => ?_) | refine l_call0 (compareN_ok a.owner a'.owner ha hb) (fun _ _ => ?_) | refine r_call (compareN_ok a.owner a'.owner ha hb) (fun _ _ => ?_) | refine l_call (cmp_str _ _) (fun _ _ => ?_) | refine l_call0 (cmp_str _ _) (fun _ _ => ?_) | refine r_call (cmp_str _ _) (fun _ _ => ?_) | refine l_call (or3_ok _ _ _ _) (fun _ _ => ?_) | refine l_call0 (or3_ok _ _ _ _) (fun _ _ => ?_) | refine r_call (or3_ok _ _ _ _) (fun _ _ => ?_) | (refine l_split (fun hc => ?_) (fun hc => ?_) <;> (try simp at hc)) | (refine r_split (fun hc => ?_) (fun hc => ?_) <;> (try simp at hc)) | refine k_draw 7 [] [(0, 0), (1, 0), (2, 0), (3, 0), (5, 0), (6, 0), (7, 0), (8, 0), (10, 0), (11, 0), (12, 0), (13, 0), (4, 4), (9, 4), (14, 4), (15, 1), (16, 4), (17, 0)] [] ?_ | (refine k_cond (fun hc => ?_) (fun hc => ?_) <;> (try simp at hc)))
  · rw [if_pos hc] at hr; subst hr; exact k_ret () rfl trivial
  · rename_i h _ _
    rw [if_neg (by simp [h]), if_pos hc] at hr; subst hr; exact k_ret () rfl trivial
  · rename_i h _ _ _ _ _ _ _ _ _ _ _
    rw [if_neg (by simp_all), if_neg (by simp_all)] at hr
    have e : r = or0 [cmpI a.number a'.number, cmpI a.index a'.index, cmpS a.text a'.text] := by
      rw [← hr]
      simp only [or0]
      split
      · rfl
      · split
        · rfl
        · split
          · rfl
          · omega
    subst e
    exact k_ret () rfl trivial

/-- What the names of a kind use. -/
structure Usage where
  word : ByteArray
  owner : Bool
  number : Bool
  index : Bool
  text : Bool
  most : Int
  deriving Inhabited
def uf (u : Usage) : List Value := [.string u.word, .bool u.owner, .bool u.number, .bool u.index, .bool u.text, .int .i64 u.most]
def usages : List Usage := [
  ⟨⟨#[]⟩, false, false, false, false, 0⟩,
  ⟨⟨#[112, 114, 111, 99, 101, 115, 115]⟩, true, false, false, false, 0⟩,
  ⟨⟨#[114, 101, 103, 105, 115, 116, 101, 114, 115]⟩, true, false, false, false, 0⟩,
  ⟨⟨#[112, 97, 103, 101]⟩, true, false, true, false, 63⟩,
  ⟨⟨#[116, 97, 98, 108, 101]⟩, true, false, false, false, 0⟩,
  ⟨⟨#[99, 111, 117, 110, 116, 101, 114]⟩, true, false, false, false, 0⟩,
  ⟨⟨#[112, 101, 110, 100, 105, 110, 103]⟩, true, false, false, false, 0⟩,
  ⟨⟨#[110, 111, 100, 101]⟩, true, true, false, false, 0⟩,
  ⟨⟨#[98, 108, 111, 99, 107]⟩, true, true, true, false, 63⟩,
  ⟨⟨#[101, 110, 116, 114, 121]⟩, true, true, false, true, 0⟩,
  ⟨⟨#[108, 105, 115, 116, 105, 110, 103]⟩, true, true, false, false, 0⟩,
  ⟨⟨#[112, 105, 112, 101]⟩, true, true, false, false, 0⟩,
  ⟨⟨#[108, 111, 99, 107]⟩, true, true, false, false, 0⟩,
  ⟨⟨#[116, 101, 114, 109, 105, 110, 97, 108]⟩, false, true, false, false, 0⟩,
  ⟨⟨#[97, 99, 99, 111, 117, 110, 116]⟩, false, false, false, true, 0⟩,
  ⟨⟨#[99, 108, 111, 99, 107]⟩, false, false, false, false, 0⟩,
  ⟨⟨#[112, 111, 114, 116]⟩, false, true, false, false, 0⟩,
  ⟨⟨#[98, 111, 120]⟩, false, false, false, true, 0⟩,
  ⟨⟨#[111, 117, 116]⟩, true, true, true, false, 1073741824⟩,
  ⟨⟨#[115, 104, 101, 108, 108]⟩, true, false, false, false, 0⟩,
  ⟨⟨#[101, 112, 111, 99, 104]⟩, false, false, false, false, 0⟩]

/-- The table of the kinds, as it lies in memory. -/
def Usg : Pf := ⟨fun h => ∃ T fz, h 0 = some (.cells (usages.flatMap uf).toArray T fz), fun _ _ s ⟨T, fz, h⟩ => ⟨T, fz, s _ _ h⟩⟩

section
variable {n : Nat} {C : Cx} {Q : Exit → Act → World → Prop} {E E' : List (Nat × Value)} {F F0 : List Pf} {R : List HP} {k : List Fr} {ops l : List Oper}
  {d : Nat} {t ty0 : TypeId} {x y : Operand} {pos : String} {aft : Array Edge} {gd : Option (Nat × Bool)}
theorem run_indexArr {T sz m i b : Nat} {w : World} {rs tr : TRow} (hts : lookT tab t = some rs) (hrs : rs.k = .arr m T) (hT : lookT tab T = some tr) (hsz : tr.size = sz) {z : Int} (hz : z = (i : Int)) (hi : i < m) :
    (Instr.indexAt t (.pointer (some ⟨b, 0, none⟩)) (.int .i64 z)).run Tryz.prog w = .ok (.pointer (some ⟨b, i * sz, none⟩)) w := by
  obtain ⟨d1, hd1, hk1⟩ := tab_ok.und hts
  rw [hrs] at hk1
  have hu1 : (underlying t).run Tryz.prog w = .ok (.array m T) w := by
    cases d1 <;> simp [chkKind] at hk1
    obtain ⟨rfl, rfl⟩ := hk1
    simp [underlying, hd1, go_sem]
  have hs1 := tab_ok.sizeOf hT w
  rw [hsz] at hs1
  subst hz
  unfold Instr.indexAt
  simp only [asIntOf, Sem.run_bind, Sem.run_pure, Result.andThen, hu1, Instr.sureAddr]
  have hc : (0 : Int) ≤ (i : Int) ∧ (i : Int) < ((m : Nat) : Int) := ⟨by omega, by omega⟩
  rw [if_pos hc]
  simp only [Sem.run_bind, hs1, Result.andThen, Sem.run_pure, Int.toNat_natCast]
  rw [add_add rfl, Nat.zero_add]

theorem l_usg {m T : Nat} {z : Int} {rs tr : TRow} (i : Nat) (hlt : i < usages.length)
    (nx : ∀ T' o, o = i * 6 → Wl n C ops.toArray k Q l ((d, .pointer (some ⟨0, o, none⟩)) :: E) (Cel T' 0 o (uf usages[i]) :: F) R)
    (hw : wantL ops E ⟨some d, .indexAddr t x y, ty0, pos, aft, gd⟩ = some true := by rfl) (hn : Nat.blt d n = true := by rfl) (hx : ev E x = some (.pointer (some ⟨0, 0, none⟩)) := by rfl) (hy : ev E y = some (.int .i64 z) := by rfl)
    (hs : Sel Usg F F0 := by (repeat (first | exact Sel.here | apply Sel.there)); first | done | fail) (hts : lookT tab t = some rs := by rfl) (hrs : rs.k = .arr m T := by rfl) (hT : lookT tab T = some tr := by rfl) (hsz : tr.size = 6 := by rfl) (hm : m = usages.length := by rfl)
    (hz : z = (i : Int) := by first | rfl | omega) : Wl n C ops.toArray k Q (⟨some d, .indexAddr t x y, ty0, pos, aft, gd⟩ :: l) E F R :=
  wl_op (fun t ht => by cases ht; exact Nat.le_of_ble_eq_true hn) (fun c hc => by cases hc) hw fun a w ha hsat => by
    obtain ⟨hp, hr, st⟩ := hsat
    obtain ⟨T', fz, h1⟩ := st.f _ hs.mem
    have hr1 := run_indexArr (w := w) (b := 0) hts hrs hT hsz hz (by rw [hm]; exact hlt)
    unfold OpRes
    simp only [execOp, ha.ev (x := x) (by rw [evf_look]; exact hx), ha.ev (x := y) (by rw [evf_look]; exact hy), Sem.run_bind, Result.andThen, hr1, Sem.run_pure]
    have hc : (Cel T' 0 (i * 6) (uf usages[i])).p hp := by
      refine ⟨_, (T', fz), (usages.take i).flatMap uf, (usages.drop (i + 1)).flatMap uf, h1, ?_, ?_⟩
      · simpa using flat_split (f := uf) (List.getElem?_eq_getElem hlt)
      · rw [flat_len (sz := 6) (fun _ => rfl)]
        simp; omega
    exact fun a' ha' => nx T' _ rfl a' w ha' (add_fact st hc)
end

def isE (s : ByteArray) : Bool := s.toList == ByteArray.toList ⟨#[]⟩
theorem isE_eq (s : ByteArray) : isE s = decide (s = ⟨#[]⟩) := by
  unfold isE
  rw [toList_data, toList_data, Bool.eq_iff_iff]
  simp only [beq_iff_eq, decide_eq_true_eq]
  exact ⟨fun h => ba_ext h, fun h => by rw [h]⟩

/-- A text that a name may have. -/
def badc (c : UInt8) : Bool := decide ((c.toNat : Int) < 33) || (decide ((126 : Int) < c.toNat) || ((c.toNat : Int) == 47))
def oword (s : ByteArray) : Bool := !isE s && decide (s.size ≤ 32) && s.data.toList.all fun c => !badc c
def within (x m : Int) : Bool := decide (0 ≤ x) && decide (x ≤ m)

/-- What Check answers, by what the names of the kind use. -/
def uchk (u : Usage) (a : Nm) : Int :=
  if (!u.owner && !isE a.owner) || (!u.number && a.number != 0) || (!u.index && a.index != 0) || (!u.text && !isE a.text) then 1
  else if u.owner && !lvalid a.owner.data.toList then 12
  else if (u.number && !within a.number 1073741824) || (u.index && !within a.index u.most) then 2
  else if u.text && !oword a.text then 12
  else 0
def nchk (a : Nm) : Int := if 1 ≤ a.kind ∧ a.kind ≤ 20 then uchk (usages.getD a.kind.toNat default) a else 11

theorem word_ok (s : ByteArray) (hs : s.size ≤ 1099511627776) : Enters 192 ∧ Spec Tryz.prog 192 #[.string s] [] [] (RetV (.bool (oword s))) := by
  have hsz : s.data.toList.length = s.size := by simp
  generalize hr : oword s = r
  unfold oword at hr
  refine ⟨enters_of Tryz.func192 (by kernel_rfl) rfl, spec_of (vs := [_]) Tryz.func192 rfl Tryz.ntmps192 rfl fun G w hp => ?_⟩
  repeat' (first | refine l_run ?_ | refine l_nil ?_ | refine l_one ?_ | refine k_reg ?_ | refine l_ld ?_ | refine l_ldF ?_ | refine l_st ?_ | refine l_al (fun b => ?_) | refine l_bs (fun b => ?_) | refine k_condT ?_ | refine k_condF ?_ | refine k_brk ?_ | refine l_split (fun hc => ?_) (fun hc => ?_) | refine k_cond (fun hc => ?_) (fun hc => ?_))
  · have hc : isE s = true := hc
    rw [hc] at hr; simp at hr; subst hr
    exact k_ret () rfl trivial
  · rename_i h1
    have h1 : isE s = false := h1
    have h2 : ¬ s.size ≤ 32 := by simp at hc; omega
    rw [h1, decide_eq_false h2] at hr; simp at hr; subst hr
    exact k_ret () rfl trivial
  rename_i h1
  have h1 : isE s = false := h1
  have h2 : s.size ≤ 32 := by simp at hc; omega
  rw [h1, decide_eq_true h2] at hr; simp only [Bool.not_false, Bool.and_self, Bool.true_and] at hr
  refine k_lp (X := { i : Nat // i ≤ s.size ∧ ∀ j, j < i → ∀ c, s.data.toList[j]? = some c → badc c = false }) (fun i => [(0, .string s), (12, .int .i64 (s.size : Int)), (13, .int .i64 (i.1 : Int))]) (fun _ => []) (fun _ => []) (fun i => s.size - i.1) ⟨0, by omega, fun j hj => by omega⟩ ⟨rfl, rfl, rfl, trivial⟩ ?_
  rintro ⟨i, hi1, hi2⟩
  dsimp only
  by_cases hlt : i < s.data.toList.length
  · obtain ⟨c, hcc⟩ : ∃ c, s.data.toList[i]? = some c := ⟨_, List.getElem?_eq_getElem hlt⟩
    have bad : badc c = true → r = false := fun hb => by
      rw [← hr, List.all_eq_false]
      exact ⟨c, List.mem_of_getElem? hcc, by simp [hb]⟩
    repeat' (first | refine l_run ?_ | refine l_nil ?_ | refine l_one ?_ | refine k_reg ?_ | refine l_ld ?_ | refine l_ldF ?_ | refine l_st ?_ | refine l_al (fun b => ?_) | refine l_bs (fun b => ?_) | refine k_condT ?_ | refine k_condF ?_ | refine k_brk ?_ | refine l_six (s := s) i c hcc ?_ | (refine l_split (fun hc => ?_) (fun hc => ?_) <;> (try simp at hc) <;> (try omega)) | (refine k_cond (fun hc => ?_) (fun hc => ?_) <;> (try simp at hc) <;> (try omega)))
    all_goals try (
      have e := bad (by simp [badc]; omega)
      exact k_rt (w_lq (w_rv (congrArg Value.bool e) (w_ret () rfl trivial))))
    rw [wrapi (z := (i : Int) + 1) (by omega) (by omega)]
    refine k_next ⟨i + 1, by omega, fun j hj c' hc' => ?_⟩ (by show s.size - (i + 1) < s.size - i; omega) ⟨rfl, rfl, rfl, trivial⟩
    by_cases hij : j = i
    · subst hij
      obtain rfl := Option.some.inj (hcc.symm.trans hc')
      simp [badc]; omega
    · exact hi2 j (by omega) c' hc'
  · have e : r = true := by
      rw [← hr, List.all_eq_true]
      intro c hc
      obtain ⟨j, hj, rfl⟩ := List.mem_iff_getElem.1 hc
      rw [hi2 j (by omega) _ (List.getElem?_eq_getElem hj)]; rfl
    repeat' (first | refine l_run ?_ | refine l_nil ?_ | refine l_one ?_ | refine k_reg ?_ | refine l_ld ?_ | refine l_ldF ?_ | refine l_st ?_ | refine l_al (fun b => ?_) | refine l_bs (fun b => ?_) | refine k_condT ?_ | refine k_condF ?_ | refine k_brk ?_ | (refine l_split (fun hc => ?_) (fun hc => ?_) <;> (try simp at hc) <;> (try omega)) | (refine k_cond (fun hc => ?_) (fun hc => ?_) <;> (try simp at hc) <;> (try omega)))
    subst e
    exact k_ret () rfl trivial

end Go.Proofs.YtijaglinajfplaaGreatDoor
