/-
  Contracts of the package lineage.
  Conditions: those that each theorem states.
-/
import Derived.Test.YtijaglinajfplaaGreatDoorRange
import Derived.Test.YtijaglinajfplaaGreatDoorLinP
import Derived.Test.YtijaglinajfplaaGreatDoorCodec3
set_option maxRecDepth 10000
namespace Go.Proofs.YtijaglinajfplaaGreatDoor
open Go.RowKit

section
variable {n : Nat} {C : Cx} {Q : Exit → Act → World → Prop} {E E' : List (Nat × Value)} {F : List Pf} {R : List HP} {k : List Fr} {ops l : List Oper}
  {d : Nat} {t ty0 : TypeId} {x y : Operand} {pos : String} {aft : Array Edge} {gd : Option (Nat × Bool)}
theorem l_sx {s : ByteArray} {z : Int} {rs : TRow} (i : Nat) (hlt : i < s.data.toList.length)
    (nx : Wl n C ops.toArray k Q l ((d, .int .u8 (s.data.toList[i]).toNat) :: E) F R)
    (hw : wantL ops E ⟨some d, .index t x y, ty0, pos, aft, gd⟩ = some true := by rfl) (hn : Nat.blt d n = true := by rfl) (hx : ev E x = some (.string s) := by rfl) (hy : ev E y = some (.int .i64 z) := by rfl)
    (hts : lookT tab t = some rs := by rfl) (hrs : rs.k = .str := by rfl) (hz : z = (i : Int) := by first | rfl | omega) : Wl n C ops.toArray k Q (⟨some d, .index t x y, ty0, pos, aft, gd⟩ :: l) E F R :=
  l_six i _ (List.getElem?_eq_getElem hlt) nx hw hn hx hy hts hrs hz
end

theorem takeWhile_lt {p : UInt8 → Bool} : ∀ (l : List UInt8) (i : Nat), i ≤ (l.takeWhile p).length → (i < (l.takeWhile p).length ↔ ∃ c, l[i]? = some c ∧ p c = true)
  | [], i, h => by simp
  | a :: l, 0, _ => by
    rw [List.takeWhile_cons]
    split
    · rename_i h; simp [h]
    · rename_i h; simp [h]
  | a :: l, i + 1, h => by
    rw [List.takeWhile_cons] at h ⊢
    split at h
    · rename_i hp
      simp only [hp, if_true, List.length_cons, List.getElem?_cons_succ] at h ⊢
      have := takeWhile_lt (p := p) l i (by omega)
      rw [← this]; omega
    · simp at h
theorem digs_lt {l : List UInt8} {i : Nat} (h : i ≤ (digs l).length) : i < (digs l).length ↔ i < 7 ∧ ∃ c, l[i]? = some c ∧ isDig c = true := by
  have h1 := takeWhile_lt (p := isDig) (l.take 7) i h
  unfold digs
  rw [h1, List.getElem?_take]
  by_cases h7 : i < 7 <;> simp [h7]
theorem digs_get {l : List UInt8} {i : Nat} (h : i < (digs l).length) : (digs l)[i]? = l[i]? := by
  rw [digs_pre l, List.getElem?_take, if_pos h]
theorem dnum_lt : ∀ (l : List UInt8) (n : Nat), (∀ c ∈ l, isDig c = true) → l.foldl (fun n c => n * 10 + (c.toNat - 48)) n < (n + 1) * 10 ^ l.length
  | [], n, _ => by simp
  | c :: l, n, h => by
    have h1 := dnum_lt l (n * 10 + (c.toNat - 48)) fun d hd => h d (List.mem_cons_of_mem _ hd)
    have h2 := dig_lt (h c (by simp))
    refine Nat.lt_of_lt_of_le h1 ?_
    rw [List.length_cons, Nat.pow_succ]
    have : (n * 10 + (c.toNat - 48) + 1) ≤ (n + 1) * 10 := by omega
    calc (n * 10 + (c.toNat - 48) + 1) * 10 ^ l.length ≤ ((n + 1) * 10) * 10 ^ l.length := Nat.mul_le_mul_right _ this
      _ = (n + 1) * (10 ^ l.length * 10) := by rw [Nat.mul_assoc, Nat.mul_comm 10]
theorem dnum_take_lt (l : List UInt8) (i : Nat) : dnum ((digs l).take i) < 10000000 := by
  have h1 := dnum_lt ((digs l).take i) 0 fun c hc => digs_all l c (List.mem_of_mem_take hc)
  have h2 := (digs_len l).1
  have h3 : ((digs l).take i).length ≤ 7 := by simp; omega
  have h4 : 10 ^ ((digs l).take i).length ≤ 10 ^ 7 := Nat.pow_le_pow_right (by omega) h3
  unfold dnum
  omega
theorem dnum_succ {l : List UInt8} {i : Nat} {c : UInt8} (h : (digs l)[i]? = some c) : dnum ((digs l).take (i + 1)) = dnum ((digs l).take i) * 10 + (c.toNat - 48) := by
  rw [List.take_add_one, h]
  exact dnum_snoc _ _

def Prt.v (p : Prt) : Value := .agg #[.int .i64 (p.ord : Int), .int .i64 (p.pos : Int), .int .i64 p.e]

/-- The ordinal that begins at a place, and where it ends. -/
def ffirst (l : List UInt8) (pos count : Nat) : Prt × Nat := if ferr l count ≠ 0 then (⟨0, pos, ferr l count⟩, pos) else (⟨dnum (digs l), pos, 0⟩, pos + (digs l).length)

theorem wu8 {z : Int} (h : 0 ≤ z) (h2 : z < 256) : IntKind.u8.wrap z = z := by
  simp [IntKind.wrap, IntKind.bits, IntKind.signed]; omega
theorem u8eq (c : UInt8) : ((c.toNat : Int) = 48) ↔ c = 48 := by
  constructor
  · intro h; exact UInt8.toNat_inj.1 (by show c.toNat = 48; omega)
  · intro h; subst h; rfl

theorem first_ok (s : ByteArray) (p count : Nat) (hp : p ≤ s.size) (hs : s.size ≤ 1099511627776) :
    Enters 245 ∧ Spec Tryz.prog 245 #[.string s, .int .i64 (p : Int), .int .i64 (count : Int)] [] []
      (RetV (.tuple #[(ffirst (s.data.toList.drop p) p count).1.v, .int .i64 ((ffirst (s.data.toList.drop p) p count).2 : Int)])) := by
  have hsz : s.data.toList.length = s.size := by simp
  generalize hl : s.data.toList.drop p = l
  have hll : l.length = s.size - p := by rw [← hl]; simp
  have hget : ∀ i, l[i]? = s.data.toList[p + i]? := fun i => by rw [← hl, List.getElem?_drop]
  have hd := digs_len l
  refine ⟨enters_of Tryz.func245 (by kernel_rfl) rfl, spec_of (vs := [_, _, _]) Tryz.func245 rfl Tryz.ntmps245 rfl fun G w hp => ?_⟩
  repeat' (first | refine l_run ?_ | refine l_nil ?_ | refine l_one ?_ | refine k_reg ?_ | refine l_ld ?_ | refine l_ldF ?_ | refine l_st ?_ | refine l_al (fun b => ?_) | refine l_bs (fun b => ?_) | refine k_condT ?_ | refine k_condF ?_ | refine k_brk ?_ | (refine l_split (fun hc => ?_) (fun hc => ?_) <;> (try simp at hc)) | (refine k_cond (fun hc => ?_) (fun hc => ?_) <;> (try simp at hc)))
  refine k_lpx (X := { i : Nat // i ≤ (digs l).length }) (Y := Unit) (fun i => [(0, .string s), (1, .int .i64 (p : Int)), (2, .int .i64 (count : Int)), (6, .pointer (some ⟨b, 0, none⟩)), (8, .int .i64 ((p + i.1 : Nat) : Int)), (9, .int .i64 (dnum ((digs l).take i.1) : Int))]) (fun _ => []) (fun _ => [Pt b (.cells #[.int .i64 0, .int .i64 0, .int .i64 0] 302)]) (fun i => (digs l).length - i.1)
    (fun _ => [(0, .string s), (1, .int .i64 (p : Int)), (2, .int .i64 (count : Int)), (6, .pointer (some ⟨b, 0, none⟩)), (8, .int .i64 ((p + (digs l).length : Nat) : Int)), (9, .int .i64 (dnum (digs l) : Int))]) (fun _ => []) (fun _ => [Pt b (.cells #[.int .i64 0, .int .i64 0, .int .i64 0] 302)])
    ⟨0, by omega⟩ ⟨rfl, rfl, rfl, rfl, rfl, rfl, trivial⟩ ?_ ?_
  · intro _
    generalize hf : ffirst l p count = r
    unfold ffirst at hf
    have h0 : ∀ h : p < s.data.size, l.head? = some s.data[p] := fun h => by
      rw [List.head?_eq_getElem?, hget 0, Nat.add_zero]; simp [h]
    have hn : l = [] ↔ p = s.size := by rw [← List.length_eq_zero_iff]; omega
    have hdn : digs l = [] ↔ (digs l).length = 0 := List.length_eq_zero_iff.symm
    have hss : s.data.size = s.size := rfl
    repeat' (first | refine l_run ?_ | refine l_nil ?_ | refine l_one ?_ | refine k_reg ?_ | refine l_ld ?_ | refine l_ldF ?_ | refine l_st ?_ | refine l_al (fun b => ?_) | refine l_bs (fun b => ?_) | refine k_condT ?_ | refine k_condF ?_ | refine k_brk ?_ | refine l_sx (s := s) p (by omega) ?_ | rw [wrapi (z := ((p + (digs l).length : Nat) : Int) - (p : Int)) (by omega) (by omega)] | (refine l_split (fun hc => ?_) (fun hc => ?_) <;> (try simp at hc)) | (refine k_cond (fun hc => ?_) (fun hc => ?_) <;> (try simp at hc)))
    · have e : ferr l count = 9 := by rw [ferr, if_pos (by omega)]
      rw [e] at hf; subst hf; exact k_ret () rfl trivial
    · have e : ferr l count = 4 := by rw [ferr, if_neg (by omega), if_pos (hn.2 (by omega))]
      rw [e] at hf; subst hf; exact k_ret () rfl trivial
    · have e : ferr l count = 6 := by rw [ferr, if_neg (by omega), if_neg (fun e => by have := hn.1 e; omega), if_pos (hdn.2 (by omega))]
      rw [e] at hf; subst hf; exact k_ret () rfl trivial
    · have e : ferr l count = 3 := by
        rw [ferr, if_neg (by omega), if_neg (fun e => by have := hn.1 e; omega), if_neg (fun e => by have := hdn.1 e; omega), if_pos]
        rw [h0 (by omega)]
        exact congrArg some ((u8eq _).1 hc)
      rw [e] at hf; subst hf; exact k_ret () rfl trivial
    · have e : ferr l count = 2 := by
        rw [ferr, if_neg (by omega), if_neg (fun e => by have := hn.1 e; omega), if_neg (fun e => by have := hdn.1 e; omega), if_neg, if_pos (by omega)]
        rw [h0 (by omega)]
        intro e
        have := (u8eq _).2 (Option.some.inj e)
        omega
      rw [e] at hf; subst hf; exact k_ret () rfl trivial
    · have e : ferr l count = 0 := by
        rw [ferr, if_neg (by omega), if_neg (fun e => by have := hn.1 e; omega), if_neg (fun e => by have := hdn.1 e; omega), if_neg, if_neg (by omega)]
        rw [h0 (by omega)]
        intro e
        have := (u8eq _).2 (Option.some.inj e)
        omega
      rw [e] at hf; subst hf; exact k_ret () rfl trivial
  rintro hx ⟨i, hi⟩
  dsimp only
  have hlt := digs_lt hi
  have hdl := dnum_take_lt l i
  repeat' (first | refine l_run ?_ | refine l_nil ?_ | refine l_one ?_ | refine k_reg ?_ | refine l_ld ?_ | refine l_ldF ?_ | refine l_st ?_ | refine l_al (fun b => ?_) | refine l_bs (fun b => ?_) | refine k_condT ?_ | refine k_condF ?_ | refine l_call (isDigit_ok _) (fun _ _ => ?_) | refine l_call0 (isDigit_ok _) (fun _ _ => ?_) | refine l_sx (s := s) (p + i) (by omega) ?_ | rw [wrapi (z := ((p + i : Nat) : Int) - (p : Int)) (by omega) (by omega)] | (refine l_split (fun hc => ?_) (fun hc => ?_) <;> (try simp at hc)) | (refine k_cond (fun hc => ?_) (fun hc => ?_) <;> (try simp at hc)))
  · have hpi : p + i < s.data.size := by have : s.data.size = s.size := rfl; omega
    have hcc : l[i]? = some s.data[p + i] := by rw [hget i]; simp
    have hic : isDig s.data[p + i] = true := by simp [isDig]; omega
    have hi2 := hlt.2 ⟨by omega, _, hcc, hic⟩
    have hds := dnum_succ (i := i) ((digs_get hi2).trans hcc)
    have e1 : s.data.toList[p + i]'(by omega) = s.data[p + i] := by simp
    have e2 : IntKind.i64.wrap (IntKind.i64.wrap ((dnum ((digs l).take i) : Int) * 10) + IntKind.i64.wrap (IntKind.u8.wrap ((s.data[p + i].toNat : Int) - 48))) = (dnum ((digs l).take (i + 1)) : Int) := by
      rw [wu8 (by omega) (by omega), wrapi (z := (dnum ((digs l).take i) : Int) * 10) (by omega) (by omega), wrapi (z := (s.data[p + i].toNat : Int) - 48) (by omega) (by omega), wrapi (by omega) (by omega), hds]
      omega
    rw [e1, e2, wrapi (z := ((p + i : Nat) : Int) + 1) (by omega) (by omega)]
    refine k_next ⟨i + 1, hi2⟩ (by show (digs l).length - (i + 1) < (digs l).length - i; omega) ⟨rfl, rfl, rfl, rfl, rfl, rfl, trivial⟩
  all_goals
    have e : i = (digs l).length := by
      refine Nat.le_antisymm hi (Nat.le_of_not_lt fun h => ?_)
      obtain ⟨h7, c, hc1, hc2⟩ := hlt.1 h
      rw [hget i] at hc1
      have h8 := (List.getElem?_eq_some_iff.1 hc1).1
      simp [isDig] at hc2
      try (
        have h9 : s.data[p + i]? = some c := by simpa using hc1
        rw [Array.getElem?_eq_getElem (by omega)] at h9
        obtain rfl := Option.some.inj h9)
      omega
    have e2 : dnum ((digs l).take i) = dnum (digs l) := by rw [e, List.take_length]
    exact k_out hx () ⟨rfl, rfl, rfl, rfl, by rw [← e]; rfl, by rw [← e2]; rfl, trivial⟩

theorem prts_step (s : List UInt8) (p c : Nat) (hp : p ≤ s.length) : p ≤ (ffirst (s.drop p) p c).2 ∧ (ffirst (s.drop p) p c).2 ≤ s.length ∧ ((ffirst (s.drop p) p c).1.e = 0 → c ≠ 8) ∧
    prts (s.drop p) p c = if (ffirst (s.drop p) p c).1.e ≠ 0 then [(ffirst (s.drop p) p c).1] else match s[(ffirst (s.drop p) p c).2]? with
      | none => [(ffirst (s.drop p) p c).1]
      | some ch => if ch ≠ 46 then [(ffirst (s.drop p) p c).1, ⟨0, (ffirst (s.drop p) p c).2, 6⟩] else (ffirst (s.drop p) p c).1 :: prts (s.drop ((ffirst (s.drop p) p c).2 + 1)) ((ffirst (s.drop p) p c).2 + 1) (c + 1) := by
  have hd := digs_len (s.drop p)
  have hl : (s.drop p).length = s.length - p := by simp
  generalize hl' : s.drop p = l at *
  unfold ffirst
  by_cases hf : ferr l c = 0
  · rw [if_neg (by simp [hf])]
    refine ⟨by dsimp only; omega, by dsimp only; omega, fun _ h8 => ?_, ?_⟩
    · unfold ferr at hf; rw [if_pos h8] at hf; cases hf
    · conv => lhs; unfold prts
      rw [if_neg (by simp [hf])]
      dsimp only
      rw [if_neg (by simp)]
      have e1 : l.drop (digs l).length = s.drop (p + (digs l).length) := by rw [← hl', List.drop_drop]
      by_cases hlt : p + (digs l).length < s.length
      · have e2 := List.getElem?_eq_getElem hlt
        have e3 := List.drop_eq_getElem_cons hlt
        rw [e2]
        dsimp only
        split
        · rename_i h4; rw [e1, e3] at h4; cases h4
        · rename_i ch rest h4
          rw [e1, e3] at h4
          injection h4 with h5 h6
          rw [h5, h6]
      · have e2 : s[p + (digs l).length]? = none := List.getElem?_eq_none (by omega)
        rw [e2]
        dsimp only
        split
        · rfl
        · rename_i h4
          rw [e1, List.drop_eq_nil_of_le (by omega)] at h4
          cases h4
  · rw [if_pos hf]
    refine ⟨by dsimp only; omega, by dsimp only; omega, fun h => absurd h hf, ?_⟩
    unfold prts
    rw [if_pos hf]
    simp [hf]

structure PX (s : List UInt8) where
  pre : List Prt
  p : Nat
  c : Nat
  h1 : p ≤ s.length
  h2 : c ≤ 8
  h3 : lparts s = pre ++ (if s = [] then [] else prts (s.drop p) p c)

theorem parts1_iter (s : ByteArray) (b : Nat) (hs : s.size ≤ 1099511627776) : Iter 244 [.pointer (some ⟨b, 0, none⟩)] Prt.v (lparts s.data.toList) [Blk b (.cells #[.string s] 9)] [] := by
  intro v Y I Ix hy
  have hsz : s.data.toList.length = s.size := by simp
  refine ⟨enters_of Tryz.func244 (by kernel_rfl) rfl, spec_of (vs := [_, _]) Tryz.func244 rfl Tryz.ntmps244 rfl fun G w hp => ?_⟩
  repeat' (first | refine l_run ?_ | refine l_nil ?_ | refine l_one ?_ | refine k_reg ?_ | refine l_ld ?_ | refine l_ldF ?_ | refine l_st ?_ | refine l_al (fun b => ?_) | refine l_bs (fun b => ?_) | refine k_condT ?_ | refine k_condF ?_ | refine k_brk ?_ | (refine l_split (fun hc => ?_) (fun hc => ?_) <;> (try simp at hc)) | (refine k_cond (fun hc => ?_) (fun hc => ?_) <;> (try simp at hc)))
  refine k_lp (X := PX s.data.toList) (fun q => [(0, v), (1, .pointer (some ⟨b, 0, none⟩)), (3, .int .i64 (q.p : Int)), (4, .int .i64 (q.c : Int))]) (fun _ => [Y, Blk b (.cells #[.string s] 9)]) (fun q => [I q.pre]) (fun q => s.size - q.p) ⟨[], 0, 0, by omega, by omega, by simp [lparts]⟩ ⟨rfl, rfl, rfl, rfl, trivial⟩ ?_
  rintro ⟨pre, p, c, h1, h2, h3⟩
  dsimp only
  obtain ⟨g1, g2, g3, g4⟩ := prts_step s.data.toList p c h1
  have hf := first_ok s p c (by omega) hs
  generalize hr : ffirst (s.data.toList.drop p) p c = r at *
  obtain ⟨pt, fe⟩ := r
  dsimp only at *
  have hemp : ∀ h : (!s.toList == ByteArray.toList ⟨#[]⟩) = false, s.data.toList = [] := fun h => by
    simpa [toList_data] using h
  have hne : ∀ h : (!s.toList == ByteArray.toList ⟨#[]⟩) = true, s.data.toList ≠ [] := fun h => by
    simpa [toList_data] using h
  repeat' (first | refine l_run ?_ | refine l_nil ?_ | refine l_one ?_ | refine k_reg ?_ | refine l_ld ?_ | refine l_ldF ?_ | refine l_st ?_ | refine l_al (fun b => ?_) | refine l_bs (fun b => ?_) | refine k_condT ?_ | refine k_condF ?_ | refine l_call (hf) (fun _ _ => ?_) | refine l_call0 (hf) (fun _ _ => ?_) | refine l_split (fun hc => ?_) (fun hc => ?_) | refine k_cond (fun hc => ?_) (fun hc => ?_))
  · have hne := hne hc
    rw [if_neg hne, g4] at h3
    have hpre : pre ++ [pt] <+: lparts s.data.toList := by
      rw [h3]
      refine (List.prefix_append_right_inj pre).2 ?_
      split
      · exact List.prefix_refl _
      · split
        · exact List.prefix_refl _
        · split
          · exact ⟨_, rfl⟩
          · exact ⟨_, rfl⟩
    refine l_callV (hy pre pt hpre) (fun bb _ => ?_)
    cases bb with
    | false =>
      repeat' (first | refine l_run ?_ | refine l_nil ?_ | refine l_one ?_ | refine k_reg ?_ | refine l_ld ?_ | refine l_ldF ?_ | refine l_st ?_ | refine l_al (fun b => ?_) | refine l_bs (fun b => ?_) | refine k_condT ?_ | refine k_condF ?_ | refine l_split (fun hc => ?_) (fun hc => ?_) | refine k_cond (fun hc => ?_) (fun hc => ?_))
      exact k_rt (w_lq (w_ret (some (pre ++ [pt])) rfl (fun q hq => by cases hq; exact hpre)))
    | true =>
      repeat' (first | refine l_run ?_ | refine l_nil ?_ | refine l_one ?_ | refine k_reg ?_ | refine l_ld ?_ | refine l_ldF ?_ | refine l_st ?_ | refine l_al (fun b => ?_) | refine l_bs (fun b => ?_) | refine k_condT ?_ | refine k_condF ?_ | refine l_split (fun hc => ?_) (fun hc => ?_))
      · have he : pt.e ≠ 0 := by simpa using hc
        rw [if_pos he] at h3
        rw [h3]
        exact k_rt (w_lq (w_ret none rfl (fun q hq => by cases hq)))
      · have he : pt.e = 0 := by simpa using hc
        rw [if_neg (by simp [he])] at h3
        have g3 := g3 he
        refine k_cond (fun hc => ?_) (fun hc => ?_)
        · have hfe : fe = s.size := by simp at hc; omega
          have e2 : s.data.toList[fe]? = none := List.getElem?_eq_none (by omega)
          rw [e2] at h3
          dsimp only at h3
          rw [h3]
          exact k_rt (w_lq (w_ret none rfl (fun q hq => by cases hq)))
        · have hfe : fe < s.data.toList.length := by simp at hc; omega
          have e2 := List.getElem?_eq_getElem hfe
          rw [e2] at h3
          dsimp only at h3
          repeat' (first | refine l_run ?_ | refine l_nil ?_ | refine l_one ?_ | refine k_reg ?_ | refine l_ld ?_ | refine l_ldF ?_ | refine l_st ?_ | refine l_al (fun b => ?_) | refine l_bs (fun b => ?_) | refine k_condT ?_ | refine k_condF ?_ | refine l_sx (s := s) fe hfe ?_ | refine l_split (fun hc => ?_) (fun hc => ?_) | refine k_cond (fun hc => ?_) (fun hc => ?_))
          · have h46 : s.data.toList[fe] ≠ 46 := fun e => by rw [e] at hc; simp at hc
            rw [if_pos h46] at h3
            refine l_callV (hy (pre ++ [pt]) ⟨0, fe, 6⟩ (by rw [h3]; simp)) (fun bb _ => ?_)
            cases bb with
            | false =>
              repeat' (first | refine l_run ?_ | refine l_nil ?_ | refine l_one ?_ | refine k_reg ?_ | refine l_ld ?_ | refine l_ldF ?_ | refine l_st ?_ | refine l_al (fun b => ?_) | refine l_bs (fun b => ?_) | refine k_condT ?_ | refine k_condF ?_ | refine l_split (fun hc => ?_) (fun hc => ?_) | refine k_cond (fun hc => ?_) (fun hc => ?_))
              exact k_rt (w_lq (w_ret (some (pre ++ [pt] ++ [⟨0, fe, 6⟩])) rfl (fun q hq => by cases hq; rw [h3]; simp)))
            | true =>
              repeat' (first | refine l_run ?_ | refine l_nil ?_ | refine l_one ?_ | refine k_reg ?_ | refine l_ld ?_ | refine l_ldF ?_ | refine l_st ?_ | refine l_al (fun b => ?_) | refine l_bs (fun b => ?_) | refine k_condT ?_ | refine k_condF ?_ | refine l_split (fun hc => ?_) (fun hc => ?_) | refine k_cond (fun hc => ?_) (fun hc => ?_))
              have h3 : lparts s.data.toList = pre ++ [pt] ++ [⟨0, fe, 6⟩] := by rw [h3]; simp
              rw [h3]
              exact k_rt (w_lq (w_ret none rfl (fun q hq => by cases hq)))
          · have h46 : s.data.toList[fe] = 46 := UInt8.toNat_inj.1 (by simp at hc; simp; omega)
            rw [if_neg (by simp [h46])] at h3
            rw [wrapi (z := (fe : Int) + 1) (by omega) (by omega), wrapi (z := (c : Int) + 1) (by omega) (by omega)]
            exact k_next ⟨pre ++ [pt], fe + 1, c + 1, by omega, by omega, by rw [h3, if_neg hne]; simp⟩ (by show s.size - (fe + 1) < s.size - p; omega) ⟨rfl, rfl, rfl, rfl, trivial⟩
  · have hemp := hemp hc
    rw [if_pos hemp, List.append_nil] at h3
    refine k_brk ?_
    rw [h3]
    exact k_end none rfl (fun q hq => by cases hq)
end Go.Proofs.YtijaglinajfplaaGreatDoor
