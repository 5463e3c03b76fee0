/-
  The statement's own decimal numerals.
  Conditions: those that each theorem states.
-/
import Derived.Test.YtijaglinajfplaaGreatDoorShelf
import Derived.Test.YtijaglinajfplaaGreatDoorCat
set_option maxRecDepth 10000
namespace Go.Proofs.YtijaglinajfplaaGreatDoor
open Go.RowKit

theorem run_b2s1 {w : World} {b : Nat} {z : Int} {cs : Array Value} {T : TypeId} {fz : Nat × Nat} (hb : w.heap[b]? = some (.cells cs T fz)) (hcs : cs.toList = [.int .u8 z]) :
    (Conv.bytesToString (.slice (some ⟨b, 0, none⟩) 1 1)).run Tryz.prog w = .ok (.string ⟨#[UInt8.ofNat z.toNat]⟩) w := by
  rw [run_bytesToString (ns := [z])]
  · rfl
  · unfold loadCells
    have hl : cs.size = 1 := by rw [← Array.length_toList, hcs]; rfl
    rw [run_loadCells hb 0 1 0 #[] (by omega)]
    simp [hcs]

section
variable {n : Nat} {C : Cx} {Q : Exit → Act → World → Prop} {E E' : List (Nat × Value)} {F F' F1 Fs F0 : List Pf} {R R' R0 Rs N N' A : List HP} {k k' : List Fr} {ops l : List Oper} {L L' : List (Nat × Nat)} {Tl : List Nat}
  {i d b : Nat} {t t2 ty0 td : TypeId} {x y : Operand} {pos : String} {aft : Array Edge} {gd : Option (Nat × Bool)}
/-- A byte as a text, in a region that draws its order: the array is made and read. -/
theorem r_b2s1 {T ic dc ty1 : Nat} {op : Op} {z : Int} {cs : Array Value} {ty : TypeId} {fzn : Nat × Nat} {rs tr rd : TRow} {pos1 : String} {aft1 : Array Edge} {gd1 : Option (Nat × Bool)}
    (nx : ∀ b, Wr n C ops k Q Tl Fs R L ((dc, .string ⟨#[UInt8.ofNat z.toNat]⟩) :: (d, .slice (some ⟨b, 0, none⟩) 1 1) :: E) F N)
    (ho : nth ops i = some ⟨some d, op, ty0, pos, aft, gd⟩ := by rfl) (hw : wantL ops E ⟨some d, op, ty0, pos, aft, gd⟩ = some true := by rfl)
    (ha : allocOf tab (look E) op = some (.cells cs ty fzn, fun b => .slice (some ⟨b, 0, none⟩) 1 1) := by rfl) (hcs : cs.toList = [.int .u8 z] := by rfl)
    (hoc : nth ops ic = some ⟨some dc, .convert t td (.tmp d), ty1, pos1, aft1, gd1⟩ := by rfl) (hwc : ∀ b, wantL ops ((d, .slice (some ⟨b, 0, none⟩) 1 1) :: E) ⟨some dc, .convert t td (.tmp d), ty1, pos1, aft1, gd1⟩ = some true := by intro; rfl)
    (hts : lookT tab t = some rs := by rfl) (hrs : rs.k = .slice T := by rfl) (hT : lookT tab T = some tr := by rfl) (hTk : tr.k = .int .u8 := by rfl) (htd : lookT tab td = some rd := by rfl) (hrd : rd.k = .str := by rfl) :
    Wr n C ops k Q Tl Fs R ((i, 2) :: (ic, 0) :: L) E F N :=
  wr_go ho fun hp hr w st hz sb => by
    simp only [wantL_ok hw]
    refine ⟨_, _, ha, fun b hb => ?_⟩
    have h1 : Wr n C ops k Q Tl Fs R L ((dc, .string ⟨#[UInt8.ofNat z.toNat]⟩) :: (d, .slice (some ⟨b, 0, none⟩) 1 1) :: E) F N := nx b
    intro o' ho'
    rw [nth_eq] at hoc
    simp only [List.getElem?_toArray] at ho'
    obtain rfl := Option.some.inj (ho'.symm.trans hoc)
    have e : upd (look E) (some d) (.slice (some ⟨b, 0, none⟩) 1 1) = look ((d, .slice (some ⟨b, 0, none⟩) 1 1) :: E) := rfl
    simp only [e, wantL_ok (hwc b)]
    refine ⟨.string ⟨#[UInt8.ofNat z.toNat]⟩, fun a w ha2 hin => ?_, h1 hp hr w st _ (sb.trans (sub_one hb))⟩
    have hr1 := run_b2s1 (w := w) (b := b) (T := ty) (fz := fzn) (hin b _ (by unfold un one; simp)) hcs
    have hev : ev ((d, .slice (some ⟨b, 0, none⟩) 1 1) :: E) (.tmp d) = some (.slice (some ⟨b, 0, none⟩) 1 1) := by simp [ev, look]
    simp only [execOp, ha2.ev (x := .tmp d) (by rw [evf_look]; exact hev), convert, run_und hts hrs, run_undS htd hrd, run_undI hT hTk, Sem.run_bind, Result.andThen, Sem.run_pure, hr1]
theorem l_b2s1 {T : Nat} {z : Int} {cs : Array Value} {ty : TypeId} {fzn : Nat × Nat} {rs tr rd : TRow} (nx : Wl n C ops.toArray k Q l ((d, .string ⟨#[UInt8.ofNat z.toNat]⟩) :: E) F R)
    (hw : wantL ops E ⟨some d, .convert t td x, ty0, pos, aft, gd⟩ = some true := by rfl) (hn : Nat.blt d n = true := by rfl) (hx : ev E x = some (.slice (some ⟨b, 0, none⟩) 1 1) := by rfl)
    (hs : Sel (Pt b (.cells cs ty fzn)) R R0 := by (repeat (first | exact Sel.here | apply Sel.there)); first | done | fail) (hcs : cs.toList = [.int .u8 z] := by rfl)
    (hts : lookT tab t = some rs := by rfl) (hrs : rs.k = .slice T := by rfl) (hT : lookT tab T = some tr := by rfl) (hTk : tr.k = .int .u8 := by rfl) (htd : lookT tab td = some rd := by rfl) (hrd : rd.k = .str := by rfl) :
    Wl n C ops.toArray k Q (⟨some d, .convert t td x, ty0, pos, aft, gd⟩ :: l) E F R :=
  wl_op (fun t ht => by cases ht; exact Nat.le_of_ble_eq_true hn) (fun c hc => by cases hc) hw fun a w ha hsat => by
    have hr1 := run_b2s1 (hsat.pt hs) hcs
    unfold OpRes
    simp only [execOp, ha.ev (x := x) (by rw [evf_look]; exact hx), convert, run_und hts hrs, run_undS htd hrd, run_undI hT hTk, Sem.run_bind, Result.andThen, Sem.run_pure, hr1]
    exact fun a' ha' => nx a' w ha' hsat
end

theorem dig_p : ∀ d < 10, UInt8.ofNat (IntKind.u8.wrap (48 + IntKind.u8.wrap ((d : Nat) : Int))).toNat = UInt8.ofNat (48 + d) := by decide
theorem dig_n : ∀ d < 10, UInt8.ofNat (IntKind.u8.wrap (48 + IntKind.u8.wrap (IntKind.i64.wrap (0 - -((d : Nat) : Int))))).toNat = UInt8.ofNat (48 + d) := by decide

theorem itoa_lt {u : Nat} (h : u < 10) : Lib.itoa (u : Int) = [UInt8.ofNat (48 + u)] := by
  unfold Lib.itoa; rw [if_neg (by omega), Int.toNat_natCast, Lib.decDigits, dif_pos h]
theorem itoa_ge {u : Nat} (h : ¬ u < 10) : Lib.itoa (u : Int) = Lib.itoa ((u / 10 : Nat) : Int) ++ [UInt8.ofNat (48 + u % 10)] := by
  unfold Lib.itoa; rw [if_neg (by omega), if_neg (by omega), Int.toNat_natCast, Int.toNat_natCast, Lib.decDigits, dif_neg h]
theorem itoa_neg {u : Nat} (h : u ≠ 0) : Lib.itoa (-(u : Int)) = 45 :: Lib.itoa (u : Int) := by
  unfold Lib.itoa; rw [if_pos (by omega), if_neg (by omega), Int.toNat_natCast, Int.natAbs_neg, Int.natAbs_natCast]

theorem dec_len2 : ∀ (k n : Nat), n < 10 ^ k → (Lib.decDigits n).length ≤ k + 1
  | 0, n, h => by rw [Lib.decDigits, dif_pos (by omega)]; simp
  | k + 1, n, h => by
    rw [Lib.decDigits]
    split
    · simp
    · have := dec_len2 k (n / 10) (by rw [Nat.pow_succ] at h; omega)
      simp only [List.length_append, List.length_cons, List.length_nil]
      omega
theorem itoa_len (n : Int) (h0 : -9223372036854775808 ≤ n) (h1 : n ≤ 9223372036854775807) : (Lib.itoa n).length ≤ 22 := by
  unfold Lib.itoa
  split
  · have := dec_len2 20 n.natAbs (by omega)
    simp; omega
  · have := dec_len2 20 n.toNat (by omega)
    omega

set_option maxHeartbeats 4000000 in
theorem decimal_ok : ∀ (m : Nat) (n : Int), n.natAbs < m → -9223372036854775808 ≤ n → n ≤ 9223372036854775807 →
    Enters 79 ∧ Spec Tryz.prog 79 #[.int .i64 n] [] [] (RetV (.string ⟨(Lib.itoa n).toArray⟩))
  | 0, _, h, _, _ => absurd h (by omega)
  | m + 1, n, hm, h0, h1 => by
    by_cases c1 : n < 0
    · obtain ⟨u, rfl⟩ : ∃ u : Nat, n = -(u : Int) := ⟨n.natAbs, by omega⟩
      have q1 : (-(u : Int)).tdiv 10 = -((u / 10 : Nat) : Int) := by rw [Int.neg_tdiv]; rfl
      have q2 : (-(u : Int)).tmod 10 = -((u % 10 : Nat) : Int) := by rw [Int.neg_tmod]; rfl
      have w1 : IntKind.i64.wrap (-((u / 10 : Nat) : Int)) = -((u / 10 : Nat) : Int) := wrapi (by omega) (by omega)
      have w2 : IntKind.i64.wrap (0 - -((u / 10 : Nat) : Int)) = ((u / 10 : Nat) : Int) := by rw [wrapi (by omega) (by omega)]; omega
      by_cases c2 : u < 10
      · have w3 : IntKind.i64.wrap (0 - -(u : Int)) = (u : Int) := by rw [wrapi (by omega) (by omega)]; omega
        refine ⟨enters_of Tryz.func79 (by kernel_rfl) rfl, spec_of (vs := [_]) Tryz.func79 rfl Tryz.ntmps79 rfl fun G w hp => ?_⟩
        repeat' (first | refine r_b2s1 (fun b => ?_) | refine l_run ?_ | refine l_nil ?_ | refine l_one ?_ | refine k_reg ?_ | refine l_ld ?_ | refine l_ldF ?_ | refine l_st ?_ | refine l_al (fun b => ?_) | refine l_bs (fun b => ?_) | refine k_condT ?_ | refine k_condF ?_ | refine k_brk ?_ | refine r_run ?_ | refine r_one ?_ | refine r_ld ?_ | refine r_ldF ?_ | refine r_ldN ?_ | refine r_al (fun b => ?_) | refine r_bs (fun b => ?_) | refine r_st ?_ | refine r_end ?_ | rw [q1] | rw [q2] | rw [w1] | rw [w2] | rw [w3] | refine l_b2s1 ?_ | refine l_cat ?_ | refine r_cat ?_ | (refine l_split (fun hc => ?_) (fun hc => ?_) <;> (try simp at hc) <;> (try omega)) | (refine r_split (fun hc => ?_) (fun hc => ?_) <;> (try simp at hc) <;> (try omega)) | refine k_draw 3 [] [(0, 0), (1, 0), (2, 0), (5, 0), (6, 0), (7, 0), (8, 0), (9, 0), (3, 4), (4, 0), (10, 2), (11, 0), (12, 0), (13, 0)] [] ?_ | refine k_draw 7 [] [(0, 0), (1, 0), (3, 0), (4, 0), (5, 0), (6, 0), (2, 4), (7, 2), (8, 0), (9, 0), (10, 0)] [] ?_ | (refine k_cond (fun hc => ?_) (fun hc => ?_) <;> (try simp at hc) <;> (try omega)))
        all_goals refine k_ret () ?_ trivial
        all_goals show Value.string _ = Value.string _
        all_goals congr 1
        · rw [dig_p u c2]
          by_cases hu0 : u = 0
          · subst hu0; omega
          · rw [itoa_neg hu0, itoa_lt c2]; rfl
      · have ih := decimal_ok m ((u / 10 : Nat) : Int) (by omega) (by omega) (by omega)
        have hl := itoa_len ((u / 10 : Nat) : Int) (by omega) (by omega)
        refine ⟨enters_of Tryz.func79 (by kernel_rfl) rfl, spec_of (vs := [_]) Tryz.func79 rfl Tryz.ntmps79 rfl fun G w hp => ?_⟩
        repeat' (first | refine r_b2s1 (fun b => ?_) | refine l_run ?_ | refine l_nil ?_ | refine l_one ?_ | refine k_reg ?_ | refine l_ld ?_ | refine l_ldF ?_ | refine l_st ?_ | refine l_al (fun b => ?_) | refine l_bs (fun b => ?_) | refine k_condT ?_ | refine k_condF ?_ | refine k_brk ?_ | refine r_run ?_ | refine r_one ?_ | refine r_ld ?_ | refine r_ldF ?_ | refine r_ldN ?_ | refine r_al (fun b => ?_) | refine r_bs (fun b => ?_) | refine r_st ?_ | refine r_end ?_ | refine l_call (ih) (fun _ _ => ?_) | refine l_call0 (ih) (fun _ _ => ?_) | refine r_call (ih) (fun _ _ => ?_) | rw [q1] | rw [q2] | rw [w1] | rw [w2] | refine l_b2s1 ?_ | refine l_cat ?_ | refine r_cat ?_ | (refine l_split (fun hc => ?_) (fun hc => ?_) <;> (try simp at hc) <;> (try omega)) | (refine r_split (fun hc => ?_) (fun hc => ?_) <;> (try simp at hc) <;> (try omega)) | refine k_draw 3 [] [(0, 0), (1, 0), (2, 0), (5, 0), (6, 0), (7, 0), (8, 0), (9, 0), (3, 4), (4, 0), (10, 2), (11, 0), (12, 0), (13, 0)] [] ?_ | refine k_draw 7 [] [(0, 0), (1, 0), (3, 0), (4, 0), (5, 0), (6, 0), (2, 4), (7, 2), (8, 0), (9, 0), (10, 0)] [] ?_ | (refine k_cond (fun hc => ?_) (fun hc => ?_) <;> (try simp at hc) <;> (try omega)))
        all_goals refine k_ret () ?_ trivial
        all_goals show Value.string _ = Value.string _
        all_goals congr 1
        · rw [dig_n (u % 10) (by omega), itoa_neg (by omega), itoa_ge c2]
          apply ByteArray.ext; simp [ByteArray.data_append]
    · obtain ⟨u, rfl⟩ : ∃ u : Nat, n = (u : Int) := ⟨n.toNat, by omega⟩
      have q1 : (u : Int).tdiv 10 = ((u / 10 : Nat) : Int) := rfl
      have q2 : (u : Int).tmod 10 = ((u % 10 : Nat) : Int) := rfl
      have w1 : IntKind.i64.wrap ((u / 10 : Nat) : Int) = ((u / 10 : Nat) : Int) := wrapi (by omega) (by omega)
      by_cases c2 : u < 10
      · refine ⟨enters_of Tryz.func79 (by kernel_rfl) rfl, spec_of (vs := [_]) Tryz.func79 rfl Tryz.ntmps79 rfl fun G w hp => ?_⟩
        repeat' (first | refine r_b2s1 (fun b => ?_) | refine l_run ?_ | refine l_nil ?_ | refine l_one ?_ | refine k_reg ?_ | refine l_ld ?_ | refine l_ldF ?_ | refine l_st ?_ | refine l_al (fun b => ?_) | refine l_bs (fun b => ?_) | refine k_condT ?_ | refine k_condF ?_ | refine k_brk ?_ | refine r_run ?_ | refine r_one ?_ | refine r_ld ?_ | refine r_ldF ?_ | refine r_ldN ?_ | refine r_al (fun b => ?_) | refine r_bs (fun b => ?_) | refine r_st ?_ | refine r_end ?_ | refine l_b2s1 ?_ | refine l_cat ?_ | refine r_cat ?_ | (refine l_split (fun hc => ?_) (fun hc => ?_) <;> (try simp at hc) <;> (try omega)) | (refine r_split (fun hc => ?_) (fun hc => ?_) <;> (try simp at hc) <;> (try omega)) | refine k_draw 3 [] [(0, 0), (1, 0), (2, 0), (5, 0), (6, 0), (7, 0), (8, 0), (9, 0), (3, 4), (4, 0), (10, 2), (11, 0), (12, 0), (13, 0)] [] ?_ | refine k_draw 7 [] [(0, 0), (1, 0), (3, 0), (4, 0), (5, 0), (6, 0), (2, 4), (7, 2), (8, 0), (9, 0), (10, 0)] [] ?_ | (refine k_cond (fun hc => ?_) (fun hc => ?_) <;> (try simp at hc) <;> (try omega)))
        all_goals refine k_ret () ?_ trivial
        all_goals show Value.string _ = Value.string _
        all_goals congr 1
        · rw [dig_p u c2, itoa_lt c2]
      · have ih := decimal_ok m ((u / 10 : Nat) : Int) (by omega) (by omega) (by omega)
        have hl := itoa_len ((u / 10 : Nat) : Int) (by omega) (by omega)
        refine ⟨enters_of Tryz.func79 (by kernel_rfl) rfl, spec_of (vs := [_]) Tryz.func79 rfl Tryz.ntmps79 rfl fun G w hp => ?_⟩
        repeat' (first | refine r_b2s1 (fun b => ?_) | refine l_run ?_ | refine l_nil ?_ | refine l_one ?_ | refine k_reg ?_ | refine l_ld ?_ | refine l_ldF ?_ | refine l_st ?_ | refine l_al (fun b => ?_) | refine l_bs (fun b => ?_) | refine k_condT ?_ | refine k_condF ?_ | refine k_brk ?_ | refine r_run ?_ | refine r_one ?_ | refine r_ld ?_ | refine r_ldF ?_ | refine r_ldN ?_ | refine r_al (fun b => ?_) | refine r_bs (fun b => ?_) | refine r_st ?_ | refine r_end ?_ | refine l_call (ih) (fun _ _ => ?_) | refine l_call0 (ih) (fun _ _ => ?_) | refine r_call (ih) (fun _ _ => ?_) | rw [q1] | rw [q2] | rw [w1] | refine l_b2s1 ?_ | refine l_cat ?_ | refine r_cat ?_ | (refine l_split (fun hc => ?_) (fun hc => ?_) <;> (try simp at hc) <;> (try omega)) | (refine r_split (fun hc => ?_) (fun hc => ?_) <;> (try simp at hc) <;> (try omega)) | refine k_draw 3 [] [(0, 0), (1, 0), (2, 0), (5, 0), (6, 0), (7, 0), (8, 0), (9, 0), (3, 4), (4, 0), (10, 2), (11, 0), (12, 0), (13, 0)] [] ?_ | refine k_draw 7 [] [(0, 0), (1, 0), (3, 0), (4, 0), (5, 0), (6, 0), (2, 4), (7, 2), (8, 0), (9, 0), (10, 0)] [] ?_ | (refine k_cond (fun hc => ?_) (fun hc => ?_) <;> (try simp at hc) <;> (try omega)))
        all_goals refine k_ret () ?_ trivial
        all_goals show Value.string _ = Value.string _
        all_goals congr 1
        · rw [dig_p (u % 10) (by omega), itoa_ge c2]
          apply ByteArray.ext; simp [ByteArray.data_append]
end Go.Proofs.YtijaglinajfplaaGreatDoor
