/-
  Contracts of the package codec: writing.
  Conditions: those that each theorem states.
-/
import Derived.Test.YtijaglinajfplaaGreatDoorLoop
import Derived.Test.YtijaglinajfplaaGreatDoorLeaf
set_option maxRecDepth 10000
namespace Go.Proofs.YtijaglinajfplaaGreatDoor
open Go.RowKit

/-- The encoding of a natural number: groups of seven bits. -/
def venc (u : Nat) : List UInt8 := if u < 128 then [UInt8.ofNat u] else UInt8.ofNat (u % 128 + 128) :: venc (u / 128)
termination_by u
decreasing_by omega

theorem venc_len (k : Nat) : ∀ u, u < 128 ^ (k + 1) → (venc u).length ≤ k + 1 := by
  induction k with
  | zero => intro u hu; unfold venc; rw [if_pos (by simpa using hu)]; simp
  | succ k ih =>
    intro u hu
    unfold venc
    split
    · simp
    · have := ih (u / 128) (by rw [Nat.div_lt_iff_lt_mul (by omega)]; rw [Nat.pow_succ] at hu; exact hu)
      simp; omega
theorem venc_len10 (u : Nat) (hu : u < 18446744073709551616) : (venc u).length ≤ 10 := venc_len 9 u (by simp only [Nat.reducePow, Nat.reduceAdd]; omega)

theorem wrap_u8 (u : Nat) : IntKind.u8.wrap (u : Int) = ((u % 256 : Nat) : Int) := by
  simp [IntKind.wrap, IntKind.bits, IntKind.signed]
theorem or_128 : ∀ x : Fin 256, x.val ||| 128 = x.val % 128 + 128 := by decide +kernel
theorem or128 (u : Nat) : IntKind.u8.wrap ((BitVec.ofInt IntKind.u8.bits (IntKind.u8.wrap (u : Int)) ||| BitVec.ofInt IntKind.u8.bits 128).toNat : Int) = ((u % 128 + 128 : Nat) : Int) := by
  have h := or_128 ⟨u % 256, by omega⟩
  simp only at h
  have hx : u % 256 % 2 ^ 8 = u % 256 := by omega
  have e : (BitVec.ofInt IntKind.u8.bits (IntKind.u8.wrap (u : Int)) ||| BitVec.ofInt IntKind.u8.bits 128).toNat = u % 256 ||| 128 := by
    rw [wrap_u8]
    show (BitVec.ofInt 8 ((u % 256 : Nat) : Int) ||| BitVec.ofInt 8 128).toNat = _
    rw [BitVec.toNat_or, BitVec.ofInt_natCast, BitVec.toNat_ofNat, hx]
    rfl
  rw [e, h, wrap_u8]
  congr 1; omega
theorem shr7 (u : Nat) : Int.fdiv (u : Int) (2 ^ (min (7 : Int).toNat IntKind.u64.bits)) = ((u / 128 : Nat) : Int) := by
  show Int.fdiv (u : Int) (2 ^ 7) = _
  rw [Int.fdiv_eq_ediv_of_nonneg _ (by decide)]
  omega

structure VX (m : Nat) (xs : List Value) (u0 : Nat) where
  o : Option Addr
  m1 : Nat
  cap : Nat
  ys : List Value
  u : Nat
  hk : ∃ pre, ys = xs ++ byt pre ∧ pre ++ venc u = venc u0 ∧ m1 = m + pre.length
  hu : u < 18446744073709551616

theorem appendNatural_ok (o : Option Addr) (m cap : Nat) (xs : List Value) (u : Nat) (hu : u < 18446744073709551616) (hm : m ≤ 1099511627776) :
    Enters 154 ∧ Spec Tryz.prog 154 #[.slice o m cap, .int .u64 (u : Int)] [] [Row 5 1 o m cap xs]
      ⟨Option Addr × Nat, fun q => .slice q.1 (m + (venc u).length) q.2, fun _ => True, fun _ => [], fun q => [Row 5 1 q.1 (m + (venc u).length) q.2 (xs ++ byt (venc u))]⟩ := by
  have hl0 := venc_len10 u hu
  refine ⟨enters_of Tryz.func154 (by kernel_rfl) rfl, spec_of (vs := [_, _]) Tryz.func154 rfl Tryz.ntmps154 rfl fun G w hp => ?_⟩
  repeat' (first | refine l_run ?_ | refine l_nil ?_ | refine l_one ?_ | refine k_reg ?_ | refine l_ld ?_ | refine l_ldF ?_ | refine l_st ?_ | refine l_al (fun b => ?_) | refine l_bs (fun b => ?_) | refine k_condT ?_ | refine k_condF ?_ | refine k_brk ?_ | refine l_split (fun hc => ?_) (fun hc => ?_) | refine k_cond (fun hc => ?_) (fun hc => ?_))
  refine k_lp (X := VX m xs u) (fun q => [(0, .slice q.o q.m1 q.cap), (1, .int .u64 (q.u : Int))]) (fun _ => []) (fun q => [Row 5 1 q.o q.m1 q.cap q.ys]) (fun q => q.u) ⟨o, m, cap, xs, u, ⟨[], by simp [byt], rfl, rfl⟩, hu⟩ ⟨rfl, rfl, trivial⟩ ?_
  rintro ⟨o, m1, cap, ys, v, ⟨pre, rfl, hv, rfl⟩, hvu⟩
  dsimp only
  have hl : pre.length + (venc v).length ≤ 10 := by rw [← List.length_append, hv]; exact hl0
  repeat' (first | refine l_run ?_ | refine l_nil ?_ | refine l_one ?_ | refine k_reg ?_ | refine l_ld ?_ | refine l_ldF ?_ | refine l_st ?_ | refine l_al (fun b => ?_) | refine l_bs (fun b => ?_) | refine k_condT ?_ | refine k_condF ?_ | refine k_brk ?_ | refine l_app1 (fun o' cap' => ?_) | rw [or128] | rw [shr7] | refine l_split (fun hc => ?_) (fun hc => ?_) | refine k_cond (fun hc => ?_) (fun hc => ?_))
  · have hv1 : 128 ≤ v := by simp at hc; omega
    have hv2 : venc v = UInt8.ofNat (v % 128 + 128) :: venc (v / 128) := by rw [venc, if_neg (by omega)]
    refine k_next ⟨o', m + pre.length + 1, cap', _, v / 128, ⟨pre ++ [UInt8.ofNat (v % 128 + 128)], ?_, by simp [← hv, hv2], by simp; omega⟩, by omega⟩ (by show v / 128 < v; omega) ⟨rfl, rfl, trivial⟩
    simp [byt]
    omega
  · have hv1 : v < 128 := by simp at hc; omega
    have hv2 : venc v = [UInt8.ofNat v] := by rw [venc, if_pos hv1]
    rw [hv2] at hv
    have e1 : xs ++ byt pre ++ #[Value.int .u8 (IntKind.u8.wrap (v : Int))].toList = xs ++ byt (venc u) := by
      rw [← hv, wrap_u8]; simp [byt]
    have e2 : m + pre.length + 1 = m + (venc u).length := by simp [← hv, Nat.add_assoc]
    rw [e1, e2]
    exact k_ret (o', cap') rfl trivial

/-- A writer of bytes that works. -/
def Wtr (b : Nat) (bs : List UInt8) : HP := fun h => ∃ q : Option Addr × Nat, Sep [Pt b (.cells #[.slice q.1 bs.length q.2, .int .i64 0] 245), Row 5 1 q.1 bs.length q.2 (byt bs)] h

variable {n : Nat} {C : Cx} {Q : Exit → Act → World → Prop} {E : List (Nat × Value)} {F : List Pf} {R R0 : List HP} {k : List Fr}
theorem k_wtr {b : Nat} {bs : List UInt8} (t : ∀ o cap, Wk n C k Q E F (Pt b (.cells #[.slice o bs.length cap, .int .i64 0] 245) :: Row 5 1 o bs.length cap (byt bs) :: R0)) (hs : Sel (Wtr b bs) R R0 := by (repeat (first | exact Sel.here | apply Sel.there)); first | done | fail) : Wk n C k Q E F R :=
  k_open (X := Option Addr × Nat) (p := fun _ => True) hs (fun _ ⟨q, h⟩ => ⟨q, trivial, h⟩) fun q _ => t q.1 q.2
theorem l_wtr {b : Nat} {bs : List UInt8} {ops l : List Oper} (t : ∀ o cap, Wl n C ops.toArray k Q l E F (Pt b (.cells #[.slice o bs.length cap, .int .i64 0] 245) :: Row 5 1 o bs.length cap (byt bs) :: R0)) (hs : Sel (Wtr b bs) R R0 := by (repeat (first | exact Sel.here | apply Sel.there)); first | done | fail) : Wl n C ops.toArray k Q l E F R :=
  l_open (X := Option Addr × Nat) (p := fun _ => True) hs (fun _ ⟨q, h⟩ => ⟨q, trivial, h⟩) fun q _ => t q.1 q.2
theorem k_wtr' {b : Nat} {bs : List UInt8} {o : Option Addr} {cap : Nat} (t : Wk n C k Q E F (Wtr b bs :: R0)) (hs : Sels [Pt b (.cells #[.slice o bs.length cap, .int .i64 0] 245), Row 5 1 o bs.length cap (byt bs)] R R0 := by (repeat (first | exact Sels.nil | exact Sel.here | apply Sel.there | apply Sels.cons)); first | done | fail) : Wk n C k Q E F R :=
  k_shut (fun _ h => ⟨(o, cap), h⟩) t hs

theorem newWriter_ok : Enters 87 ∧ Spec Tryz.prog 87 #[] [] [] ⟨Nat, fun b => .pointer (some ⟨b, 0, none⟩), fun _ => True, fun _ => [], fun b => [Wtr b []]⟩ := by
  refine ⟨enters_of Tryz.func87 (by kernel_rfl) rfl, spec_of (vs := []) Tryz.func87 rfl Tryz.ntmps87 rfl fun G w hp => ?_⟩
  repeat' (first | refine l_run ?_ | refine l_nil ?_ | refine l_one ?_ | refine k_reg ?_ | refine l_ld ?_ | refine l_ldF ?_ | refine l_st ?_ | refine l_al (fun b => ?_) | refine l_bs (fun b => ?_) | refine k_condT ?_ | refine k_condF ?_ | refine k_brk ?_ | refine l_split (fun hc => ?_) (fun hc => ?_) | refine k_cond (fun hc => ?_) (fun hc => ?_))
  refine k_shut (Lx := []) (r := Row 5 1 none 0 0 []) (fun h _ => row_nil _ _ h) ?_
  refine k_wtr' (bs := []) (o := none) (cap := 0) (b := b) ?_
  exact k_ret b rfl trivial

theorem wtrWorks_ok (b : Nat) (bs : List UInt8) : Enters 153 ∧ Spec Tryz.prog 153 #[.pointer (some ⟨b, 0, none⟩)] [] [Wtr b bs] ⟨Unit, fun _ => .bool true, fun _ => True, fun _ => [], fun _ => [Wtr b bs]⟩ := by
  refine ⟨enters_of Tryz.func153 (by kernel_rfl) rfl, spec_of (vs := [_]) Tryz.func153 rfl Tryz.ntmps153 rfl fun G w hp => ?_⟩
  refine k_wtr fun o cap => ?_
  repeat' (first | refine l_run ?_ | refine l_nil ?_ | refine l_one ?_ | refine k_reg ?_ | refine l_ld ?_ | refine l_ldF ?_ | refine l_st ?_ | refine l_al (fun b => ?_) | refine l_bs (fun b => ?_) | refine k_condT ?_ | refine k_condF ?_ | refine k_brk ?_ | refine l_split (fun hc => ?_) (fun hc => ?_) | refine k_cond (fun hc => ?_) (fun hc => ?_))
  refine k_wtr' ?_
  exact k_ret () rfl trivial

theorem wrap64 {u : Nat} (hu : u < 18446744073709551616) : IntKind.u64.wrap (u : Int) = (u : Int) := by
  simp [IntKind.wrap, IntKind.bits, IntKind.signed]; omega

theorem wtrNumber_ok (b : Nat) (bs : List UInt8) (u : Nat) (hu : u < 9223372036854775808) (hl : bs.length ≤ 1099511627776) : Enters 88 ∧ Spec Tryz.prog 88 #[.pointer (some ⟨b, 0, none⟩), .int .i64 (u : Int)] [] [Wtr b bs] ⟨Unit, fun _ => .tuple #[], fun _ => True, fun _ => [], fun _ => [Wtr b (bs ++ venc u)]⟩ := by
  have hu' : u < 18446744073709551616 := by omega
  refine ⟨enters_of Tryz.func88 (by kernel_rfl) rfl, spec_of (vs := [_, _]) Tryz.func88 rfl Tryz.ntmps88 rfl fun G w hp => ?_⟩
  repeat' (first | refine l_run ?_ | refine l_nil ?_ | refine l_one ?_ | refine k_reg ?_ | refine l_ld ?_ | refine l_ldF ?_ | refine l_st ?_ | refine l_al (fun b => ?_) | refine l_bs (fun b => ?_) | refine k_condT ?_ | refine k_condF ?_ | refine k_brk ?_ | refine l_call (wtrWorks_ok _ _) (fun _ _ => ?_) | refine l_call0 (wtrWorks_ok _ _) (fun _ _ => ?_) | refine l_call (appendNatural_ok _ _ _ _ _ (by omega) (by omega)) (fun _ _ => ?_) | refine l_call0 (appendNatural_ok _ _ _ _ _ (by omega) (by omega)) (fun _ _ => ?_) | refine l_wtr (fun o cap => ?_) | rw [wrap64 hu'] | refine l_split (fun hc => ?_) (fun hc => ?_) | refine k_cond (fun hc => ?_) (fun hc => ?_))
  rename_i q _
  rw [← List.length_append, ← byt_append]
  refine k_wtr' (o := q.1) (cap := q.2) ?_
  exact k_end () rfl trivial

theorem wtrText_ok (b : Nat) (bs : List UInt8) (s : ByteArray) (hs : s.size ≤ 16777216) (hl : bs.length ≤ 1000000000000) : Enters 89 ∧ Spec Tryz.prog 89 #[.pointer (some ⟨b, 0, none⟩), .string s] [] [Wtr b bs] ⟨Unit, fun _ => .tuple #[], fun _ => True, fun _ => [], fun _ => [Wtr b (bs ++ venc s.size ++ s.data.toList)]⟩ := by
  have hu' : s.size < 18446744073709551616 := by omega
  have hl0 := venc_len10 s.size hu'
  have hc : decide ((16777216 : Int) < (s.size : Int)) = false := by simp; omega
  refine ⟨enters_of Tryz.func89 (by kernel_rfl) rfl, spec_of (vs := [_, _]) Tryz.func89 rfl Tryz.ntmps89 rfl fun G w hp => ?_⟩
  repeat' (first | refine l_run ?_ | refine l_nil ?_ | refine l_one ?_ | refine k_reg ?_ | refine l_ld ?_ | refine l_ldF ?_ | refine l_st ?_ | refine l_al (fun b => ?_) | refine l_bs (fun b => ?_) | refine k_condT ?_ | refine k_condF ?_ | refine k_brk ?_ | refine l_call (wtrWorks_ok _ _) (fun _ _ => ?_) | refine l_call0 (wtrWorks_ok _ _) (fun _ _ => ?_) | refine l_call (appendNatural_ok _ bs.length _ _ s.size hu' (by omega)) (fun _ _ => ?_) | refine l_call0 (appendNatural_ok _ bs.length _ _ s.size hu' (by omega)) (fun _ _ => ?_) | refine l_wtr (fun o cap => ?_) | rw [wrap64 hu'] | rw [hc] | refine l_appS (fun o' cap' => ?_) | refine l_split (fun hc => ?_) (fun hc => ?_) | refine k_cond (fun hc => ?_) (fun hc => ?_))
  have e1 : bs.length + (venc s.size).length + s.size = (bs ++ venc s.size ++ s.data.toList).length := by simp; omega
  have e2 : (byt bs ++ byt (venc s.size) ++ s.data.toList.map fun b => .int .u8 b.toNat) = byt (bs ++ venc s.size ++ s.data.toList) := by simp [byt]
  rw [e1, e2]
  refine k_wtr' (o := o') (cap := cap') ?_
  exact k_end () rfl trivial

theorem clone_ok (o : Option Addr) (bs : List UInt8) (cap : Nat) (hl : bs.length ≤ 1099511627776) : Enters 155 ∧ Spec Tryz.prog 155 #[.slice o bs.length cap] [] [Row 5 1 o bs.length cap (byt bs)]
    ⟨Option Addr × Nat, fun q => .slice q.1 bs.length q.2, fun _ => True, fun _ => [], fun q => [Row 5 1 q.1 bs.length q.2 (byt bs), Row 5 1 o bs.length cap (byt bs)]⟩ := by
  refine ⟨enters_of Tryz.func155 (by kernel_rfl) rfl, spec_of (vs := [_]) Tryz.func155 rfl Tryz.ntmps155 rfl fun G w hp => ?_⟩
  cases o with
  | none =>
    refine k_open (X := Unit) (p := fun _ => bs = [] ∧ cap = 0) (Lx := fun _ => []) Sel.here (fun h hr => ⟨(), ?_, trivial⟩) (fun _ hb => ?_)
    · rcases hr with ⟨_, _, h3, h4⟩ | ⟨_, _, _, h1, _⟩
      · exact ⟨by simpa [byt] using h4, h3⟩
      · cases h1
    obtain ⟨rfl, rfl⟩ := hb
    repeat' (first | refine l_run ?_ | refine l_nil ?_ | refine l_one ?_ | refine k_reg ?_ | refine l_ld ?_ | refine l_ldF ?_ | refine l_st ?_ | refine l_al (fun b => ?_) | refine l_bs (fun b => ?_) | refine k_condT ?_ | refine k_condF ?_ | refine k_brk ?_ | refine l_split (fun hc => ?_) (fun hc => ?_) | refine k_cond (fun hc => ?_) (fun hc => ?_))
    refine k_shut (Lx := []) (r := Row 5 1 none 0 0 []) (fun h _ => row_nil _ _ h) ?_
    refine k_shut (Lx := []) (r := Row 5 1 none 0 0 []) (fun h _ => row_nil _ _ h) ?_
    exact k_ret (none, 0) rfl trivial
  | some a =>
    repeat' (first | refine l_run ?_ | refine l_nil ?_ | refine l_one ?_ | refine k_reg ?_ | refine l_ld ?_ | refine l_ldF ?_ | refine l_st ?_ | refine l_al (fun b => ?_) | refine l_bs (fun b => ?_) | refine k_condT ?_ | refine k_condF ?_ | refine k_brk ?_ | refine l_shut (row_zero (sz := 1)) ?_ | refine l_appR (fun o' cap' => ?_) | refine l_split (fun hc => ?_) (fun hc => ?_) | refine k_cond (fun hc => ?_) (fun hc => ?_))
    rw [Nat.zero_add]
    exact k_ret (o', cap') rfl trivial

theorem wtrBytes_ok (b : Nat) (bs : List UInt8) (hl : bs.length ≤ 1099511627776) : Enters 90 ∧ Spec Tryz.prog 90 #[.pointer (some ⟨b, 0, none⟩)] [] [Wtr b bs]
    ⟨Option Addr × Nat, fun q => .tuple #[.slice q.1 bs.length q.2, .int .i64 0], fun _ => True, fun _ => [], fun q => [Row 5 1 q.1 bs.length q.2 (byt bs), Wtr b bs]⟩ := by
  refine ⟨enters_of Tryz.func90 (by kernel_rfl) rfl, spec_of (vs := [_]) Tryz.func90 rfl Tryz.ntmps90 rfl fun G w hp => ?_⟩
  refine k_wtr fun o cap => ?_
  repeat' (first | refine l_run ?_ | refine l_nil ?_ | refine l_one ?_ | refine k_reg ?_ | refine l_ld ?_ | refine l_ldF ?_ | refine l_st ?_ | refine l_al (fun b => ?_) | refine l_bs (fun b => ?_) | refine k_condT ?_ | refine k_condF ?_ | refine k_brk ?_ | refine r_run ?_ | refine r_one ?_ | refine r_ld ?_ | refine r_ldF ?_ | refine r_ldN ?_ | refine r_al (fun b => ?_) | refine r_bs (fun b => ?_) | refine r_st ?_ | refine r_end ?_ | refine l_call (clone_ok _ _ _ (by omega)) (fun _ _ => ?_) | refine l_call0 (clone_ok _ _ _ (by omega)) (fun _ _ => ?_) | refine r_call (clone_ok _ _ _ (by omega)) (fun _ _ => ?_) | refine l_split (fun hc => ?_) (fun hc => ?_) | refine r_split (fun hc => ?_) (fun hc => ?_) | refine k_draw 4 [] [(0, 0), (1, 0), (2, 0), (3, 0), (4, 0), (5, 0)] [] ?_ | refine k_cond (fun hc => ?_) (fun hc => ?_))
  rename_i q _
  refine k_wtr' (bs := bs) (o := o) (cap := cap) (b := b) ?_
  exact k_ret q rfl trivial

end Go.Proofs.YtijaglinajfplaaGreatDoor