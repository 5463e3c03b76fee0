/-
  Contracts of the package codec: reading.
  Conditions: those that each theorem states.
-/
import Derived.Test.YtijaglinajfplaaGreatDoorCodec
import Derived.Test.YtijaglinajfplaaGreatDoorTxt
set_option maxRecDepth 10000
namespace Go.Proofs.YtijaglinajfplaaGreatDoor
open Go.RowKit

/-- How many bytes ahead announce another one. -/
def lastN (bs : List UInt8) (most : Nat) : Nat := ((bs.take most).takeWhile fun b => decide (128 ≤ b.toNat)).length
/-- The number that bytes stand for. -/
def dval : List UInt8 → Nat
  | [] => 0
  | b :: l => b.toNat % 128 + 128 * dval l
def pnat (bs : List UInt8) (most : Nat) : Nat × Nat × Int :=
  let m := lastN bs most
  if m = most then (0, 0, 3) else match bs[m]? with
    | none => (0, 0, 28)
    | some b => if 0 < m ∧ b.toNat = 0 then (0, 0, 3) else if m = 9 ∧ 1 < b.toNat then (0, 0, 3) else (dval (bs.take (m + 1)) % 18446744073709551616, m + 1, 0)

theorem lastN_le (bs : List UInt8) (most : Nat) : lastN bs most ≤ bs.length ∧ lastN bs most ≤ most := by
  have h := (List.takeWhile_sublist (p := fun b : UInt8 => decide (128 ≤ b.toNat)) (l := bs.take most)).length_le
  rw [List.length_take] at h
  unfold lastN
  omega
theorem lastN_eq : ∀ {bs : List UInt8} {most j : Nat}, j ≤ bs.length → j ≤ most → (∀ i < j, ∃ b, bs[i]? = some b ∧ 128 ≤ b.toNat) → (j = bs.length ∨ j = most ∨ ∃ b, bs[j]? = some b ∧ b.toNat < 128) → lastN bs most = j
  | [], most, j, h1, _, _, _ => by
    have : j = 0 := by simpa using h1
    subst this; simp [lastN]
  | b :: bs, 0, j, _, h2, _, _ => by
    have : j = 0 := by omega
    subst this; simp [lastN]
  | b :: bs, most + 1, 0, _, _, _, h4 => by
    rcases h4 with h | h | ⟨c, hc, hl⟩
    · simp at h
    · omega
    · simp at hc; subst hc
      have : ¬ (128 ≤ b.toNat) := by omega
      simp [lastN, this]
  | b :: bs, most + 1, j + 1, h1, h2, h3, h4 => by
    obtain ⟨c, hc, hb⟩ := h3 0 (by omega)
    simp at hc; subst hc
    have ih := lastN_eq (bs := bs) (most := most) (j := j) (by simpa using h1) (by omega) (fun i hi => by simpa using h3 (i + 1) (by omega)) (by
      rcases h4 with h | h | h
      · left; simpa using h
      · right; left; omega
      · right; right; simpa using h)
    unfold lastN at ih ⊢
    simp [hb, ih]

theorem wrapi {z : Int} (h1 : -9223372036854775808 ≤ z) (h2 : z < 9223372036854775808) : IntKind.i64.wrap z = z := by
  simp [IntKind.wrap, IntKind.bits, IntKind.signed]; omega
theorem and_127 : ∀ x : Fin 256, x.val &&& 127 = x.val % 128 := by decide +kernel
theorem step7 (u x : Nat) (hx : x < 256) : IntKind.u64.wrap ((BitVec.ofInt IntKind.u64.bits (IntKind.u64.wrap ((u : Int) * 2 ^ min (Int.toNat 7) IntKind.u64.bits)) ||| BitVec.ofInt IntKind.u64.bits (IntKind.u64.wrap (IntKind.u8.wrap ((BitVec.ofInt IntKind.u8.bits (x : Int) &&& BitVec.ofInt IntKind.u8.bits 127).toNat : Int)))).toNat : Int)
    = (((x % 128 + 128 * u) % 18446744073709551616 : Nat) : Int) := by
  have h1 : (BitVec.ofInt IntKind.u8.bits (x : Int) &&& BitVec.ofInt IntKind.u8.bits 127).toNat = x % 128 := by
    show (BitVec.ofInt 8 (x : Int) &&& BitVec.ofInt 8 127).toNat = _
    rw [BitVec.toNat_and, BitVec.ofInt_natCast, BitVec.toNat_ofNat, Nat.mod_eq_of_lt (show x < 2 ^ 8 by omega)]
    exact and_127 ⟨x, hx⟩
  have h2 : IntKind.u64.wrap (IntKind.u8.wrap ((x % 128 : Nat) : Int)) = ((x % 128 : Nat) : Int) := by
    simp [IntKind.wrap, IntKind.bits, IntKind.signed]; omega
  have h3 : IntKind.u64.wrap ((u : Int) * 2 ^ min (Int.toNat 7) IntKind.u64.bits) = ((128 * (u % 144115188075855872) : Nat) : Int) := by
    have : (2 : Int) ^ min (Int.toNat 7) IntKind.u64.bits = 128 := by decide
    rw [this]
    simp [IntKind.wrap, IntKind.bits, IntKind.signed]; omega
  rw [h1, h2, h3]
  have h4 : (BitVec.ofInt IntKind.u64.bits ((128 * (u % 144115188075855872) : Nat) : Int) ||| BitVec.ofInt IntKind.u64.bits ((x % 128 : Nat) : Int)).toNat = 128 * (u % 144115188075855872) + x % 128 := by
    show (BitVec.ofInt 64 ((128 * (u % 144115188075855872) : Nat) : Int) ||| BitVec.ofInt 64 ((x % 128 : Nat) : Int)).toNat = _
    rw [BitVec.toNat_or, BitVec.ofInt_natCast, BitVec.ofInt_natCast, BitVec.toNat_ofNat, BitVec.toNat_ofNat, Nat.mod_eq_of_lt (show 128 * (u % 144115188075855872) < 2 ^ 64 by omega), Nat.mod_eq_of_lt (show x % 128 < 2 ^ 64 by omega)]
    exact (Nat.two_pow_add_eq_or_of_lt (i := 7) (show x % 128 < 2 ^ 7 by omega) _).symm
  rw [h4]
  simp [IntKind.wrap, IntKind.bits, IntKind.signed]; omega

structure DX (bs : List UInt8) (m : Nat) where
  c : Nat
  u : Nat
  z : Int
  hc : c ≤ m + 1
  hz : z = (c : Int) - 1
  hu : u = dval ((bs.take (m + 1)).drop c) % 18446744073709551616

theorem parseNatural_ok (o : Option Addr) (cap : Nat) (bs : List UInt8) (most : Nat) (hlen : bs.length ≤ 1099511627776) :
    Enters 218 ∧ Spec Tryz.prog 218 #[.slice o bs.length cap, .int .i64 (most : Int)] [Sl 5 bf o cap bs] []
      (RetV (.tuple #[.int .u64 ((pnat bs most).1 : Int), .int .i64 ((pnat bs most).2.1 : Int), .int .i64 (pnat bs most).2.2])) := by
  refine ⟨enters_of Tryz.func218 (by kernel_rfl) rfl, spec_of (vs := [_, _]) Tryz.func218 rfl Tryz.ntmps218 rfl fun G w hp => ?_⟩
  repeat' (first | refine l_run ?_ | refine l_nil ?_ | refine l_one ?_ | refine k_reg ?_ | refine l_ld ?_ | refine l_ldF ?_ | refine l_st ?_ | refine l_al (fun b => ?_) | refine l_bs (fun b => ?_) | refine k_condT ?_ | refine k_condF ?_ | refine k_brk ?_ | (refine l_split (fun hc => ?_) (fun hc => ?_) <;> (try simp at hc)) | (refine k_cond (fun hc => ?_) (fun hc => ?_) <;> (try simp at hc)))
  refine k_lpx (X := { j : Nat // j ≤ bs.length ∧ j ≤ most ∧ ∀ i < j, ∃ b, bs[i]? = some b ∧ 128 ≤ b.toNat }) (Y := { j : Nat // lastN bs most = j }) (fun j => [(0, .slice o bs.length cap), (1, .int .i64 (most : Int)), (7, .int .i64 (j.1 : Int))]) (fun _ => [Sl 5 bf o cap bs]) (fun q => []) (fun j => bs.length - j.1)
    (fun j => [(0, .slice o bs.length cap), (1, .int .i64 (most : Int)), (7, .int .i64 (j.1 : Int))]) (fun _ => [Sl 5 bf o cap bs]) (fun q => []) ⟨0, by omega, by omega, by omega⟩ ⟨rfl, rfl, rfl, trivial⟩ ?_ ?_
  · rintro ⟨m, hm⟩
    obtain ⟨hm1, hm2⟩ := lastN_le bs most
    generalize hpn : pnat bs most = p
    unfold pnat at hpn
    rw [hm] at hm1 hm2 hpn
    dsimp only at hpn ⊢
    repeat' (first | refine l_run ?_ | refine l_nil ?_ | refine l_one ?_ | refine k_reg ?_ | refine l_ld ?_ | refine l_ldF ?_ | refine l_st ?_ | refine l_al (fun b => ?_) | refine l_bs (fun b => ?_) | refine k_condT ?_ | refine k_condF ?_ | refine k_brk ?_ | refine l_ix bs m (by omega) (fun b off => ?_) | refine l_ldC ?_ | (refine l_split (fun hc => ?_) (fun hc => ?_) <;> (try simp at hc)) | (refine k_cond (fun hc => ?_) (fun hc => ?_) <;> (try simp at hc)))
    all_goals try (refine k_ret () ?_ trivial; have e1 : m = most := (by omega); rw [if_pos e1] at hpn; rw [← hpn]; rfl)
    all_goals have e1 : m ≠ most := (by omega)
    all_goals rw [if_neg e1] at hpn
    all_goals try (refine k_ret () ?_ trivial; have e2 : bs[m]? = none := List.getElem?_eq_none (by omega); rw [e2] at hpn; rw [← hpn]; rfl)
    all_goals have e2 : bs[m]? = some bs[m] := List.getElem?_eq_getElem (by omega)
    all_goals rw [e2] at hpn
    all_goals dsimp only at hpn
    all_goals try (refine k_ret () ?_ trivial; rw [if_pos (by omega)] at hpn; rw [← hpn]; rfl)
    all_goals rw [if_neg (by omega)] at hpn
    all_goals try (refine k_ret () ?_ trivial; rw [if_pos (by omega)] at hpn; rw [← hpn]; rfl)
    all_goals rw [if_neg (by omega)] at hpn
    all_goals
      refine k_lp (X := DX bs m) (fun q => [(0, .slice o bs.length cap), (7, .int .i64 (m : Int)), (8, .int .u64 (q.u : Int)), (9, .int .i64 q.z)]) (fun _ => [Sl 5 bf o cap bs]) (fun q => []) (fun q => q.c) ⟨m + 1, 0, m, by omega, by omega, by simp [dval]⟩ ⟨rfl, rfl, rfl, rfl, trivial⟩ ?_
      rintro ⟨c, u, z, hc1, hc2, hc3⟩
      dsimp only
      repeat' (first | refine l_run ?_ | refine l_nil ?_ | refine l_one ?_ | refine k_reg ?_ | refine l_ld ?_ | refine l_ldF ?_ | refine l_st ?_ | refine l_al (fun b => ?_) | refine l_bs (fun b => ?_) | refine k_condT ?_ | refine k_condF ?_ | refine k_brk ?_ | refine l_ix bs (c - 1) (by omega) (fun b off => ?_) | refine l_ldC ?_ | (refine l_split (fun hc => ?_) (fun hc => ?_) <;> (try simp at hc)) | (refine k_cond (fun hc => ?_) (fun hc => ?_) <;> (try simp at hc)))
      · have hlt : c - 1 < bs.length := by omega
        rw [step7 u _ (UInt8.toNat_lt _), wrapi (z := z - 1) (by omega) (by omega)]
        refine k_next ⟨c - 1, _, _, by omega, ?_, ?_⟩ (by show c - 1 < c; omega) ⟨rfl, rfl, rfl, rfl, trivial⟩
        · omega
        · have hd : (bs.take (m + 1)).drop (c - 1) = bs[c - 1] :: (bs.take (m + 1)).drop c := by
            rw [List.drop_eq_getElem_cons (by simp; omega)]
            simp; congr 1; omega
          rw [hd, dval, hc3]
          omega
      · refine k_ret () ?_ trivial
        have hc0 : c = 0 := by omega
        subst hc0
        rw [← hpn, hc3]
        have e : IntKind.i64.wrap ((m : Int) + 1) = ((m + 1 : Nat) : Int) := by simp [IntKind.wrap, IntKind.bits, IntKind.signed]; omega
        rw [e]
        rfl
  rintro hx ⟨j, hj1, hj2, hj3⟩
  dsimp only
  repeat' (first | refine l_run ?_ | refine l_nil ?_ | refine l_one ?_ | refine k_reg ?_ | refine l_ld ?_ | refine l_ldF ?_ | refine l_st ?_ | refine l_al (fun b => ?_) | refine l_bs (fun b => ?_) | refine k_condT ?_ | refine k_condF ?_ | refine l_ix bs j (by omega) (fun b off => ?_) | refine l_ldC ?_ | (refine l_split (fun hc => ?_) (fun hc => ?_) <;> (try simp at hc)) | (refine k_cond (fun hc => ?_) (fun hc => ?_) <;> (try simp at hc)))
  · have hlt : j < bs.length := by omega
    have e : IntKind.i64.wrap ((j : Int) + 1) = ((j + 1 : Nat) : Int) := by simp [IntKind.wrap, IntKind.bits, IntKind.signed]; omega
    rw [e]
    refine k_next ⟨j + 1, by omega, by omega, fun i hi => ?_⟩ (by show bs.length - (j + 1) < bs.length - j; omega) ⟨rfl, rfl, rfl, trivial⟩
    by_cases hij : i = j
    · subst hij; exact ⟨bs[i], List.getElem?_eq_getElem hlt, by omega⟩
    · exact hj3 i (by omega)
  · have e : lastN bs most = j := lastN_eq hj1 hj2 hj3 (by right; right; exact ⟨bs[j], List.getElem?_eq_getElem (by omega), by omega⟩)
    exact k_out hx ⟨j, e⟩ ⟨rfl, rfl, rfl, trivial⟩
  · have e : lastN bs most = j := lastN_eq hj1 hj2 hj3 (by omega)
    exact k_out hx ⟨j, e⟩ ⟨rfl, rfl, rfl, trivial⟩
  · have e : lastN bs most = j := lastN_eq hj1 hj2 hj3 (by omega)
    exact k_out hx ⟨j, e⟩ ⟨rfl, rfl, rfl, trivial⟩
end Go.Proofs.YtijaglinajfplaaGreatDoor
