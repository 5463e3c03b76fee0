/-
  The library's contract, laid at this program: strings.Repeat; and process.setPages, Grow.
  Conditions: those that each theorem states.
-/
import Derived.Shelf.Lay
import Derived.Shelf.Strings.Repeat
import Derived.Test.YtgaipgbgppdfeaaGreatDoorPro12
set_option maxRecDepth 10000
namespace Go.Proofs
open Go.Shelf
shelf_lay Lays.n105 Nm 105 at Tryz as Tryz.lays105
theorem Tryz.bx105 : Builder.Extra Tryz.prog Tryz.lays105_ren where
  sizeBuilder := by kernel_rfl
  liesBuilder := by kernel_rfl
  t5 := Tryz.underlying5
  a5 := Tryz.isAgg5
  z5 := Tryz.sizeOf5
  v5 := Tryz.zeroValue5
  infoByte := by kernel_rfl
  cellsByte := by kernel_rfl
  sizeByte := by kernel_rfl
  neB5 := by decide
end Go.Proofs
namespace Go.Proofs.YtgaipgbgppdfeaaGreatDoor
open Go.RowKit

theorem repeat_ok (s : ByteArray) (c : Nat) (h1 : 2 ≤ c) (h2 : c ≤ 1000) (h3 : s.size ≤ 1000) (h4 : 0 < s.size) : Enters 71 ∧ Spec Tryz.prog 71 #[.string s, .int .i64 (c : Int)] [] [] (RetV (.string ⟨(Lib.repeatL s.data.toList c).toArray⟩)) := by
  refine ⟨enters_of Tryz.func71 (by kernel_rfl) rfl, fun G w hp hs => ?_⟩
  refine (Any.strings_Repeat_main Tryz.lays105 Tryz.bx105 s c w h1 (by omega) (Nat.le_trans (Nat.mul_le_mul h3 h2) (by decide)) h4).mono ?_
  rintro e w' ⟨rfl, hx⟩
  exact ⟨(), rfl, trivial, hs.ext hx⟩
/-- 64 bytes 0. -/
def z64B : ByteArray := ⟨z64.toArray⟩
theorem repeat64_ok : Enters 71 ∧ Spec Tryz.prog 71 #[.string ⟨#[0]⟩, .int .i64 64] [] [] (RetV (.string z64B)) := by
  have h := repeat_ok ⟨#[0]⟩ 64 (by decide) (by decide) (by decide) (by decide)
  rw [show (⟨(Lib.repeatL (⟨#[0]⟩ : ByteArray).data.toList 64).toArray⟩ : ByteArray) = z64B by decide +kernel] at h
  exact h
theorem setPage1_ok (b : Nat) (ps : Option Addr) (rs : List (Nm × Ch)) (cs : List Ch) (who : ByteArray) (hw : who.size ≤ 1000) (hv : lvalid who.data.toList = true) (f : Nat) (hf : f ≤ 63) (hl : cs.length ≤ 1000000) (x : ByteArray) (hx : x.size ≤ 65536) (o : Option Addr) (cap : Nat) :
    Enters 73 ∧ Spec Tryz.prog 73 #[.pointer (some ⟨b, 0, none⟩), .string who, .int .i64 (f : Int), .slice o 1 cap] [Sl 9 (fun s => [Value.string s]) o cap [x], Usg] [Vw b ps rs cs]
    ⟨Unit, fun _ => .int .i64 0, fun _ => True, fun _ => [], fun _ => [Vw b ps rs (cs ++ [⟨gnm who (f : Int), x, false⟩])]⟩ := by
  have n1 := ofPage_ok who (f : Int)
  have n2 := vwSet_ok b ps rs cs (gnm who (f : Int)) x (by show who.size ≤ _; omega) (Nat.zero_le _) hl
  have e2 : vset cs (gnm who (f : Int)) x = (0, cs ++ [⟨gnm who (f : Int), x, false⟩]) := by
    unfold vset
    rw [if_neg (by rw [chk_gnm hv (by omega)]; simp), if_neg (by omega)]
  rw [e2] at n2
  have hx0 : [x][0]? = some x := rfl
  have wf : IntKind.i64.wrap ((f : Int) + ((0 : Nat) : Int)) = (f : Int) := by rw [wrapi (by omega) (by omega)]; omega
  have w9 : IntKind.i64.wrap (((0 : Nat) : Int) + 1) = ((1 : Nat) : Int) := by rw [wrapi (by omega) (by omega)]; omega
  generalize cs ++ [⟨gnm who (f : Int), x, false⟩] = cs2 at *
  generalize b = bv at *
  refine ⟨enters_of Tryz.func73 (by kernel_rfl) rfl, spec_of (vs := [_, _, _, _]) Tryz.func73 rfl Tryz.ntmps73 rfl fun G w hp => ?_⟩
  repeat' (first | refine l_run ?_ | refine l_nil ?_ | refine l_one ?_ | refine k_reg ?_ | refine l_ld ?_ | refine l_ldF ?_ | refine l_st ?_ | refine l_al (fun b => ?_) | refine l_bs (fun b => ?_) | refine k_condT ?_ | refine k_condF ?_ | (refine l_split (fun hc => ?_) (fun hc => ?_) <;> (try simp at hc) <;> (try omega)) | (refine k_cond (fun hc => ?_) (fun hc => ?_) <;> (try simp at hc) <;> (try omega)))
  refine k_lp (X := { i : Nat // i ≤ 1 }) (fun i => [(0, .pointer (some ⟨bv, 0, none⟩)), (1, .string who), (2, .int .i64 (f : Int)), (12, .slice o 1 cap), (13, .int .i64 1), (14, .int .i64 (i.1 : Int))]) (fun _ => [Sl 9 (fun s => [Value.string s]) o cap [x], Usg]) (fun i => [Vw bv ps rs (if i.1 = 0 then cs else cs2)]) (fun i => 1 - i.1) ⟨0, Nat.zero_le _⟩ ⟨rfl, rfl, rfl, rfl, rfl, rfl, trivial⟩ ?_
  rintro ⟨i, hi⟩
  dsimp only
  by_cases h : i = 0
  · subst h
    rw [if_pos rfl]
    repeat' (first | refine l_run ?_ | refine l_nil ?_ | refine l_one ?_ | refine k_reg ?_ | refine l_ld ?_ | refine l_ldF ?_ | refine l_st ?_ | refine l_al (fun b => ?_) | refine l_bs (fun b => ?_) | refine k_condT ?_ | refine k_condF ?_ | refine l_call (n1) (fun _ _ => ?_) | refine l_call0 (n1) (fun _ _ => ?_) | refine l_call (n2) (fun _ _ => ?_) | refine l_call0 (n2) (fun _ _ => ?_) | rw [wf] | rw [w9] | refine l_ixe (es := [x]) (f := fun s => [Value.string s]) 0 x hx0 (fun b off => ?_) | refine l_ldC ?_ | (refine l_split (fun hc => ?_) (fun hc => ?_) <;> (try simp at hc) <;> (try omega)) | (refine k_cond (fun hc => ?_) (fun hc => ?_) <;> (try simp at hc) <;> (try omega)))
    exact k_next ⟨1, Nat.le_refl _⟩ (by show 1 - 1 < 1 - 0; decide) ⟨rfl, rfl, rfl, rfl, rfl, rfl, trivial⟩
  · obtain rfl : i = 1 := by omega
    rw [if_neg h]
    repeat' (first | refine l_run ?_ | refine l_nil ?_ | refine l_one ?_ | refine k_reg ?_ | refine l_ld ?_ | refine l_ldF ?_ | refine l_st ?_ | refine l_al (fun b => ?_) | refine l_bs (fun b => ?_) | refine k_condT ?_ | refine k_condF ?_ | refine k_brk ?_ | (refine l_split (fun hc => ?_) (fun hc => ?_) <;> (try simp at hc) <;> (try omega)) | (refine k_cond (fun hc => ?_) (fun hc => ?_) <;> (try simp at hc) <;> (try omega)))
    exact k_ret () rfl trivial
end Go.Proofs.YtgaipgbgppdfeaaGreatDoor
