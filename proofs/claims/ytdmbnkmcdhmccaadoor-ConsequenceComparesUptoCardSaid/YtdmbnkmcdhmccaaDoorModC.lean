/-
  The contract of the statements' own compare: it returns what Compare returns.
  Conditions: those that each theorem states.
-/
import Derived.Test.YtdmbnkmcdhmccaaDoorLawP
set_option maxRecDepth 10000
namespace Go.Proofs.YtdmbnkmcdhmccaaDoor
open Go.RowKit

def bvf (b : Bool) : List Value := [.bool b]

theorem fidx {α : Type} (p : α → Bool) : ∀ l : List α, (l.findIdx? p = none ∧ l.find? p = none) ∨ ∃ j y, l.findIdx? p = some j ∧ l.find? p = some y ∧ l[j]? = some y
  | [] => .inl ⟨rfl, rfl⟩
  | x :: l => by
    rw [List.findIdx?_cons, List.find?_cons]
    cases hp : p x
    · rcases fidx p l with ⟨h1, h2⟩ | ⟨j, y, h1, h2, h3⟩
      · left; simp [h1, h2]
      · right; exact ⟨j + 1, y, by simp [h1], by simp [h2], by simpa using h3⟩
    · right; exact ⟨0, x, rfl, rfl, rfl⟩

/-- The first of a sender among the first i. -/
def fsx (all : List En) (s : Sd) (i : Nat) : Option Nat := (all.take i).findIdx? fun y => decide (y.sd = s)
def fsv : Option Nat → Int
  | some j => (j : Int)
  | none => -1
theorem fsx_succ {all : List En} {s : Sd} {i : Nat} {y : En} (h : all[i]? = some y) : fsx all s (i + 1) = match fsx all s i with | some j => some j | none => if y.sd = s then some i else none := by
  have hi := (List.getElem?_eq_some_iff.1 h).1
  unfold fsx
  rw [List.take_add_one, h, List.findIdx?_append]
  cases (all.take i).findIdx? fun y => decide (y.sd = s) with
  | some j => rfl
  | none =>
    have hl : (all.take i).length = i := by simp; omega
    by_cases hs : y.sd = s <;> simp [List.findIdx?_cons, hs, hl]
theorem fsx_lt {all : List En} {s : Sd} {i j : Nat} (h : fsx all s i = some j) : j < i := by
  unfold fsx at h
  rcases fidx (fun y => decide (y.sd = s)) (all.take i) with ⟨h1, _⟩ | ⟨j', y, h1, _, h3⟩
  · rw [h1] at h; cases h
  · rw [h1] at h
    cases h
    have := (List.getElem?_eq_some_iff.1 h3).1
    simp at this; omega

theorem set_map {α : Type} [DecidableEq α] {all : List α} (hn : all.Nodup) {j : Nat} {y : α} (hj : all[j]? = some y) (f : α → Bool) : (all.map f).set j true = all.map fun z => f z || decide (z = y) := by
  apply List.ext_getElem?
  intro i
  rw [List.getElem?_set]
  have hjl := (List.getElem?_eq_some_iff.1 hj)
  by_cases hij : j = i
  · subst hij
    obtain ⟨h, rfl⟩ := hjl
    simp [h]
  · rw [if_neg hij]
    simp only [List.getElem?_map]
    cases hi : all[i]? with
    | none => rfl
    | some z =>
      have hzy : z ≠ y := fun e => by
        subst e
        exact hij ((List.getElem?_inj hjl.1 hn).1 (hj.trans hi.symm))
      simp [hzy]

/-- What is used after some entries, in the midst of the next one. -/
def usd (all K : List En) (e : En) (i : Nat) : List Bool := all.map fun z => decide (z ∈ K) || (decide (z = e) && decide (z ∈ all.take i))
def usK (all K : List En) : List Bool := all.map fun z => decide (z ∈ K)
theorem usd_zero (all K : List En) (e : En) : usd all K e 0 = usK all K := by simp [usd, usK]
theorem usd_skip {all K : List En} {e y : En} {i : Nat} (h : all[i]? = some y) (hne : y ≠ e) : usd all K e (i + 1) = usd all K e i := by
  refine List.map_congr_left fun z _ => ?_
  rw [List.take_add_one, h]
  by_cases hz : z = e
  · subst hz
    have : z ≠ y := fun h => hne h.symm
    simp [this]
  · simp [hz]
theorem usd_set {all K : List En} (hn : all.Nodup) {e : En} {i : Nat} (h : all[i]? = some e) : (usd all K e i).set i true = usd all K e (i + 1) := by
  unfold usd
  rw [set_map hn h]
  refine List.map_congr_left fun z _ => ?_
  rw [List.take_add_one, h]
  by_cases hz : z = e
  · subst hz; simp
  · simp [hz]
theorem usd_end (all K : List En) (x : Lf) (hin : x.e ∈ all) : usd all K x.e all.length = usK all (K ++ knw all x) := by
  refine List.map_congr_left fun z hz => ?_
  rw [List.take_length]
  by_cases hz2 : z = x.e
  · subst hz2; simp [hz, knw]
  · simp [hz2, knw, hin]
theorem usd_end2 (all K : List En) (x : Lf) (hin : x.e ∉ all) (hf : all.find? (fun y => decide (y.sd = x.e.sd)) = none) : usd all K x.e all.length = usK all (K ++ knw all x) := by
  refine List.map_congr_left fun z hz => ?_
  have hz2 : z ≠ x.e := fun h => hin (h ▸ hz)
  simp [hz2, knw, hin, hf]
theorem usd_end3 {all : List En} (hn : all.Nodup) (K : List En) (x : Lf) (hin : x.e ∉ all) {j : Nat} {y : En} (hj : all[j]? = some y) (hf : all.find? (fun y => decide (y.sd = x.e.sd)) = some y) : (usd all K x.e all.length).set j true = usK all (K ++ knw all x) := by
  unfold usd
  rw [set_map hn hj]
  refine List.map_congr_left fun z hz => ?_
  have hz2 : z ≠ x.e := fun h => hin (h ▸ hz)
  simp [hz2, knw, hin, hf]

/-- The consequence in the midst. -/
def cqi (all : List En) (x : Lf) (p i : Nat) : Cq := if x.e ∈ all.take i then ⟨1, x.e.who, x.e.nu, p, x.e.o, x.e.tk, x.e.o, x.e.tk⟩ else ⟨2, x.e.who, x.e.nu, p, x.e.o, x.e.tk, Ou.z, 0⟩
theorem cqi_skip {all : List En} {x : Lf} {p i : Nat} {y : En} (h : all[i]? = some y) (hne : y ≠ x.e) : cqi all x p (i + 1) = cqi all x p i := by
  have hne2 : x.e ≠ y := fun h => hne h.symm
  unfold cqi
  rw [List.take_add_one, h]
  simp [hne2]
theorem cqi_set {all : List En} {x : Lf} {p i : Nat} (h : all[i]? = some x.e) : cqi all x p (i + 1) = ⟨1, x.e.who, x.e.nu, p, x.e.o, x.e.tk, x.e.o, x.e.tk⟩ := by
  unfold cqi
  rw [List.take_add_one, h]
  simp
/-- What does not change in the midst. -/
theorem cqi_old (all : List En) (x : Lf) (p i : Nat) : ∃ k nw na, cqi all x p i = ⟨k, x.e.who, x.e.nu, p, x.e.o, x.e.tk, nw, na⟩ := by
  unfold cqi
  split
  · exact ⟨_, _, _, rfl⟩
  · exact ⟨_, _, _, rfl⟩

structure M1 (ls : List Lf) where
  p : Nat
  o : Option Addr
  cap : Nat
  hp : p ≤ ls.length
structure M3 (all : List En) where
  i : Nat
  o : Option Addr
  cap : Nat
  hi : i ≤ all.length

def Lf.cs (x : Lf) : Array Value := (lff x).toArray

set_option maxHeartbeats 8000000 in
theorem modC_ok (b bs : Nat) (es : Al) (ls : List Lf) (hl : ls.length ≤ 1000000) (hal : (allE es).length ≤ 1000000) (hnd : (allE es).Nodup) : Enters 14 ∧ Spec Tryd.prog 14 #[.pointer (some ⟨b, 0, none⟩), .pointer (some ⟨bs, 0, none⟩)] [LgF b ls, St (some ⟨bs, 0, none⟩) es] []
    ⟨Option Addr × Nat, fun q => .slice q.1 (consE (allE es) ls).length q.2, fun _ => True, fun q => [Sl 37 cqf q.1 q.2 (consE (allE es) ls)], fun _ => []⟩ := by
  have n1 := outAll_ok (some ⟨bs, 0, none⟩) es
  have n2 := lgLen_ok b ls
  generalize allE es = all at *
  generalize b = bl at *
  refine ⟨enters_of Tryd.func14 (by kernel_rfl) rfl, spec_of (vs := [_, _]) Tryd.func14 rfl Tryd.ntmps14 rfl fun G w hp => ?_⟩
  repeat' (first | refine l_run ?_ | refine l_nil ?_ | refine l_one ?_ | refine k_reg ?_ | refine l_ld ?_ | refine l_ldF ?_ | refine l_st ?_ | refine l_al (fun b => ?_) | refine l_bs (fun b => ?_) | refine k_condT ?_ | refine k_condF ?_ | refine k_brk ?_ | refine r_run ?_ | refine r_one ?_ | refine r_ld ?_ | refine r_ldF ?_ | refine r_al (fun b => ?_) | refine r_bs (fun b => ?_) | refine r_st ?_ | refine r_end ?_ | refine l_call (n1) (fun _ _ => ?_) | refine l_call0 (n1) (fun _ _ => ?_) | refine r_call (n1) (fun _ _ => ?_) | refine l_mks bvf false all.length 1 (by omega) (by omega) (fun b6 => ?_) | (refine l_split (fun hc => ?_) (fun hc => ?_) <;> (try simp at hc) <;> (try omega)) | (refine r_split (fun hc => ?_) (fun hc => ?_) <;> (try simp at hc) <;> (try omega)) | refine k_draw 18 [] [(0, 0), (1, 0), (2, 0), (3, 0), (4, 0), (5, 0), (6, 0), (7, 2), (8, 0), (9, 2), (10, 0)] [11] ?_ | refine k_draw 21 [] [(0, 0), (1, 0), (2, 0), (3, 0), (4, 0), (5, 0), (6, 0), (7, 0), (8, 0), (9, 0), (10, 0), (11, 2), (12, 0), (13, 2), (14, 0)] [15] ?_ | refine k_draw 28 [] [(0, 0), (1, 0), (2, 0), (3, 0), (4, 0), (5, 0), (6, 0), (7, 0), (8, 0), (9, 0), (10, 0), (11, 0), (12, 0), (13, 0), (14, 0), (15, 0), (16, 0), (17, 0), (18, 0), (19, 0), (20, 0), (21, 0), (22, 1), (23, 2), (24, 0)] [] ?_ | (refine k_cond (fun hc => ?_) (fun hc => ?_) <;> (try simp at hc) <;> (try omega)))
  rename_i qa _
  obtain ⟨oa, ca⟩ := qa
  have hrep : List.replicate all.length false = usK all [] := by
    exact (List.eq_replicate_iff.2 ⟨by simp [usK], by simp [usK]⟩).symm
  rw [hrep]
  refine k_shut (Lx := []) (r := Row 37 14 none 0 0 []) (fun h _ => row_nil _ _ h) ?_
  refine k_lpx (X := M1 ls) (Y := Option Addr × Nat)
    (fun x => [(0, .pointer (some ⟨bl, 0, none⟩)), (5, .slice oa all.length ca), (6, .slice (some ⟨b6, 0, none⟩) all.length all.length), (7, .slice x.o (cons1 all (ls.take x.p)).length x.cap), (8, .int .i64 (x.p : Int))]) (fun _ => [LgF bl ls, Sl 41 enf oa ca all])
    (fun x => [Ar 4 bvf b6 (usK all ((ls.take x.p).flatMap (knw all))), Row 37 14 x.o (cons1 all (ls.take x.p)).length x.cap ((cons1 all (ls.take x.p)).flatMap cqf)]) (fun x => ls.length - x.p)
    (fun y => [(5, .slice oa all.length ca), (6, .slice (some ⟨b6, 0, none⟩) all.length all.length), (7, .slice y.1 (cons1 all ls).length y.2)]) (fun _ => [Sl 41 enf oa ca all])
    (fun y => [Ar 4 bvf b6 (usK all (ls.flatMap (knw all))), Row 37 14 y.1 (cons1 all ls).length y.2 ((cons1 all ls).flatMap cqf)])
    ⟨0, none, 0, by omega⟩ ⟨rfl, rfl, rfl, rfl, rfl, trivial⟩ ?_ ?_
  · rintro ⟨o, cap⟩
    dsimp only
    have hcl : (cons1 all ls).length = ls.length := by simp [cons1]
    generalize hK : ls.flatMap (knw all) = K
    have hfin : consE all ls = cons1 all ls ++ cons2 K all := by rw [consE, hK]
    rw [hfin]
    generalize cons1 all ls = A at *
    have e0 : A = A ++ cons2 K (all.take 0) := by simp [cons2]
    repeat' (first | refine l_run ?_ | refine l_nil ?_ | refine l_one ?_ | refine k_reg ?_ | refine l_ld ?_ | refine l_ldF ?_ | refine l_st ?_ | refine l_al (fun b => ?_) | refine l_bs (fun b => ?_) | refine k_condT ?_ | refine k_condF ?_ | refine k_brk ?_ | refine r_run ?_ | refine r_one ?_ | refine r_ld ?_ | refine r_ldF ?_ | refine r_al (fun b => ?_) | refine r_bs (fun b => ?_) | refine r_st ?_ | refine r_end ?_ | refine l_split (fun hc => ?_) (fun hc => ?_) | refine r_split (fun hc => ?_) (fun hc => ?_) | refine k_draw 18 [] [(0, 0), (1, 0), (2, 0), (3, 0), (4, 0), (5, 0), (6, 0), (7, 2), (8, 0), (9, 2), (10, 0)] [11] ?_ | refine k_draw 21 [] [(0, 0), (1, 0), (2, 0), (3, 0), (4, 0), (5, 0), (6, 0), (7, 0), (8, 0), (9, 0), (10, 0), (11, 2), (12, 0), (13, 2), (14, 0)] [15] ?_ | refine k_draw 28 [] [(0, 0), (1, 0), (2, 0), (3, 0), (4, 0), (5, 0), (6, 0), (7, 0), (8, 0), (9, 0), (10, 0), (11, 0), (12, 0), (13, 0), (14, 0), (15, 0), (16, 0), (17, 0), (18, 0), (19, 0), (20, 0), (21, 0), (22, 1), (23, 2), (24, 0)] [] ?_ | refine k_cond (fun hc => ?_) (fun hc => ?_))
    refine k_rowc (T := 37) (sz := 14) (o := o) (cap := cap) (m := A.length) (m' := (A ++ cons2 K (all.take 0)).length) (A.flatMap cqf) ((A ++ cons2 K (all.take 0)).flatMap cqf) (by rw [← e0]) (by rw [← e0]) ?_
    refine k_lp (X := M3 all) (fun x => [(5, .slice oa all.length ca), (6, .slice (some ⟨b6, 0, none⟩) all.length all.length), (7, .slice x.o (A ++ cons2 K (all.take x.i)).length x.cap), (15, .int .i64 (x.i : Int))]) (fun _ => [Sl 41 enf oa ca all]) (fun x => [Ar 4 bvf b6 (usK all K), Row 37 14 x.o (A ++ cons2 K (all.take x.i)).length x.cap ((A ++ cons2 K (all.take x.i)).flatMap cqf)]) (fun x => all.length - x.i) ⟨0, o, cap, by omega⟩ ⟨rfl, rfl, by rw [← e0]; rfl, rfl, trivial⟩ ?_
    rintro ⟨i, o, cap, hi⟩
    dsimp only
    have hln : (A ++ cons2 K (all.take i)).length ≤ 2000000 := by
      have h4 : (cons2 K (all.take i)).length ≤ (all.take i).length := by simp only [cons2, List.length_map]; exact List.length_filter_le ..
      simp only [List.length_append, List.length_take] at h4 ⊢
      omega
    have hln2 : A.length + (cons2 K (all.take i)).length ≤ 2000000 := by simpa only [List.length_append] using hln
    by_cases hlt : i < all.length
    · obtain ⟨e, he⟩ : ∃ e, all[i]? = some e := ⟨_, List.getElem?_eq_getElem hlt⟩
      have htk : all.take (i + 1) = all.take i ++ [e] := by rw [List.take_add_one, he]; rfl
      have hu : (usK all K)[i]? = some (decide (e ∈ K)) := by simp [usK, he]
      by_cases hin : e ∈ K
      · rw [decide_eq_true hin] at hu
        have e3 : cons2 K (all.take (i + 1)) = cons2 K (all.take i) := by simp [cons2, htk, hin]
        repeat' (first | refine l_run ?_ | refine l_nil ?_ | refine l_one ?_ | refine k_reg ?_ | refine l_ld ?_ | refine l_ldF ?_ | refine l_st ?_ | refine l_al (fun b => ?_) | refine l_bs (fun b => ?_) | refine k_condT ?_ | refine k_condF ?_ | refine k_brk ?_ | refine r_run ?_ | refine r_one ?_ | refine r_ld ?_ | refine r_ldF ?_ | refine r_al (fun b => ?_) | refine r_bs (fun b => ?_) | refine r_st ?_ | refine r_end ?_ | refine l_ixS i hlt ?_ | refine l_ldA 1 i 0 hu ?_ | (refine l_split (fun hc => ?_) (fun hc => ?_) <;> (try simp at hc) <;> (try omega)) | (refine r_split (fun hc => ?_) (fun hc => ?_) <;> (try simp at hc) <;> (try omega)) | refine k_draw 18 [] [(0, 0), (1, 0), (2, 0), (3, 0), (4, 0), (5, 0), (6, 0), (7, 2), (8, 0), (9, 2), (10, 0)] [11] ?_ | refine k_draw 21 [] [(0, 0), (1, 0), (2, 0), (3, 0), (4, 0), (5, 0), (6, 0), (7, 0), (8, 0), (9, 0), (10, 0), (11, 2), (12, 0), (13, 2), (14, 0)] [15] ?_ | (refine k_cond (fun hc => ?_) (fun hc => ?_) <;> (try simp at hc) <;> (try omega)))
        rw [wrapi (z := (i : Int) + 1) (by omega) (by omega), ← e3]
        exact k_next ⟨i + 1, o, cap, by omega⟩ (by show all.length - (i + 1) < all.length - i; omega) ⟨rfl, rfl, rfl, rfl, trivial⟩
      · rw [decide_eq_false hin] at hu
        have e3 : cons2 K (all.take (i + 1)) = cons2 K (all.take i) ++ [con2 e] := by simp [cons2, htk, hin]
        have e1 : (A ++ cons2 K (all.take i)).length + 1 = (A ++ cons2 K (all.take (i + 1))).length := by rw [e3]; simp; omega
        have e2 : (A ++ cons2 K (all.take i)).flatMap cqf ++ cqf (con2 e) = (A ++ cons2 K (all.take (i + 1))).flatMap cqf := by rw [e3]; simp
        repeat' (first | refine l_run ?_ | refine l_nil ?_ | refine l_one ?_ | refine k_reg ?_ | refine l_ld ?_ | refine l_ldF ?_ | refine l_st ?_ | refine l_al (fun b => ?_) | refine l_bs (fun b => ?_) | refine k_condT ?_ | refine k_condF ?_ | refine k_brk ?_ | refine r_run ?_ | refine r_one ?_ | refine r_ld ?_ | refine r_ldF ?_ | refine r_al (fun b => ?_) | refine r_bs (fun b => ?_) | refine r_st ?_ | refine r_end ?_ | refine l_ixS i hlt ?_ | refine l_ldA 1 i 0 hu ?_ | refine r_ixe (es := all) i e he (fun b off => ?_) | refine r_ldC ?_ | refine r_app1 (fun o' cap' => ?_) | (refine l_split (fun hc => ?_) (fun hc => ?_) <;> (try simp at hc) <;> (try omega)) | (refine r_split (fun hc => ?_) (fun hc => ?_) <;> (try simp at hc) <;> (try omega)) | refine k_draw 18 [] [(0, 0), (1, 0), (2, 0), (3, 0), (4, 0), (5, 0), (6, 0), (7, 2), (8, 0), (9, 2), (10, 0)] [11] ?_ | refine k_draw 21 [] [(0, 0), (1, 0), (2, 0), (3, 0), (4, 0), (5, 0), (6, 0), (7, 0), (8, 0), (9, 0), (10, 0), (11, 2), (12, 0), (13, 2), (14, 0)] [15] ?_ | refine k_draw 28 [Row _ _ _ _ _ _] [(0, 0), (1, 0), (2, 0), (3, 0), (4, 0), (5, 0), (6, 0), (7, 0), (8, 0), (9, 0), (10, 0), (11, 0), (12, 0), (13, 0), (14, 0), (15, 0), (16, 0), (17, 0), (18, 0), (19, 0), (20, 0), (21, 0), (22, 1), (23, 2), (24, 0)] [] ?_ | (refine k_cond (fun hc => ?_) (fun hc => ?_) <;> (try simp at hc) <;> (try omega)))
        rw [wrapi (z := (i : Int) + 1) (by omega) (by omega)]
        refine k_rowc (T := 37) (sz := 14) (o := o') (cap := cap') (m := (A ++ cons2 K (all.take i)).length + 1) _ _ e1 e2 ?_
        rw [e1]
        exact k_next ⟨i + 1, o', cap', by omega⟩ (by show all.length - (i + 1) < all.length - i; omega) ⟨rfl, rfl, rfl, rfl, trivial⟩
    · have e : all.take i = all := List.take_of_length_le (by omega)
      rw [e]
      repeat' (first | refine l_run ?_ | refine l_nil ?_ | refine l_one ?_ | refine k_reg ?_ | refine l_ld ?_ | refine l_ldF ?_ | refine l_st ?_ | refine l_al (fun b => ?_) | refine l_bs (fun b => ?_) | refine k_condT ?_ | refine k_condF ?_ | refine k_brk ?_ | refine r_run ?_ | refine r_one ?_ | refine r_ld ?_ | refine r_ldF ?_ | refine r_al (fun b => ?_) | refine r_bs (fun b => ?_) | refine r_st ?_ | refine r_end ?_ | (refine l_split (fun hc => ?_) (fun hc => ?_) <;> (try simp at hc) <;> (try omega)) | (refine r_split (fun hc => ?_) (fun hc => ?_) <;> (try simp at hc) <;> (try omega)) | refine k_draw 18 [] [(0, 0), (1, 0), (2, 0), (3, 0), (4, 0), (5, 0), (6, 0), (7, 2), (8, 0), (9, 2), (10, 0)] [11] ?_ | refine k_draw 21 [] [(0, 0), (1, 0), (2, 0), (3, 0), (4, 0), (5, 0), (6, 0), (7, 0), (8, 0), (9, 0), (10, 0), (11, 2), (12, 0), (13, 2), (14, 0)] [15] ?_ | refine k_draw 28 [] [(0, 0), (1, 0), (2, 0), (3, 0), (4, 0), (5, 0), (6, 0), (7, 0), (8, 0), (9, 0), (10, 0), (11, 0), (12, 0), (13, 0), (14, 0), (15, 0), (16, 0), (17, 0), (18, 0), (19, 0), (20, 0), (21, 0), (22, 1), (23, 2), (24, 0)] [] ?_ | (refine k_cond (fun hc => ?_) (fun hc => ?_) <;> (try simp at hc) <;> (try omega)))
      refine k_frz (T := 37) (sz := 14) (f := cqf) (o := o) (cap := cap) (A ++ cons2 K all) ?_ rfl rfl
      exact k_ret (o, cap) rfl trivial
  · rintro hx ⟨p, o, cap, hp⟩
    dsimp only
    have hcl : (cons1 all (ls.take p)).length = p := by simp [cons1]; omega
    by_cases hlt : p < ls.length
    · obtain ⟨x, hxp⟩ : ∃ x, ls[p]? = some x := ⟨_, List.getElem?_eq_getElem hlt⟩
      have htk : ls.take (p + 1) = ls.take p ++ [x] := by rw [List.take_add_one, hxp]; rfl
      have hc1 : cons1 all (ls.take (p + 1)) = cons1 all (ls.take p) ++ [con1 all x p] := by
        rw [htk, cons1, List.mapIdx_append]
        simp [cons1]
        congr 1; omega
      have hKn : (ls.take (p + 1)).flatMap (knw all) = (ls.take p).flatMap (knw all) ++ knw all x := by rw [htk]; simp
      have e1 : (cons1 all (ls.take p)).length + 1 = (cons1 all (ls.take (p + 1))).length := by rw [hc1]; simp
      have e2 : (cons1 all (ls.take p)).flatMap cqf ++ cqf (con1 all x p) = (cons1 all (ls.take (p + 1))).flatMap cqf := by rw [hc1]; simp
      have n3 := lgGet_ok bl ls p x hxp
      generalize (ls.take p).flatMap (knw all) = K at *
      repeat' (first | refine l_run ?_ | refine l_nil ?_ | refine l_one ?_ | refine k_reg ?_ | refine l_ld ?_ | refine l_ldF ?_ | refine l_st ?_ | refine l_al (fun b => ?_) | refine l_bs (fun b => ?_) | refine k_condT ?_ | refine k_condF ?_ | refine r_run ?_ | refine r_one ?_ | refine r_ld ?_ | refine r_ldF ?_ | refine r_al (fun b => ?_) | refine r_bs (fun b => ?_) | refine r_st ?_ | refine r_end ?_ | refine l_call (n2) (fun _ _ => ?_) | refine l_call0 (n2) (fun _ _ => ?_) | refine r_call (n2) (fun _ _ => ?_) | refine l_call (n3) (fun _ _ => ?_) | refine l_call0 (n3) (fun _ _ => ?_) | refine r_call (n3) (fun _ _ => ?_) | (refine l_split (fun hc => ?_) (fun hc => ?_) <;> (try simp at hc) <;> (try omega)) | (refine r_split (fun hc => ?_) (fun hc => ?_) <;> (try simp at hc) <;> (try omega)) | refine k_draw 18 [] [(0, 0), (1, 0), (2, 0), (3, 0), (4, 0), (5, 0), (6, 0), (7, 2), (8, 0), (9, 2), (10, 0)] [11] ?_ | refine k_draw 21 [] [(0, 0), (1, 0), (2, 0), (3, 0), (4, 0), (5, 0), (6, 0), (7, 0), (8, 0), (9, 0), (10, 0), (11, 2), (12, 0), (13, 2), (14, 0)] [15] ?_ | refine k_draw 28 [] [(0, 0), (1, 0), (2, 0), (3, 0), (4, 0), (5, 0), (6, 0), (7, 0), (8, 0), (9, 0), (10, 0), (11, 0), (12, 0), (13, 0), (14, 0), (15, 0), (16, 0), (17, 0), (18, 0), (19, 0), (20, 0), (21, 0), (22, 1), (23, 2), (24, 0)] [] ?_ | (refine k_cond (fun hc => ?_) (fun hc => ?_) <;> (try simp at hc) <;> (try omega)))
      rename_i b9
      generalize b = b11
      rw [show usK all K = usd all K x.e 0 from (usd_zero all K x.e).symm]
      refine k_lpx (X := { i : Nat // i ≤ all.length }) (Y := Unit) (fun q => [(0, .pointer (some ⟨bl, 0, none⟩)), (5, .slice oa all.length ca), (6, .slice (some ⟨b6, 0, none⟩) all.length all.length), (7, .slice o (cons1 all (ls.take p)).length cap), (8, .int .i64 (p : Int)), (9, .pointer (some ⟨b9, 0, none⟩)), (11, .pointer (some ⟨b11, 0, none⟩)), (12, .int .i64 (fsv (fsx all x.e.sd q.1))), (13, .int .i64 (q.1 : Int))]) (fun _ => [LgF bl ls, Sl 41 enf oa ca all])
        (fun q => [Ar 4 bvf b6 (usd all K x.e q.1), Row 37 14 o (cons1 all (ls.take p)).length cap ((cons1 all (ls.take p)).flatMap cqf), Pt b9 (.cells (lff x).toArray 52 (0, 0)), Pt b11 (.cells (cqf (cqi all x p q.1)).toArray 37 (0, 0))]) (fun q => all.length - q.1)
        (fun _ => [(0, .pointer (some ⟨bl, 0, none⟩)), (5, .slice oa all.length ca), (6, .slice (some ⟨b6, 0, none⟩) all.length all.length), (7, .slice o (cons1 all (ls.take p)).length cap), (8, .int .i64 (p : Int)), (11, .pointer (some ⟨b11, 0, none⟩)), (12, .int .i64 (fsv (fsx all x.e.sd all.length)))]) (fun _ => [LgF bl ls, Sl 41 enf oa ca all]) (fun _ => [Ar 4 bvf b6 (usd all K x.e all.length), Row 37 14 o (cons1 all (ls.take p)).length cap ((cons1 all (ls.take p)).flatMap cqf), Pt b11 (.cells (cqf (cqi all x p all.length)).toArray 37 (0, 0))])
        ⟨0, by omega⟩ ⟨rfl, rfl, rfl, rfl, rfl, rfl, rfl, rfl, rfl, trivial⟩ ?_ ?_
      · rintro ⟨⟩
        by_cases hin : x.e ∈ all
        · have hq : cqi all x p all.length = ⟨1, x.e.who, x.e.nu, p, x.e.o, x.e.tk, x.e.o, x.e.tk⟩ := by rw [cqi, List.take_length, if_pos hin]
          have hcon : con1 all x p = ⟨1, x.e.who, x.e.nu, p, x.e.o, x.e.tk, x.e.o, x.e.tk⟩ := by rw [con1, if_pos hin]
          rw [hcon] at e2
          rw [hq, usd_end all K x hin, ← hKn]
          repeat' (first | refine l_run ?_ | refine l_nil ?_ | refine l_one ?_ | refine k_reg ?_ | refine l_ld ?_ | refine l_ldF ?_ | refine l_st ?_ | refine l_al (fun b => ?_) | refine l_bs (fun b => ?_) | refine k_condT ?_ | refine k_condF ?_ | refine r_run ?_ | refine r_one ?_ | refine r_ld ?_ | refine r_ldF ?_ | refine r_al (fun b => ?_) | refine r_bs (fun b => ?_) | refine r_st ?_ | refine r_end ?_ | refine l_app1 (fun o' cap' => ?_) | (refine l_split (fun hc => ?_) (fun hc => ?_) <;> (try simp at hc) <;> (try omega)) | (refine r_split (fun hc => ?_) (fun hc => ?_) <;> (try simp at hc) <;> (try omega)) | refine k_draw 18 [] [(0, 0), (1, 0), (2, 0), (3, 0), (4, 0), (5, 0), (6, 0), (7, 2), (8, 0), (9, 2), (10, 0)] [11] ?_ | refine k_draw 28 [] [(0, 0), (1, 0), (2, 0), (3, 0), (4, 0), (5, 0), (6, 0), (7, 0), (8, 0), (9, 0), (10, 0), (11, 0), (12, 0), (13, 0), (14, 0), (15, 0), (16, 0), (17, 0), (18, 0), (19, 0), (20, 0), (21, 0), (22, 1), (23, 2), (24, 0)] [] ?_ | (refine k_cond (fun hc => ?_) (fun hc => ?_) <;> (try simp at hc) <;> (try omega)))
          rw [wrapi (z := (p : Int) + 1) (by omega) (by omega)]
          refine k_rowc (T := 37) (sz := 14) (o := o') (cap := cap') (m := (cons1 all (ls.take p)).length + 1) _ _ e1 e2 ?_
          rw [e1]
          exact k_next ⟨p + 1, o', cap', by omega⟩ (by show ls.length - (p + 1) < ls.length - p; omega) ⟨rfl, rfl, rfl, rfl, rfl, trivial⟩
        · have hq : cqi all x p all.length = ⟨2, x.e.who, x.e.nu, p, x.e.o, x.e.tk, Ou.z, 0⟩ := by rw [cqi, List.take_length, if_neg hin]
          rcases fidx (fun y => decide (y.sd = x.e.sd)) all with ⟨h1, h2⟩ | ⟨j, y, h1, h2, h3⟩
          · have hcon : con1 all x p = ⟨2, x.e.who, x.e.nu, p, x.e.o, x.e.tk, Ou.z, 0⟩ := by rw [con1, if_neg hin, h2]
            have hfs : fsx all x.e.sd all.length = none := by rw [fsx, List.take_length, h1]
            rw [hcon] at e2
            rw [hq, usd_end2 all K x hin h2, ← hKn, hfs]
            repeat' (first | refine l_run ?_ | refine l_nil ?_ | refine l_one ?_ | refine k_reg ?_ | refine l_ld ?_ | refine l_ldF ?_ | refine l_st ?_ | refine l_al (fun b => ?_) | refine l_bs (fun b => ?_) | refine k_condT ?_ | refine k_condF ?_ | refine r_run ?_ | refine r_one ?_ | refine r_ld ?_ | refine r_ldF ?_ | refine r_al (fun b => ?_) | refine r_bs (fun b => ?_) | refine r_st ?_ | refine r_end ?_ | refine l_app1 (fun o' cap' => ?_) | (refine l_split (fun hc => ?_) (fun hc => ?_) <;> (try simp at hc) <;> (try omega)) | (refine r_split (fun hc => ?_) (fun hc => ?_) <;> (try simp at hc) <;> (try omega)) | refine k_draw 18 [] [(0, 0), (1, 0), (2, 0), (3, 0), (4, 0), (5, 0), (6, 0), (7, 2), (8, 0), (9, 2), (10, 0)] [11] ?_ | refine k_draw 28 [] [(0, 0), (1, 0), (2, 0), (3, 0), (4, 0), (5, 0), (6, 0), (7, 0), (8, 0), (9, 0), (10, 0), (11, 0), (12, 0), (13, 0), (14, 0), (15, 0), (16, 0), (17, 0), (18, 0), (19, 0), (20, 0), (21, 0), (22, 1), (23, 2), (24, 0)] [] ?_ | (refine k_cond (fun hc => ?_) (fun hc => ?_) <;> (try simp at hc) <;> (try omega)))
            rw [wrapi (z := (p : Int) + 1) (by omega) (by omega)]
            refine k_rowc (T := 37) (sz := 14) (o := o') (cap := cap') (m := (cons1 all (ls.take p)).length + 1) _ _ e1 e2 ?_
            rw [e1]
            exact k_next ⟨p + 1, o', cap', by omega⟩ (by show ls.length - (p + 1) < ls.length - p; omega) ⟨rfl, rfl, rfl, rfl, rfl, trivial⟩
          · have hcon : con1 all x p = ⟨3, x.e.who, x.e.nu, p, x.e.o, x.e.tk, y.o, y.tk⟩ := by rw [con1, if_neg hin, h2]
            have hfs : fsx all x.e.sd all.length = some j := by rw [fsx, List.take_length, h1]
            have hjl := (List.getElem?_eq_some_iff.1 h3).1
            obtain ⟨ub, hub⟩ : ∃ e, (usd all K x.e all.length)[j]? = some e := ⟨_, List.getElem?_eq_getElem (by simp [usd]; exact hjl)⟩
            have hus := usd_end3 hnd K x hin h3 h2
            rw [hcon] at e2
            rw [hq, hfs]
            repeat' (first | refine l_run ?_ | refine l_nil ?_ | refine l_one ?_ | refine k_reg ?_ | refine l_ld ?_ | refine l_ldF ?_ | refine l_st ?_ | refine l_al (fun b => ?_) | refine l_bs (fun b => ?_) | refine k_condT ?_ | refine k_condF ?_ | refine r_run ?_ | refine r_one ?_ | refine r_ld ?_ | refine r_ldF ?_ | refine r_al (fun b => ?_) | refine r_bs (fun b => ?_) | refine r_st ?_ | refine r_end ?_ | refine r_ixe (es := all) j y h3 (fun b off => ?_) | refine r_ldC ?_ | refine l_ixS j hjl ?_ | refine l_stA 1 j 0 true hub ?_ | refine l_app1 (fun o' cap' => ?_) | (refine l_split (fun hc => ?_) (fun hc => ?_) <;> (try simp at hc) <;> (try omega)) | (refine r_split (fun hc => ?_) (fun hc => ?_) <;> (try simp at hc) <;> (try omega)) | refine k_draw 18 [] [(0, 0), (1, 0), (2, 0), (3, 0), (4, 0), (5, 0), (6, 0), (7, 2), (8, 0), (9, 2), (10, 0)] [11] ?_ | refine k_draw 21 [Pt _ (.cells _ 37 _)] [(0, 0), (1, 0), (2, 0), (3, 0), (4, 0), (5, 0), (6, 0), (7, 0), (8, 0), (9, 0), (10, 0), (11, 2), (12, 0), (13, 2), (14, 0), (15, 2)] [] ?_ | refine k_draw 28 [] [(0, 0), (1, 0), (2, 0), (3, 0), (4, 0), (5, 0), (6, 0), (7, 0), (8, 0), (9, 0), (10, 0), (11, 0), (12, 0), (13, 0), (14, 0), (15, 0), (16, 0), (17, 0), (18, 0), (19, 0), (20, 0), (21, 0), (22, 1), (23, 2), (24, 0)] [] ?_ | (refine k_cond (fun hc => ?_) (fun hc => ?_) <;> (try simp at hc) <;> (try omega)))
            rw [hus, ← hKn]
            rw [wrapi (z := (p : Int) + 1) (by omega) (by omega)]
            refine k_rowc (T := 37) (sz := 14) (o := o') (cap := cap') (m := (cons1 all (ls.take p)).length + 1) _ _ e1 e2 ?_
            rw [e1]
            exact k_next ⟨p + 1, o', cap', by omega⟩ (by show ls.length - (p + 1) < ls.length - p; omega) ⟨rfl, rfl, rfl, rfl, rfl, trivial⟩
      · rintro hx2 ⟨i, hi⟩
        dsimp only
        by_cases hil : i < all.length
        · obtain ⟨y, hy⟩ : ∃ e, all[i]? = some e := ⟨_, List.getElem?_eq_getElem hil⟩
          have hcase : ((y.who.toList == x.e.who.toList) = false ∧ y.who ≠ x.e.who) ∨ ((y.who.toList == x.e.who.toList) = true ∧ y.who = x.e.who ∧ y.nu ≠ x.e.nu) ∨ ((y.who.toList == x.e.who.toList) = true ∧ y.who = x.e.who ∧ y.nu = x.e.nu) := by
            rw [beqS]
            by_cases g1 : y.who = x.e.who <;> by_cases g2 : y.nu = x.e.nu <;> simp [g1, g2]
          rcases hcase with ⟨g1, g2⟩ | ⟨g1, g2, g3⟩ | ⟨g1, g2, g3⟩
          · have hne : y ≠ x.e := fun h => by subst h; simp_all
            have hu := usd_skip (K := K) hy hne
            have hq := cqi_skip (p := p) hy hne
            have hfs : fsx all x.e.sd (i + 1) = fsx all x.e.sd i := by
              rw [fsx_succ hy, if_neg (by simp only [En.sd, Prod.mk.injEq]; intro h; simp_all)]
              cases fsx all x.e.sd i <;> rfl
            rw [← hu, ← hq, ← hfs]
            repeat' (first | refine l_run ?_ | refine l_nil ?_ | refine l_one ?_ | refine k_reg ?_ | refine l_ld ?_ | refine l_ldF ?_ | refine l_st ?_ | refine l_al (fun b => ?_) | refine l_bs (fun b => ?_) | refine k_condT ?_ | refine k_condF ?_ | refine r_run ?_ | refine r_one ?_ | refine r_ld ?_ | refine r_ldF ?_ | refine r_al (fun b => ?_) | refine r_bs (fun b => ?_) | refine r_st ?_ | refine r_end ?_ | refine l_ixe (es := all) i y hy (fun b off => ?_) | refine l_ldC ?_ | rw [g1] | (refine l_split (fun hc => ?_) (fun hc => ?_) <;> (try simp at hc) <;> (try omega)) | (refine r_split (fun hc => ?_) (fun hc => ?_) <;> (try simp at hc) <;> (try omega)) | refine k_draw 21 [] [(0, 0), (1, 0), (2, 0), (3, 0), (4, 0), (5, 0), (6, 0), (7, 0), (8, 0), (9, 0), (10, 0), (11, 2), (12, 0), (13, 2), (14, 0)] [15] ?_ | refine k_draw 28 [] [(0, 0), (1, 0), (2, 0), (3, 0), (4, 0), (5, 0), (6, 0), (7, 0), (8, 0), (9, 0), (10, 0), (11, 0), (12, 0), (13, 0), (14, 0), (15, 0), (16, 0), (17, 0), (18, 0), (19, 0), (20, 0), (21, 0), (22, 1), (23, 2), (24, 0)] [] ?_ | (refine k_cond (fun hc => ?_) (fun hc => ?_) <;> (try simp at hc) <;> (try omega)))
            all_goals rw [wrapi (z := (i : Int) + 1) (by omega) (by omega)]
            all_goals exact k_next ⟨i + 1, by omega⟩ (by show all.length - (i + 1) < all.length - i; omega) ⟨rfl, rfl, rfl, rfl, rfl, rfl, rfl, rfl, rfl, trivial⟩
          · have hne : y ≠ x.e := fun h => by subst h; simp_all
            have hu := usd_skip (K := K) hy hne
            have hq := cqi_skip (p := p) hy hne
            have hfs : fsx all x.e.sd (i + 1) = fsx all x.e.sd i := by
              rw [fsx_succ hy, if_neg (by simp only [En.sd, Prod.mk.injEq]; intro h; simp_all)]
              cases fsx all x.e.sd i <;> rfl
            rw [← hu, ← hq, ← hfs]
            repeat' (first | refine l_run ?_ | refine l_nil ?_ | refine l_one ?_ | refine k_reg ?_ | refine l_ld ?_ | refine l_ldF ?_ | refine l_st ?_ | refine l_al (fun b => ?_) | refine l_bs (fun b => ?_) | refine k_condT ?_ | refine k_condF ?_ | refine r_run ?_ | refine r_one ?_ | refine r_ld ?_ | refine r_ldF ?_ | refine r_al (fun b => ?_) | refine r_bs (fun b => ?_) | refine r_st ?_ | refine r_end ?_ | refine l_ixe (es := all) i y hy (fun b off => ?_) | refine l_ldC ?_ | rw [g1] | (refine l_split (fun hc => ?_) (fun hc => ?_) <;> (try simp at hc) <;> (try omega)) | (refine r_split (fun hc => ?_) (fun hc => ?_) <;> (try simp at hc) <;> (try omega)) | refine k_draw 21 [] [(0, 0), (1, 0), (2, 0), (3, 0), (4, 0), (5, 0), (6, 0), (7, 0), (8, 0), (9, 0), (10, 0), (11, 2), (12, 0), (13, 2), (14, 0)] [15] ?_ | refine k_draw 28 [] [(0, 0), (1, 0), (2, 0), (3, 0), (4, 0), (5, 0), (6, 0), (7, 0), (8, 0), (9, 0), (10, 0), (11, 0), (12, 0), (13, 0), (14, 0), (15, 0), (16, 0), (17, 0), (18, 0), (19, 0), (20, 0), (21, 0), (22, 1), (23, 2), (24, 0)] [] ?_ | (refine k_cond (fun hc => ?_) (fun hc => ?_) <;> (try simp at hc) <;> (try omega)))
            all_goals rw [wrapi (z := (i : Int) + 1) (by omega) (by omega)]
            all_goals exact k_next ⟨i + 1, by omega⟩ (by show all.length - (i + 1) < all.length - i; omega) ⟨rfl, rfl, rfl, rfl, rfl, rfl, rfl, rfl, rfl, trivial⟩
          · have hsd : y.sd = x.e.sd := by simp [En.sd, g2, g3]
            have hfs := fsx_succ (s := x.e.sd) hy
            rw [if_pos hsd] at hfs
            have hou := ouq_iff y.o x.e.o
            by_cases hye : y = x.e
            · have hy' : all[i]? = some x.e := by rw [hy, hye]
              have hq := cqi_set (p := p) hy'
              have hus := usd_set (K := K) hnd hy'
              obtain ⟨ub, hub⟩ : ∃ e, (usd all K x.e i)[i]? = some e := ⟨_, List.getElem?_eq_getElem (by simp [usd]; exact hil)⟩
              obtain ⟨k0, nw0, na0, hold⟩ := cqi_old all x p i
              have hto : (y.tk == x.e.tk) = true ∧ ouq y.o x.e.o = true := by rw [hou, hye]; simp
              obtain ⟨ht, ho⟩ := hto
              rw [hold]
              cases hf0 : fsx all x.e.sd i with
              | none =>
                rw [hf0] at hfs
                have hfi := congrArg fsv hfs
                repeat' (first | refine l_run ?_ | refine l_nil ?_ | refine l_one ?_ | refine k_reg ?_ | refine l_ld ?_ | refine l_ldF ?_ | refine l_st ?_ | refine l_al (fun b => ?_) | refine l_bs (fun b => ?_) | refine k_condT ?_ | refine k_condF ?_ | refine r_run ?_ | refine r_one ?_ | refine r_ld ?_ | refine r_ldF ?_ | refine r_al (fun b => ?_) | refine r_bs (fun b => ?_) | refine r_st ?_ | refine r_end ?_ | refine l_ixe (es := all) i y hy (fun b off => ?_) | refine l_ldC ?_ | rw [g1] | refine l_seq (b := ouq y.o x.e.o) ?_ | rw [ho] | rw [ht] | refine l_ixS i hil ?_ | refine l_stA 1 i 0 true hub ?_ | (refine l_split (fun hc => ?_) (fun hc => ?_) <;> (try simp at hc) <;> (try omega)) | (refine r_split (fun hc => ?_) (fun hc => ?_) <;> (try simp at hc) <;> (try omega)) | refine k_draw 18 [Pt _ (.cells _ 37 _)] [(0, 0), (1, 0), (2, 0), (3, 0), (4, 0), (5, 0), (6, 0), (7, 2), (8, 0), (9, 2), (10, 0), (11, 2)] [] ?_ | refine k_draw 21 [] [(0, 0), (1, 0), (2, 0), (3, 0), (4, 0), (5, 0), (6, 0), (7, 0), (8, 0), (9, 0), (10, 0), (11, 2), (12, 0), (13, 2), (14, 0)] [15] ?_ | refine k_draw 28 [] [(0, 0), (1, 0), (2, 0), (3, 0), (4, 0), (5, 0), (6, 0), (7, 0), (8, 0), (9, 0), (10, 0), (11, 0), (12, 0), (13, 0), (14, 0), (15, 0), (16, 0), (17, 0), (18, 0), (19, 0), (20, 0), (21, 0), (22, 1), (23, 2), (24, 0)] [] ?_ | (refine k_cond (fun hc => ?_) (fun hc => ?_) <;> (try simp at hc) <;> (try omega)))
                all_goals rw [hus]
                all_goals refine k_ptc (b := b11) (.cells (cqf (cqi all x p (i + 1))).toArray 37 (0, 0)) (by rw [hq] <;> rfl) ?_
                all_goals rw [wrapi (z := (i : Int) + 1) (by omega) (by omega)]
                all_goals exact k_next ⟨i + 1, by omega⟩ (by show all.length - (i + 1) < all.length - i; omega) ⟨rfl, rfl, rfl, rfl, rfl, rfl, rfl, by rw [hfs] <;> rfl, rfl, trivial⟩
              | some j0 =>
                rw [hf0] at hfs
                have hj0 : (0 : Int) ≤ (j0 : Int) := by omega
                repeat' (first | refine l_run ?_ | refine l_nil ?_ | refine l_one ?_ | refine k_reg ?_ | refine l_ld ?_ | refine l_ldF ?_ | refine l_st ?_ | refine l_al (fun b => ?_) | refine l_bs (fun b => ?_) | refine k_condT ?_ | refine k_condF ?_ | refine r_run ?_ | refine r_one ?_ | refine r_ld ?_ | refine r_ldF ?_ | refine r_al (fun b => ?_) | refine r_bs (fun b => ?_) | refine r_st ?_ | refine r_end ?_ | refine l_ixe (es := all) i y hy (fun b off => ?_) | refine l_ldC ?_ | rw [g1] | refine l_seq (b := ouq y.o x.e.o) ?_ | rw [ho] | rw [ht] | refine l_ixS i hil ?_ | refine l_stA 1 i 0 true hub ?_ | (refine l_split (fun hc => ?_) (fun hc => ?_) <;> (try simp at hc) <;> (try omega)) | (refine r_split (fun hc => ?_) (fun hc => ?_) <;> (try simp at hc) <;> (try omega)) | refine k_draw 18 [Pt _ (.cells _ 37 _)] [(0, 0), (1, 0), (2, 0), (3, 0), (4, 0), (5, 0), (6, 0), (7, 2), (8, 0), (9, 2), (10, 0), (11, 2)] [] ?_ | refine k_draw 21 [] [(0, 0), (1, 0), (2, 0), (3, 0), (4, 0), (5, 0), (6, 0), (7, 0), (8, 0), (9, 0), (10, 0), (11, 2), (12, 0), (13, 2), (14, 0)] [15] ?_ | refine k_draw 28 [] [(0, 0), (1, 0), (2, 0), (3, 0), (4, 0), (5, 0), (6, 0), (7, 0), (8, 0), (9, 0), (10, 0), (11, 0), (12, 0), (13, 0), (14, 0), (15, 0), (16, 0), (17, 0), (18, 0), (19, 0), (20, 0), (21, 0), (22, 1), (23, 2), (24, 0)] [] ?_ | (refine k_cond (fun hc => ?_) (fun hc => ?_) <;> (try simp at hc) <;> (try omega)))
                all_goals rw [hus]
                all_goals refine k_ptc (b := b11) (.cells (cqf (cqi all x p (i + 1))).toArray 37 (0, 0)) (by rw [hq] <;> rfl) ?_
                all_goals rw [wrapi (z := (i : Int) + 1) (by omega) (by omega)]
                all_goals exact k_next ⟨i + 1, by omega⟩ (by show all.length - (i + 1) < all.length - i; omega) ⟨rfl, rfl, rfl, rfl, rfl, rfl, rfl, by rw [hfs] <;> rfl, rfl, trivial⟩
            · have hu := usd_skip (K := K) hy hye
              have hq := cqi_skip (p := p) hy hye
              rw [← hu, ← hq]
              by_cases ht0 : y.tk = x.e.tk
              · have ht : (y.tk == x.e.tk) = true := by simp [ht0]
                have ho : ouq y.o x.e.o = false := by
                  rw [hou, decide_eq_false]
                  intro h
                  obtain ⟨y1, y2, y3, y4⟩ := y
                  simp only at g2 g3 ht0 h
                  subst g2 g3 ht0 h
                  exact hye rfl
                cases hf0 : fsx all x.e.sd i with
                | none =>
                  rw [hf0] at hfs
                  repeat' (first | refine l_run ?_ | refine l_nil ?_ | refine l_one ?_ | refine k_reg ?_ | refine l_ld ?_ | refine l_ldF ?_ | refine l_st ?_ | refine l_al (fun b => ?_) | refine l_bs (fun b => ?_) | refine k_condT ?_ | refine k_condF ?_ | refine r_run ?_ | refine r_one ?_ | refine r_ld ?_ | refine r_ldF ?_ | refine r_al (fun b => ?_) | refine r_bs (fun b => ?_) | refine r_st ?_ | refine r_end ?_ | refine l_ixe (es := all) i y hy (fun b off => ?_) | refine l_ldC ?_ | rw [g1] | refine l_seq (b := ouq y.o x.e.o) ?_ | rw [ho] | rw [ht] | (refine l_split (fun hc => ?_) (fun hc => ?_) <;> (try simp at hc) <;> (try omega)) | (refine r_split (fun hc => ?_) (fun hc => ?_) <;> (try simp at hc) <;> (try omega)) | refine k_draw 21 [] [(0, 0), (1, 0), (2, 0), (3, 0), (4, 0), (5, 0), (6, 0), (7, 0), (8, 0), (9, 0), (10, 0), (11, 2), (12, 0), (13, 2), (14, 0)] [15] ?_ | refine k_draw 28 [] [(0, 0), (1, 0), (2, 0), (3, 0), (4, 0), (5, 0), (6, 0), (7, 0), (8, 0), (9, 0), (10, 0), (11, 0), (12, 0), (13, 0), (14, 0), (15, 0), (16, 0), (17, 0), (18, 0), (19, 0), (20, 0), (21, 0), (22, 1), (23, 2), (24, 0)] [] ?_ | (refine k_cond (fun hc => ?_) (fun hc => ?_) <;> (try simp at hc) <;> (try omega)))
                  all_goals rw [wrapi (z := (i : Int) + 1) (by omega) (by omega)]
                  all_goals exact k_next ⟨i + 1, by omega⟩ (by show all.length - (i + 1) < all.length - i; omega) ⟨rfl, rfl, rfl, rfl, rfl, rfl, rfl, by rw [hfs] <;> rfl, rfl, trivial⟩
                | some j0 =>
                  rw [hf0] at hfs
                  have hj0 : (0 : Int) ≤ (j0 : Int) := by omega
                  repeat' (first | refine l_run ?_ | refine l_nil ?_ | refine l_one ?_ | refine k_reg ?_ | refine l_ld ?_ | refine l_ldF ?_ | refine l_st ?_ | refine l_al (fun b => ?_) | refine l_bs (fun b => ?_) | refine k_condT ?_ | refine k_condF ?_ | refine r_run ?_ | refine r_one ?_ | refine r_ld ?_ | refine r_ldF ?_ | refine r_al (fun b => ?_) | refine r_bs (fun b => ?_) | refine r_st ?_ | refine r_end ?_ | refine l_ixe (es := all) i y hy (fun b off => ?_) | refine l_ldC ?_ | rw [g1] | refine l_seq (b := ouq y.o x.e.o) ?_ | rw [ho] | rw [ht] | (refine l_split (fun hc => ?_) (fun hc => ?_) <;> (try simp at hc) <;> (try omega)) | (refine r_split (fun hc => ?_) (fun hc => ?_) <;> (try simp at hc) <;> (try omega)) | refine k_draw 21 [] [(0, 0), (1, 0), (2, 0), (3, 0), (4, 0), (5, 0), (6, 0), (7, 0), (8, 0), (9, 0), (10, 0), (11, 2), (12, 0), (13, 2), (14, 0)] [15] ?_ | refine k_draw 28 [] [(0, 0), (1, 0), (2, 0), (3, 0), (4, 0), (5, 0), (6, 0), (7, 0), (8, 0), (9, 0), (10, 0), (11, 0), (12, 0), (13, 0), (14, 0), (15, 0), (16, 0), (17, 0), (18, 0), (19, 0), (20, 0), (21, 0), (22, 1), (23, 2), (24, 0)] [] ?_ | (refine k_cond (fun hc => ?_) (fun hc => ?_) <;> (try simp at hc) <;> (try omega)))
                  all_goals rw [wrapi (z := (i : Int) + 1) (by omega) (by omega)]
                  all_goals exact k_next ⟨i + 1, by omega⟩ (by show all.length - (i + 1) < all.length - i; omega) ⟨rfl, rfl, rfl, rfl, rfl, rfl, rfl, by rw [hfs] <;> rfl, rfl, trivial⟩
              · have ht : (y.tk == x.e.tk) = false := by simp [ht0]
                cases hf0 : fsx all x.e.sd i with
                | none =>
                  rw [hf0] at hfs
                  repeat' (first | refine l_run ?_ | refine l_nil ?_ | refine l_one ?_ | refine k_reg ?_ | refine l_ld ?_ | refine l_ldF ?_ | refine l_st ?_ | refine l_al (fun b => ?_) | refine l_bs (fun b => ?_) | refine k_condT ?_ | refine k_condF ?_ | refine r_run ?_ | refine r_one ?_ | refine r_ld ?_ | refine r_ldF ?_ | refine r_al (fun b => ?_) | refine r_bs (fun b => ?_) | refine r_st ?_ | refine r_end ?_ | refine l_ixe (es := all) i y hy (fun b off => ?_) | refine l_ldC ?_ | rw [g1] | rw [ht] | (refine l_split (fun hc => ?_) (fun hc => ?_) <;> (try simp at hc) <;> (try omega)) | (refine r_split (fun hc => ?_) (fun hc => ?_) <;> (try simp at hc) <;> (try omega)) | refine k_draw 21 [] [(0, 0), (1, 0), (2, 0), (3, 0), (4, 0), (5, 0), (6, 0), (7, 0), (8, 0), (9, 0), (10, 0), (11, 2), (12, 0), (13, 2), (14, 0)] [15] ?_ | refine k_draw 28 [] [(0, 0), (1, 0), (2, 0), (3, 0), (4, 0), (5, 0), (6, 0), (7, 0), (8, 0), (9, 0), (10, 0), (11, 0), (12, 0), (13, 0), (14, 0), (15, 0), (16, 0), (17, 0), (18, 0), (19, 0), (20, 0), (21, 0), (22, 1), (23, 2), (24, 0)] [] ?_ | (refine k_cond (fun hc => ?_) (fun hc => ?_) <;> (try simp at hc) <;> (try omega)))
                  all_goals rw [wrapi (z := (i : Int) + 1) (by omega) (by omega)]
                  all_goals exact k_next ⟨i + 1, by omega⟩ (by show all.length - (i + 1) < all.length - i; omega) ⟨rfl, rfl, rfl, rfl, rfl, rfl, rfl, by rw [hfs] <;> rfl, rfl, trivial⟩
                | some j0 =>
                  rw [hf0] at hfs
                  have hj0 : (0 : Int) ≤ (j0 : Int) := by omega
                  repeat' (first | refine l_run ?_ | refine l_nil ?_ | refine l_one ?_ | refine k_reg ?_ | refine l_ld ?_ | refine l_ldF ?_ | refine l_st ?_ | refine l_al (fun b => ?_) | refine l_bs (fun b => ?_) | refine k_condT ?_ | refine k_condF ?_ | refine r_run ?_ | refine r_one ?_ | refine r_ld ?_ | refine r_ldF ?_ | refine r_al (fun b => ?_) | refine r_bs (fun b => ?_) | refine r_st ?_ | refine r_end ?_ | refine l_ixe (es := all) i y hy (fun b off => ?_) | refine l_ldC ?_ | rw [g1] | rw [ht] | (refine l_split (fun hc => ?_) (fun hc => ?_) <;> (try simp at hc) <;> (try omega)) | (refine r_split (fun hc => ?_) (fun hc => ?_) <;> (try simp at hc) <;> (try omega)) | refine k_draw 21 [] [(0, 0), (1, 0), (2, 0), (3, 0), (4, 0), (5, 0), (6, 0), (7, 0), (8, 0), (9, 0), (10, 0), (11, 2), (12, 0), (13, 2), (14, 0)] [15] ?_ | refine k_draw 28 [] [(0, 0), (1, 0), (2, 0), (3, 0), (4, 0), (5, 0), (6, 0), (7, 0), (8, 0), (9, 0), (10, 0), (11, 0), (12, 0), (13, 0), (14, 0), (15, 0), (16, 0), (17, 0), (18, 0), (19, 0), (20, 0), (21, 0), (22, 1), (23, 2), (24, 0)] [] ?_ | (refine k_cond (fun hc => ?_) (fun hc => ?_) <;> (try simp at hc) <;> (try omega)))
                  all_goals rw [wrapi (z := (i : Int) + 1) (by omega) (by omega)]
                  all_goals exact k_next ⟨i + 1, by omega⟩ (by show all.length - (i + 1) < all.length - i; omega) ⟨rfl, rfl, rfl, rfl, rfl, rfl, rfl, by rw [hfs] <;> rfl, rfl, trivial⟩
        · have e : i = all.length := by omega
          subst e
          repeat' (first | refine l_run ?_ | refine l_nil ?_ | refine l_one ?_ | refine k_reg ?_ | refine l_ld ?_ | refine l_ldF ?_ | refine l_st ?_ | refine l_al (fun b => ?_) | refine l_bs (fun b => ?_) | refine k_condT ?_ | refine k_condF ?_ | refine r_run ?_ | refine r_one ?_ | refine r_ld ?_ | refine r_ldF ?_ | refine r_al (fun b => ?_) | refine r_bs (fun b => ?_) | refine r_st ?_ | refine r_end ?_ | (refine l_split (fun hc => ?_) (fun hc => ?_) <;> (try simp at hc) <;> (try omega)) | (refine r_split (fun hc => ?_) (fun hc => ?_) <;> (try simp at hc) <;> (try omega)) | refine k_draw 18 [] [(0, 0), (1, 0), (2, 0), (3, 0), (4, 0), (5, 0), (6, 0), (7, 2), (8, 0), (9, 2), (10, 0)] [11] ?_ | refine k_draw 21 [] [(0, 0), (1, 0), (2, 0), (3, 0), (4, 0), (5, 0), (6, 0), (7, 0), (8, 0), (9, 0), (10, 0), (11, 2), (12, 0), (13, 2), (14, 0)] [15] ?_ | refine k_draw 28 [] [(0, 0), (1, 0), (2, 0), (3, 0), (4, 0), (5, 0), (6, 0), (7, 0), (8, 0), (9, 0), (10, 0), (11, 0), (12, 0), (13, 0), (14, 0), (15, 0), (16, 0), (17, 0), (18, 0), (19, 0), (20, 0), (21, 0), (22, 1), (23, 2), (24, 0)] [] ?_ | (refine k_cond (fun hc => ?_) (fun hc => ?_) <;> (try simp at hc) <;> (try omega)))
          exact k_out hx2 () ⟨rfl, rfl, rfl, rfl, rfl, rfl, rfl, trivial⟩
    · have e : ls.take p = ls := List.take_of_length_le (by omega)
      rw [e]
      repeat' (first | refine l_run ?_ | refine l_nil ?_ | refine l_one ?_ | refine k_reg ?_ | refine l_ld ?_ | refine l_ldF ?_ | refine l_st ?_ | refine l_al (fun b => ?_) | refine l_bs (fun b => ?_) | refine k_condT ?_ | refine k_condF ?_ | refine r_run ?_ | refine r_one ?_ | refine r_ld ?_ | refine r_ldF ?_ | refine r_al (fun b => ?_) | refine r_bs (fun b => ?_) | refine r_st ?_ | refine r_end ?_ | refine l_call (n2) (fun _ _ => ?_) | refine l_call0 (n2) (fun _ _ => ?_) | refine r_call (n2) (fun _ _ => ?_) | (refine l_split (fun hc => ?_) (fun hc => ?_) <;> (try simp at hc) <;> (try omega)) | (refine r_split (fun hc => ?_) (fun hc => ?_) <;> (try simp at hc) <;> (try omega)) | refine k_draw 18 [] [(0, 0), (1, 0), (2, 0), (3, 0), (4, 0), (5, 0), (6, 0), (7, 2), (8, 0), (9, 2), (10, 0)] [11] ?_ | refine k_draw 21 [] [(0, 0), (1, 0), (2, 0), (3, 0), (4, 0), (5, 0), (6, 0), (7, 0), (8, 0), (9, 0), (10, 0), (11, 2), (12, 0), (13, 2), (14, 0)] [15] ?_ | refine k_draw 28 [] [(0, 0), (1, 0), (2, 0), (3, 0), (4, 0), (5, 0), (6, 0), (7, 0), (8, 0), (9, 0), (10, 0), (11, 0), (12, 0), (13, 0), (14, 0), (15, 0), (16, 0), (17, 0), (18, 0), (19, 0), (20, 0), (21, 0), (22, 1), (23, 2), (24, 0)] [] ?_ | (refine k_cond (fun hc => ?_) (fun hc => ?_) <;> (try simp at hc) <;> (try omega)))
      exact k_out hx (o, cap) ⟨rfl, rfl, rfl, trivial⟩
end Go.Proofs.YtdmbnkmcdhmccaaDoor
