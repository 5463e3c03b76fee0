/-
  The law InodeSizes, walked.
  Conditions: those that each theorem states.
-/
import Derived.Test.YtgciahedpaencaaGreatDoorMK
import Derived.Test.YtgciahedpaencaaGreatDoorCat
import Derived.Test.YtgciahedpaencaaGreatDoorLaw
set_option maxRecDepth 10000
namespace Go.Proofs.YtgciahedpaencaaGreatDoor
open Go.RowKit

theorem fok0 {i : Nat} (h : i < 2) : FOK es27 [] (bth27 i) ⟨#[]⟩ := by
  refine ⟨⟨nd27 i, (nd27_ok (i := i) (by omega)).2.1, ?_, ?_, es27_n (by omega)⟩, by decide, fun k hk => ?_, fun j hj => ?_⟩
  · match i, h with
    | 0, _ => rfl
    | 1, _ => rfl
  · match i, h with
    | 0, _ => rfl
    | 1, _ => rfl
  · unfold fb
    rw [es27_b, pad64_nil, getD_rep]; rfl
  · rw [es27_b]; intro _; rfl
theorem zerosZ_ok (z : Int) (hz : z ≤ 100000) : Enters 35 ∧ Spec Tryz.prog 35 #[.int .i64 z] [] [] (RetV (.string (zer z.toNat))) := by
  by_cases h : 0 ≤ z
  · have h1 := zeros_ok z.toNat (by omega)
    rw [show ((z.toNat : Nat) : Int) = z by omega] at h1
    exact h1
  · have hm : (if z < 0 then (0 : Int) else z) = ((0 : Nat) : Int) := by rw [if_pos (by omega)]; rfl
    rw [show z.toNat = 0 by omega]
    refine ⟨enters_of Tryz.func35 (by kernel_rfl) rfl, spec_of (vs := [_]) Tryz.func35 rfl Tryz.ntmps35 rfl fun G w hp => ?_⟩
    repeat' (first | refine l_run ?_ | refine l_nil ?_ | refine l_one ?_ | refine k_reg ?_ | refine l_ld ?_ | refine l_ldF ?_ | refine l_st ?_ | refine l_al (fun b => ?_) | refine l_bs (fun b => ?_) | refine k_condT ?_ | refine k_condF ?_ | refine k_brk ?_ | rw [hm] | refine l_mks bf (0 : UInt8) 0 1 (by omega) (by omega) (fun b6 => ?_) | (refine l_split (fun hc => ?_) (fun hc => ?_) <;> (try simp at hc)) | (refine k_cond (fun hc => ?_) (fun hc => ?_) <;> (try simp at hc)))
    refine l_by (T := 5) (b := b6) (cs := ((List.replicate 0 (0 : UInt8)).flatMap bf).toArray) (Lb := List.replicate 0 0) (by rw [byt_flat]) ?_
    refine l_b2sB (m := 0) (Lb := List.replicate 0 0) ?_ (by simp)
    repeat' (first | refine l_run ?_ | refine l_nil ?_ | refine l_one ?_ | refine k_reg ?_ | refine l_ld ?_ | refine l_ldF ?_ | refine l_st ?_ | refine l_al (fun b => ?_) | refine l_bs (fun b => ?_) | refine k_condT ?_ | refine k_condF ?_ | refine k_brk ?_ | (refine l_split (fun hc => ?_) (fun hc => ?_) <;> (try simp at hc)) | (refine k_cond (fun hc => ?_) (fun hc => ?_) <;> (try simp at hc)))
    exact k_ret () rfl trivial
/-- A size asked for, made one that is allowed. -/
def szN (x : Int) : Nat := (min (max x 0) 4096).toNat
theorem app_data (a b : ByteArray) : (a ++ b).data.toList = a.data.toList ++ b.data.toList := by simp
theorem bths_get {i : Nat} (h : i < 4) : (bths27 4)[i]? = some (bth27 i) := by
  match i, h with
  | 0, _ => rfl
  | 1, _ => rfl
  | 2, _ => rfl
  | 3, _ => rfl
theorem wfold_pts (es : Al) (bi : Bi) (f : Nat) (s : ByteArray) (rs : List (Nm × Ch)) (cs : List Ch) : ((iwQ es rs cs bi f s).2 ++ iwN es cs bi f s).length ≤ cs.length + s.size + 1 := by
  have h1 := pts_len (f + min s.size (4096 - f) - f) f (f + min s.size (4096 - f)) (Nat.le_refl _)
  have h2 : (iwN es cs bi f s).length ≤ 1 := by unfold iwN; split <;> simp
  simp only [List.length_append, iwQ, wfold_len]
  omega
theorem rszC_len (es : Al) (cs : List Ch) (bi : Bi) (n sz : Nat) (h : sz ≤ 4096) : (rszC es cs bi n sz).length ≤ cs.length + 66 := by
  have := cutC_len es cs bi n sz h
  unfold rszC
  split
  · omega
  · simp only [List.length_append, List.length_singleton]; split <;> omega

set_option maxHeartbeats 4000000 in
theorem lawISizes_ok (text : ByteArray) (x0 x1 x2 : Int) : Enters 7 ∧ Spec Tryz.prog 7 #[.string text, .agg #[.int .i64 x0, .int .i64 x1, .int .i64 x2]] [Usg] [] (RetV (.bool true)) := by
  have htz := cutS_size text 300
  generalize ht0 : cutS text 300 = t at *
  have hb := bth27_chk 1 (by omega)
  have hbs : (bth27 1).mkr.size ≤ 3 := mk27_size 1
  have f0 := fok0 (i := 1) (by omega)
  have f1 : ∀ rs, FOK es27 ((iwQ es27 rs [] (bth27 1) 0 t).2 ++ iwN es27 [] (bth27 1) 0 t) (bth27 1) t := fun rs => by
    have hs : t.data.toList.length = t.size := by simp
    refine f0.write hb (by omega) rs ?_ fun k hk => ?_
    · split
      · show t.size = (⟨#[]⟩ : ByteArray).size
        have : (⟨#[]⟩ : ByteArray).size = 0 := rfl
        omega
      · have : (⟨#[]⟩ : ByteArray).size = 0 := rfl
        omega
    · by_cases hk2 : k < t.size
      · rw [if_pos (by omega)]; rfl
      · rw [if_neg (by omega), getD_big _ _ _ (by omega)]; rfl
  obtain ⟨a1, a2, a3⟩ := f0.file hb
  have n1 := fun v s => write_ok v (some ⟨s, 0, none⟩) es27 [] [] (bth27 1) 0 t (by omega) a3 (by omega) (by simp) a1 (by omega) (by omega)
  have l1 := fun rs => wfold_pts es27 (bth27 1) 0 t rs []
  refine ⟨enters_of Tryz.func7 (by kernel_rfl) rfl, spec_of (vs := [_, _]) Tryz.func7 rfl Tryz.ntmps7 rfl fun G w hp => ?_⟩
  repeat' (first | refine l_run ?_ | refine l_nil ?_ | refine l_one ?_ | refine k_reg ?_ | refine l_ld ?_ | refine l_ldF ?_ | refine l_st ?_ | refine l_al (fun b => ?_) | refine l_bs (fun b => ?_) | refine k_condT ?_ | refine k_condF ?_ | refine k_brk ?_ | refine r_run ?_ | refine r_one ?_ | refine r_ld ?_ | refine r_ldF ?_ | refine r_ldN ?_ | refine r_al (fun b => ?_) | refine r_bs (fun b => ?_) | refine r_st ?_ | refine r_end ?_ | refine l_call (start27_ok) (fun _ _ => ?_) | refine l_call0 (start27_ok) (fun _ _ => ?_) | refine r_call (start27_ok) (fun _ _ => ?_) | refine l_call (known27_ok) (fun _ _ => ?_) | refine l_call0 (known27_ok) (fun _ _ => ?_) | refine r_call (known27_ok) (fun _ _ => ?_) | refine l_call (viewNew_ok _) (fun _ _ => ?_) | refine l_call0 (viewNew_ok _) (fun _ _ => ?_) | refine r_call (viewNew_ok _) (fun _ _ => ?_) | refine l_call (n1 _ _) (fun _ _ => ?_) | refine l_call0 (n1 _ _) (fun _ _ => ?_) | refine r_call (n1 _ _) (fun _ _ => ?_) | refine l_cutS 300 ?_ | rw [ht0] | refine l_ixe 1 (bth27 1) (bths_get (i := 1) (by omega)) (fun b off => ?_) | refine l_ldC ?_ | (refine l_split (fun hc => ?_) (fun hc => ?_) <;> (try simp at hc) <;> (try omega)) | (refine r_split (fun hc => ?_) (fun hc => ?_) <;> (try simp at hc) <;> (try omega)) | refine k_draw 14 [] [(0, 0), (1, 0), (2, 0), (3, 0), (4, 0), (5, 0), (6, 0), (7, 0), (8, 0), (9, 0), (10, 4), (11, 0), (12, 0)] [] ?_ | (refine k_cond (fun hc => ?_) (fun hc => ?_) <;> (try simp at hc) <;> (try omega)))
  rename_i b3 q _ _ _ v0 _ _ _
  obtain ⟨s0, bm, ob, cb, v1, v2⟩ := q
  have f2 := f1 []
  have l2 := l1 []
  refine k_lp (X := { q : Nat × List Ch × List (Nm × Ch) × ByteArray // (q.1 ≤ 3 ∧ q.2.1.length ≤ 1000 + 200 * q.1) ∧ FOK es27 q.2.1 (bth27 1) q.2.2.2 }) (fun q => [(3, .pointer (some ⟨b3, 0, none⟩)), (6, .pointer (some ⟨bm, 0, none⟩)), (8, .pointer (some ⟨v0, 0, none⟩)), (9, .string q.1.2.2.2), (10, .int .i64 (q.1.1 : Int))]) (fun _ => [St (some ⟨s0, 0, none⟩) es27, Blk bm (.cells #[.slice ob 4 cb, v1, v2] 78), Sl 31 bcf ob cb (bths27 4), Usg]) (fun q => [Vw v0 (some ⟨s0, 0, none⟩) q.1.2.2.1 q.1.2.1, Ar 84 zf b3 [x0, x1, x2]]) (fun q => 4 - q.1.1) ⟨(0, _, _, t), ⟨by omega, by dsimp only; simp only [List.length_nil] at l2; omega⟩, f2⟩ ⟨rfl, rfl, rfl, rfl, rfl, trivial⟩ ?_
  rintro ⟨⟨i, cs, rs, w⟩, ⟨hi1, hi2⟩, hF⟩
  dsimp only at hi1 hi2 hF ⊢
  obtain ⟨b1, b2, b4⟩ := hF.file hb
  have hle := hF.le
  by_cases hlt : i < 3
  · obtain ⟨x, hx⟩ : ∃ x, ([x0, x1, x2] : List Int)[i]? = some x := ⟨_, List.getElem?_eq_getElem (by simpa using hlt)⟩
    have hmn : (if (4096 : Int) < (if x < 0 then 0 else x) then (4096 : Int) else (if x < 0 then 0 else x)) = ((szN x : Nat) : Int) := by unfold szN; split <;> split <;> omega
    have hsz : szN x ≤ 4096 := by unfold szN; omega
    generalize szN x = n at *
    have m1 := resize_ok v0 (some ⟨s0, 0, none⟩) es27 rs cs (bth27 1) n w.size (by omega) b4 (by omega) b1 b2 hle hsz
    have hmin : (if (n : Int) < (w.size : Int) then (n : Int) else (w.size : Int)) = ((min w.size n : Nat) : Int) := by split <;> omega
    have w1 : IntKind.i64.wrap ((n : Int) - (w.size : Int)) = (n : Int) - (w.size : Int) := wrapi (by omega) (by omega)
    have m2 := zerosZ_ok ((n : Int) - (w.size : Int)) (by omega)
    have hz : ((n : Int) - (w.size : Int)).toNat = n - w.size := by omega
    rw [hz] at m2
    have hzs := zer_size (n - w.size)
    have hes : (w.extract 0 (min w.size n)).size = min w.size n := by rw [ByteArray.size_extract]; omega
    have hws : w.data.toList.length = w.size := by simp
    have hF2 : FOK es27 (rszC es27 cs (bth27 1) n w.size) (bth27 1) (w.extract 0 (min w.size n) ++ zer (n - w.size)) := by
      refine hF.resize hb hsz (by rw [ByteArray.size_append, hes, hzs]; omega) fun k hk => ?_
      have he : (w.extract 0 (min w.size n)).data.toList = w.data.toList.take (min w.size n) := by
        rw [ByteArray.data_extract, Array.toList_extract, List.extract_eq_take_drop]; simp
      have hzl : (zer (n - w.size)).data.toList = List.replicate (n - w.size) 0 := rfl
      rw [app_data, he, hzl, getD_app, List.length_take, hws]
      by_cases h1 : k < min w.size n
      · rw [if_pos (by omega), getD_take _ _ _ _ h1, if_pos (by omega)]
      · rw [if_neg (by omega), getD_rep]
        by_cases h2 : k < n
        · rw [if_pos h2, getD_big _ _ _ (by omega)]
        · rw [if_neg h2]
    have l3 := rszC_len es27 cs (bth27 1) n w.size hle
    generalize rszC es27 cs (bth27 1) n w.size = cs2 at *
    generalize rszR es27 rs cs (bth27 1) n w.size = rs2 at *
    repeat' (first | refine l_run ?_ | refine l_nil ?_ | refine l_one ?_ | refine k_reg ?_ | refine l_ld ?_ | refine l_ldF ?_ | refine l_st ?_ | refine l_al (fun b => ?_) | refine l_bs (fun b => ?_) | refine k_condT ?_ | refine k_condF ?_ | refine r_run ?_ | refine r_one ?_ | refine r_ld ?_ | refine r_ldF ?_ | refine r_ldN ?_ | refine r_al (fun b => ?_) | refine r_bs (fun b => ?_) | refine r_st ?_ | refine r_end ?_ | refine l_call (m1) (fun _ _ => ?_) | refine l_call0 (m1) (fun _ _ => ?_) | refine r_call (m1) (fun _ _ => ?_) | refine l_call (m2) (fun _ _ => ?_) | refine l_call0 (m2) (fun _ _ => ?_) | refine r_call (m2) (fun _ _ => ?_) | rw [hmn] | rw [hmin] | rw [w1] | refine l_ixA (m := 3) (sz := 1) i hlt ?_ | refine l_ldA 1 i 0 hx ?_ | refine l_ixe 1 (bth27 1) (bths_get (i := 1) (by omega)) (fun b off => ?_) | refine l_ldC ?_ | refine r_ssl (s := w) (min w.size n) (by omega) ?_ | refine r_cat ?_ (h := by rw [hes, hzs]; omega) | (refine l_split (fun hc => ?_) (fun hc => ?_) <;> (try simp at hc) <;> (try omega)) | (refine r_split (fun hc => ?_) (fun hc => ?_) <;> (try simp at hc) <;> (try omega)) | refine k_draw 14 [] [(0, 0), (1, 0), (2, 0), (3, 0), (4, 0), (5, 0), (6, 0), (7, 0), (8, 0), (9, 0), (10, 4), (11, 0), (12, 0)] [] ?_ | (refine k_cond (fun hc => ?_) (fun hc => ?_) <;> (try simp at hc) <;> (try omega)))
    rw [wrapi (z := (i : Int) + 1) (by omega) (by omega)]
    exact k_next ⟨(i + 1, cs2, rs2, w.extract 0 (min w.size n) ++ zer (n - w.size)), ⟨by dsimp only; omega, by dsimp only; omega⟩, hF2⟩ (by show 4 - (i + 1) < 4 - i; omega) ⟨rfl, rfl, rfl, rfl, rfl, trivial⟩
  · have m3 := inoContents_ok v0 (some ⟨s0, 0, none⟩) es27 rs cs (bth27 1) w.size (by omega) b4 b1 b2 hle
    rw [hF.read] at m3
    repeat' (first | refine l_run ?_ | refine l_nil ?_ | refine l_one ?_ | refine k_reg ?_ | refine l_ld ?_ | refine l_ldF ?_ | refine l_st ?_ | refine l_al (fun b => ?_) | refine l_bs (fun b => ?_) | refine k_condT ?_ | refine k_condF ?_ | refine k_brk ?_ | refine r_run ?_ | refine r_one ?_ | refine r_ld ?_ | refine r_ldF ?_ | refine r_ldN ?_ | refine r_al (fun b => ?_) | refine r_bs (fun b => ?_) | refine r_st ?_ | refine r_end ?_ | refine l_call (m3) (fun _ _ => ?_) | refine l_call0 (m3) (fun _ _ => ?_) | refine r_call (m3) (fun _ _ => ?_) | refine l_ixe 1 (bth27 1) (bths_get (i := 1) (by omega)) (fun b off => ?_) | refine l_ldC ?_ | (refine l_split (fun hc => ?_) (fun hc => ?_) <;> (try simp at hc) <;> (try omega)) | (refine r_split (fun hc => ?_) (fun hc => ?_) <;> (try simp at hc) <;> (try omega)) | refine k_draw 14 [] [(0, 0), (1, 0), (2, 0), (3, 0), (4, 0), (5, 0), (6, 0), (7, 0), (8, 0), (9, 0), (10, 4), (11, 0), (12, 0)] [] ?_ | (refine k_cond (fun hc => ?_) (fun hc => ?_) <;> (try simp at hc) <;> (try omega)))
    all_goals (refine k_ret () ?_ trivial; simp [RetV, resV])
end Go.Proofs.YtgciahedpaencaaGreatDoor
