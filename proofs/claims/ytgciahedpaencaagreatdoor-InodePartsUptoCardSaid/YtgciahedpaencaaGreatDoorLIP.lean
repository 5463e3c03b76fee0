/-
  The law InodeParts, walked.
  Conditions: those that each theorem states.
-/
import Derived.Test.YtgciahedpaencaaGreatDoorPtP
set_option maxRecDepth 10000
namespace Go.Proofs.YtgciahedpaencaaGreatDoor
open Go.RowKit

section
variable {n : Nat} {C : Cx} {Q : Exit → Act → World → Prop} {E E' : List (Nat × Value)} {F F' F1 Fs F0 : List Pf} {R R' R0 Rs N N' A : List HP} {k k' : List Fr} {ops l : List Oper} {L L' : List (Nat × Nat)} {Tl : List Nat}
  {i d : Nat} {t ty0 : TypeId} {x y y2 : Operand} {pos : String} {aft : Array Edge} {gd : Option (Nat × Bool)}
theorem run_sLH {s : ByteArray} {z1 z2 : Int} {rs : TRow} {w : World} (lo hi : Nat) (h1 : lo ≤ hi) (h2 : hi ≤ s.size) (hts : lookT tab t = some rs) (hrs : rs.k = .str) (hz1 : z1 = (lo : Int)) (hz2 : z2 = (hi : Int)) : (Instr.sliceAt t (.string s) (some (.int .i64 z1)) (some (.int .i64 z2)) none).run Tryz.prog w = .ok (.string (s.extract lo hi)) w := by
  subst hz1 hz2
  have hu := run_undS (w := w) hts hrs
  have hb2 : (Instr.sliceBound (.int .i64 (hi : Int)) s.size .sliceAlen).run Tryz.prog w = .ok hi w := by
    simp only [Instr.sliceBound, asIntOf, Sem.run_bind, Sem.run_pure, Result.andThen]
    rw [if_pos ⟨by omega, by omega⟩]
    simp
  have hb1 : ∀ e, (Instr.sliceBound (.int .i64 (lo : Int)) hi e).run Tryz.prog w = .ok lo w := fun e => by
    simp only [Instr.sliceBound, asIntOf, Sem.run_bind, Sem.run_pure, Result.andThen]
    rw [if_pos ⟨by omega, by omega⟩]
    simp
  simp [Instr.sliceAt, Instr.slice, Instr.sliceBounds, Sem.run_bind, hu, Result.andThen, hb1, hb2]
/-- A part of a text. -/
theorem r_sLH {s : ByteArray} {z1 z2 : Int} {rs : TRow} (lo hi : Nat) (h1 : lo ≤ hi) (h2 : hi ≤ s.size) (nx : Wr n C ops k Q Tl Fs R L ((d, .string (s.extract lo hi)) :: E) F N)
    (ho : nth ops i = some ⟨some d, .slice t x (some y) (some y2) none, ty0, pos, aft, gd⟩ := by rfl) (hw : wantL ops E ⟨some d, .slice t x (some y) (some y2) none, ty0, pos, aft, gd⟩ = some true := by rfl) (hx : ev E x = some (.string s) := by rfl) (hy : ev E y = some (.int .i64 z1) := by rfl) (hy2 : ev E y2 = some (.int .i64 z2) := by rfl)
    (hts : lookT tab t = some rs := by rfl) (hrs : rs.k = .str := by rfl) (hz1 : z1 = (lo : Int) := by first | rfl | omega) (hz2 : z2 = (hi : Int) := by first | rfl | omega) : Wr n C ops k Q Tl Fs R ((i, 0) :: L) E F N :=
  r_q (fun a w ha => by
    simp only [execOp, Option.map_some, Option.map_none, ha.ev (x := x) (by rw [evf_look]; exact hx), ha.ev (x := y) (by rw [evf_look]; exact hy), ha.ev (x := y2) (by rw [evf_look]; exact hy2), Sem.run_bind, run_sLH (w := w) lo hi h1 h2 hts hrs hz1 hz2, Result.andThen, Sem.run_pure]) nx ho hw
end

/-- A place asked for, made one where the text fits. -/
def frN (x : Int) (m : Nat) : Nat := (min (max x 0) ((4096 - m : Nat) : Int)).toNat

set_option maxHeartbeats 4000000 in
theorem lawIParts_ok (text : ByteArray) (x : Int) (o : Option Addr) (cap : Nat) (ps : List UInt8) (hl : ps.length ≤ 1099511627776) : Enters 6 ∧ Spec Tryz.prog 6 #[.string text, .int .i64 x, .slice o ps.length cap] [Sl 5 bf o cap ps, Usg] [] (RetV (.bool true)) := by
  have htz := cutS_size text 400
  generalize ht0 : cutS text 400 = t at *
  have hb := bth27_chk 0 (by omega)
  have hbs : (bth27 0).mkr.size ≤ 3 := mk27_size 0
  have w1 : IntKind.i64.wrap (4096 - (t.size : Int)) = ((4096 - t.size : Nat) : Int) := by rw [wrapi (by omega) (by omega)]; omega
  have hmn : (if ((4096 - t.size : Nat) : Int) < (if x < 0 then 0 else x) then ((4096 - t.size : Nat) : Int) else (if x < 0 then 0 else x)) = ((frN x t.size : Nat) : Int) := by unfold frN; split <;> split <;> omega
  have hF0 : frN x t.size + t.size ≤ 4096 := by unfold frN; omega
  generalize frN x t.size = F at *
  refine ⟨enters_of Tryz.func6 (by kernel_rfl) rfl, spec_of (vs := [_, _, _]) Tryz.func6 rfl Tryz.ntmps6 rfl fun G w hp => ?_⟩
  repeat' (first | refine l_run ?_ | refine l_nil ?_ | refine l_one ?_ | refine k_reg ?_ | refine l_ld ?_ | refine l_ldF ?_ | refine l_st ?_ | refine l_al (fun b => ?_) | refine l_bs (fun b => ?_) | refine k_condT ?_ | refine k_condF ?_ | refine k_brk ?_ | refine r_run ?_ | refine r_one ?_ | refine r_ld ?_ | refine r_ldF ?_ | refine r_ldN ?_ | refine r_al (fun b => ?_) | refine r_bs (fun b => ?_) | refine r_st ?_ | refine r_end ?_ | refine l_call (start27_ok) (fun _ _ => ?_) | refine l_call0 (start27_ok) (fun _ _ => ?_) | refine r_call (start27_ok) (fun _ _ => ?_) | refine l_call (known27_ok) (fun _ _ => ?_) | refine l_call0 (known27_ok) (fun _ _ => ?_) | refine r_call (known27_ok) (fun _ _ => ?_) | refine l_call (viewNew_ok _) (fun _ _ => ?_) | refine l_call0 (viewNew_ok _) (fun _ _ => ?_) | refine r_call (viewNew_ok _) (fun _ _ => ?_) | refine l_cutS 400 ?_ | rw [ht0] | rw [w1] | rw [hmn] | (refine l_split (fun hc => ?_) (fun hc => ?_) <;> (try simp at hc) <;> (try omega)) | (refine r_split (fun hc => ?_) (fun hc => ?_) <;> (try simp at hc) <;> (try omega)) | refine k_draw 14 [] [(0, 0), (1, 0), (2, 0), (3, 0), (4, 0), (5, 0), (6, 0), (7, 0), (8, 0), (9, 0), (10, 0), (11, 0), (12, 0), (13, 0), (14, 0), (15, 0), (16, 4), (17, 0), (18, 0), (19, 0), (20, 0), (21, 0)] [] ?_ | (refine k_cond (fun hc => ?_) (fun hc => ?_) <;> (try simp at hc) <;> (try omega)))
  rename_i q _ _ _ v0 _
  obtain ⟨s0, bm, ob, cb, v1, v2⟩ := q
  refine k_lp (X := { q : PtX // PtI F t ps.length q }) (fun q => [(0, .string t), (1, .int .i64 (F : Int)), (2, .slice o ps.length cap), (8, .pointer (some ⟨bm, 0, none⟩)), (10, .int .i64 (q.1.a : Int)), (11, .pointer (some ⟨q.1.v, 0, none⟩)), (12, .int .i64 (q.1.i : Int))]) (fun q => [St (some ⟨q.1.s, 0, none⟩) q.1.es, Blk bm (.cells #[.slice ob 4 cb, v1, v2] 78), Sl 31 bcf ob cb (bths27 4), Sl 5 bf o cap ps, Usg]) (fun q => [Vw q.1.v (some ⟨q.1.s, 0, none⟩) q.1.rs q.1.cs]) (fun q => 12 - q.1.i) ⟨⟨0, 0, s0, v0, es27, [], []⟩, PtI.init⟩ ⟨rfl, rfl, rfl, rfl, rfl, rfl, rfl, trivial⟩ ?_
  rintro ⟨⟨i, a, s, v, es, rs, cs⟩, hI⟩
  have j1 := hI.hi
  have j2 := hI.ha
  have j3 := hI.he
  have j4 := hI.l
  have j5 := hI.el
  obtain ⟨b1, b2, b4⟩ := hI.f.file hb
  have hle := hI.f.le
  dsimp only at j1 j2 j3 j4 j5 b1 b2 b4 hle ⊢
  by_cases hgo : (i ≤ ps.length ∧ i ≤ 10) ∧ a < t.size
  · obtain ⟨⟨hgo1, hgo2⟩, hgo3⟩ := hgo
    have w2 : IntKind.i64.wrap ((t.size : Int) - (a : Int)) = ((t.size - a : Nat) : Int) := by rw [wrapi (by omega) (by omega)]; omega
    have w3 : IntKind.i64.wrap ((F : Int) + (a : Int)) = ((F + a : Nat) : Int) := by rw [wrapi (by omega) (by omega)]; omega
    have w9 : IntKind.i64.wrap ((i : Int) + 1) = ((i + 1 : Nat) : Int) := by rw [wrapi (by omega) (by omega)]; omega
    -- what a part of n bytes does
    have hstep : ∀ n : Nat, a + n ≤ t.size → (i < min ps.length 10 ∨ a + n = t.size) → PtI F t ps.length ⟨i + 1, a + n, s, v, es, (iwQ es rs cs (bth27 0) (F + a) (t.extract a (a + n))).1, (iwQ es rs cs (bth27 0) (F + a) (t.extract a (a + n))).2 ++ iwN es cs (bth27 0) (F + a) (t.extract a (a + n))⟩ := fun n h1 h2 => hI.write htz hF0 h1 (by show i ≤ _; omega) h2
    by_cases hsm : i < ps.length ∧ i < 10
    · obtain ⟨c, hgt⟩ : ∃ c, ps[i]? = some c := ⟨_, List.getElem?_eq_getElem hsm.1⟩
      have hm2 : (if (c.toNat : Int) < ((t.size - a : Nat) : Int) then (c.toNat : Int) else ((t.size - a : Nat) : Int)) = ((min (t.size - a) c.toNat : Nat) : Int) := by split <;> omega
      have wc : IntKind.i64.wrap ((c.toNat : Int)) = (c.toNat : Int) := by have := c.toNat_lt; exact wrapi (by omega) (by omega)
      have hn := hstep (min (t.size - a) c.toNat) (by omega) (.inl (by omega))
      have hnle : a + min (t.size - a) c.toNat ≤ t.size := by omega
      generalize min (t.size - a) c.toNat = n at *
      have hx : (t.extract a (a + n)).size = n := by rw [ByteArray.size_extract]; omega
      have w4 : IntKind.i64.wrap ((a : Int) + (n : Int)) = ((a + n : Nat) : Int) := by rw [wrapi (by omega) (by omega)]; omega
      have m1 := write_ok v (some ⟨s, 0, none⟩) es rs cs (bth27 0) (F + a) (t.extract a (a + n)) (by omega) b4 (by omega) (by omega) b1 (by omega) (by omega)
      rw [show min (t.extract a (a + n)).size (4096 - (F + a)) = n by rw [hx]; omega] at m1
      have w5 : (n : Int).tmod 2 = ((n % 2 : Nat) : Int) := by rw [Int.tmod_eq_emod_of_nonneg (Int.natCast_nonneg _)]; exact (Int.natCast_emod _ 2).symm
      have w6 : IntKind.i64.wrap (((n % 2 : Nat) : Int)) = ((n % 2 : Nat) : Int) := wrapi (by omega) (by omega)
      have ha := fun s' v' => hn.after htz s' v' (by show es.length ≤ 12 * (i + 1); omega)
      have m2 := fun rs' => vwAfter_ok v s es rs' _ (nmp_len (bi := bth27 0) (f := F) (t := F + t.size) (by omega) (fun c hc => (hn.c c hc).2)) (fun c hc => (hn.c c hc).1) (by omega)
      dsimp only at ha m2
      generalize (iwQ es rs cs (bth27 0) (F + a) (t.extract a (a + n))).2 ++ iwN es cs (bth27 0) (F + a) (t.extract a (a + n)) = cs2 at *
      generalize (iwQ es rs cs (bth27 0) (F + a) (t.extract a (a + n))).1 = rs2 at *
      repeat' (first | refine l_run ?_ | refine l_nil ?_ | refine l_one ?_ | refine k_reg ?_ | refine l_ld ?_ | refine l_ldF ?_ | refine l_st ?_ | refine l_al (fun b => ?_) | refine l_bs (fun b => ?_) | refine k_condT ?_ | refine k_condF ?_ | refine r_run ?_ | refine r_one ?_ | refine r_ld ?_ | refine r_ldF ?_ | refine r_ldN ?_ | refine r_al (fun b => ?_) | refine r_bs (fun b => ?_) | refine r_st ?_ | refine r_end ?_ | refine l_call (m1) (fun _ _ => ?_) | refine l_call0 (m1) (fun _ _ => ?_) | refine r_call (m1) (fun _ _ => ?_) | refine l_call (m2 _) (fun _ _ => ?_) | refine l_call0 (m2 _) (fun _ _ => ?_) | refine r_call (m2 _) (fun _ _ => ?_) | refine l_call (viewNew_ok _) (fun _ _ => ?_) | refine l_call0 (viewNew_ok _) (fun _ _ => ?_) | refine r_call (viewNew_ok _) (fun _ _ => ?_) | rw [w2] | rw [w3] | rw [w4] | rw [wc] | rw [hm2] | refine l_ixe i c hgt (fun b off => ?_) | refine l_ldC ?_ | rw [w5] | rw [w6] | refine r_ixe 0 (bth27 0) (bths_get (i := 0) (by omega)) (fun b off => ?_) | refine r_ldC ?_ | refine r_sLH (s := t) a (a + n) (by omega) (by omega) ?_ | (refine l_split (fun hc => ?_) (fun hc => ?_) <;> (try simp at hc) <;> (try omega)) | (refine r_split (fun hc => ?_) (fun hc => ?_) <;> (try simp at hc) <;> (try omega)) | refine k_draw 14 [Vw _ _ _ _] [(0, 0), (1, 0), (2, 0), (3, 0), (4, 0), (5, 0), (6, 0), (7, 0), (8, 0), (9, 0), (10, 0), (11, 0), (12, 0), (13, 0), (14, 0), (15, 0), (16, 4), (17, 0), (18, 0), (19, 0), (20, 0), (21, 0)] [] ?_ | (refine k_cond (fun hc => ?_) (fun hc => ?_) <;> (try simp at hc) <;> (try omega)))
      · rename_i s' _ v' _
        rw [w9]
        exact k_next ⟨⟨i + 1, a + n, s', v', applyE es (vwr cs2), [], []⟩, ha s' v'⟩ (by show 12 - (i + 1) < 12 - i; omega) ⟨rfl, rfl, rfl, rfl, rfl, rfl, rfl, trivial⟩
      · rw [w9]
        exact k_next ⟨⟨i + 1, a + n, s, v, es, rs2, cs2⟩, hn⟩ (by show 12 - (i + 1) < 12 - i; omega) ⟨rfl, rfl, rfl, rfl, rfl, rfl, rfl, trivial⟩
    · have hn := hstep (t.size - a) (by omega) (.inr (by omega))
      have hnle : a + (t.size - a) ≤ t.size := by omega
      generalize t.size - a = n at *
      have hx : (t.extract a (a + n)).size = n := by rw [ByteArray.size_extract]; omega
      have w4 : IntKind.i64.wrap ((a : Int) + (n : Int)) = ((a + n : Nat) : Int) := by rw [wrapi (by omega) (by omega)]; omega
      have m1 := write_ok v (some ⟨s, 0, none⟩) es rs cs (bth27 0) (F + a) (t.extract a (a + n)) (by omega) b4 (by omega) (by omega) b1 (by omega) (by omega)
      rw [show min (t.extract a (a + n)).size (4096 - (F + a)) = n by rw [hx]; omega] at m1
      have w5 : (n : Int).tmod 2 = ((n % 2 : Nat) : Int) := by rw [Int.tmod_eq_emod_of_nonneg (Int.natCast_nonneg _)]; exact (Int.natCast_emod _ 2).symm
      have w6 : IntKind.i64.wrap (((n % 2 : Nat) : Int)) = ((n % 2 : Nat) : Int) := wrapi (by omega) (by omega)
      have ha := fun s' v' => hn.after htz s' v' (by show es.length ≤ 12 * (i + 1); omega)
      have m2 := fun rs' => vwAfter_ok v s es rs' _ (nmp_len (bi := bth27 0) (f := F) (t := F + t.size) (by omega) (fun c hc => (hn.c c hc).2)) (fun c hc => (hn.c c hc).1) (by omega)
      dsimp only at ha m2
      generalize (iwQ es rs cs (bth27 0) (F + a) (t.extract a (a + n))).2 ++ iwN es cs (bth27 0) (F + a) (t.extract a (a + n)) = cs2 at *
      generalize (iwQ es rs cs (bth27 0) (F + a) (t.extract a (a + n))).1 = rs2 at *
      repeat' (first | refine l_run ?_ | refine l_nil ?_ | refine l_one ?_ | refine k_reg ?_ | refine l_ld ?_ | refine l_ldF ?_ | refine l_st ?_ | refine l_al (fun b => ?_) | refine l_bs (fun b => ?_) | refine k_condT ?_ | refine k_condF ?_ | refine r_run ?_ | refine r_one ?_ | refine r_ld ?_ | refine r_ldF ?_ | refine r_ldN ?_ | refine r_al (fun b => ?_) | refine r_bs (fun b => ?_) | refine r_st ?_ | refine r_end ?_ | refine l_call (m1) (fun _ _ => ?_) | refine l_call0 (m1) (fun _ _ => ?_) | refine r_call (m1) (fun _ _ => ?_) | refine l_call (m2 _) (fun _ _ => ?_) | refine l_call0 (m2 _) (fun _ _ => ?_) | refine r_call (m2 _) (fun _ _ => ?_) | refine l_call (viewNew_ok _) (fun _ _ => ?_) | refine l_call0 (viewNew_ok _) (fun _ _ => ?_) | refine r_call (viewNew_ok _) (fun _ _ => ?_) | rw [w2] | rw [w3] | rw [w4] | rw [w5] | rw [w6] | refine r_ixe 0 (bth27 0) (bths_get (i := 0) (by omega)) (fun b off => ?_) | refine r_ldC ?_ | refine r_sLH (s := t) a (a + n) (by omega) (by omega) ?_ | (refine l_split (fun hc => ?_) (fun hc => ?_) <;> (try simp at hc) <;> (try omega)) | (refine r_split (fun hc => ?_) (fun hc => ?_) <;> (try simp at hc) <;> (try omega)) | refine k_draw 14 [Vw _ _ _ _] [(0, 0), (1, 0), (2, 0), (3, 0), (4, 0), (5, 0), (6, 0), (7, 0), (8, 0), (9, 0), (10, 0), (11, 0), (12, 0), (13, 0), (14, 0), (15, 0), (16, 4), (17, 0), (18, 0), (19, 0), (20, 0), (21, 0)] [] ?_ | (refine k_cond (fun hc => ?_) (fun hc => ?_) <;> (try simp at hc) <;> (try omega)))
      all_goals rw [w9]
      all_goals first
        | exact k_next ⟨⟨i + 1, a + n, s, v, es, rs2, cs2⟩, hn⟩ (by show 12 - (i + 1) < 12 - i; omega) ⟨rfl, rfl, rfl, rfl, rfl, rfl, rfl, trivial⟩
        | (rename_i s' _ v' _
           exact k_next ⟨⟨i + 1, a + n, s', v', applyE es (vwr cs2), [], []⟩, ha s' v'⟩ (by show 12 - (i + 1) < 12 - i; omega) ⟨rfl, rfl, rfl, rfl, rfl, rfl, rfl, trivial⟩)
  · have hat : a = t.size := by omega
    subst hat
    have m3 := inoContents_ok v (some ⟨s, 0, none⟩) es rs cs (bth27 0) (wP F t t.size).size (by omega) b4 b1 b2 hle
    rw [hI.f.read] at m3
    have m4 := zeros_ok F (by omega)
    by_cases hz : t.size = 0
    · have e0 : wP F t t.size = ⟨#[]⟩ := by unfold wP; rw [if_pos hz]
      rw [e0] at m3
      have hzb : (((t.size : Nat) : Int) == 0) = true := by rw [hz]; rfl
      repeat' (first | refine l_run ?_ | refine l_nil ?_ | refine l_one ?_ | refine k_reg ?_ | refine l_ld ?_ | refine l_ldF ?_ | refine l_st ?_ | refine l_al (fun b => ?_) | refine l_bs (fun b => ?_) | refine k_condT ?_ | refine k_condF ?_ | refine k_brk ?_ | refine r_run ?_ | refine r_one ?_ | refine r_ld ?_ | refine r_ldF ?_ | refine r_ldN ?_ | refine r_al (fun b => ?_) | refine r_bs (fun b => ?_) | refine r_st ?_ | refine r_end ?_ | refine l_call (m3) (fun _ _ => ?_) | refine l_call0 (m3) (fun _ _ => ?_) | refine r_call (m3) (fun _ _ => ?_) | rw [hzb] | refine l_ixe 0 (bth27 0) (bths_get (i := 0) (by omega)) (fun b off => ?_) | refine l_ldC ?_ | (refine l_split (fun hc => ?_) (fun hc => ?_) <;> (try simp at hc) <;> (try omega)) | (refine r_split (fun hc => ?_) (fun hc => ?_) <;> (try simp at hc) <;> (try omega)) | refine k_draw 14 [] [(0, 0), (1, 0), (2, 0), (3, 0), (4, 0), (5, 0), (6, 0), (7, 0), (8, 0), (9, 0), (10, 0), (11, 0), (12, 0), (13, 0), (14, 0), (15, 0), (16, 4), (17, 0), (18, 0), (19, 0), (20, 0), (21, 0)] [] ?_ | (refine k_cond (fun hc => ?_) (fun hc => ?_) <;> (try simp at hc) <;> (try omega)))
      all_goals (refine k_ret () ?_ trivial; simp [RetV, resV])
    · rw [wP_all hz] at m3
      have hzb : (((t.size : Nat) : Int) == 0) = false := by rw [beq_eq_false_iff_ne]; omega
      repeat' (first | refine l_run ?_ | refine l_nil ?_ | refine l_one ?_ | refine k_reg ?_ | refine l_ld ?_ | refine l_ldF ?_ | refine l_st ?_ | refine l_al (fun b => ?_) | refine l_bs (fun b => ?_) | refine k_condT ?_ | refine k_condF ?_ | refine k_brk ?_ | refine r_run ?_ | refine r_one ?_ | refine r_ld ?_ | refine r_ldF ?_ | refine r_ldN ?_ | refine r_al (fun b => ?_) | refine r_bs (fun b => ?_) | refine r_st ?_ | refine r_end ?_ | refine l_call (m3) (fun _ _ => ?_) | refine l_call0 (m3) (fun _ _ => ?_) | refine r_call (m3) (fun _ _ => ?_) | refine l_call (m4) (fun _ _ => ?_) | refine l_call0 (m4) (fun _ _ => ?_) | refine r_call (m4) (fun _ _ => ?_) | rw [hzb] | refine l_ixe 0 (bth27 0) (bths_get (i := 0) (by omega)) (fun b off => ?_) | refine l_ldC ?_ | refine l_cat ?_ (h := by rw [zer_size]; omega) | (refine l_split (fun hc => ?_) (fun hc => ?_) <;> (try simp at hc) <;> (try omega)) | (refine r_split (fun hc => ?_) (fun hc => ?_) <;> (try simp at hc) <;> (try omega)) | refine k_draw 14 [] [(0, 0), (1, 0), (2, 0), (3, 0), (4, 0), (5, 0), (6, 0), (7, 0), (8, 0), (9, 0), (10, 0), (11, 0), (12, 0), (13, 0), (14, 0), (15, 0), (16, 4), (17, 0), (18, 0), (19, 0), (20, 0), (21, 0)] [] ?_ | (refine k_cond (fun hc => ?_) (fun hc => ?_) <;> (try simp at hc) <;> (try omega)))
      all_goals (refine k_ret () ?_ trivial; simp [RetV, resV])
end Go.Proofs.YtgciahedpaencaaGreatDoor
