/-
  Contracts of cpu.Encode and process.SetRegisters.
  Conditions: those that each theorem states.
-/
import Derived.Test.YtgaipgbgppdfeaaGreatDoorReg
import Derived.Test.YtgaipgbgppdfeaaGreatDoorSpc6
set_option maxRecDepth 10000
namespace Go.Proofs.YtgaipgbgppdfeaaGreatDoor
open Go.RowKit

section
variable {n : Nat} {C : Cx} {Q : Exit → Act → World → Prop} {E E' : List (Nat × Value)} {F F' F1 Fs F0 : List Pf} {R R' R0 Rs N N' A : List HP} {k k' : List Fr} {ops l : List Oper} {L L' : List (Nat × Nat)} {Tl : List Nat}
  {i d b : Nat} {t ty0 : TypeId} {x y : Operand} {pos : String} {aft : Array Edge} {gd : Option (Nat × Bool)} {v : Value}
/-- copy between cells of two blocks. -/
theorem r_copyP {T0 T b2 dl dc sl sc : Nat} {cs cs2 : List Value} {ty2 : TypeId} {fz2 : Nat × Nat} {ts tx : TypeId} {rs tr : TRow} (m : Nat) (cs' : List Value)
    (nx : Wr n C ops k Q Tl Fs R L ((d, .int .i64 (m : Int)) :: E) F (Pt b (.cells cs'.toArray T (0, 0)) :: N'))
    (ho : nth ops i = some ⟨some d, .call ⟨.builtin .copy, #[x, y], #[ts, tx]⟩, ty0, pos, aft, gd⟩ := by rfl) (hw : wantL ops E ⟨some d, .call ⟨.builtin .copy, #[x, y], #[ts, tx]⟩, ty0, pos, aft, gd⟩ = some true := by rfl) (hx : ev E x = some (.slice (some ⟨b, 0, none⟩) dl dc) := by rfl) (hy : ev E y = some (.slice (some ⟨b2, 0, none⟩) sl sc) := by rfl)
    (hts : lookT tab ts = some rs := by rfl) (hrs : rs.k = .slice T0 := by rfl) (hT : lookT tab T0 = some tr := by rfl) (hsz : tr.size = 1 := by rfl) (hs : Sel (Pt b (.cells cs.toArray T (0, 0))) N N' := by (repeat (first | exact Sel.here | apply Sel.there)); first | done | fail)
    (hs2 : Sel (Pt b2 (.cells cs2.toArray ty2 fz2)) R R0 := by (repeat (first | exact Sel.here | apply Sel.there)); first | done | fail) (hm : min sl dl = m := by rfl) (hcs : cs2.take m ++ cs.drop m = cs' := by rfl) (hall : (cs2.take m).all one1 = true := by rfl) (h1 : m ≤ cs.length := by simp) (h2 : m ≤ cs2.length := by simp) :
    Wr n C ops k Q Tl Fs R ((i, 4) :: L) E F N :=
  wr_go ho fun hp hr w st hz sb => by
    simp only [wantL_ok hw]
    refine ⟨⟨Unit, fun _ => .int .i64 (m : Int), fun _ => True, fun _ => F, fun _ => Pt b (.cells cs'.toArray T (0, 0)) :: N'⟩, fun a G w hp' ha hsub hsat => ?_, fun _ _ => nx hp hr w st hz sb⟩
    have hsz1 := tab_ok.sizeOf hT w
    rw [hsz] at hsz1
    have hb2 : w.heap[b2]? = some (.cells cs2.toArray ty2 fz2) := (hsat.stat hsub) _ _ (sb _ _ (stat_pt st hs2))
    have hld : (Go.loadCells ⟨b2, 0, none⟩ m).run Tryz.prog w = .ok (cs2.take m).toArray w := by
      unfold Go.loadCells
      have := Go.Proofs.YtgaipgbgppdfeaaGreatDoor.run_loadCells (P := Tryz.prog) hb2 0 m 0 #[] (by simp; omega)
      rw [this]
      simp
    have hlen : (cs2.take m).length = m := by rw [List.length_take]; omega
    obtain ⟨w', g1, g2, g3, g4⟩ := run_storeCells (P := Tryz.prog) (b := b) (ty := T) 0 (cs2.take m) 0 w cs (hsat.pt hs) hall (by rw [hlen]; omega)
    rw [hlen] at g2
    simp only [Nat.add_zero, Nat.zero_add, List.take_zero, List.nil_append] at g2
    rw [hcs] at g2
    unfold OpRes
    have e1 := ha.ev (x := x) (by rw [evf_look]; exact hx)
    have e2 := ha.ev (x := y) (by rw [evf_look]; exact hy)
    have hmn : Nat.min sl dl = m := hm
    simp only [execOp, resolve, Sem.run_bind, Sem.run_pure, Result.andThen, invoke, builtin, List.map_toArray, List.map_cons, List.map_nil, e1, e2, Builtin.copy_, List.getElem?_toArray, List.getElem?_cons_zero, List.getElem?_cons_succ, run_und hts hrs, Builtin.lenOf, hsz1, Builtin.firstCells, hmn, Nat.mul_one, hld, g1]
    exact ⟨(), rfl, trivial, (hsat.sel hs).write g3 g2 fun e he _ => g4 e he⟩
end
theorem words_ok (a1 a2 a3 a4 a5 a6 a7 a8 a9 : Int) : Enters 114 ∧ Spec Tryz.prog 114 #[.agg #[.int .u32 a1, .int .u32 a2, .int .u32 a3, .int .u32 a4, .int .u32 a5, .int .u32 a6, .int .u32 a7, .int .u32 a8, .int .u32 a9]] [] []
    (RetV (.agg #[.int .u32 a1, .int .u32 a2, .int .u32 a3, .int .u32 a4, .int .u32 a5, .int .u32 a6, .int .u32 a7, .int .u32 a8, .int .u32 a9])) := by
  refine ⟨enters_of Tryz.func114 (by kernel_rfl) rfl, spec_of (vs := [_]) Tryz.func114 rfl Tryz.ntmps114 rfl fun G w hp => ?_⟩
  repeat' (first | refine l_run ?_ | refine l_nil ?_ | refine l_one ?_ | refine k_reg ?_ | refine l_ld ?_ | refine l_ldF ?_ | refine l_st ?_ | refine l_al (fun b => ?_) | refine l_bs (fun b => ?_) | refine k_condT ?_ | refine k_condF ?_ | refine k_brk ?_ | refine r_run ?_ | refine r_one ?_ | refine r_ld ?_ | refine r_ldF ?_ | refine r_ldN ?_ | refine r_al (fun b => ?_) | refine r_bs (fun b => ?_) | refine r_st ?_ | refine r_end ?_ | refine r_sla0 ?_ | refine r_copyP 8 [.int .u32 a1, .int .u32 a2, .int .u32 a3, .int .u32 a4, .int .u32 a5, .int .u32 a6, .int .u32 a7, .int .u32 a8, .int .u32 0] ?_ | refine l_ixA (m := 9) 8 (by decide) ?_ | (refine l_split (fun hc => ?_) (fun hc => ?_) <;> (try simp at hc)) | (refine r_split (fun hc => ?_) (fun hc => ?_) <;> (try simp at hc)) | refine k_draw 2 [Pt _ (.cells #[.int .u32 0, _, _, _, _, _, _, _, _] 207 _)] [(0, 0), (1, 0), (2, 0), (3, 4)] [] ?_ | (refine k_cond (fun hc => ?_) (fun hc => ?_) <;> (try simp at hc)))
  exact k_ret () rfl trivial
/-- The bytes of a word. -/
def encW (a : Int) : List UInt8 := [UInt8.ofNat (a.toNat % 256), UInt8.ofNat (a.toNat / 256 % 256), UInt8.ofNat (a.toNat / 65536 % 256), UInt8.ofNat (a.toNat / 16777216 % 256)]
def encR (g : List Int) : List UInt8 := g.flatMap encW
theorem wrap8 (k : Nat) : IntKind.u8.wrap (k : Int) = ((UInt8.ofNat (k % 256)).toNat : Int) := by
  have : IntKind.u8.wrap (k : Int) = ((k % 256 : Nat) : Int) := by
    simp [IntKind.wrap, IntKind.signed, IntKind.bits]
  rw [this]
  simp [UInt8.toNat_ofNat']
theorem byt_encW {z : Int} (hz : 0 ≤ z ∧ z < 4294967296) : byt (encW z) = [Value.int .u8 (IntKind.u8.wrap z), .int .u8 (IntKind.u8.wrap (z.fdiv (2 ^ min (Int.toNat 8) IntKind.u32.bits))), .int .u8 (IntKind.u8.wrap (z.fdiv (2 ^ min (Int.toNat 16) IntKind.u32.bits))), .int .u8 (IntKind.u8.wrap (z.fdiv (2 ^ min (Int.toNat 24) IntKind.u32.bits)))] := by
  obtain ⟨k, rfl⟩ : ∃ k : Nat, z = (k : Int) := ⟨z.toNat, by omega⟩
  have e8 : ((k : Int).fdiv (2 ^ min (Int.toNat 8) IntKind.u32.bits)) = ((k / 256 : Nat) : Int) := by
    rw [show (2 : Int) ^ min (Int.toNat 8) IntKind.u32.bits = 256 from rfl, Int.fdiv_eq_ediv_of_nonneg _ (by decide)]; rfl
  have e16 : ((k : Int).fdiv (2 ^ min (Int.toNat 16) IntKind.u32.bits)) = ((k / 65536 : Nat) : Int) := by
    rw [show (2 : Int) ^ min (Int.toNat 16) IntKind.u32.bits = 65536 from rfl, Int.fdiv_eq_ediv_of_nonneg _ (by decide)]; rfl
  have e24 : ((k : Int).fdiv (2 ^ min (Int.toNat 24) IntKind.u32.bits)) = ((k / 16777216 : Nat) : Int) := by
    rw [show (2 : Int) ^ min (Int.toNat 24) IntKind.u32.bits = 16777216 from rfl, Int.fdiv_eq_ediv_of_nonneg _ (by decide)]; rfl
  rw [e8, e16, e24, wrap8, wrap8, wrap8, wrap8]
  rfl
theorem encode_ok (a1 a2 a3 a4 a5 a6 a7 a8 a9 : Int) (hr : ∀ z ∈ [a1, a2, a3, a4, a5, a6, a7, a8, a9], 0 ≤ z ∧ z < 4294967296) : Enters 57 ∧ Spec Tryz.prog 57 #[.agg #[.int .u32 a1, .int .u32 a2, .int .u32 a3, .int .u32 a4, .int .u32 a5, .int .u32 a6, .int .u32 a7, .int .u32 a8, .int .u32 a9]] [] []
    (RetV (.string ⟨(encR [a1, a2, a3, a4, a5, a6, a7, a8, a9]).toArray⟩)) := by
  have n1 := words_ok a1 a2 a3 a4 a5 a6 a7 a8 a9
  obtain ⟨g, hg⟩ : ∃ g, g = [a1, a2, a3, a4, a5, a6, a7, a8, a9] := ⟨_, rfl⟩
  have hgl : g.length = 9 := by rw [hg]; rfl
  obtain ⟨vs, hvs⟩ : ∃ vs : Array Value, vs = #[.int .u32 a1, .int .u32 a2, .int .u32 a3, .int .u32 a4, .int .u32 a5, .int .u32 a6, .int .u32 a7, .int .u32 a8, .int .u32 a9] := ⟨_, rfl⟩
  have hvg : vs = (g.map fun z => Value.int .u32 z).toArray := by rw [hvs, hg]; rfl
  rw [← hg] at hr ⊢
  refine ⟨enters_of Tryz.func57 (by kernel_rfl) rfl, spec_of (vs := [_]) Tryz.func57 rfl Tryz.ntmps57 rfl fun G w hp => ?_⟩
  refine k_shut (r := Row 5 1 none 0 0 []) (Lx := []) (fun h _ => row_nil _ _ h) ?_
  repeat' (first | refine l_run ?_ | refine l_nil ?_ | refine l_one ?_ | refine k_reg ?_ | refine l_ld ?_ | refine l_ldF ?_ | refine l_st ?_ | refine l_al (fun b => ?_) | refine l_bs (fun b => ?_) | refine k_condT ?_ | refine k_condF ?_ | refine l_call (n1) (fun _ _ => ?_) | refine l_call0 (n1) (fun _ _ => ?_) | (refine l_split (fun hc => ?_) (fun hc => ?_) <;> (try simp at hc)) | (refine k_cond (fun hc => ?_) (fun hc => ?_) <;> (try simp at hc)))
  refine k_lp (X := { t : Nat × Option Addr × Nat // t.1 ≤ 9 }) (fun t => [(3, .slice t.1.2.1 (encR (g.take t.1.1)).length t.1.2.2), (7, .agg vs), (8, .int .i64 (t.1.1 : Int))]) (fun _ => []) (fun t => [Row 5 1 t.1.2.1 (encR (g.take t.1.1)).length t.1.2.2 (byt (encR (g.take t.1.1)))]) (fun t => 9 - t.1.1)
    ⟨(0, none, 0), by omega⟩ ⟨rfl, by rw [hvs]; rfl, rfl, trivial⟩ ?_
  rintro ⟨⟨i, o, cap⟩, hi⟩
  dsimp only at hi ⊢
  by_cases hlt : i < 9
  · have wi : IntKind.i64.wrap ((i : Int) + 1) = ((i + 1 : Nat) : Int) := by rw [wrapi (by omega) (by omega)]; omega
    obtain ⟨z, hz⟩ : ∃ z, g[i]? = some z := ⟨_, List.getElem?_eq_getElem (by omega)⟩
    have hzr := hr z (List.mem_of_getElem? hz)
    have hv : vs[i]? = some (.int .u32 z) := by rw [hvg, List.getElem?_toArray, List.getElem?_map, hz]; rfl
    have hvl : vs.size = 9 := by rw [hvs]; rfl
    have htk : encR (g.take (i + 1)) = encR (g.take i) ++ encW z := by rw [List.take_add_one, hz]; simp [encR]
    have hpl : (encR (g.take i)).length ≤ 36 := by
      have : (encR (g.take i)).length = 4 * (g.take i).length := by
        generalize g.take i = l
        induction l with
        | nil => rfl
        | cons a l ih => simp only [encR, List.flatMap_cons, List.length_append, List.length_cons] at ih ⊢; rw [ih]; simp [encW]; omega
      rw [this, List.length_take]; omega
    generalize encR (g.take i) = pre at *
    repeat' (first | refine l_run ?_ | refine l_nil ?_ | refine l_one ?_ | refine k_reg ?_ | refine l_ld ?_ | refine l_ldF ?_ | refine l_st ?_ | refine l_al (fun b => ?_) | refine l_bs (fun b => ?_) | refine k_condT ?_ | refine k_condF ?_ | refine l_aixV i (.int .u32 z) hv ?_ (hm := hvl) | refine l_app1 (fun o' cap' => ?_) | rw [wi] | (refine l_split (fun hc => ?_) (fun hc => ?_) <;> (try simp at hc) <;> (try omega)) | (refine k_cond (fun hc => ?_) (fun hc => ?_) <;> (try simp at hc) <;> (try omega)))
    refine k_rowc (T := 5) (sz := 1) (o := o') (cap := cap') (m := pre.length + 4) (m' := (encR (g.take (i + 1))).length) (byt pre ++ [Value.int .u8 (IntKind.u8.wrap z), .int .u8 (IntKind.u8.wrap (z.fdiv (2 ^ min (Int.toNat 8) IntKind.u32.bits))), .int .u8 (IntKind.u8.wrap (z.fdiv (2 ^ min (Int.toNat 16) IntKind.u32.bits))), .int .u8 (IntKind.u8.wrap (z.fdiv (2 ^ min (Int.toNat 24) IntKind.u32.bits)))]) (byt (encR (g.take (i + 1)))) (by rw [htk]; simp [encW]) (by rw [htk, byt_append, byt_encW hzr]) ?_
    exact k_next ⟨(i + 1, o', cap'), by omega⟩ (by show 9 - (i + 1) < 9 - i; omega) ⟨(by show look _ _ = some (Value.slice o' (encR (g.take (i + 1))).length cap'); rw [htk, List.length_append]; rfl), rfl, rfl, trivial⟩
  · obtain rfl : i = 9 := by omega
    rw [List.take_of_length_le (by omega)]
    refine k_frz (T := 5) (f := bf) (encR g) ?_ (byt_flat _) rfl
    repeat' (first | refine l_run ?_ | refine l_nil ?_ | refine l_one ?_ | refine k_reg ?_ | refine l_ld ?_ | refine l_ldF ?_ | refine l_st ?_ | refine l_al (fun b => ?_) | refine l_bs (fun b => ?_) | refine k_condT ?_ | refine k_condF ?_ | refine k_brk ?_ | refine l_b2s ?_ | (refine l_split (fun hc => ?_) (fun hc => ?_) <;> (try simp at hc) <;> (try omega)) | (refine k_cond (fun hc => ?_) (fun hc => ?_) <;> (try simp at hc) <;> (try omega)))
    exact k_ret () rfl trivial
theorem wrap32 {k : Nat} (h : k < 4294967296) : IntKind.u32.wrap (k : Int) = (k : Int) := by
  simp [IntKind.wrap, IntKind.signed, IntKind.bits]
  omega
theorem orW_nat {a b : Nat} (ha : a < 4294967296) (hb : b < 4294967296) : orW (a : Int) (b : Int) = ((a ||| b : Nat) : Int) := by
  have h : (BitVec.ofInt IntKind.u32.bits (a : Int) ||| BitVec.ofInt IntKind.u32.bits (b : Int)).toNat = a ||| b := by
    rw [BitVec.toNat_or, BitVec.toNat_ofInt, BitVec.toNat_ofInt]
    congr 1
    · show ((a : Int) % 4294967296).toNat = a
      omega
    · show ((b : Int) % 4294967296).toNat = b
      omega
  unfold orW
  rw [h]
  exact wrap32 (Nat.or_lt_two_pow (n := 32) ha hb)
theorem shW_nat {a : Nat} (k : Nat) (m : Nat) (hm : 2 ^ min k 32 = m) (h : a * m < 4294967296) : shW (a : Int) (k : Int) = ((a * m : Nat) : Int) := by
  unfold shW
  have : ((a : Int) * 2 ^ min ((k : Int)).toNat IntKind.u32.bits) = ((a * m : Nat) : Int) := by
    rw [show ((k : Int)).toNat = k from rfl, show IntKind.u32.bits = 32 from rfl, ← hm]
    simp
  rw [this]
  exact wrap32 h
theorem wv_nat (c0 c1 c2 c3 : UInt8) : wv c0 c1 c2 c3 = ((c0.toNat + c1.toNat * 256 + c2.toNat * 65536 + c3.toNat * 16777216 : Nat) : Int) := by
  have h0 := c0.toNat_lt
  have h1 := c1.toNat_lt
  have h2 := c2.toNat_lt
  have h3 := c3.toNat_lt
  unfold wv wb
  generalize c0.toNat = a at *
  generalize c1.toNat = b at *
  generalize c2.toNat = c at *
  generalize c3.toNat = d at *
  rw [wrap32 (by omega), wrap32 (by omega), wrap32 (by omega), wrap32 (by omega), show (8 : Int) = ((8 : Nat) : Int) from rfl, show (16 : Int) = ((16 : Nat) : Int) from rfl, show (24 : Int) = ((24 : Nat) : Int) from rfl,
    shW_nat 8 256 rfl (by omega), shW_nat 16 65536 rfl (by omega), shW_nat 24 16777216 rfl (by omega)]
  have o1 : a ||| b * 256 = a + b * 256 := by
    have := Nat.shiftLeft_add_eq_or_of_lt (b := a) (i := 8) (by omega) b
    rw [Nat.shiftLeft_eq] at this
    rw [Nat.or_comm, ← this]; omega
  have o2 : (a + b * 256) ||| c * 65536 = a + b * 256 + c * 65536 := by
    have := Nat.shiftLeft_add_eq_or_of_lt (b := a + b * 256) (i := 16) (by omega) c
    rw [Nat.shiftLeft_eq] at this
    rw [Nat.or_comm, ← this]; omega
  have o3 : (a + b * 256 + c * 65536) ||| d * 16777216 = a + b * 256 + c * 65536 + d * 16777216 := by
    have := Nat.shiftLeft_add_eq_or_of_lt (b := a + b * 256 + c * 65536) (i := 24) (by omega) d
    rw [Nat.shiftLeft_eq] at this
    rw [Nat.or_comm, ← this]; omega
  rw [orW_nat (by omega) (by omega), o1, orW_nat (by omega) (by omega), o2, orW_nat (by omega) (by omega), o3]
theorem wv_encW {z : Int} (hz : 0 ≤ z ∧ z < 4294967296) : wv (UInt8.ofNat (z.toNat % 256)) (UInt8.ofNat (z.toNat / 256 % 256)) (UInt8.ofNat (z.toNat / 65536 % 256)) (UInt8.ofNat (z.toNat / 16777216 % 256)) = z := by
  rw [wv_nat]
  simp only [UInt8.toNat_ofNat']
  omega
theorem rgs_enc {a1 a2 a3 a4 a5 a6 a7 a8 a9 : Int} (hr : ∀ z ∈ [a1, a2, a3, a4, a5, a6, a7, a8, a9], 0 ≤ z ∧ z < 4294967296) : rgs ⟨(encR [a1, a2, a3, a4, a5, a6, a7, a8, a9]).toArray⟩ = [a1, a2, a3, a4, a5, a6, a7, a8, a9] := by
  simp only [List.mem_cons, List.not_mem_nil, or_false, forall_eq_or_imp, forall_eq] at hr
  obtain ⟨h1, h2, h3, h4, h5, h6, h7, h8, h9⟩ := hr
  have e := @wv_encW
  unfold rgs wd
  simp only [encR, List.flatMap_cons, List.flatMap_nil, encW, List.cons_append, List.nil_append]
  congr 1
  · exact wv_encW h1
  congr 1
  · exact wv_encW h2
  congr 1
  · exact wv_encW h3
  congr 1
  · exact wv_encW h4
  congr 1
  · exact wv_encW h5
  congr 1
  · exact wv_encW h6
  congr 1
  · exact wv_encW h7
  congr 1
  · exact wv_encW h8
  congr 1
  · exact wv_encW h9
theorem setRegs_ok (b : Nat) (ps : Option Addr) (rs : List (Nm × Ch)) (cs : List Ch) (who : ByteArray) (hw : who.size ≤ 1000) (hv : lvalid who.data.toList = true) (hl : cs.length ≤ 1000000) (a1 a2 a3 a4 a5 a6 a7 a8 a9 : Int) (hr : ∀ z ∈ [a1, a2, a3, a4, a5, a6, a7, a8, a9], 0 ≤ z ∧ z < 4294967296) :
    Enters 13 ∧ Spec Tryz.prog 13 #[.pointer (some ⟨b, 0, none⟩), .string who, .agg #[.int .u32 a1, .int .u32 a2, .int .u32 a3, .int .u32 a4, .int .u32 a5, .int .u32 a6, .int .u32 a7, .int .u32 a8, .int .u32 a9]] [Usg] [Vw b ps rs cs]
    ⟨Unit, fun _ => .int .i64 0, fun _ => True, fun _ => [], fun _ => [Vw b ps rs (cs ++ [⟨rnm who, ⟨(encR [a1, a2, a3, a4, a5, a6, a7, a8, a9]).toArray⟩, false⟩])]⟩ := by
  have n1 := valid_ok who (by omega)
  rw [hv] at n1
  have n2 := ofRegisters_ok who
  have n3 := encode_ok a1 a2 a3 a4 a5 a6 a7 a8 a9 hr
  have hsz : (⟨(encR [a1, a2, a3, a4, a5, a6, a7, a8, a9]).toArray⟩ : ByteArray).size = 36 := by show (List.toArray _).size = 36; rw [List.size_toArray]; rfl
  generalize (⟨(encR [a1, a2, a3, a4, a5, a6, a7, a8, a9]).toArray⟩ : ByteArray) = ec at *
  have n4 := vwSet_ok b ps rs cs (rnm who) ec (by show who.size ≤ _; omega) (Nat.zero_le _) hl
  have e4 : vset cs (rnm who) ec = (0, cs ++ [⟨rnm who, ec, false⟩]) := by
    unfold vset
    rw [if_neg (by rw [chk_rnm hv]; simp), if_neg (by omega)]
  rw [e4] at n4
  generalize b = bv at *
  refine ⟨enters_of Tryz.func13 (by kernel_rfl) rfl, spec_of (vs := [_, _, _]) Tryz.func13 rfl Tryz.ntmps13 rfl fun G w hp => ?_⟩
  repeat' (first | refine l_run ?_ | refine l_nil ?_ | refine l_one ?_ | refine k_reg ?_ | refine l_ld ?_ | refine l_ldF ?_ | refine l_st ?_ | refine l_al (fun b => ?_) | refine l_bs (fun b => ?_) | refine k_condT ?_ | refine k_condF ?_ | refine k_brk ?_ | refine r_run ?_ | refine r_one ?_ | refine r_ld ?_ | refine r_ldF ?_ | refine r_ldN ?_ | refine r_al (fun b => ?_) | refine r_bs (fun b => ?_) | refine r_st ?_ | refine r_end ?_ | refine l_call (n1) (fun _ _ => ?_) | refine l_call0 (n1) (fun _ _ => ?_) | refine r_call (n1) (fun _ _ => ?_) | refine r_callP (n1) (fun _ _ => ?_) | refine l_call (n2) (fun _ _ => ?_) | refine l_call0 (n2) (fun _ _ => ?_) | refine r_call (n2) (fun _ _ => ?_) | refine r_callP (n2) (fun _ _ => ?_) | refine l_call (n3) (fun _ _ => ?_) | refine l_call0 (n3) (fun _ _ => ?_) | refine r_call (n3) (fun _ _ => ?_) | refine r_callP (n3) (fun _ _ => ?_) | refine l_call (n4) (fun _ _ => ?_) | refine l_call0 (n4) (fun _ _ => ?_) | refine r_call (n4) (fun _ _ => ?_) | refine r_callP (n4) (fun _ _ => ?_) | (refine l_split (fun hc => ?_) (fun hc => ?_) <;> (try simp at hc) <;> (try omega)) | (refine r_split (fun hc => ?_) (fun hc => ?_) <;> (try simp at hc) <;> (try omega)) | refine k_draw 5 [Vw _ _ _ _] [(0, 0), (1, 0), (3, 0), (2, 5), (4, 4), (5, 4), (6, 0)] [] ?_ | (refine k_cond (fun hc => ?_) (fun hc => ?_) <;> (try simp at hc) <;> (try omega)))
  exact k_ret () rfl trivial
end Go.Proofs.YtgaipgbgppdfeaaGreatDoor
