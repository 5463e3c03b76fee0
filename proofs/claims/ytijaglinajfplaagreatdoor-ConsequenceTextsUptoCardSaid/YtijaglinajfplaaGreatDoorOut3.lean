/-
  The contract of output.All.
  Conditions: those that the theorem states.
-/
import Derived.Test.YtijaglinajfplaaGreatDoorOut2
set_option maxRecDepth 10000
namespace Go.Proofs.YtijaglinajfplaaGreatDoor
open Go.RowKit

section
variable {n : Nat} {C : Cx} {Q : Exit → Act → World → Prop} {E E' : List (Nat × Value)} {F : List Pf} {R R0 : List HP} {k : List Fr}
/-- The cells of an owned slice, written otherwise. -/
theorem k_rowc {T sz m m' cap : Nat} {o : Option Addr} (xs xs' : List Value) (hm : m = m') (hx : xs = xs') (t : Wk n C k Q E F (Row T sz o m' cap xs' :: R0)) (hs : Sel (Row T sz o m cap xs) R R0 := by (repeat (first | exact Sel.here | apply Sel.there)); first | done | fail) : Wk n C k Q E F R := by
  subst hm; subst hx
  exact fun a w ha hsat => t a w ha (hsat.sel hs)
end

theorem getO_some {a : Nm} : ∀ {l : Al} {v : ByteArray}, getO a l = some v → (a, v) ∈ l
  | [], _, h => by cases h
  | (b, u) :: l, v, h => by
    rw [getO] at h
    split at h
    · rename_i h0
      obtain rfl := (cmpO_eq a b).1 h0
      obtain rfl := Option.some.inj h
      simp
    · exact List.mem_cons_of_mem _ (getO_some h)

/-- The entry of a name. -/
def entO (es : Al) (a : Nm) : Option En := (odec ((getO a es).getD ⟨#[]⟩)).map fun o => ⟨a.owner, a.number, a.index, o⟩
def allN (es : Al) (ns : List Nm) : List En := ns.filterMap (entO es)
/-- The outputs of a state. -/
def allE (es : Al) : List En := allN es (kn es 18)

theorem allN_snoc (es : Al) (ns : List Nm) (a : Nm) : allN es (ns ++ [a]) = allN es ns ++ (entO es a).toList := by
  unfold allN
  rw [List.filterMap_append]
  cases h : entO es a <;> simp [h]

structure AX (es : Al) where
  i : Nat
  o : Option Addr
  cap : Nat
  hi : i ≤ (kn es 18).length

set_option maxHeartbeats 1000000 in
theorem outAll_ok (ps : Option Addr) (es : Al) : Enters 58 ∧ Spec Tryz.prog 58 #[.pointer ps] [St ps es] []
    ⟨Option Addr × Nat, fun q => .slice q.1 (allE es).length q.2, fun _ => True, fun q => [Sl 78 enf q.1 q.2 (allE es)], fun _ => []⟩ := by
  refine ⟨enters_of Tryz.func58 (by kernel_rfl) rfl, spec_of (vs := [_]) Tryz.func58 rfl Tryz.ntmps58 rfl fun G w hp => ?_⟩
  refine k_st (ps := ps) (es := es) (fun bs p t hp he hok => ?_)
  have hkl : (kn es 18).length ≤ 65536 := by
    have h1 : (kn es 18).length ≤ es.length := by simp only [kn, List.length_map]; exact List.length_filter_le ..
    have := hok.len
    omega
  repeat' (first | refine l_run ?_ | refine l_nil ?_ | refine l_one ?_ | refine k_reg ?_ | refine l_ld ?_ | refine l_ldF ?_ | refine l_st ?_ | refine l_al (fun b => ?_) | refine l_bs (fun b => ?_) | refine k_condT ?_ | refine k_condF ?_ | refine k_brk ?_ | refine l_call (kind_ok ps es 18) (fun _ _ => ?_) | refine l_call0 (kind_ok ps es 18) (fun _ _ => ?_) | refine l_split (fun hc => ?_) (fun hc => ?_) | refine k_cond (fun hc => ?_) (fun hc => ?_))
  rename_i q _
  obtain ⟨qo, qc⟩ := q
  refine k_shut (Lx := []) (r := Row 78 7 none 0 0 []) (fun h _ => row_nil _ _ h) ?_
  refine k_lp (X := AX es) (fun x => [(0, .pointer ps), (3, .slice x.o (allN es ((kn es 18).take x.i)).length x.cap), (11, .slice qo (kn es 18).length qc), (12, .int .i64 ((kn es 18).length : Int)), (13, .int .i64 (x.i : Int))]) (fun _ => [St ps es, Sl 70 nmf qo qc (kn es 18)]) (fun x => [Row 78 7 x.o (allN es ((kn es 18).take x.i)).length x.cap ((allN es ((kn es 18).take x.i)).flatMap enf)]) (fun x => (kn es 18).length - x.i) ⟨0, none, 0, by omega⟩ ⟨rfl, rfl, rfl, rfl, rfl, trivial⟩ ?_
  rintro ⟨i, o, cap, hi⟩
  dsimp only
  by_cases hlt : i < (kn es 18).length
  · obtain ⟨a, ha⟩ : ∃ a, (kn es 18)[i]? = some a := ⟨_, List.getElem?_eq_getElem hlt⟩
    have hmem : a ∈ kn es 18 := List.mem_of_getElem? ha
    obtain ⟨x, hx, rfl⟩ := List.mem_map.1 hmem
    have hown := hok.own x (List.mem_filter.1 hx).1
    have hval : ((getO x.1 es).getD ⟨#[]⟩).size ≤ 65536 := by
      cases hg : getO x.1 es with
      | none => exact Nat.zero_le _
      | some v => exact hok.val _ (getO_some hg)
    have n1 := stateGet_ok ps es x.1 hown
    have n2 := outDecode_ok ((getO x.1 es).getD ⟨#[]⟩) (by omega)
    have hsn : (kn es 18).take (i + 1) = (kn es 18).take i ++ [x.1] := by rw [List.take_add_one, ha]; rfl
    have hall := allN_snoc es ((kn es 18).take i) x.1
    rw [← hsn] at hall
    have hln : (allN es ((kn es 18).take i)).length ≤ 65536 := by
      have h1 : (allN es ((kn es 18).take i)).length ≤ ((kn es 18).take i).length := List.length_filterMap_le _ _
      simp at h1; omega
    cases hd : odec ((getO x.1 es).getD ⟨#[]⟩) with
    | none =>
      rw [hd] at n2
      have hent : entO es x.1 = none := by rw [entO, hd]; rfl
      rw [hent, Option.toList_none, List.append_nil] at hall
      repeat' (first | refine l_run ?_ | refine l_nil ?_ | refine l_one ?_ | refine k_reg ?_ | refine l_ld ?_ | refine l_ldF ?_ | refine l_st ?_ | refine l_al (fun b => ?_) | refine l_bs (fun b => ?_) | refine k_condT ?_ | refine k_condF ?_ | refine k_brk ?_ | refine l_call (n1) (fun _ _ => ?_) | refine l_call0 (n1) (fun _ _ => ?_) | refine l_call (n2) (fun _ _ => ?_) | refine l_call0 (n2) (fun _ _ => ?_) | refine l_ixe (es := kn es 18) i x.1 ha (fun b off => ?_) | refine l_ldC ?_ | (refine l_split (fun hc => ?_) (fun hc => ?_) <;> (try simp at hc) <;> (try omega)) | (refine k_cond (fun hc => ?_) (fun hc => ?_) <;> (try simp at hc) <;> (try omega)))
      rw [wrapi (z := (i : Int) + 1) (by omega) (by omega)]
      rw [← hall]
      exact k_next ⟨i + 1, o, cap, by omega⟩ (by show (kn es 18).length - (i + 1) < (kn es 18).length - i; omega) ⟨rfl, rfl, rfl, rfl, rfl, trivial⟩
    | some ou =>
      rw [hd] at n2
      have hent : entO es x.1 = some ⟨x.1.owner, x.1.number, x.1.index, ou⟩ := by rw [entO, hd]; rfl
      rw [hent, Option.toList_some] at hall
      have e1 : (allN es ((kn es 18).take i)).length + 1 = (allN es ((kn es 18).take (i + 1))).length := by rw [hall]; simp
      have e2 : (allN es ((kn es 18).take i)).flatMap enf ++ enf ⟨x.1.owner, x.1.number, x.1.index, ou⟩ = (allN es ((kn es 18).take (i + 1))).flatMap enf := by rw [hall]; simp
      repeat' (first | refine l_run ?_ | refine l_nil ?_ | refine l_one ?_ | refine k_reg ?_ | refine l_ld ?_ | refine l_ldF ?_ | refine l_st ?_ | refine l_al (fun b => ?_) | refine l_bs (fun b => ?_) | refine k_condT ?_ | refine k_condF ?_ | refine k_brk ?_ | refine l_call (n1) (fun _ _ => ?_) | refine l_call0 (n1) (fun _ _ => ?_) | refine l_call (n2) (fun _ _ => ?_) | refine l_call0 (n2) (fun _ _ => ?_) | refine l_ixe (es := kn es 18) i x.1 ha (fun b off => ?_) | refine l_ldC ?_ | refine l_app1 (fun o' cap' => ?_) | (refine l_split (fun hc => ?_) (fun hc => ?_) <;> (try simp at hc) <;> (try omega)) | (refine k_cond (fun hc => ?_) (fun hc => ?_) <;> (try simp at hc) <;> (try omega)))
      rw [wrapi (z := (i : Int) + 1) (by omega) (by omega)]
      refine k_rowc (T := 78) (sz := 7) (o := o') (cap := cap') (m := (allN es ((kn es 18).take i)).length + 1) _ _ e1 e2 ?_
      rw [e1]
      exact k_next ⟨i + 1, o', cap', by omega⟩ (by show (kn es 18).length - (i + 1) < (kn es 18).length - i; omega) ⟨rfl, rfl, rfl, rfl, rfl, trivial⟩
  · have e : (kn es 18).take i = kn es 18 := List.take_of_length_le (by omega)
    rw [e]
    repeat' (first | refine l_run ?_ | refine l_nil ?_ | refine l_one ?_ | refine k_reg ?_ | refine l_ld ?_ | refine l_ldF ?_ | refine l_st ?_ | refine l_al (fun b => ?_) | refine l_bs (fun b => ?_) | refine k_condT ?_ | refine k_condF ?_ | refine k_brk ?_ | (refine l_split (fun hc => ?_) (fun hc => ?_) <;> (try simp at hc) <;> (try omega)) | (refine k_cond (fun hc => ?_) (fun hc => ?_) <;> (try simp at hc) <;> (try omega)))
    refine k_frz (T := 78) (sz := 7) (f := enf) (o := o) (cap := cap) (allE es) ?_ rfl rfl
    exact k_ret (o, cap) rfl trivial
end Go.Proofs.YtijaglinajfplaaGreatDoor
