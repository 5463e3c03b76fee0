/-
  The law OutputWaiting.
  Conditions: those that each theorem states.
-/
import Derived.Test.YtiggkcknmjgicaaGreatDoorLS39
import Derived.Test.YtiggkcknmjgicaaGreatDoorLW39P
import Derived.Test.YtiggkcknmjgicaaGreatDoorNilS
set_option maxRecDepth 10000
namespace Go.Proofs.YtiggkcknmjgicaaGreatDoor
open Go.RowKit

def WtV (b : Nat) (ls : List Lf) (l : List En) : Post := ⟨Option Addr × Nat, fun q => .slice q.1 l.length q.2, fun _ => True, fun _ => [], fun q => [Lg b ls, Row 74 7 q.1 l.length q.2 (l.flatMap enf)]⟩
theorem wtG_to {f : FuncId} {args : Array Value} {F : List Pf} {R : List HP} {b : Nat} {all : List En} {ls : List Lf} {V : List En} (h : Enters f ∧ Spec Tryz.prog f args F R (WtG b all ls)) (hV : isR cmpT (wtL (idm ls) all) = V) : Enters f ∧ Spec Tryz.prog f args F R (WtV b ls V) :=
  ⟨h.1, h.2.imp fun G w hp x w' hx hs => by
    obtain ⟨l, o, c⟩ := x
    have hl : l = V := (show l = isR cmpT (wtL (idm ls) all) from hx).trans hV
    subst hl
    exact ⟨(o, c), rfl, trivial, hs⟩⟩
theorem cmpDw_ok (a c : En) (ha : 0 ≤ a.tk ∧ a.tk ≤ 1073741824) (hc : 0 ≤ c.tk ∧ c.tk ≤ 1073741824) : Enters 32 ∧ Spec Tryz.prog 32 #[a.w, c.w] [] [] (RetV (.int .i64 (cmpD a c))) := by
  have wd : IntKind.i64.wrap (a.tk - c.tk) = cmpD a c := wrapi (by omega) (by omega)
  refine ⟨enters_of Tryz.func32 (by kernel_rfl) rfl, spec_of (vs := [_, _]) Tryz.func32 rfl Tryz.ntmps32 rfl fun G w hp => ?_⟩
  repeat' (first | refine l_run ?_ | refine l_nil ?_ | refine l_one ?_ | refine k_reg ?_ | refine l_ld ?_ | refine l_ldF ?_ | refine l_st ?_ | refine l_al (fun b => ?_) | refine l_bs (fun b => ?_) | refine k_condT ?_ | refine k_condF ?_ | refine k_brk ?_ | (refine l_split (fun hc => ?_) (fun hc => ?_) <;> (try simp at hc)) | (refine k_cond (fun hc => ?_) (fun hc => ?_) <;> (try simp at hc)))
  rw [wd]
  exact k_ret () rfl trivial

set_option maxHeartbeats 4000000 in
theorem lawOWaiting_ok (o1 : Option Addr) (c1 : Nat) (l : List Sn) (z : Int) (other : ByteArray) (hl : l.length ≤ 1099511627776) : Enters 7 ∧ Spec Tryz.prog 7 #[.slice o1 l.length c1, .int .u32 z, .string other] [Sl 135 snf o1 c1 l, Usg] [] (RetV (.bool true)) := by
  have n1 := sends39_ok o1 c1 l hl
  obtain ⟨hS, hSl⟩ := sok_run (l.take 20)
  have hel := hS.el
  have hal : (allE (sRun (l.take 20)).es).length ≤ 20 := by
    have h2 := allE_len hS
    rw [List.length_take] at hSl
    omega
  have hnd := id_nodup hS
  have hgood : ∀ e ∈ allE (sRun (l.take 20)).es, lvalid e.who.data.toList = true ∧ e.who.size ≤ 1000 ∧ (0 ≤ e.nu ∧ e.nu ≤ 1048576) ∧ (0 ≤ e.tk ∧ e.tk ≤ 1073741824) ∧ ochk e.o = 0 := fun e he => by
    obtain ⟨h1, h2, k, hk, hw, m, hm1, hm2⟩ := hS.al e ((allE_mem hS e).1 he)
    have h3 := hS.cb k
    rw [List.length_take] at hSl
    have h4 := mk39_valid ⟨k, hk⟩
    have h5 := mk39_size ⟨k, hk⟩
    rw [hw]
    exact ⟨h4, Nat.le_trans h5 (by omega), by omega, h2, h1⟩
  unfold SnPost at n1
  have hsz := cutS_size other 100
  have n2 := waitG_ok
  have n3 := equalEn_ok
  have nW := fun b ps (ls : List Lf) (hls : ls.length ≤ 1000000) => waitG_ok b ps (St ps (sRun (l.take 20)).es) (allE (sRun (l.take 20)).es) ls hal hls (outAll_ok ps _)
  have nZ := fun b (ls : List Lf) (hls : ls.length ≤ 1000000) => waitG_ok b none Usg [] ls (by decide) hls outAllNil_ok
  generalize (sRun (l.take 20)).es = es at *
  generalize allE es = all at *
  clear n2 n3
  refine ⟨enters_of Tryz.func7 (by kernel_rfl) rfl, spec_of (vs := [_, _, _]) Tryz.func7 rfl Tryz.ntmps7 rfl fun G w hp => ?_⟩
  repeat' (first | refine l_run ?_ | refine l_nil ?_ | refine l_one ?_ | refine k_reg ?_ | refine l_ld ?_ | refine l_ldF ?_ | refine l_st ?_ | refine l_al (fun b => ?_) | refine l_bs (fun b => ?_) | refine k_condT ?_ | refine k_condF ?_ | refine k_brk ?_ | refine l_call (n1) (fun _ _ => ?_) | refine l_call0 (n1) (fun _ _ => ?_) | (refine l_split (fun hc => ?_) (fun hc => ?_) <;> (try simp at hc)) | (refine k_cond (fun hc => ?_) (fun hc => ?_) <;> (try simp at hc)))
  rename_i q _
  obtain ⟨bs, o, cap⟩ := q
  dsimp only
  refine l_frz (T := 74) (sz := 7) (f := enf) (o := o) (cap := cap) (m := all.length) (xs := all.flatMap enf) all ?_ rfl rfl
  repeat' (first | refine l_run ?_ | refine l_nil ?_ | refine l_one ?_ | refine k_reg ?_ | refine l_ld ?_ | refine l_ldF ?_ | refine l_st ?_ | refine l_al (fun b => ?_) | refine l_bs (fun b => ?_) | refine k_condT ?_ | refine k_condF ?_ | refine l_call (known39_ok) (fun _ _ => ?_) | refine l_call0 (known39_ok) (fun _ _ => ?_) | refine l_call (newLedger_ok) (fun _ _ => ?_) | refine l_call0 (newLedger_ok) (fun _ _ => ?_) | (refine l_split (fun hc => ?_) (fun hc => ?_) <;> (try simp at hc) <;> (try omega)) | (refine k_cond (fun hc => ?_) (fun hc => ?_) <;> (try simp at hc) <;> (try omega)))
  rename_i gl _
  refine k_shut (Lx := []) (r := Row 74 7 none 0 0 []) (fun h _ => row_nil _ _ h) ?_
  refine k_lp (X := { t : Nat × List En × List Lf × Option Addr × Nat // t.1 ≤ all.length ∧ Sp (all.take t.1) t.2.1 t.2.2.1 }) (fun t => [(1, .int .u32 z), (2, .string other), (7, .pointer (some ⟨bs, 0, none⟩)), (8, .slice o all.length cap), (10, .pointer (some ⟨gl, 0, none⟩)), (11, .slice t.1.2.2.2.1 t.1.2.1.length t.1.2.2.2.2), (12, .int .i64 (t.1.1 : Int))]) (fun _ => [Sl 74 enf o cap all, Usg, St (some ⟨bs, 0, none⟩) es])
    (fun t => [Lg gl t.1.2.2.1, Row 74 7 t.1.2.2.2.1 t.1.2.1.length t.1.2.2.2.2 (t.1.2.1.flatMap enf)]) (fun t => all.length - t.1.1) ⟨(0, [], [], none, 0), Nat.zero_le _, Sp.nil⟩ ⟨rfl, rfl, rfl, rfl, rfl, rfl, rfl, trivial⟩ ?_
  rintro ⟨⟨i, ws, ls, wo, wc⟩, hi, hsp⟩
  dsimp only at hi hsp ⊢
  have hlen := hsp.len
  by_cases hlt : i < all.length
  · obtain ⟨x, hx⟩ : ∃ x, all[i]? = some x := ⟨_, List.getElem?_eq_getElem hlt⟩
    have htk : all.take (i + 1) = all.take i ++ [x] := by rw [List.take_add_one, hx]; rfl
    have wi : IntKind.i64.wrap ((i : Int) + 1) = ((i + 1 : Nat) : Int) := by rw [wrapi (by omega) (by omega)]; omega
    obtain ⟨g1, g2, g3, g4, g5⟩ := hgood x (List.mem_of_getElem? hx)
    have hll : ls.length ≤ 20 ∧ ws.length ≤ 20 := by rw [List.length_take] at hlen; omega
    have m1 := leave_ok gl ls ⟨⟨x.who, x.nu, x.tk, x.o⟩, 9, 0⟩ (by show x.who.size ≤ _; omega) (by omega)
    rw [lvPost_ok (leave_good g1 g3 g4 g5 (by omega) hsp.tm)] at m1
    have m2 := leave_ok gl ls ⟨⟨x.who, x.nu, x.tk, ⟨x.o.ch, x.o.tg, cutS other 100, x.o.us⟩⟩, 9, 0⟩ (by show x.who.size ≤ _; omega) (by omega)
    rw [lvPost_ok (leave_good g1 g3 g4 (ochk_tx g5 (by omega)) (by omega) hsp.tm)] at m2
    repeat' (first | refine l_run ?_ | refine l_nil ?_ | refine l_one ?_ | refine k_reg ?_ | refine l_ld ?_ | refine l_ldF ?_ | refine l_st ?_ | refine l_al (fun b => ?_) | refine l_bs (fun b => ?_) | refine k_condT ?_ | refine k_condF ?_ | refine l_call (m1) (fun _ _ => ?_) | refine l_call0 (m1) (fun _ _ => ?_) | refine l_call (m2) (fun _ _ => ?_) | refine l_call0 (m2) (fun _ _ => ?_) | refine l_cutS 100 ?_ | refine l_ixe (es := all) i x hx (fun b off => ?_) | refine l_ldC ?_ | refine l_app1 (fun o' cap' => ?_) | (refine l_split (fun hc => ?_) (fun hc => ?_) <;> (try simp at hc) <;> (try omega)) | (refine k_cond (fun hc => ?_) (fun hc => ?_) <;> (try simp at hc) <;> (try omega)))
    all_goals rw [wi]
    · refine k_rowc (T := 74) (sz := 7) (o := o') (cap := cap') (m := ws.length + 1) (m' := (ws ++ [x]).length) (ws.flatMap enf ++ enf x) ((ws ++ [x]).flatMap enf) (by simp) (by simp) ?_
      exact k_next ⟨(i + 1, ws ++ [x], ls, o', cap'), by show i + 1 ≤ all.length; omega, by show Sp (all.take (i + 1)) _ _; rw [htk]; exact hsp.wait x⟩ (by show all.length - (i + 1) < all.length - i; omega) ⟨rfl, rfl, rfl, rfl, rfl, (by show look _ _ = some (Value.slice o' (ws ++ [x]).length cap'); rw [List.length_append]; rfl), rfl, trivial⟩
    · exact k_next ⟨(i + 1, ws, ls ++ [⟨⟨x.who, x.nu, x.tk, ⟨x.o.ch, x.o.tg, cutS other 100, x.o.us⟩⟩, 9, 0⟩], wo, wc), by show i + 1 ≤ all.length; omega, by show Sp (all.take (i + 1)) _ _; rw [htk]; exact hsp.left x _ rfl rfl rfl⟩ (by show all.length - (i + 1) < all.length - i; omega) ⟨rfl, rfl, rfl, rfl, rfl, rfl, rfl, trivial⟩
    · exact k_next ⟨(i + 1, ws, ls ++ [⟨⟨x.who, x.nu, x.tk, x.o⟩, 9, 0⟩], wo, wc), by show i + 1 ≤ all.length; omega, by show Sp (all.take (i + 1)) _ _; rw [htk]; exact hsp.left x _ rfl rfl rfl⟩ (by show all.length - (i + 1) < all.length - i; omega) ⟨rfl, rfl, rfl, rfl, rfl, rfl, rfl, trivial⟩
  · obtain rfl : i = all.length := by omega
    rw [List.take_length] at hsp hlen
    have hsub := (hsp.filt hnd).2.2
    have hwt := hsp.wt hnd
    have e1 : isR cmpT (wtL (idm ls) all) = isR cmpD ws := by rw [hwt]; exact (isR_congr cmpD_T ws).symm
    have m1 := sortStableE_ok wo wc ws 32 Usg cmpD (by omega) (fun x y hx hy => ⟨(cmpDw_ok x y (hgood x (hsub x hx)).2.2.2.1 (hgood y (hsub y hy)).2.2.2.1).1, (cmpDw_ok x y (hgood x (hsub x hx)).2.2.2.1 (hgood y (hsub y hy)).2.2.2.1).2.more⟩)
    have m2 := wtG_to (nW gl (some ⟨bs, 0, none⟩) ls (by omega)) e1
    have m3 := wtG_to (nZ gl ls (by omega)) (V := []) rfl
    have hVl : ws.length = (isR cmpD ws).length := (isR_len ws).symm
    have m4 := fun o2 c2 o3 c3 => equalEn_ok o2 o3 c2 c3 (isR cmpD ws) (by omega)
    unfold WtV at m2 m3
    repeat' (first | refine l_run ?_ | refine l_nil ?_ | refine l_one ?_ | refine k_reg ?_ | refine l_ld ?_ | refine l_ldF ?_ | refine l_st ?_ | refine l_al (fun b => ?_) | refine l_bs (fun b => ?_) | refine k_condT ?_ | refine k_condF ?_ | refine k_brk ?_ | refine l_call (m1) (fun _ _ => ?_) | refine l_call0 (m1) (fun _ _ => ?_) | (refine l_split (fun hc => ?_) (fun hc => ?_) <;> (try simp at hc) <;> (try omega)) | (refine k_cond (fun hc => ?_) (fun hc => ?_) <;> (try simp at hc) <;> (try omega)))
    rw [hVl] at *
    generalize isR cmpD ws = V at *
    refine l_frz (T := 74) (sz := 7) (f := enf) (o := wo) (cap := wc) (m := V.length) (xs := V.flatMap enf) V ?_ rfl rfl
    repeat' (first | refine l_run ?_ | refine l_nil ?_ | refine l_one ?_ | refine k_reg ?_ | refine l_ld ?_ | refine l_ldF ?_ | refine l_st ?_ | refine l_al (fun b => ?_) | refine l_bs (fun b => ?_) | refine k_condT ?_ | refine k_condF ?_ | refine k_brk ?_ | refine l_call (m2) (fun _ _ => ?_) | refine l_call0 (m2) (fun _ _ => ?_) | refine l_call (m3) (fun _ _ => ?_) | refine l_call0 (m3) (fun _ _ => ?_) | refine l_call (m4 _ _ _ _) (fun _ _ => ?_) | refine l_call0 (m4 _ _ _ _) (fun _ _ => ?_) | refine l_frz (T := 74) (sz := 7) (f := enf) (m := V.length) (xs := V.flatMap enf) V ?_ rfl rfl | (refine l_split (fun hc => ?_) (fun hc => ?_) <;> (try simp at hc) <;> (try omega)) | (refine k_cond (fun hc => ?_) (fun hc => ?_) <;> (try simp at hc) <;> (try omega)))
    all_goals refine k_ret () ?_ trivial
    all_goals simp [RetV, resV]
end Go.Proofs.YtiggkcknmjgicaaGreatDoor
