/-
  The law RuleHolds.
  Conditions: those that each theorem states.
-/
import Derived.Test.YtodkipbnefngkaaGreatDoorP5
set_option maxRecDepth 10000
namespace Go.Proofs.YtodkipbnefngkaaGreatDoor
open Go.RowKit Go.Proofs.Tryz
set_option maxHeartbeats 8000000 in
theorem lawHolds_ok (s:ByteArray) (i:Int) (c:Cq) (_:CqW c):Enters 8∧Spec prog 8 #[.string s,.int .i64 i,cqa c] [ErA,P10,MxL] [] (RetV (.bool true)):=by
 have n0:=VV c
 have hq:=shF_s c
 generalize shF c=e at *
 have n1:=Ww
 have n2:=cutM_ok s
 have hcz:=Ya s 1000
 generalize cutS s 1000=u at *
 have p1:=Y3 u (by omega)
 have p2:=Wu u (by omega)
 rcases par_both u with ⟨k,e1,e2,hk,hk1,hk2⟩|⟨x,e1,e2,hx⟩
 ·rw [e1] at p2
  rw [e2] at p1
  have p2:Enters 27∧Spec prog 27 #[.string u] [MxL] [] ⟨List LC×Option Addr×Nat,fun q=>.tuple #[.slice q.2.1 q.1.length q.2.2,.int .i64 0,.int .i64 0,.int .i64 0],fun q=>q.1.length=k.length,fun q=>[lnS q.2.1 q.2.2 q.1,LnsF k q.1],fun _=>[]⟩:=p2
  have h1:=fun b=>ruHolds_ok b (k.map ruC) i e hq (show u.size≤100000 by omega) hk2
  have hml:(k.map ruC).length=k.length:=List.length_map _
  by_cases hi:0≤i∧i<(k.length:Int)
  ·obtain ⟨j,rfl⟩:∃j:Nat,i=(j:Int):=⟨i.toNat,by omega⟩
   have hlt:j<k.length:=by omega
   have hxj:=List.getElem?_eq_getElem hlt
   obtain ⟨hxw,hxs⟩:=hk _ (List.getElem_mem hlt)
   have hv:hoV (k.map ruC) (j:Int) e = .tuple #[.bool (condH e (ruC k[j])),.int .i64 0]:=by
    unfold hoV
    rw [if_pos hi.1,Int.toNat_natCast,List.getElem?_map,hxj]
    rfl
   rw [hv] at h1
   have hcd:=condH_ru e k[j] hxw
   generalize k[j]=x at *
   refine ZT [_,_,_] func8 ntmps8 fun G w hp=>?_
   repeat' (first|refine ZG ?_|refine ZF ?_|refine ZJ ?_|refine ZH ?_|refine ZL ?_|refine ZI ?_|refine ZN ?_|refine ZO (fun b=>?_)|refine ZM (fun b=>?_)|refine ZB ?_|refine ZD ?_|refine ZP ?_|refine ZA (n0) (fun _ _=>?_)|refine l_call0 (n0) (fun _ _=>?_)|refine ZA (n1) (fun _ _=>?_)|refine l_call0 (n1) (fun _ _=>?_)|refine ZA (n2) (fun _ _=>?_)|refine l_call0 (n2) (fun _ _=>?_)|refine ZA (p1) (fun _ _=>?_)|refine l_call0 (p1) (fun _ _=>?_)|refine ZA (p2) (fun _ _=>?_)|refine l_call0 (p2) (fun _ _=>?_)|refine ZA (h1 _) (fun _ _=>?_)|refine l_call0 (h1 _) (fun _ _=>?_)|(refine ZC (fun hc=>?_) (fun hc=>?_)<;>(try simp at hc)<;>(try omega))|(refine ZE (fun hc=>?_) (fun hc=>?_)<;>(try simp at hc)<;>(try omega)))
   rename_i q hql _ _ _ _ _ _
   obtain ⟨vs,o,cap⟩:=q
   have hql:vs.length=k.length:=hql
   have hjv:(j:Int)<(vs.length:Int):=by omega
   have hyj:=List.getElem?_eq_getElem (show j<vs.length by omega)
   refine XD (f:=LnsF k vs) (by repeat (first|exact Sel.here|apply Sel.there)) (fun h hh=>ln_open hxj hyj h hh) (fun q hq2=>?_)
   generalize vs[j]=y at *
   obtain ⟨g1,g2,g3⟩:=hq2
   obtain ⟨yp,yk,yt⟩:=y
   obtain ⟨bt,tc⟩:=q
   obtain ⟨xc,xk,xt⟩:=x
   dsimp only at g1 g2 g3 hcd
   subst g2;subst g3
   rw [hcd]
   cases xc with
   | none=>
    have g1:yp=none:=g1
    subst g1
    repeat' (first|refine ZG ?_|refine ZF ?_|refine ZJ ?_|refine ZH ?_|refine ZL ?_|refine ZI ?_|refine ZN ?_|refine ZO (fun b=>?_)|refine ZM (fun b=>?_)|refine ZB ?_|refine ZD ?_|refine ZP ?_|refine ZX ?_|refine ZZ ?_|refine Zg ?_|refine ZY ?_|refine ZW ?_|refine Zh (fun b=>?_)|refine Zf (fun b=>?_)|refine Ze ?_|refine ZV ?_|refine YK (es:=vs) (f:=lnf) j _ hyj (fun b off=>?_)|refine YL ?_|(refine ZC (fun hc=>?_) (fun hc=>?_)<;>(try simp at hc)<;>(try omega))|(refine ZS (fun hc=>?_) (fun hc=>?_)<;>(try simp at hc)<;>(try omega))|refine ZQ 9 [] [(0,0),(1,0),(2,0),(3,0),(4,0),(5,0),(6,0),(7,0),(8,0),(9,0),(10,0),(11,0),(12,0),(13,0),(14,0),(15,0),(16,0),(17,0),(18,0),(19,4),(20,0),(21,0),(22,0),(23,0)] [] ?_|(refine ZE (fun hc=>?_) (fun hc=>?_)<;>(try simp at hc)<;>(try omega)))
    all_goals (refine ZR () ?_ trivial;show Value.bool _=Value.bool true;simp)
   | some t=>
    have g1:yp=some ⟨bt,0,none⟩:=g1
    subst g1
    have m3:=Xy e hq t (hxw t rfl) (hxs t rfl) tc
    dsimp only
    generalize holM e t=B at *
    repeat' (first|refine ZG ?_|refine ZF ?_|refine ZJ ?_|refine ZH ?_|refine ZL ?_|refine ZI ?_|refine ZN ?_|refine ZO (fun b=>?_)|refine ZM (fun b=>?_)|refine ZB ?_|refine ZD ?_|refine ZP ?_|refine ZX ?_|refine ZZ ?_|refine Zg ?_|refine ZY ?_|refine ZW ?_|refine Zh (fun b=>?_)|refine Zf (fun b=>?_)|refine Ze ?_|refine ZV ?_|refine ZA (m3) (fun _ _=>?_)|refine l_call0 (m3) (fun _ _=>?_)|refine ZK (m3) (fun _ _=>?_)|refine YK (es:=vs) (f:=lnf) j _ hyj (fun b off=>?_)|refine YL ?_|(refine ZC (fun hc=>?_) (fun hc=>?_)<;>(try simp at hc)<;>(try omega))|(refine ZS (fun hc=>?_) (fun hc=>?_)<;>(try simp at hc)<;>(try omega))|refine ZQ 9 [] [(0,0),(1,0),(2,0),(3,0),(4,0),(5,0),(6,0),(7,0),(8,0),(9,0),(10,0),(11,0),(12,0),(13,0),(14,0),(15,0),(16,0),(17,0),(18,0),(19,4),(20,0),(21,0),(22,0),(23,0)] [] ?_|(refine ZE (fun hc=>?_) (fun hc=>?_)<;>(try simp at hc)<;>(try omega)))
    all_goals (refine ZR () ?_ trivial;show Value.bool _=Value.bool true;simp)
  ·have hv:hoV (k.map ruC) i e = .tuple #[.bool false,.int .i64 2]:=by
    unfold hoV
    have hn:(if 0≤i then (k.map ruC)[i.toNat]? else none)=none:=by
     split
     ·rw [List.getElem?_eq_none_iff];omega
     ·rfl
    rw [hn]
   rw [hv] at h1
   refine ZT [_,_,_] func8 ntmps8 fun G w hp=>?_
   repeat' (first|refine ZG ?_|refine ZF ?_|refine ZJ ?_|refine ZH ?_|refine ZL ?_|refine ZI ?_|refine ZN ?_|refine ZO (fun b=>?_)|refine ZM (fun b=>?_)|refine ZB ?_|refine ZD ?_|refine ZP ?_|refine ZA (n0) (fun _ _=>?_)|refine l_call0 (n0) (fun _ _=>?_)|refine ZA (n1) (fun _ _=>?_)|refine l_call0 (n1) (fun _ _=>?_)|refine ZA (n2) (fun _ _=>?_)|refine l_call0 (n2) (fun _ _=>?_)|refine ZA (p1) (fun _ _=>?_)|refine l_call0 (p1) (fun _ _=>?_)|refine ZA (p2) (fun _ _=>?_)|refine l_call0 (p2) (fun _ _=>?_)|refine ZA (h1 _) (fun _ _=>?_)|refine l_call0 (h1 _) (fun _ _=>?_)|(refine ZC (fun hc=>?_) (fun hc=>?_)<;>(try simp at hc)<;>(try omega))|(refine ZE (fun hc=>?_) (fun hc=>?_)<;>(try simp at hc)<;>(try omega)))
   all_goals (refine ZR () ?_ trivial;show Value.bool _=Value.bool true;simp)
 ·rw [e1] at p2
  rw [e2] at p1
  obtain ⟨x1,x2,x3⟩:=x
  dsimp only at hx
  refine ZT [_,_,_] func8 ntmps8 fun G w hp=>?_
  repeat' (first|refine ZG ?_|refine ZF ?_|refine ZJ ?_|refine ZH ?_|refine ZL ?_|refine ZI ?_|refine ZN ?_|refine ZO (fun b=>?_)|refine ZM (fun b=>?_)|refine ZB ?_|refine ZD ?_|refine ZP ?_|refine ZA (n0) (fun _ _=>?_)|refine l_call0 (n0) (fun _ _=>?_)|refine ZA (n1) (fun _ _=>?_)|refine l_call0 (n1) (fun _ _=>?_)|refine ZA (n2) (fun _ _=>?_)|refine l_call0 (n2) (fun _ _=>?_)|refine ZA (p1) (fun _ _=>?_)|refine l_call0 (p1) (fun _ _=>?_)|refine ZA (p2) (fun _ _=>?_)|refine l_call0 (p2) (fun _ _=>?_)|(refine ZC (fun hc=>?_) (fun hc=>?_)<;>(try simp at hc)<;>(try omega))|(refine ZE (fun hc=>?_) (fun hc=>?_)<;>(try simp at hc)<;>(try omega)))
  all_goals (refine ZR () ?_ trivial;show Value.bool _=Value.bool true;simp)
end Go.Proofs.YtodkipbnefngkaaGreatDoor
