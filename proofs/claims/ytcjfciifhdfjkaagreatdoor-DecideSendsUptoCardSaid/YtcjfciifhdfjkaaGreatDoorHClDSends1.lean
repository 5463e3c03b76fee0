/-
  The law DecideSends.
  Conditions: those that each theorem states.
-/
import Derived.Test.YtcjfciifhdfjkaaGreatDoorP6
set_option maxRecDepth 10000
namespace Go.Proofs.YtcjfciifhdfjkaaGreatDoor
open Go.RowKit Go.Proofs.Tryz
section
variable {n:Nat} {C:Cx} {Q:Exit→Act→World→Prop} {E:List (Nat×Value)} {F:List Pf} {R:List HP} {k:List Fr}
theorem k_cutF {Y:Type} {c2:Code} {k2:List Fr} (i m:Nat) (mE:Y→List (Nat×Value)) (mF:Y→List Pf) (mR:Y→List HP) (t2:∀y,Wk n C (.c c2::k2) Q (mE y) (mF y) (mR y)) (t:(∀y,Wk n C (.c c2::k2) Q (mE y) (mF y) (mR y))→Wk n C k Q E F R) (_h:drpS m (k.drop i) = .c c2::k2:=by rfl):Wk n C k Q E F R:=t t2
end
set_option maxHeartbeats 8000000 in
theorem lawSends_ok (q p:Option Addr×Nat) (l:List It) (os:List Od) (h:PlI l os):Enters 4∧Spec prog 4 #[.slice q.1 l.length q.2,.slice p.1 os.length p.2] [SlI q l,SlO p os,OdsF os,Usg,ErA,P10,MxL] [] (RetV (.bool true)):=by
 have n0:=VK
 have n1:=play_ok q p l os h
 have hI:=plF_ok l os
 generalize plF l os=W at *
 obtain ⟨b1,b2,b3,b4⟩:=hI.bds (by omega)
 have n2:=fun b g s=>readyW_ok b g s hI (by omega)
 have n3:=fun b=>lendE (r:=BkR bkT b W.B) (fun h hh=>bk_f h hh) (Ym b W.B (by omega))
 have n4:=fun b=>lendE (r:=BkR bkT b W.B) (fun h hh=>bk_f h hh) (VW b W.B)
 have n5:=fun b=>lendE (r:=BkR bkT b W.B) (fun h hh=>bk_f h hh) (Vd b W.B)
 have hal:=Xc W.es
 have hrl:=rdy_len (allE W.es) W.ls W.B
 have hll:(W.ls++lvL W.B (rdyF (allE W.es) W.ls W.B)).length≤100000:=by
  unfold lvL
  rw [List.length_append,List.length_map]
  omega
 have hrd:=hI.rd
 have hlv:∀(i:Nat) (x:En),(rdyF (allE W.es) W.ls W.B)[i]? = some x→leaveE (W.ls++lvL W.B ((rdyF (allE W.es) W.ls W.B).take i)) ⟨x,W.B.si,W.B.rd⟩=0:=fun i x hx=>rdy_leave hI.B (by omega) (by omega) hI.E.all.1 hI.L hll hx
 have hwho:∀x ∈ rdyF (allE W.es) W.ls W.B,x.who.size≤1099511627776:=fun x hx=>by
  rcases Yj.1 hx with hx|hx
  ·exact Nat.le_trans (hI.E.all.2 x hx.1) (by decide)
  ·obtain ⟨d,i,-,-,-,rfl⟩:=XB hx.1
   exact Nat.zero_le _
 have hsent:∀x ∈ rdyF (allE W.es) W.ls W.B,x.who=⟨#[]⟩∨W.B.si≤x.tk∨∃d ∈ W.B.dn,d.a.k=3∧d.c.new=x.o:=fun x hx=>rdy_sent hx
 have n6:=fun b g s=>lendE (r:=Lg g (W.ls++lvL W.B (rdyF (allE W.es) W.ls W.B))) (fun _ hh=>lg_f hh) (lendE (r:=BkR bkT b W.B) (fun h hh=>bk_f h hh) (V2 b g s W.B (W.ls++lvL W.B (rdyF (allE W.es) W.ls W.B)) W.es (by omega) (by omega) (by omega)))
 rw [rdy_again] at n6
 generalize rdyF (allE W.es) W.ls W.B=rd at *
 refine ZE [_,_] func4 ntmps4 fun G w hp=>?_
 repeat' (first|refine ZC ?_|refine ZH (fun b=>?_)|refine ZA (n0) (fun _ _=>?_)|refine ZP (n0) (fun _ _=>?_)|refine ZK (n0) (fun _ _=>?_)|refine ZA (n1) (fun _ _=>?_)|refine ZP (n1) (fun _ _=>?_)|refine ZK (n1) (fun _ _=>?_)|refine ZA (n2 _ _ _) (fun _ _=>?_)|refine ZP (n2 _ _ _) (fun _ _=>?_)|refine ZK (n2 _ _ _) (fun _ _=>?_)|(refine ZG (fun hc=>?_) (fun hc=>?_)<;>(try simp at hc)<;>(try omega))|(refine ZS (fun hc=>?_) (fun hc=>?_)<;>(try simp at hc)<;>(try omega))|refine ZI 4 [Lg _ _,BkR bkT _ _] [(0,0),(1,0),(2,0),(3,0),(4,0),(5,0),(6,0),(7,0),(8,0),(9,0),(10,0),(11,0),(12,4),(13,0),(14,0),(15,0),(16,0),(17,0)] [] ?_|(refine ZB (fun hc=>?_) (fun hc=>?_)<;>(try simp at hc)<;>(try omega)))
 rename_i x _ q7 _
 obtain ⟨pw,bb,m,g,s⟩:=x
 dsimp only
 refine YA (T:=50) (sz:=7) (f:=enf) (o:=q7.1) (cap:=q7.2) rd ?_ rfl rfl
 have e00:Lg g W.ls=Lg g (W.ls++lvL W.B (rd.take 0)):=by simp [lvL]
 rw [e00]
 refine Zj (X:={i:Nat // i≤rd.length}) (fun i=>[(5,.pointer (some ⟨pw,0,none⟩)),(7,.slice q7.1 rd.length q7.2),(9,.int .i64 (i.1:Int))]) (fun _=>[SlE q7 rd,St (some ⟨s,0,none⟩) W.es]) (fun i=>[WdR pw bb m g s,BkR bkT bb W.B,Lg g (W.ls++lvL W.B (rd.take i.1))]) (fun i=>rd.length - i.1)
  ⟨0,Nat.zero_le _⟩ ⟨rfl,rfl,rfl,trivial⟩ ?_
 rintro ⟨i,hi⟩
 dsimp only
 by_cases hlt:i<rd.length
 ·obtain ⟨e,he⟩:∃e,rd[i]? = some e:=⟨_,List.getElem?_eq_getElem hlt⟩
  have hem:=List.mem_of_getElem? he
  have hse:=hsent e hem
  have hwe:e.who.toList=[]↔e.who=⟨#[]⟩:=⟨fun h=>by
   rw [toList_data] at h
   exact ByteArray.ext (Array.toList_inj.1 h),fun h=>by rw [h];simp [toList_data]⟩
  have hln:(W.ls++lvL W.B (rd.take i)).length≤1000000:=by
   have h1:(rd.take i).length≤rd.length:=by rw [List.length_take];omega
   unfold lvL at hll ⊢
   rw [List.length_append,List.length_map] at hll ⊢
   omega
  have n7:=leave_ok g (W.ls++lvL W.B (rd.take i)) ⟨e,W.B.si,W.B.rd⟩ (hwho e hem) hln
  rw [Xi (hlv i e he)] at n7
  have e1:W.ls++lvL W.B (rd.take i)++[⟨e,W.B.si,W.B.rd⟩]=W.ls++lvL W.B (rd.take (i+1)):=by
   rw [ZT he]
   simp [lvL]
  rw [e1] at n7
  generalize W.ls++lvL W.B (rd.take i)=L1 at *
  repeat' (first|refine ZC ?_|refine ZH (fun b=>?_)|(refine ZG (fun hc=>?_) (fun hc=>?_)<;>(try simp at hc)<;>(try omega))|(refine ZB (fun hc=>?_) (fun hc=>?_)<;>(try simp at hc)<;>(try omega)))
  refine k_nf ?_
  refine k_cutF (Y:={y:Bool×Option Addr×Nat // (y.1=true↔(e.who=⟨#[]⟩∨W.B.si≤e.tk))}) 1 1 (fun y=>[(5,.pointer (some ⟨pw,0,none⟩)),(7,.slice q7.1 rd.length q7.2),(9,.int .i64 (i:Int)),(10,.bool y.1.1),(11,.slice y.1.2.1 W.B.dn.length y.1.2.2)]) (fun _=>[SlE q7 rd,St (some ⟨s,0,none⟩) W.es]) (fun y=>[WdR pw bb m g s,BkR bkT bb W.B,Lg g L1,RowD y.1.2 W.B.dn]) ?_ ?_
  ·rintro ⟨⟨v,qd⟩,hv⟩
   dsimp only at hv ⊢
   refine YA (T:=dcT) (sz:=19) (f:=dcf) (o:=qd.1) (cap:=qd.2) W.B.dn ?_ rfl rfl
   obtain ⟨f,hf⟩:∃f:Dc→Bool,f=fun d=>decide (d.a.k=3) && decide (d.c.new=e.o):=⟨_,rfl⟩
   have hall:(v || W.B.dn.any f)=true:=by
    rw [Bool.or_eq_true,hv]
    rcases hse with h|h|⟨d,hd,h1,h2⟩
    ·exact .inl (.inl h)
    ·exact .inl (.inr h)
    ·exact .inr (List.any_eq_true.2 ⟨d,hd,by rw [hf];simp [h1,h2]⟩)
   repeat' (first|refine ZC ?_|refine ZH (fun b=>?_)|(refine ZG (fun hc=>?_) (fun hc=>?_)<;>(try simp at hc)<;>(try omega))|(refine ZB (fun hc=>?_) (fun hc=>?_)<;>(try simp at hc)<;>(try omega)))
   refine YD (X:={x:Nat×Bool // x.1≤W.B.dn.length∧x.2=(v || (W.B.dn.take x.1).any f)}) (Y:=Unit) (fun x=>[(5,.pointer (some ⟨pw,0,none⟩)),(7,.slice q7.1 rd.length q7.2),(9,.int .i64 (i:Int)),(10,.bool x.1.2),(11,.slice qd.1 W.B.dn.length qd.2),(12,.int .i64 (x.1.1:Int))]) (fun _=>[SlD qd W.B.dn,SlE q7 rd,St (some ⟨s,0,none⟩) W.es]) (fun _=>[WdR pw bb m g s,BkR bkT bb W.B,Lg g L1]) (fun x=>W.B.dn.length - x.1.1)
    (fun _=>[(5,.pointer (some ⟨pw,0,none⟩)),(7,.slice q7.1 rd.length q7.2),(9,.int .i64 (i:Int)),(10,.bool true)]) (fun _=>[SlE q7 rd,St (some ⟨s,0,none⟩) W.es]) (fun _=>[WdR pw bb m g s,BkR bkT bb W.B,Lg g L1])
    ⟨(0,v),Nat.zero_le _,by simp⟩ ⟨rfl,rfl,rfl,rfl,rfl,rfl,trivial⟩ ?_ ?_
   ·intro _
    repeat' (first|refine ZC ?_|refine ZH (fun b=>?_)|refine ZA (n4 _) (fun _ _=>?_)|refine ZP (n4 _) (fun _ _=>?_)|refine ZK (n4 _) (fun _ _=>?_)|refine ZA (n5 _) (fun _ _=>?_)|refine ZP (n5 _) (fun _ _=>?_)|refine ZK (n5 _) (fun _ _=>?_)|refine ZA (n7) (fun _ _=>?_)|refine ZP (n7) (fun _ _=>?_)|refine ZK (n7) (fun _ _=>?_)|refine Zo (es:=rd) i e he (fun b off=>?_)|refine YE ?_|(refine ZG (fun hc=>?_) (fun hc=>?_)<;>(try simp at hc)<;>(try omega))|(refine ZS (fun hc=>?_) (fun hc=>?_)<;>(try simp at hc)<;>(try omega))|refine ZI 18 [Lg _ _,BkR bkT _ _] [(0,0),(1,0),(2,0),(3,0),(4,0),(5,0),(6,0),(7,0),(8,0),(9,0),(10,0),(11,0),(13,0),(14,0),(15,0),(16,0),(12,4),(17,4),(18,0),(19,4),(20,0),(21,0),(22,0),(23,0),(24,0)] [] ?_|(refine ZB (fun hc=>?_) (fun hc=>?_)<;>(try simp at hc)<;>(try omega)))
    rw [wrapi (z:=(i:Int)+1) (by omega) (by omega)]
    exact ZJ ⟨i+1,by omega⟩ (by show rd.length - (i+1)<rd.length - i;omega) ⟨rfl,rfl,rfl,trivial⟩
   ·rintro hx ⟨⟨j,u⟩,hj,hu⟩
    dsimp only at hj hu ⊢
    by_cases hjt:j<W.B.dn.length
    ·obtain ⟨d,hd⟩:∃d,W.B.dn[j]? = some d:=⟨_,List.getElem?_eq_getElem hjt⟩
     have hu2:(u || f d)=(v || (W.B.dn.take (j+1)).any f):=by
      rw [ZT hd,List.any_append,hu]
      simp [Bool.or_assoc]
     have hfd:f d=(decide (d.a.k=3) && decide (d.c.new=e.o)):=by rw [hf]
     have heo:=eqO5 d.c.new e.o
     cases u with
     | true=>
      rw [Bool.true_or] at hu2
      repeat' (first|refine ZC ?_|refine ZH (fun b=>?_)|(refine ZG (fun hc=>?_) (fun hc=>?_)<;>(try simp at hc)<;>(try omega))|(refine ZS (fun hc=>?_) (fun hc=>?_)<;>(try simp at hc)<;>(try omega))|refine ZI 15 [] [(0,0),(1,0),(2,0),(3,0),(4,0),(5,0),(6,0),(7,0),(8,0),(9,0),(10,0),(11,0),(12,0),(13,0),(14,0),(15,0),(16,0),(17,0),(18,0),(19,0),(20,0),(21,0),(22,0),(23,0),(24,0)] [] ?_|(refine ZB (fun hc=>?_) (fun hc=>?_)<;>(try simp at hc)<;>(try omega)))
      rw [wrapi (z:=(j:Int)+1) (by omega) (by omega)]
      exact ZJ ⟨(j+1,true),by show j+1≤_;omega,hu2⟩ (by show W.B.dn.length - (j+1)<W.B.dn.length - j;omega) ⟨rfl,rfl,rfl,rfl,rfl,rfl,trivial⟩
     | false=>
      rw [Bool.false_or] at hu2
      by_cases k1:d.a.k=3
      ·by_cases k2:d.c.new=e.o
       ·have hft:f d=true:=by rw [hfd,decide_eq_true k1,decide_eq_true k2];rfl
        rw [hft] at hu2
        rw [decide_eq_true k2] at heo
        repeat' (first|refine ZC ?_|refine ZH (fun b=>?_)|refine Zo (es:=W.B.dn) j d hd (fun b off=>?_)|refine Zo (es:=rd) i e he (fun b off=>?_)|refine YE ?_|refine r_seq (b:=true) ?_ (he:=heo)|(refine ZG (fun hc=>?_) (fun hc=>?_)<;>(try simp at hc)<;>(try omega))|(refine ZS (fun hc=>?_) (fun hc=>?_)<;>(try simp at hc)<;>(try omega))|refine ZI 15 [] [(0,0),(1,0),(2,0),(3,0),(4,0),(5,0),(6,0),(7,0),(8,0),(9,0),(10,0),(11,0),(12,0),(13,0),(14,0),(15,0),(16,0),(17,0),(18,0),(19,0),(20,0),(21,0),(22,0),(23,0),(24,0)] [] ?_|(refine ZB (fun hc=>?_) (fun hc=>?_)<;>(try simp at hc)<;>(try omega)))
        rw [wrapi (z:=(j:Int)+1) (by omega) (by omega)]
        exact ZJ ⟨(j+1,true),by show j+1≤_;omega,hu2⟩ (by show W.B.dn.length - (j+1)<W.B.dn.length - j;omega) ⟨rfl,rfl,rfl,rfl,rfl,rfl,trivial⟩
       ·have hft:f d=false:=by rw [hfd,decide_eq_false k2,Bool.and_false]
        rw [hft] at hu2
        rw [decide_eq_false k2] at heo
        repeat' (first|refine ZC ?_|refine ZH (fun b=>?_)|refine Zo (es:=W.B.dn) j d hd (fun b off=>?_)|refine Zo (es:=rd) i e he (fun b off=>?_)|refine YE ?_|refine r_seq (b:=false) ?_ (he:=heo)|(refine ZG (fun hc=>?_) (fun hc=>?_)<;>(try simp at hc)<;>(try omega))|(refine ZS (fun hc=>?_) (fun hc=>?_)<;>(try simp at hc)<;>(try omega))|refine ZI 15 [] [(0,0),(1,0),(2,0),(3,0),(4,0),(5,0),(6,0),(7,0),(8,0),(9,0),(10,0),(11,0),(12,0),(13,0),(14,0),(15,0),(16,0),(17,0),(18,0),(19,0),(20,0),(21,0),(22,0),(23,0),(24,0)] [] ?_|(refine ZB (fun hc=>?_) (fun hc=>?_)<;>(try simp at hc)<;>(try omega)))
        rw [wrapi (z:=(j:Int)+1) (by omega) (by omega)]
        exact ZJ ⟨(j+1,false),by show j+1≤_;omega,hu2⟩ (by show W.B.dn.length - (j+1)<W.B.dn.length - j;omega) ⟨rfl,rfl,rfl,rfl,rfl,rfl,trivial⟩
      ·have hft:f d=false:=by rw [hfd,decide_eq_false k1,Bool.false_and]
       rw [hft] at hu2
       repeat' (first|refine ZC ?_|refine ZH (fun b=>?_)|refine Zo (es:=W.B.dn) j d hd (fun b off=>?_)|refine YE ?_|(refine ZG (fun hc=>?_) (fun hc=>?_)<;>(try simp at hc)<;>(try omega))|(refine ZS (fun hc=>?_) (fun hc=>?_)<;>(try simp at hc)<;>(try omega))|refine ZI 15 [] [(0,0),(1,0),(2,0),(3,0),(4,0),(5,0),(6,0),(7,0),(8,0),(9,0),(10,0),(11,0),(12,0),(13,0),(14,0),(15,0),(16,0),(17,0),(18,0),(19,0),(20,0),(21,0),(22,0),(23,0),(24,0)] [] ?_|(refine ZB (fun hc=>?_) (fun hc=>?_)<;>(try simp at hc)<;>(try omega)))
       rw [wrapi (z:=(j:Int)+1) (by omega) (by omega)]
       exact ZJ ⟨(j+1,false),by show j+1≤_;omega,hu2⟩ (by show W.B.dn.length - (j+1)<W.B.dn.length - j;omega) ⟨rfl,rfl,rfl,rfl,rfl,rfl,trivial⟩
    ·rw [List.take_of_length_le (by omega),hall] at hu
     subst hu
     repeat' (first|refine ZC ?_|refine ZH (fun b=>?_)|(refine ZG (fun hc=>?_) (fun hc=>?_)<;>(try simp at hc)<;>(try omega))|(refine ZB (fun hc=>?_) (fun hc=>?_)<;>(try simp at hc)<;>(try omega)))
     exact Z2 hx () ⟨rfl,rfl,rfl,rfl,trivial⟩
  ·intro hx
   repeat' (first|refine Wf ?_|refine k_to hx ⟨(_,_),?_⟩ ⟨rfl,rfl,rfl,rfl,rfl,trivial⟩|refine ZC ?_|refine ZH (fun b=>?_)|refine ZA (n3 _) (fun _ _=>?_)|refine ZP (n3 _) (fun _ _=>?_)|refine ZK (n3 _) (fun _ _=>?_)|refine ZA (n4 _) (fun _ _=>?_)|refine ZP (n4 _) (fun _ _=>?_)|refine ZK (n4 _) (fun _ _=>?_)|refine Zo (es:=rd) i e he (fun b off=>?_)|refine YE ?_|(refine ZG (fun hc=>?_) (fun hc=>?_)<;>(try simp at hc)<;>(try omega))|(refine ZS (fun hc=>?_) (fun hc=>?_)<;>(try simp at hc)<;>(try omega))|refine ZI 10 [BkR bkT _ _] [(0,0),(1,0),(2,0),(3,0),(4,0),(5,0),(6,0),(7,0),(8,0),(9,0),(10,0),(11,0),(12,0),(13,0),(14,0),(15,0),(16,4),(17,0),(18,0),(19,0)] [] ?_|(refine ZB (fun hc=>?_) (fun hc=>?_)<;>(try simp at hc)<;>(try omega)))
   all_goals clear hx n0 n1 n2 n3 n4 n5 n6 n7
   all_goals dsimp only
   all_goals rw [←hwe]
   all_goals first
    | (simp [hc];done)
    | (rename_i hc1 _ _ _;simp [hc,hc1];done)
    | (show decide (W.B.si≤e.tk)=true↔_;rw [decide_eq_true_iff];exact ⟨.inr,fun h=>h.resolve_left hc⟩)
 ·have e2:rd.take i=rd:=List.take_of_length_le (by omega)
  rw [e2]
  repeat' (first|refine ZC ?_|refine ZH (fun b=>?_)|refine ZM ?_|refine ZA (n6 _ _ _) (fun _ _=>?_)|refine ZP (n6 _ _ _) (fun _ _=>?_)|refine ZK (n6 _ _ _) (fun _ _=>?_)|(refine ZG (fun hc=>?_) (fun hc=>?_)<;>(try simp at hc)<;>(try omega))|(refine ZS (fun hc=>?_) (fun hc=>?_)<;>(try simp at hc)<;>(try omega))|refine ZI 21 [Lg _ _,BkR bkT _ _] [(0,0),(1,0),(2,0),(3,0),(4,0),(5,0),(6,0),(7,0),(8,0),(9,0),(10,0),(11,0),(12,4),(13,0),(14,0),(15,0),(16,0),(17,0)] [] ?_|(refine ZB (fun hc=>?_) (fun hc=>?_)<;>(try simp at hc)<;>(try omega)))
  exact ZD () rfl trivial
end Go.Proofs.YtcjfciifhdfjkaaGreatDoor
