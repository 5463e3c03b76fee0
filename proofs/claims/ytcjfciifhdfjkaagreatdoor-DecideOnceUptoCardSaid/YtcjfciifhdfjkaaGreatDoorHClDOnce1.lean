/-
  The laws DecideOnce and DecideSends.
  Conditions: those that each theorem states.
-/
import Derived.Test.YtcjfciifhdfjkaaGreatDoorP6
set_option maxRecDepth 10000
namespace Go.Proofs.YtcjfciifhdfjkaaGreatDoor
open Go.RowKit Go.Proofs.Tryz
set_option maxHeartbeats 8000000 in
theorem lawOnce_ok (q p:Option Addr×Nat) (l:List It) (os:List Od) (h:PlI l os):Enters 3∧Spec prog 3 #[.slice q.1 l.length q.2,.slice p.1 os.length p.2] [SlI q l,SlO p os,OdsF os,Usg,ErA,P10,MxL] [] (RetV (.bool true)):=by
 have n0:=VK
 have n1:=play_ok q p l os h
 have hI:=plF_ok l os
 generalize plF l os=W at *
 obtain ⟨b1,b2,b3,b4⟩:=hI.bds (by omega)
 have n2:=fun b=>lendE (r:=BkR bkT b W.B) (fun h hh=>bk_f h hh) (Ym b W.B (by omega))
 refine ZE [_,_] func3 ntmps3 fun G w hp=>?_
 repeat' (first|refine ZC ?_|refine ZH (fun b=>?_)|refine ZA (n0) (fun _ _=>?_)|refine ZP (n0) (fun _ _=>?_)|refine ZA (n1) (fun _ _=>?_)|refine ZP (n1) (fun _ _=>?_)|refine ZA (n2 _) (fun _ _=>?_)|refine ZP (n2 _) (fun _ _=>?_)|(refine ZG (fun hc=>?_) (fun hc=>?_)<;>(try simp at hc)<;>(try omega))|(refine ZB (fun hc=>?_) (fun hc=>?_)<;>(try simp at hc)<;>(try omega)))
 rename_i x _ qd _
 obtain ⟨pw,bb,m,g,s⟩:=x
 dsimp only
 refine YA (T:=dcT) (sz:=19) (f:=dcf) (o:=qd.1) (cap:=qd.2) W.B.dn ?_ rfl rfl
 refine k_frzP (P:=BkR bkT bb W.B) (f:=BkF bkT bb W.B) (fun h hh=>bk_f h hh) ?_
 refine k_frzP (P:=Lg g W.ls) (f:=LgF g W.ls) (fun h hh=>lg_f hh) ?_
 refine YD (X:={i:Nat // i≤W.B.dn.length}) (Y:=Unit) (fun i=>[(5,.pointer (some ⟨pw,0,none⟩)),(7,.slice qd.1 W.B.dn.length qd.2),(8,.int .i64 (i.1:Int))]) (fun _=>[SlD qd W.B.dn,BkF bkT bb W.B,LgF g W.ls]) (fun _=>[WdR pw bb m g s]) (fun i=>W.B.dn.length - i.1)
  (fun _=>[(5,.pointer (some ⟨pw,0,none⟩))]) (fun _=>[LgF g W.ls]) (fun _=>[WdR pw bb m g s]) ⟨0,Nat.zero_le _⟩ ⟨rfl,rfl,rfl,trivial⟩ ?_ ?_
 ·intro _
  have n3:=V4 g W.ls
  repeat' (first|refine ZC ?_|refine ZH (fun b=>?_)|(refine ZG (fun hc=>?_) (fun hc=>?_)<;>(try simp at hc)<;>(try omega))|(refine ZB (fun hc=>?_) (fun hc=>?_)<;>(try simp at hc)<;>(try omega)))
  refine Zj (X:={i:Nat // i≤W.ls.length}) (fun i=>[(5,.pointer (some ⟨pw,0,none⟩)),(14,.int .i64 (i.1:Int))]) (fun _=>[LgF g W.ls]) (fun _=>[WdR pw bb m g s]) (fun i=>W.ls.length - i.1) ⟨0,Nat.zero_le _⟩ ⟨rfl,rfl,trivial⟩ ?_
  rintro ⟨i,hi⟩
  dsimp only
  by_cases hlt:i<W.ls.length
  ·obtain ⟨y,hy⟩:∃y,W.ls[i]? = some y:=⟨_,List.getElem?_eq_getElem hlt⟩
   have n4:=Wn g W.ls i y hy
   repeat' (first|refine ZC ?_|refine ZH (fun b=>?_)|refine ZA (n3) (fun _ _=>?_)|refine ZP (n3) (fun _ _=>?_)|refine ZA (n4) (fun _ _=>?_)|refine ZP (n4) (fun _ _=>?_)|(refine ZG (fun hc=>?_) (fun hc=>?_)<;>(try simp at hc)<;>(try omega))|(refine ZB (fun hc=>?_) (fun hc=>?_)<;>(try simp at hc)<;>(try omega)))
   generalize b=b15
   refine YD (X:={j:Nat // j≤i}) (Y:=Unit) (fun j=>[(5,.pointer (some ⟨pw,0,none⟩)),(14,.int .i64 (i:Int)),(15,.pointer (some ⟨b15,0,none⟩)),(17,.int .i64 (j.1:Int))]) (fun _=>[LgF g W.ls]) (fun _=>[WdR pw bb m g s,Pt b15 (.cells (lff y).toArray 52)]) (fun j=>i - j.1)
    (fun _=>[(5,.pointer (some ⟨pw,0,none⟩)),(14,.int .i64 (i:Int))]) (fun _=>[LgF g W.ls]) (fun _=>[WdR pw bb m g s]) ⟨0,Nat.zero_le _⟩ ⟨rfl,rfl,rfl,rfl,trivial⟩ ?_ ?_
   ·intro _
    repeat' (first|refine ZC ?_|refine ZH (fun b=>?_)|(refine ZG (fun hc=>?_) (fun hc=>?_)<;>(try simp at hc)<;>(try omega))|(refine ZB (fun hc=>?_) (fun hc=>?_)<;>(try simp at hc)<;>(try omega)))
    rw [wrapi (z:=(i:Int)+1) (by omega) (by omega)]
    exact ZJ ⟨i+1,by omega⟩ (by show W.ls.length - (i+1)<W.ls.length - i;omega) ⟨rfl,rfl,trivial⟩
   ·rintro hx ⟨j,hj⟩
    dsimp only
    by_cases hjt:j<i
    ·obtain ⟨z,hz⟩:∃z,W.ls[j]? = some z:=⟨_,List.getElem?_eq_getElem (by omega)⟩
     have n5:=Wn g W.ls j z hz
     have hne:=once_ls hI.L hy hz hjt
     have he:=eqEnD z.e y.e
     rw [decide_eq_false hne] at he
     repeat' (first|refine ZC ?_|refine ZH (fun b=>?_)|refine ZA (n5) (fun _ _=>?_)|refine ZP (n5) (fun _ _=>?_)|refine l_seq (b:=false) ?_ (he:=he)|(refine ZG (fun hc=>?_) (fun hc=>?_)<;>(try simp at hc)<;>(try omega))|(refine ZB (fun hc=>?_) (fun hc=>?_)<;>(try simp at hc)<;>(try omega)))
     rw [wrapi (z:=(j:Int)+1) (by omega) (by omega)]
     exact ZJ ⟨j+1,by omega⟩ (by show i - (j+1)<i - j;omega) ⟨rfl,rfl,rfl,rfl,trivial⟩
    ·repeat' (first|refine ZC ?_|refine ZH (fun b=>?_)|(refine ZG (fun hc=>?_) (fun hc=>?_)<;>(try simp at hc)<;>(try omega))|(refine ZB (fun hc=>?_) (fun hc=>?_)<;>(try simp at hc)<;>(try omega)))
     exact Z2 hx () ⟨rfl,rfl,trivial⟩
  ·repeat' (first|refine ZC ?_|refine ZH (fun b=>?_)|refine ZM ?_|refine ZA (n3) (fun _ _=>?_)|refine ZP (n3) (fun _ _=>?_)|(refine ZG (fun hc=>?_) (fun hc=>?_)<;>(try simp at hc)<;>(try omega))|(refine ZB (fun hc=>?_) (fun hc=>?_)<;>(try simp at hc)<;>(try omega)))
   exact ZD () rfl trivial
 ·rintro hx ⟨i,hi⟩
  dsimp only
  by_cases hlt:i<W.B.dn.length
  ·obtain ⟨d,hd⟩:∃d,W.B.dn[i]? = some d:=⟨_,List.getElem?_eq_getElem hlt⟩
   have hdm:=List.mem_of_getElem? hd
   have n3:=bkFind_ok bb W.B d.c (by omega) (Nat.le_trans (hI.wd.1 d hdm) (by decide))
   rw [fnd_self hI.B hd] at n3
   simp only [Option.getD_some,Option.isSome_some] at n3
   have hee:=eqD d d
   rw [decide_eq_true rfl] at hee
   repeat' (first|refine ZC ?_|refine ZH (fun b=>?_)|refine ZA (n3) (fun _ _=>?_)|refine ZP (n3) (fun _ _=>?_)|refine ZK (n3) (fun _ _=>?_)|refine Zo (es:=W.B.dn) i d hd (fun b off=>?_)|refine YE ?_|refine VI (b:=true) ?_ (he:=hee)|(refine ZG (fun hc=>?_) (fun hc=>?_)<;>(try simp at hc)<;>(try omega))|(refine ZS (fun hc=>?_) (fun hc=>?_)<;>(try simp at hc)<;>(try omega))|refine ZI 10 [] [(0,0),(1,0),(2,0),(3,0),(4,0),(5,0),(6,0),(7,0),(8,0),(9,4),(10,0),(11,0),(12,0),(13,1),(14,4),(15,0)] [] ?_|refine ZI 11 [] [(0,0),(1,0),(2,0),(3,0),(4,0),(5,0),(6,0),(7,0),(8,0),(9,0)] [] ?_|(refine ZB (fun hc=>?_) (fun hc=>?_)<;>(try simp at hc)<;>(try omega)))
   refine YD (X:={j:Nat // j≤i}) (Y:=Unit) (fun j=>[(5,.pointer (some ⟨pw,0,none⟩)),(7,.slice qd.1 W.B.dn.length qd.2),(8,.int .i64 (i:Int)),(11,.int .i64 (j.1:Int))]) (fun _=>[SlD qd W.B.dn,BkF bkT bb W.B,LgF g W.ls]) (fun _=>[WdR pw bb m g s]) (fun j=>i - j.1)
    (fun _=>[(5,.pointer (some ⟨pw,0,none⟩)),(7,.slice qd.1 W.B.dn.length qd.2),(8,.int .i64 (i:Int))]) (fun _=>[SlD qd W.B.dn,BkF bkT bb W.B,LgF g W.ls]) (fun _=>[WdR pw bb m g s]) ⟨0,Nat.zero_le _⟩ ⟨rfl,rfl,rfl,rfl,trivial⟩ ?_ ?_
   ·intro _
    repeat' (first|refine ZC ?_|refine ZH (fun b=>?_)|(refine ZG (fun hc=>?_) (fun hc=>?_)<;>(try simp at hc)<;>(try omega))|(refine ZB (fun hc=>?_) (fun hc=>?_)<;>(try simp at hc)<;>(try omega)))
    rw [wrapi (z:=(i:Int)+1) (by omega) (by omega)]
    exact ZJ ⟨i+1,by omega⟩ (by show W.B.dn.length - (i+1)<W.B.dn.length - i;omega) ⟨rfl,rfl,rfl,trivial⟩
   ·rintro hx2 ⟨j,hj⟩
    dsimp only
    by_cases hjt:j<i
    ·obtain ⟨e,he⟩:∃e,W.B.dn[j]? = some e:=⟨_,List.getElem?_eq_getElem (by omega)⟩
     obtain ⟨o1,o2⟩:=once_dn hI.B hd he hjt
     have n4:=equalC_ok d.c e.c
     rw [decide_eq_false o2] at n4
     by_cases k1:d.c.kind=4
     ·repeat' (first|refine ZC ?_|refine ZH (fun b=>?_)|refine ZA (n4) (fun _ _=>?_)|refine ZP (n4) (fun _ _=>?_)|refine ZK (n4) (fun _ _=>?_)|refine Zo (es:=W.B.dn) i d hd (fun b off=>?_)|refine Zo (es:=W.B.dn) j e he (fun b off=>?_)|refine YE ?_|(refine ZG (fun hc=>?_) (fun hc=>?_)<;>(try simp at hc)<;>(try omega))|(refine ZS (fun hc=>?_) (fun hc=>?_)<;>(try simp at hc)<;>(try omega))|refine ZI 16 [] [(0,0),(1,0),(2,0),(3,0),(4,0),(5,0),(6,0),(7,0),(8,0),(9,0),(10,1),(11,1),(12,4)] [13] ?_|(refine ZB (fun hc=>?_) (fun hc=>?_)<;>(try simp at hc)<;>(try omega)))
      rw [wrapi (z:=(j:Int)+1) (by omega) (by omega)]
      exact ZJ ⟨j+1,by omega⟩ (by show i - (j+1)<i - j;omega) ⟨rfl,rfl,rfl,rfl,trivial⟩
     ·by_cases k2:e.c.kind=4
      ·repeat' (first|refine ZC ?_|refine ZH (fun b=>?_)|refine ZA (n4) (fun _ _=>?_)|refine ZP (n4) (fun _ _=>?_)|refine ZK (n4) (fun _ _=>?_)|refine Zo (es:=W.B.dn) i d hd (fun b off=>?_)|refine Zo (es:=W.B.dn) j e he (fun b off=>?_)|refine YE ?_|(refine ZG (fun hc=>?_) (fun hc=>?_)<;>(try simp at hc)<;>(try omega))|(refine ZS (fun hc=>?_) (fun hc=>?_)<;>(try simp at hc)<;>(try omega))|refine ZI 16 [] [(0,0),(1,0),(2,0),(3,0),(4,0),(5,0),(6,0),(7,0),(8,0),(9,0),(10,1),(11,1),(12,4)] [13] ?_|(refine ZB (fun hc=>?_) (fun hc=>?_)<;>(try simp at hc)<;>(try omega)))
       rw [wrapi (z:=(j:Int)+1) (by omega) (by omega)]
       exact ZJ ⟨j+1,by omega⟩ (by show i - (j+1)<i - j;omega) ⟨rfl,rfl,rfl,rfl,trivial⟩
      ·have k3:¬d.c.place=e.c.place:=fun h=>o1 ⟨k1,k2,h⟩
       repeat' (first|refine ZC ?_|refine ZH (fun b=>?_)|refine ZA (n4) (fun _ _=>?_)|refine ZP (n4) (fun _ _=>?_)|refine ZK (n4) (fun _ _=>?_)|refine Zo (es:=W.B.dn) i d hd (fun b off=>?_)|refine Zo (es:=W.B.dn) j e he (fun b off=>?_)|refine YE ?_|(refine ZG (fun hc=>?_) (fun hc=>?_)<;>(try simp at hc)<;>(try omega))|(refine ZS (fun hc=>?_) (fun hc=>?_)<;>(try simp at hc)<;>(try omega))|refine ZI 16 [] [(0,0),(1,0),(2,0),(3,0),(4,0),(5,0),(6,0),(7,0),(8,0),(9,0),(10,1),(11,1),(12,4)] [13] ?_|(refine ZB (fun hc=>?_) (fun hc=>?_)<;>(try simp at hc)<;>(try omega)))
       rw [wrapi (z:=(j:Int)+1) (by omega) (by omega)]
       exact ZJ ⟨j+1,by omega⟩ (by show i - (j+1)<i - j;omega) ⟨rfl,rfl,rfl,rfl,trivial⟩
    ·repeat' (first|refine ZC ?_|refine ZH (fun b=>?_)|(refine ZG (fun hc=>?_) (fun hc=>?_)<;>(try simp at hc)<;>(try omega))|(refine ZB (fun hc=>?_) (fun hc=>?_)<;>(try simp at hc)<;>(try omega)))
     exact Z2 hx2 () ⟨rfl,rfl,rfl,trivial⟩
  ·repeat' (first|refine ZC ?_|refine ZH (fun b=>?_)|(refine ZG (fun hc=>?_) (fun hc=>?_)<;>(try simp at hc)<;>(try omega))|(refine ZB (fun hc=>?_) (fun hc=>?_)<;>(try simp at hc)<;>(try omega)))
   exact Z2 hx () ⟨rfl,trivial⟩
end Go.Proofs.YtcjfciifhdfjkaaGreatDoor
