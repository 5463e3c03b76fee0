/-
  The law InodeNodes, walked.
  The law InodeOperations.
  Conditions: those that each theorem states.
-/
import Derived.Test.YtdkndahndgkmnaaGreatDoorS4
import Derived.Test.YtdkndahndgkmnaaGreatDoorS5
set_option maxRecDepth 10000
namespace Go.Proofs.YtdkndahndgkmnaaGreatDoor
open Go.RowKit Go.Proofs.Tryz
theorem eqIno (a b:Ino):eqC eqS 20 64 a.v b.v=some (decide (a=b)):=by
 rw [show eqC eqS 20 64 a.v b.v=some ((a.kd == b.kd) && ((a.ow == b.ow) && ((a.gr == b.gr) && ((a.md == b.md) && ((a.sz == b.sz) && ((a.lk == b.lk) && ((a.tg.toList == b.tg.toList) && true))))))) from rfl]
 congr 1
 obtain ⟨a1,a2,a3,a4,a5,a6,a7⟩:=a
 obtain ⟨b1,b2,b3,b4,b5,b6,b7⟩:=b
 simp only [beqSw,beqIw,Ino.mk.injEq]
 rw [Bool.eq_iff_iff];simp
section
open VQ
theorem ifile_in {es:Al} {cs:List Ch} {b:Bi} {x:Fq} (hb:bchk b=0) (h:FR es cs b x):ifile es cs b=if x.nd.kd=2 then (Ino.z,15) else if x.nd.kd=3 then (Ino.z,11) else (x.nd,0):=by
 unfold ifile
 rw [iget_in hb h]
 rfl
theorem cont_in {es:Al} {cs:List Ch} {b:Bi} {x:Fq} (hb:bchk b=0) (h:FR es cs b x) (hk:x.nd.kd=1):((qRead b 0 4096).run es cs).1=(x.ct,0):=by
 obtain ⟨z1,z2⟩:=h.f hk
 have hle:=z2.le
 have e:=ifile_in hb h
 rw [if_neg (show ¬x.nd.kd=2 by omega),if_neg (show ¬x.nd.kd=3 by omega)] at e
 unfold qRead
 rw [run_bind,YQ,e]
 dsimp only
 rw [if_neg (show ¬(0:Int)≠0 by simp),if_neg (show ¬((0:Int)<0∨(4096:Int)<0) by decide),run_bind,Xx,z1]
 simp only [run,Int.toNat_natCast,List.nil_append]
 rw [show (0:Int).toNat=0 from rfl,show (4096:Int).toNat=4096 from rfl,show min 0 x.ct.size=0 by omega,show 0+min 4096 (x.ct.size - 0)=x.ct.size by omega,z2.read]
set_option maxHeartbeats 4000000 in
theorem lawIOps_ok (o:Option Addr) (cap:Nat) (l:List Op7):Enters 4∧Spec prog 4 #[.slice o l.length cap] [OpS o cap l,Usg] [] (RetV (.bool true)):=by
 have n0:=after7_ok o cap l
 unfold AfP at n0
 have n1:=known27_ok
 refine ZV [_] func4 ntmps4 fun G w hp=>?_
 repeat' (first|refine ZH ?_|refine ZI ?_|refine ZK ?_|refine ZG ?_|refine ZM ?_|refine ZJ ?_|refine ZN ?_|refine ZP (fun b=>?_)|refine ZO (fun b=>?_)|refine ZA ?_|refine ZB ?_|refine ZE (n0) (fun _ _=>?_)|refine l_call0 (n0) (fun _ _=>?_)|refine ZE (n1) (fun _ _=>?_)|refine l_call0 (n1) (fun _ _=>?_)|refine ZE (Zx _) (fun _ _=>?_)|refine l_call0 (Zx _) (fun _ _=>?_)|(refine ZC (fun hc=>?_) (fun hc=>?_)<;>(try simp at hc)<;>(try omega))|(refine ZF (fun hc=>?_) (fun hc=>?_)<;>(try simp at hc)<;>(try omega)))
 rename_i x hx _ _ vb _
 obtain ⟨bm,s,q,es,bs,fs,m⟩:=x
 obtain ⟨k,hk,hO⟩:=hx
 have hr:=hO.r
 dsimp only at hr ⊢
 have hlf:=hr.lf
 have hbl:=hr.len
 refine YT (X:={x:Nat×List (Nm×Ch) // x.1≤bs.length}) (fun x=>[(4,.pointer (some ⟨bm,0,none⟩)),(6,.pointer (some ⟨vb,0,none⟩)),(7,.int .i64 (x.1.1:Int))]) (fun _=>[St (some ⟨s,0,none⟩) es,Usg]) (fun x=>[MdP bm q bs.length fs.length,BiX q bs,FlX q fs,Vw vb (some ⟨s,0,none⟩) x.1.2 []]) (fun x=>bs.length - x.1.1) ⟨(0,[]),Nat.zero_le _⟩ ⟨rfl,rfl,rfl,trivial⟩ ?_
 rintro ⟨⟨i,rs⟩,hi⟩
 dsimp only at hi ⊢
 by_cases hlt:i<bs.length
 ·obtain ⟨b7,hb⟩:∃b,bs[i]? = some b:=⟨_,List.getElem?_eq_getElem hlt⟩
  have hil:i<fs.length:=by omega
  obtain ⟨x,hx⟩:∃x,fs[i]? = some x:=⟨_,List.getElem?_eq_getElem hil⟩
  have hF:=hr.fl i b7 x hb hx
  have hm:=List.mem_of_getElem? hb
  have hbc:=hr.bc (by omega) hm
  have hbz:=hr.bsz b7 hm
  have m1:=Wu vb (some ⟨s,0,none⟩) es rs [] b7 (by omega) (by have:=hr.sz (nnm b7);omega)
  rw [iget_in hbc hF] at m1
  have m2:=fun rs=>WK vb (some ⟨s,0,none⟩) es rs [] b7 (by omega) hr.sz
  have hc2:((qRead b7 0 4096).run es []).2.2=[]:=by
   unfold qRead
   rw [run_bind,YQ]
   dsimp only
   split
   ·rfl
   ·split
    ·rfl
    ·rw [run_bind,Xx];rfl
  have hc1:=fun h=>cont_in (es:=es) (cs:=[]) hbc hF h
  generalize (qRead b7 0 4096).run es []=G at *
  obtain ⟨G1,G2,G3⟩:=G
  dsimp only at hc1 hc2 m2
  subst hc2
  have wi:IntKind.i64.wrap ((i:Int)+1)=((i+1:Nat):Int):=by rw [wrapi (by omega) (by omega)];omega
  clear hF
  obtain ⟨⟨a1,a2,a3,a4,a5,a6,a7⟩,ct,mr,bl⟩:=x
  have he:=eqIno ⟨a1,a2,a3,a4,a5,a6,a7⟩ ⟨a1,a2,a3,a4,a5,a6,a7⟩
  rw [decide_eq_true rfl] at he
  have hcc:(ct.toList == ct.toList)=true:=beq_self_eq_true _
  obtain ⟨y1,y2⟩:=b7
  simp only [Ino.v,Bi.v] at m1 m2 he
  dsimp only at hc1
  by_cases hk1:a1=1
  ·have hG:=hc1 hk1
   subst hG
   subst hk1
   repeat' (first|refine ZH ?_|refine ZI ?_|refine ZK ?_|refine ZG ?_|refine ZM ?_|refine ZJ ?_|refine ZN ?_|refine ZP (fun b=>?_)|refine ZO (fun b=>?_)|refine ZA ?_|refine ZB ?_|refine ZX ?_|refine ZY ?_|refine Zf ?_|refine Za ?_|refine Zb ?_|refine Zc (fun b=>?_)|refine Zd (fun b=>?_)|refine Ze ?_|refine ZZ ?_|refine ZE (m1) (fun _ _=>?_)|refine l_call0 (m1) (fun _ _=>?_)|refine ZS (m1) (fun _ _=>?_)|refine ZE (m2 _) (fun _ _=>?_)|refine l_call0 (m2 _) (fun _ _=>?_)|refine ZS (m2 _) (fun _ _=>?_)|rw [wi]|rw [hcc]|refine XZ (m:=bs.length) (sz:=2) i hlt ?_|refine Zn 2 i 0 hb ?_|refine XL (m:=fs.length) (sz:=9) i hil ?_|refine Zl 9 i 0 hx ?_|refine Zl 9 i 7 hx ?_|refine r_sneq (b:=true) ?_ (he:=he)|(refine ZC (fun hc=>?_) (fun hc=>?_)<;>(try simp at hc)<;>(try omega))|(refine ZQ (fun hc=>?_) (fun hc=>?_)<;>(try simp at hc)<;>(try omega))|refine ZD 10 [] [(0,0),(1,0),(2,0),(3,0),(4,0),(5,0),(6,0),(7,0),(8,0),(9,0),(10,0),(11,0),(12,0),(13,0),(14,0),(15,0),(16,0),(17,0),(18,0),(19,0),(20,0),(21,0),(22,0),(23,0),(24,0),(25,0),(26,0),(27,0),(28,0),(29,0),(30,0),(31,0),(32,0),(33,0),(34,0)] [] ?_|(refine ZF (fun hc=>?_) (fun hc=>?_)<;>(try simp at hc)<;>(try omega)))
   exact Zi ⟨(i+1,_),by dsimp only;omega⟩ (by show bs.length - (i+1)<bs.length - i;omega) ⟨rfl,rfl,rfl,trivial⟩
  ·have hb1:(a1 == 1)=false:=by simpa using hk1
   clear hc1
   obtain ⟨g1,g2⟩:=G1
   dsimp only at m2
   repeat' (first|refine ZH ?_|refine ZI ?_|refine ZK ?_|refine ZG ?_|refine ZM ?_|refine ZJ ?_|refine ZN ?_|refine ZP (fun b=>?_)|refine ZO (fun b=>?_)|refine ZA ?_|refine ZB ?_|refine ZX ?_|refine ZY ?_|refine Zf ?_|refine Za ?_|refine Zb ?_|refine Zc (fun b=>?_)|refine Zd (fun b=>?_)|refine Ze ?_|refine ZZ ?_|refine ZE (m1) (fun _ _=>?_)|refine l_call0 (m1) (fun _ _=>?_)|refine ZS (m1) (fun _ _=>?_)|refine ZE (m2 _) (fun _ _=>?_)|refine l_call0 (m2 _) (fun _ _=>?_)|refine ZS (m2 _) (fun _ _=>?_)|rw [wi]|rw [hb1]|refine XZ (m:=bs.length) (sz:=2) i hlt ?_|refine Zn 2 i 0 hb ?_|refine XL (m:=fs.length) (sz:=9) i hil ?_|refine Zl 9 i 0 hx ?_|refine Zl 9 i 7 hx ?_|refine r_sneq (b:=true) ?_ (he:=he)|(refine ZC (fun hc=>?_) (fun hc=>?_)<;>(try simp at hc)<;>(try omega))|(refine ZQ (fun hc=>?_) (fun hc=>?_)<;>(try simp at hc)<;>(try omega))|refine ZD 10 [] [(0,0),(1,0),(2,0),(3,0),(4,0),(5,0),(6,0),(7,0),(8,0),(9,0),(10,0),(11,0),(12,0),(13,0),(14,0),(15,0),(16,0),(17,0),(18,0),(19,0),(20,0),(21,0),(22,0),(23,0),(24,0),(25,0),(26,0),(27,0),(28,0),(29,0),(30,0),(31,0),(32,0),(33,0),(34,0)] [] ?_|(refine ZF (fun hc=>?_) (fun hc=>?_)<;>(try simp at hc)<;>(try omega)))
   exact Zi ⟨(i+1,_),by dsimp only;omega⟩ (by show bs.length - (i+1)<bs.length - i;omega) ⟨rfl,rfl,rfl,trivial⟩
 ·repeat' (first|refine ZH ?_|refine ZI ?_|refine ZK ?_|refine ZG ?_|refine ZM ?_|refine ZJ ?_|refine ZN ?_|refine ZP (fun b=>?_)|refine ZO (fun b=>?_)|refine ZA ?_|refine ZB ?_|refine ZL ?_|(refine ZC (fun hc=>?_) (fun hc=>?_)<;>(try simp at hc)<;>(try omega))|(refine ZF (fun hc=>?_) (fun hc=>?_)<;>(try simp at hc)<;>(try omega)))
  exact ZT () rfl trivial
end
end Go.Proofs.YtdkndahndgkmnaaGreatDoor
