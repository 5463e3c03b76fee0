/-
  The names that the model of layer 27 expects of an operation that writes.
  The names that the model of layer 27 expects of an operation that resizes.
  The law InodeTouches.
  From contracts to the statements' form: memory that was there stays; plain data read the same everywhere; the table of the kinds.
  Slices of plain data as arguments: the fact that they lie in memory, and that they read the same later.
  The settled world; arguments of plain types, opened.
  The statements' arguments, opened: items, bytes.
  The statements' arguments, opened: operations of layer 27.
  Conditions: those that each theorem states.
-/
import Derived.Test.YtdkndahndgkmnaaGreatDoorT5
import Derived.Test.YtdkndahndgkmnaaGreatDoorT2
import Derived.Test.YtdkndahndgkmnaaGreatDoorRows
import Derived.Test.YtdkndahndgkmnaaGreatDoorCards
import Derived.Test.YtdkndahndgkmnaaGreatDoorTie
import Derived.ChangeSame
import Derived.ProofKit
import Derived.OpenShut
import Derived.MakeChecks
import Derived.Deep.DeepHandedRow
import Derived.Test.YtdkndahndgkmnaaGreatDoorT4
set_option maxRecDepth 10000
namespace Go.Proofs.YtdkndahndgkmnaaGreatDoor
open Go.RowKit Go.Proofs.Tryz
section
open VQ
section
variable {A:Nm→Prop} {b:Bi} {P:Nat→Prop} {i:Nat}
theorem sb_nn (n:Nm) (h:n=nnm b):¬SB (fun _=>False) b P i n:=by
 subst h
 rintro (h|⟨t,h1,h2,h3⟩)
 ·exact h
 ·exact VJ h3
end
section
variable (bm:Nat) (q:Mq) (bs:List Bi) (fs:List Fq) (m:List (ByteArray×Int))
set_option maxHeartbeats 4000000 in
theorem tchV1_ok (o:Op7) (hk:o.k.toNat % 6=1) (hD:DoH q bs fs m) (he:(mGet bs fs (bthF bs o.w)).2=0) {x:Fq} (hx:fs[(mGet bs fs (bthF bs o.w)).1]? = some x) (hv:o.f<0∨4096<o.f):Enters 26∧Spec prog 26 #[.pointer (some ⟨bm,0,none⟩),o.v] [Usg] (MoL bm q bs fs m)
  (TcP bm q bs fs m (· = nnm (bthF bs o.w)) (fun _=>False)):=by
 obtain ⟨hl,hlf,hq,hb0,hct,hbs,hmv⟩:=hD
 obtain ⟨ok,ow,of,oc,ot,nd⟩:=o
 dsimp only at *
 have n1:=Zp q bs ow
 have hbz:=Zu hbs ow
 have hbad:∀n:Nm,¬n ∈ ([]:List Nm):=fun n h=>by cases h
 generalize hBI:bthF bs ow=BI at *
 have n3:=YF BI
 have n4:=fun b=>YH none 0 [] (fun _=>False) (nnm BI) b YU (fun h=>h) (by simp) (fun _ h=>h.elim) hbz
 have n6:=YY bm q bs fs BI hl hlf hbz
 have t1:=Yk ok 1 hk
 have w1:=YA (z:=((1:Nat):Int)) (by omega)
 have hgo:=Y8 (bs:=bs) (fs:=fs) (bi:=BI) he
 generalize mGet bs fs BI=G at *
 obtain ⟨G1,G2⟩:=G
 dsimp only at he n6 hx hgo
 subst he
 have hil:=(List.getElem?_eq_some_iff.1 hx).1
 have hxs:=hct x (List.mem_of_getElem? hx)
 obtain ⟨L,hL⟩:∃L,x.ct.size=L:=⟨_,rfl⟩
 rw [hL] at hxs
 have nb:=YM BI
 obtain ⟨g1,g2⟩:=BI
 obtain ⟨a1,a2,a3,a4,a5,a6,a7⟩:=nd
 simp only [Op7.v] at *
 simp only [Bi.v] at n1 n3 n6 nb
 refine ZM [_,_] func26 ntmps26 fun G w hp=>?_
 refine XE (f:=NmW none 0 []) (fun h=>YV h) ?_
 repeat' (first|refine ZE ?_|refine ZD ?_|refine ZL ?_|refine ZF ?_|refine ZS ?_|refine ZO ?_|refine ZV ?_|refine ZR (fun b=>?_)|refine ZX (fun b=>?_)|refine ZH ?_|refine ZB ?_|refine ZW ?_|refine ZT ?_|refine ZZ ?_|refine Zf ?_|refine Za ?_|refine Zd ?_|refine Zj (fun b=>?_)|refine Zm (fun b=>?_)|refine Zk ?_|refine ZU ?_|refine ZC (n1) (fun _ _=>?_)|refine l_call0 (n1) (fun _ _=>?_)|refine ZN (n1) (fun _ _=>?_)|refine ZC (n3) (fun _ _=>?_)|refine l_call0 (n3) (fun _ _=>?_)|refine ZN (n3) (fun _ _=>?_)|refine ZC (n4 _) (fun _ _=>?_)|refine l_call0 (n4 _) (fun _ _=>?_)|refine ZN (n4 _) (fun _ _=>?_)|refine ZC (n6) (fun _ _=>?_)|refine l_call0 (n6) (fun _ _=>?_)|refine ZN (n6) (fun _ _=>?_)|rw [t1]|rw [w1]|rw [hL]|refine Yv (m:=fs.length) (sz:=9) G1 hil ?_|refine Zn 9 G1 7 hx ?_|(refine ZJ (fun hc=>?_) (fun hc=>?_)<;>(try simp at hc)<;>(try omega))|(refine ZP (fun hc=>?_) (fun hc=>?_)<;>(try simp at hc)<;>(try omega))|refine ZA 1 [BiX _ _] [(0,0),(1,0),(2,0),(3,0),(4,0),(5,0),(6,4),(7,1),(8,4)] [] ?_|refine ZA 25 [] [(0,0),(1,0),(2,0),(3,0),(4,0),(5,0)] [] ?_|(refine ZG (fun hc=>?_) (fun hc=>?_)<;>(try simp at hc)<;>(try omega)))
 all_goals rename (NmQ _ _).X=>y
 all_goals rename (NmQ _ _).pure y=>hy
 all_goals exact ZK (y,([],none,0)) rfl ⟨⟨hy.1.cg fun n=>by simp,YU⟩,Nat.le_trans hy.2 (by simp),by simp⟩
def PtC (f t j:Nat):Prop:=RdC f t j∧min t (64 * j+64) - max f (64 * j)<64
set_option maxHeartbeats 8000000 in
theorem tchG1_ok (o:Op7) (hk:o.k.toNat % 6=1) (hD:DoH q bs fs m) (he:(mGet bs fs (bthF bs o.w)).2=0) {x:Fq} (hx:fs[(mGet bs fs (bthF bs o.w)).1]? = some x) (f:Nat) (hf:o.f=(f:Int)) (hf2:f≤4096):Enters 26∧Spec prog 26 #[.pointer (some ⟨bm,0,none⟩),o.v] [Usg] (MoL bm q bs fs m)
  (TcP bm q bs fs m (SB (· = nnm (bthF bs o.w)) (bthF bs o.w) (PtC f (f+min o.t.size (4096 - f))) 64) (fun n=>SB (fun _=>False) (bthF bs o.w) (RdC f (f+min o.t.size (4096 - f))) 64 n∨((x.ct.size<f+min o.t.size (4096 - f)∧f<f+min o.t.size (4096 - f))∧n=nnm (bthF bs o.w)))):=by
 obtain ⟨hl,hlf,hq,hb0,hct,hbs,hmv⟩:=hD
 obtain ⟨ok,ow,of,oc,ot,nd⟩:=o
 dsimp only at *
 have n1:=Zp q bs ow
 have hbz:=Zu hbs ow
 have hbad:∀n:Nm,¬n ∈ ([]:List Nm):=fun n h=>by cases h
 generalize hBI:bthF bs ow=BI at *
 have n3:=YF BI
 have n4:=fun b=>YH none 0 [] (fun _=>False) (nnm BI) b YU (fun h=>h) (by simp) (fun _ h=>h.elim) hbz
 have n6:=YY bm q bs fs BI hl hlf hbz
 have t1:=Yk ok 1 hk
 have w1:=YA (z:=((1:Nat):Int)) (by omega)
 have hgo:=Y8 (bs:=bs) (fs:=fs) (bi:=BI) he
 generalize mGet bs fs BI=G at *
 obtain ⟨G1,G2⟩:=G
 dsimp only at he n6 hx hgo
 subst he
 have hil:=(List.getElem?_eq_some_iff.1 hx).1
 have hxs:=hct x (List.mem_of_getElem? hx)
 obtain ⟨L,hL⟩:∃L,x.ct.size=L:=⟨_,rfl⟩
 subst hf
 rw [hL] at hxs ⊢
 obtain ⟨T,hT⟩:∃T,f+min ot.size (4096 - f)=T:=⟨_,rfl⟩
 have hTl:T≤4096:=by omega
 have w2:IntKind.i64.wrap (4096 - (f:Int))=((4096 - f:Nat):Int):=by rw [wrapi (by omega) (by omega)];omega
 have w3:(if ((4096 - f:Nat):Int)<(ot.size:Int) then ((4096 - f:Nat):Int) else (ot.size:Int))=((min ot.size (4096 - f):Nat):Int):=by split<;>omega
 have w4:IntKind.i64.wrap ((f:Int)+((min ot.size (4096 - f):Nat):Int))=(T:Int):=by rw [wrapi (by omega) (by omega)];omega
 rw [hT]
 have nb:=YM BI
 obtain ⟨g1,g2⟩:=BI
 obtain ⟨a1,a2,a3,a4,a5,a6,a7⟩:=nd
 simp only [Op7.v] at *
 simp only [Bi.v] at n1 n3 n6 nb
 refine ZM [_,_] func26 ntmps26 fun G w hp=>?_
 refine XE (f:=NmW none 0 []) (fun h=>YV h) ?_
 repeat' (first|refine ZE ?_|refine ZD ?_|refine ZL ?_|refine ZF ?_|refine ZS ?_|refine ZO ?_|refine ZV ?_|refine ZR (fun b=>?_)|refine ZX (fun b=>?_)|refine ZH ?_|refine ZB ?_|refine ZT ?_|refine ZZ ?_|refine Zf ?_|refine Za ?_|refine Zd ?_|refine Zj (fun b=>?_)|refine Zm (fun b=>?_)|refine Zk ?_|refine ZU ?_|refine ZC (n1) (fun _ _=>?_)|refine l_call0 (n1) (fun _ _=>?_)|refine ZN (n1) (fun _ _=>?_)|refine ZC (n3) (fun _ _=>?_)|refine l_call0 (n3) (fun _ _=>?_)|refine ZN (n3) (fun _ _=>?_)|refine ZC (n4 _) (fun _ _=>?_)|refine l_call0 (n4 _) (fun _ _=>?_)|refine ZN (n4 _) (fun _ _=>?_)|refine ZC (n6) (fun _ _=>?_)|refine l_call0 (n6) (fun _ _=>?_)|refine ZN (n6) (fun _ _=>?_)|rw [t1]|rw [w1]|rw [hL]|rw [w2]|rw [w3]|rw [w4]|refine Yv (m:=fs.length) (sz:=9) G1 hil ?_|refine Zn 9 G1 7 hx ?_|(refine ZJ (fun hc=>?_) (fun hc=>?_)<;>(try simp at hc)<;>(try omega))|(refine ZP (fun hc=>?_) (fun hc=>?_)<;>(try simp at hc)<;>(try omega))|refine ZA 1 [BiX _ _] [(0,0),(1,0),(2,0),(3,0),(4,0),(5,0),(6,4),(7,1),(8,4)] [] ?_|refine ZA 25 [] [(0,0),(1,0),(2,0),(3,0),(4,0),(5,0)] [] ?_|(refine ZG (fun hc=>?_) (fun hc=>?_)<;>(try simp at hc)<;>(try omega)))
 rename_i bo _ _ bb _ _ y hy _ _
 have ha:=hy.1
 have hb:=hy.2
 clear n1 n4 n6
 refine Z8 (X:={x:Nat×(List Nm×Option Addr×Nat)×(List Nm×Option Addr×Nat) // x.1≤64∧(SN x.2.1.1 (SB (· = nnm ⟨g1,g2⟩) ⟨g1,g2⟩ (PtC f T) x.1)∧x.2.1.1.length≤1+x.1)∧(SN x.2.2.1 (SB (fun _=>False) ⟨g1,g2⟩ (RdC f T) x.1)∧x.2.2.1.length≤x.1)}) (fun x=>[(3,.pointer (some ⟨bo,0,none⟩)),(4,.slice x.1.2.1.2.1 x.1.2.1.1.length x.1.2.1.2.2),(5,.slice x.1.2.2.2.1 x.1.2.2.1.length x.1.2.2.2.2),(6,.pointer (some ⟨bb,0,none⟩)),(13,.int .i64 (L:Int)),(18,.int .i64 (T:Int)),(19,.int .i64 (x.1.1:Int))]) (fun x=>[NmW x.1.2.1.2.1 x.1.2.1.2.2 x.1.2.1.1,NmW x.1.2.2.2.1 x.1.2.2.2.2 x.1.2.2.1,Usg]) (fun _=>Pt bo (.cells #[.int .u8 ok.toNat,.int .u8 ow.toNat,.int .i64 ((f:Nat)),.int .i64 (oc),.string ot,.int .i64 a1,.int .i64 a2,.int .i64 a3,.int .i64 a4,.int .i64 a5,.int .i64 a6,.string a7] 76)::Pt bb (.cells #[.string g1,.int .i64 g2] 68)::MoL bm q bs fs m) (fun x=>64 - x.1.1)
  ⟨(0,y,([],none,0)),Nat.zero_le _,⟨(ha.cg fun n=>by simp only [false_or];exact Vu (A:=(· = nnm ⟨g1,g2⟩)) n),Nat.le_trans hb (by simp)⟩,YU.cg fun n=>Vu (A:=fun _=>False) n,Nat.le_refl _⟩ ⟨rfl,rfl,rfl,rfl,rfl,rfl,rfl,trivial⟩ ?_
 rintro ⟨⟨i,⟨P,o1,c1⟩,⟨Q,o2,c2⟩⟩,hi,⟨hP,hpl⟩,⟨hQ,hql⟩⟩
 dsimp only at hi hP hpl hQ hql ⊢
 by_cases hlt2:i<64
 ·have v1:IntKind.i64.wrap (64 * (i:Int))=((64 * i:Nat):Int):=by rw [wrapi (by omega) (by omega)];omega
  have v2:IntKind.i64.wrap (((64 * i:Nat):Int)+64)=((64 * i+64:Nat):Int):=by rw [wrapi (by omega) (by omega)];omega
  have v3:(if (f:Int)<((64 * i:Nat):Int) then ((64 * i:Nat):Int) else (f:Int))=((max f (64 * i):Nat):Int):=by split<;>omega
  have v4:(if ((64 * i+64:Nat):Int)<(T:Int) then ((64 * i+64:Nat):Int) else (T:Int))=((min T (64 * i+64):Nat):Int):=by split<;>omega
  have v5:IntKind.i64.wrap ((i:Int)+1)=((i+1:Nat):Int):=by rw [wrapi (by omega) (by omega)];omega
  have m5:=nb (i:Int)
  have m6:=fun b=>YH o2 c2 Q _ (bnm ⟨g1,g2⟩ (i:Int)) b hQ (sb_new (fun h=>h)) (by omega) (VV (fun n h=>h.elim) hbz) hbz
  have m7:=fun b=>YH o1 c1 P _ (bnm ⟨g1,g2⟩ (i:Int)) b hP (sb_new XS) (by omega) (VV (fun n h=>nn_ofB _ n h) hbz) hbz
  have hPC:PtC f T i↔RdC f T i∧min T (64 * i+64) - max f (64 * i)<64:=Iff.rfl
  have hRC:RdC f T i↔max f (64 * i)<min T (64 * i+64):=Iff.rfl
  obtain ⟨X1,hX1⟩:∃X1,max f (64 * i)=X1:=⟨_,rfl⟩
  obtain ⟨X2,hX2⟩:∃X2,min T (64 * i+64)=X2:=⟨_,rfl⟩
  rw [hX1] at v3 hPC hRC
  rw [hX2] at v4 hPC hRC
  by_cases hr:X1<X2
  ·have v6:IntKind.i64.wrap ((X2:Int) - (X1:Int))=((X2 - X1:Nat):Int):=by rw [wrapi (by omega) (by omega)];omega
   have hR:=hRC.2 hr
   by_cases hs:X2 - X1<64
   ·have hS:=hPC.2 ⟨hR,hs⟩
    repeat' (first|refine ZE ?_|refine ZD ?_|refine ZL ?_|refine ZF ?_|refine ZS ?_|refine ZO ?_|refine ZV ?_|refine ZR (fun b=>?_)|refine ZX (fun b=>?_)|refine ZH ?_|refine ZB ?_|refine ZW ?_|refine ZT ?_|refine ZZ ?_|refine Zf ?_|refine Za ?_|refine Zd ?_|refine Zj (fun b=>?_)|refine Zm (fun b=>?_)|refine Zk ?_|refine ZU ?_|refine ZC (m5) (fun _ _=>?_)|refine l_call0 (m5) (fun _ _=>?_)|refine ZN (m5) (fun _ _=>?_)|refine ZC (m6 _) (fun _ _=>?_)|refine l_call0 (m6 _) (fun _ _=>?_)|refine ZN (m6 _) (fun _ _=>?_)|refine ZC (m7 _) (fun _ _=>?_)|refine l_call0 (m7 _) (fun _ _=>?_)|refine ZN (m7 _) (fun _ _=>?_)|rw [v1]|rw [v2]|rw [v3]|rw [v4]|rw [v5]|rw [v6]|(refine ZJ (fun hc=>?_) (fun hc=>?_)<;>(try simp at hc)<;>(try omega))|(refine ZP (fun hc=>?_) (fun hc=>?_)<;>(try simp at hc)<;>(try omega))|refine ZA 1 [] [(0,0),(1,0),(2,0),(3,0),(4,0),(5,0),(6,4),(7,1)] [8] ?_|refine ZA 6 [] [(1,0),(2,0),(3,0),(0,4),(4,0),(5,0),(6,0)] [] ?_|refine ZA 8 [] [(0,0),(3,0),(5,0),(1,4),(4,4),(6,4),(7,1),(8,4),(2,1),(9,0),(10,0)] [] ?_|refine ZA 14 [] [(0,0),(1,0),(2,0),(3,0),(4,0),(5,0),(6,0),(7,0),(8,0),(9,0),(10,0),(11,0),(12,0),(13,0),(14,0),(15,0),(16,0)] [] ?_|refine ZA 25 [] [(0,0),(1,0),(2,0),(3,0),(4,0),(5,0)] [] ?_|refine ZA 61 [] [(0,0),(1,0),(2,0),(3,0),(4,0),(5,0),(6,0),(7,0),(8,0),(9,0),(10,0),(11,4)] [] ?_|(refine ZG (fun hc=>?_) (fun hc=>?_)<;>(try simp at hc)<;>(try omega)))
    rename_i y2 hy2 _ _ y3 hy3
    exact Zb ⟨(i+1,y3,y2),by dsimp only;omega,⟨(hy3.1.cg fun n=>sb_yes hS n),Nat.le_trans hy3.2 (by dsimp only;omega)⟩,(hy2.1.cg fun n=>sb_yes hR n),Nat.le_trans hy2.2 (by dsimp only;omega)⟩ (by show 64 - (i+1)<64 - i;omega) ⟨rfl,rfl,rfl,rfl,rfl,rfl,rfl,trivial⟩
   ·have hS:=fun h=>hs (hPC.1 h).2
    repeat' (first|refine ZE ?_|refine ZD ?_|refine ZL ?_|refine ZF ?_|refine ZS ?_|refine ZO ?_|refine ZV ?_|refine ZR (fun b=>?_)|refine ZX (fun b=>?_)|refine ZH ?_|refine ZB ?_|refine ZW ?_|refine ZT ?_|refine ZZ ?_|refine Zf ?_|refine Za ?_|refine Zd ?_|refine Zj (fun b=>?_)|refine Zm (fun b=>?_)|refine Zk ?_|refine ZU ?_|refine ZC (m5) (fun _ _=>?_)|refine l_call0 (m5) (fun _ _=>?_)|refine ZN (m5) (fun _ _=>?_)|refine ZC (m6 _) (fun _ _=>?_)|refine l_call0 (m6 _) (fun _ _=>?_)|refine ZN (m6 _) (fun _ _=>?_)|rw [v1]|rw [v2]|rw [v3]|rw [v4]|rw [v5]|rw [v6]|(refine ZJ (fun hc=>?_) (fun hc=>?_)<;>(try simp at hc)<;>(try omega))|(refine ZP (fun hc=>?_) (fun hc=>?_)<;>(try simp at hc)<;>(try omega))|refine ZA 1 [] [(0,0),(1,0),(2,0),(3,0),(4,0),(5,0),(6,4),(7,1)] [8] ?_|refine ZA 6 [] [(1,0),(2,0),(3,0),(0,4),(4,0),(5,0),(6,0)] [] ?_|refine ZA 8 [] [(0,0),(3,0),(5,0),(1,4),(4,4),(6,4),(7,1),(8,4),(2,1),(9,0),(10,0)] [] ?_|refine ZA 14 [] [(0,0),(1,0),(2,0),(3,0),(4,0),(5,0),(6,0),(7,0),(8,0),(9,0),(10,0),(11,0),(12,0),(13,0),(14,0),(15,0),(16,0)] [] ?_|refine ZA 25 [] [(0,0),(1,0),(2,0),(3,0),(4,0),(5,0)] [] ?_|refine ZA 61 [] [(0,0),(1,0),(2,0),(3,0),(4,0),(5,0),(6,0),(7,0),(8,0),(9,0),(10,0),(11,4)] [] ?_|(refine ZG (fun hc=>?_) (fun hc=>?_)<;>(try simp at hc)<;>(try omega)))
    rename (NmQ _ _).X=>y2
    rename (NmQ _ _).pure y2=>hy2
    exact Zb ⟨(i+1,(P,o1,c1),y2),by dsimp only;omega,⟨(hP.cg fun n=>sb_no hS n),by dsimp only;omega⟩,(hy2.1.cg fun n=>sb_yes hR n),Nat.le_trans hy2.2 (by dsimp only;omega)⟩ (by show 64 - (i+1)<64 - i;omega) ⟨rfl,rfl,rfl,rfl,rfl,rfl,rfl,trivial⟩
  ·have hR:=fun h=>hr (hRC.1 h)
   have hS:=fun h=>hR (hPC.1 h).1
   repeat' (first|refine ZE ?_|refine ZD ?_|refine ZL ?_|refine ZF ?_|refine ZS ?_|refine ZO ?_|refine ZV ?_|refine ZR (fun b=>?_)|refine ZX (fun b=>?_)|refine ZH ?_|refine ZB ?_|refine ZW ?_|refine ZT ?_|refine ZZ ?_|refine Zf ?_|refine Za ?_|refine Zd ?_|refine Zj (fun b=>?_)|refine Zm (fun b=>?_)|refine Zk ?_|refine ZU ?_|rw [v1]|rw [v2]|rw [v3]|rw [v4]|rw [v5]|(refine ZJ (fun hc=>?_) (fun hc=>?_)<;>(try simp at hc)<;>(try omega))|(refine ZP (fun hc=>?_) (fun hc=>?_)<;>(try simp at hc)<;>(try omega))|refine ZA 1 [] [(0,0),(1,0),(2,0),(3,0),(4,0),(5,0),(6,4),(7,1)] [8] ?_|refine ZA 6 [] [(1,0),(2,0),(3,0),(0,4),(4,0),(5,0),(6,0)] [] ?_|refine ZA 8 [] [(0,0),(3,0),(5,0),(1,4),(4,4),(6,4),(7,1),(8,4),(2,1),(9,0),(10,0)] [] ?_|refine ZA 14 [] [(0,0),(1,0),(2,0),(3,0),(4,0),(5,0),(6,0),(7,0),(8,0),(9,0),(10,0),(11,0),(12,0),(13,0),(14,0),(15,0),(16,0)] [] ?_|refine ZA 25 [] [(0,0),(1,0),(2,0),(3,0),(4,0),(5,0)] [] ?_|refine ZA 61 [] [(0,0),(1,0),(2,0),(3,0),(4,0),(5,0),(6,0),(7,0),(8,0),(9,0),(10,0),(11,4)] [] ?_|(refine ZG (fun hc=>?_) (fun hc=>?_)<;>(try simp at hc)<;>(try omega)))
   exact Zb ⟨(i+1,(P,o1,c1),(Q,o2,c2)),by dsimp only;omega,⟨(hP.cg fun n=>sb_no hS n),by dsimp only;omega⟩,(hQ.cg fun n=>sb_no hR n),by dsimp only;omega⟩ (by show 64 - (i+1)<64 - i;omega) ⟨rfl,rfl,rfl,rfl,rfl,rfl,rfl,trivial⟩
 ·have hi64:i=64:=by omega
  subst hi64
  by_cases hw:L<T∧f<T
  ·obtain ⟨hw1,hw2⟩:=hw
   have m8:=fun b=>YH o2 c2 Q _ (nnm ⟨g1,g2⟩) b hQ (sb_nn _ rfl) (by omega) (VV (fun n h=>h.elim) hbz) hbz
   repeat' (first|refine ZE ?_|refine ZD ?_|refine ZL ?_|refine ZF ?_|refine ZS ?_|refine ZO ?_|refine ZV ?_|refine ZR (fun b=>?_)|refine ZX (fun b=>?_)|refine ZH ?_|refine ZB ?_|refine ZW ?_|refine ZT ?_|refine ZZ ?_|refine Zf ?_|refine Za ?_|refine Zd ?_|refine Zj (fun b=>?_)|refine Zm (fun b=>?_)|refine Zk ?_|refine ZU ?_|refine ZC (n3) (fun _ _=>?_)|refine l_call0 (n3) (fun _ _=>?_)|refine ZN (n3) (fun _ _=>?_)|refine ZC (m8 _) (fun _ _=>?_)|refine l_call0 (m8 _) (fun _ _=>?_)|refine ZN (m8 _) (fun _ _=>?_)|(refine ZJ (fun hc=>?_) (fun hc=>?_)<;>(try simp at hc)<;>(try omega))|(refine ZP (fun hc=>?_) (fun hc=>?_)<;>(try simp at hc)<;>(try omega))|refine ZA 1 [] [(0,0),(1,0),(2,0),(3,0),(4,0),(5,0),(6,4),(7,1)] [8] ?_|refine ZA 6 [] [(1,0),(2,0),(3,0),(0,4),(4,0),(5,0),(6,0)] [] ?_|refine ZA 8 [] [(0,0),(3,0),(5,0),(1,4),(4,4),(6,4),(7,1),(8,4),(2,1),(9,0),(10,0)] [] ?_|refine ZA 14 [] [(0,0),(1,0),(2,0),(3,0),(4,0),(5,0),(6,0),(7,0),(8,0),(9,0),(10,0),(11,0),(12,0),(13,0),(14,0),(15,0),(16,0)] [] ?_|refine ZA 25 [] [(0,0),(1,0),(2,0),(3,0),(4,0),(5,0)] [] ?_|refine ZA 61 [] [(0,0),(1,0),(2,0),(3,0),(4,0),(5,0),(6,0),(7,0),(8,0),(9,0),(10,0),(11,4)] [] ?_|(refine ZG (fun hc=>?_) (fun hc=>?_)<;>(try simp at hc)<;>(try omega)))
   rename (NmQ _ _).X=>y2
   rename (NmQ _ _).pure y2=>hy2
   exact ZK ((P,o1,c1),y2) rfl ⟨⟨hP,hy2.1.cg fun n=>or_congr Iff.rfl ⟨fun h=>⟨⟨hw1,hw2⟩,h⟩,fun h=>h.2⟩⟩,Nat.le_trans hpl (by omega),Nat.le_trans hy2.2 (by omega)⟩
  ·repeat' (first|refine ZE ?_|refine ZD ?_|refine ZL ?_|refine ZF ?_|refine ZS ?_|refine ZO ?_|refine ZV ?_|refine ZR (fun b=>?_)|refine ZX (fun b=>?_)|refine ZH ?_|refine ZB ?_|refine ZW ?_|refine ZT ?_|refine ZZ ?_|refine Zf ?_|refine Za ?_|refine Zd ?_|refine Zj (fun b=>?_)|refine Zm (fun b=>?_)|refine Zk ?_|refine ZU ?_|(refine ZJ (fun hc=>?_) (fun hc=>?_)<;>(try simp at hc)<;>(try omega))|(refine ZP (fun hc=>?_) (fun hc=>?_)<;>(try simp at hc)<;>(try omega))|refine ZA 1 [] [(0,0),(1,0),(2,0),(3,0),(4,0),(5,0),(6,4),(7,1)] [8] ?_|refine ZA 6 [] [(1,0),(2,0),(3,0),(0,4),(4,0),(5,0),(6,0)] [] ?_|refine ZA 8 [] [(0,0),(3,0),(5,0),(1,4),(4,4),(6,4),(7,1),(8,4),(2,1),(9,0),(10,0)] [] ?_|refine ZA 14 [] [(0,0),(1,0),(2,0),(3,0),(4,0),(5,0),(6,0),(7,0),(8,0),(9,0),(10,0),(11,0),(12,0),(13,0),(14,0),(15,0),(16,0)] [] ?_|refine ZA 25 [] [(0,0),(1,0),(2,0),(3,0),(4,0),(5,0)] [] ?_|refine ZA 61 [] [(0,0),(1,0),(2,0),(3,0),(4,0),(5,0),(6,0),(7,0),(8,0),(9,0),(10,0),(11,4)] [] ?_|(refine ZG (fun hc=>?_) (fun hc=>?_)<;>(try simp at hc)<;>(try omega)))
   all_goals exact ZK ((P,o1,c1),(Q,o2,c2)) rfl ⟨⟨hP,hQ.cg fun n=>⟨.inl,fun h=>h.elim id fun h=>absurd h.1 hw⟩⟩,Nat.le_trans hpl (by omega),Nat.le_trans hql (by omega)⟩
end
end
section
open VQ
section
variable (bm:Nat) (q:Mq) (bs:List Bi) (fs:List Fq) (m:List (ByteArray×Int))
theorem cm_shut0 {rm:Nat} {m:List (ByteArray×Int)} {fs:List Fq} {i:Nat} {f:Fq} (hf:fs[i]? = some f) {h:H} (hh:Sep [Mp Yl ziv rm m,Mp ziv blv f.mr f.bl,CMr fs i] h):CM rm m fs h:=by
 rw [(split_at hf).1]
 exact cm_mid.2 hh
def CtC (c n j:Nat):Prop:=64 * j<n∧c≤64 * j
set_option maxHeartbeats 4000000 in
theorem tchV2_ok (o:Op7) (hk:o.k.toNat % 6=2) (hD:DoH q bs fs m) (he:(mGet bs fs (bthF bs o.w)).2=0) {x:Fq} (hx:fs[(mGet bs fs (bthF bs o.w)).1]? = some x) (hv:o.c<0∨4096<o.c∨o.c=(x.ct.size:Int)):Enters 26∧Spec prog 26 #[.pointer (some ⟨bm,0,none⟩),o.v] [Usg] (MoL bm q bs fs m)
  (TcP bm q bs fs m (· = nnm (bthF bs o.w)) (fun _=>False)):=by
 obtain ⟨hl,hlf,hq,hb0,hct,hbs,hmv⟩:=hD
 obtain ⟨ok,ow,of,oc,ot,nd⟩:=o
 dsimp only at *
 have n1:=Zp q bs ow
 have hbz:=Zu hbs ow
 have hbad:∀n:Nm,¬n ∈ ([]:List Nm):=fun n h=>by cases h
 generalize hBI:bthF bs ow=BI at *
 have n3:=YF BI
 have n4:=fun b=>YH none 0 [] (fun _=>False) (nnm BI) b YU (fun h=>h) (by simp) (fun _ h=>h.elim) hbz
 have n6:=YY bm q bs fs BI hl hlf hbz
 have t1:=Yk ok 2 hk
 have w1:=YA (z:=((2:Nat):Int)) (by omega)
 have hgo:=Y8 (bs:=bs) (fs:=fs) (bi:=BI) he
 generalize mGet bs fs BI=G at *
 obtain ⟨G1,G2⟩:=G
 dsimp only at he n6 hx hgo
 subst he
 have hil:=(List.getElem?_eq_some_iff.1 hx).1
 have hxs:=hct x (List.mem_of_getElem? hx)
 obtain ⟨L,hL⟩:∃L,x.ct.size=L:=⟨_,rfl⟩
 rw [hL] at hxs hv
 have nb:=YM BI
 obtain ⟨g1,g2⟩:=BI
 obtain ⟨a1,a2,a3,a4,a5,a6,a7⟩:=nd
 simp only [Op7.v] at *
 simp only [Bi.v] at n1 n3 n6 nb
 refine ZM [_,_] func26 ntmps26 fun G w hp=>?_
 refine XE (f:=NmW none 0 []) (fun h=>YV h) ?_
 repeat' (first|refine ZE ?_|refine ZD ?_|refine ZL ?_|refine ZF ?_|refine ZS ?_|refine ZO ?_|refine ZV ?_|refine ZR (fun b=>?_)|refine ZX (fun b=>?_)|refine ZH ?_|refine ZB ?_|refine ZW ?_|refine ZT ?_|refine ZZ ?_|refine Zf ?_|refine Za ?_|refine Zd ?_|refine Zj (fun b=>?_)|refine Zm (fun b=>?_)|refine Zk ?_|refine ZU ?_|refine ZC (n1) (fun _ _=>?_)|refine l_call0 (n1) (fun _ _=>?_)|refine ZN (n1) (fun _ _=>?_)|refine ZC (n3) (fun _ _=>?_)|refine l_call0 (n3) (fun _ _=>?_)|refine ZN (n3) (fun _ _=>?_)|refine ZC (n4 _) (fun _ _=>?_)|refine l_call0 (n4 _) (fun _ _=>?_)|refine ZN (n4 _) (fun _ _=>?_)|refine ZC (n6) (fun _ _=>?_)|refine l_call0 (n6) (fun _ _=>?_)|refine ZN (n6) (fun _ _=>?_)|rw [t1]|rw [w1]|rw [hL]|refine Yv (m:=fs.length) (sz:=9) G1 hil ?_|refine Zn 9 G1 7 hx ?_|(refine ZJ (fun hc=>?_) (fun hc=>?_)<;>(try simp at hc)<;>(try omega))|(refine ZP (fun hc=>?_) (fun hc=>?_)<;>(try simp at hc)<;>(try omega))|refine ZA 1 [BiX _ _] [(0,0),(1,0),(2,0),(3,0),(4,0),(5,0),(6,4),(7,1),(8,4)] [] ?_|refine ZA 25 [] [(0,0),(1,0),(2,0),(3,0),(4,0),(5,0)] [] ?_|(refine ZG (fun hc=>?_) (fun hc=>?_)<;>(try simp at hc)<;>(try omega)))
 all_goals rename (NmQ _ _).X=>y
 all_goals rename (NmQ _ _).pure y=>hy
 all_goals exact ZK (y,([],none,0)) rfl ⟨⟨hy.1.cg fun n=>by simp,YU⟩,Nat.le_trans hy.2 (by simp),by simp⟩
set_option maxHeartbeats 8000000 in
theorem tchB2_ok (o:Op7) (hk:o.k.toNat % 6=2) (hD:DoH q bs fs m) (he:(mGet bs fs (bthF bs o.w)).2=0) {x:Fq} (hx:fs[(mGet bs fs (bthF bs o.w)).1]? = some x) (c:Nat) (hf:o.c=(c:Int)) (hf2:c≤4096) (hgt:x.ct.size<c):Enters 26∧Spec prog 26 #[.pointer (some ⟨bm,0,none⟩),o.v] [Usg] (MoL bm q bs fs m)
  (TcP bm q bs fs m (· = nnm (bthF bs o.w)) (· = nnm (bthF bs o.w))):=by
 obtain ⟨hl,hlf,hq,hb0,hct,hbs,hmv⟩:=hD
 obtain ⟨ok,ow,of,oc,ot,nd⟩:=o
 dsimp only at *
 have n1:=Zp q bs ow
 have hbz:=Zu hbs ow
 have hbad:∀n:Nm,¬n ∈ ([]:List Nm):=fun n h=>by cases h
 generalize hBI:bthF bs ow=BI at *
 have n3:=YF BI
 have n4:=fun b=>YH none 0 [] (fun _=>False) (nnm BI) b YU (fun h=>h) (by simp) (fun _ h=>h.elim) hbz
 have n6:=YY bm q bs fs BI hl hlf hbz
 have t1:=Yk ok 2 hk
 have w1:=YA (z:=((2:Nat):Int)) (by omega)
 have hgo:=Y8 (bs:=bs) (fs:=fs) (bi:=BI) he
 generalize mGet bs fs BI=G at *
 obtain ⟨G1,G2⟩:=G
 dsimp only at he n6 hx hgo
 subst he
 have hil:=(List.getElem?_eq_some_iff.1 hx).1
 have hxs:=hct x (List.mem_of_getElem? hx)
 obtain ⟨L,hL⟩:∃L,x.ct.size=L:=⟨_,rfl⟩
 subst hf
 rw [hL] at hxs hgt
 have nb:=YM BI
 obtain ⟨g1,g2⟩:=BI
 obtain ⟨a1,a2,a3,a4,a5,a6,a7⟩:=nd
 simp only [Op7.v] at *
 simp only [Bi.v] at n1 n3 n6 nb
 refine ZM [_,_] func26 ntmps26 fun G w hp=>?_
 refine XE (f:=NmW none 0 []) (fun h=>YV h) ?_
 have n5:=n4
 repeat' (first|refine ZE ?_|refine ZD ?_|refine ZL ?_|refine ZF ?_|refine ZS ?_|refine ZO ?_|refine ZV ?_|refine ZR (fun b=>?_)|refine ZX (fun b=>?_)|refine ZH ?_|refine ZB ?_|refine ZT ?_|refine ZZ ?_|refine Zf ?_|refine Za ?_|refine Zd ?_|refine Zj (fun b=>?_)|refine Zm (fun b=>?_)|refine Zk ?_|refine ZU ?_|refine ZC (n1) (fun _ _=>?_)|refine l_call0 (n1) (fun _ _=>?_)|refine ZN (n1) (fun _ _=>?_)|refine ZC (n3) (fun _ _=>?_)|refine l_call0 (n3) (fun _ _=>?_)|refine ZN (n3) (fun _ _=>?_)|refine ZC (n4 _) (fun _ _=>?_)|refine l_call0 (n4 _) (fun _ _=>?_)|refine ZN (n4 _) (fun _ _=>?_)|refine ZC (n6) (fun _ _=>?_)|refine l_call0 (n6) (fun _ _=>?_)|refine ZN (n6) (fun _ _=>?_)|rw [t1]|rw [w1]|rw [hL]|refine Yv (m:=fs.length) (sz:=9) G1 hil ?_|refine Zn 9 G1 7 hx ?_|(refine ZJ (fun hc=>?_) (fun hc=>?_)<;>(try simp at hc)<;>(try omega))|(refine ZP (fun hc=>?_) (fun hc=>?_)<;>(try simp at hc)<;>(try omega))|refine ZA 1 [BiX _ _] [(0,0),(1,0),(2,0),(3,0),(4,0),(5,0),(6,4),(7,1),(8,4)] [] ?_|refine ZA 25 [] [(0,0),(1,0),(2,0),(3,0),(4,0),(5,0)] [] ?_|(refine ZG (fun hc=>?_) (fun hc=>?_)<;>(try simp at hc)<;>(try omega)))
 rename_i bo _ _ bb _ _ _ y hy _ _ _ _ _ y2 hy2
 refine Z8 (X:=Unit) (fun _=>[(3,.pointer (some ⟨bo,0,none⟩)),(4,.slice y.2.1 y.1.length y.2.2),(5,.slice y2.2.1 y2.1.length y2.2.2),(13,.int .i64 (L:Int)),(22,.int .i64 0)]) (fun _=>[NmW y.2.1 y.2.2 y.1,NmW y2.2.1 y2.2.2 y2.1]) (fun _=>Pt bo (.cells #[.int .u8 ok.toNat,.int .u8 ow.toNat,.int .i64 (of),.int .i64 ((c:Nat)),.string ot,.int .i64 a1,.int .i64 a2,.int .i64 a3,.int .i64 a4,.int .i64 a5,.int .i64 a6,.string a7] 76)::MoL bm q bs fs m) (fun _=>0) () ⟨rfl,rfl,rfl,rfl,rfl,trivial⟩ ?_
 rintro ⟨⟩
 repeat' (first|refine ZE ?_|refine ZD ?_|refine ZL ?_|refine ZF ?_|refine ZS ?_|refine ZO ?_|refine ZV ?_|refine ZR (fun b=>?_)|refine ZX (fun b=>?_)|refine ZH ?_|refine ZB ?_|refine ZW ?_|refine ZT ?_|refine ZZ ?_|refine Zf ?_|refine Za ?_|refine Zd ?_|refine Zj (fun b=>?_)|refine Zm (fun b=>?_)|refine Zk ?_|refine ZU ?_|(refine ZJ (fun hc=>?_) (fun hc=>?_)<;>(try simp at hc)<;>(try omega))|(refine ZP (fun hc=>?_) (fun hc=>?_)<;>(try simp at hc)<;>(try omega))|refine ZA 1 [] [(0,0),(1,0),(2,0),(3,0),(4,0),(5,0),(6,4),(7,1)] [8] ?_|refine ZA 6 [] [(1,0),(2,0),(3,0),(0,4),(4,0),(5,0),(6,0)] [] ?_|refine ZA 8 [] [(0,0),(3,0),(5,0),(1,4),(4,4),(6,4),(7,1),(8,4),(2,1),(9,0),(10,0)] [] ?_|refine ZA 14 [] [(0,0),(1,0),(2,0),(3,0),(4,0),(5,0),(6,0),(7,0),(8,0),(9,0),(10,0),(11,0),(12,0),(13,0),(14,0),(15,0),(16,0)] [] ?_|refine ZA 25 [] [(0,0),(1,0),(2,0),(3,0),(4,0),(5,0)] [] ?_|refine ZA 61 [] [(0,0),(1,0),(2,0),(3,0),(4,0),(5,0),(6,0),(7,0),(8,0),(9,0),(10,0),(11,4)] [] ?_|(refine ZG (fun hc=>?_) (fun hc=>?_)<;>(try simp at hc)<;>(try omega)))
 exact ZK (y,y2) rfl ⟨⟨hy.1.cg fun n=>by simp,hy2.1.cg fun n=>by simp⟩,Nat.le_trans hy.2 (by simp),Nat.le_trans hy2.2 (by simp)⟩
set_option maxHeartbeats 8000000 in
theorem tchG2_ok (o:Op7) (hk:o.k.toNat % 6=2) (hD:DoH q bs fs m) (he:(mGet bs fs (bthF bs o.w)).2=0) {x:Fq} (hx:fs[(mGet bs fs (bthF bs o.w)).1]? = some x) (c:Nat) (hf:o.c=(c:Int)) (hf2:c≤4096) (hgt:c<x.ct.size):Enters 26∧Spec prog 26 #[.pointer (some ⟨bm,0,none⟩),o.v] [Usg] (MoL bm q bs fs m)
  (TcP bm q bs fs m (fun n=>n=nnm (bthF bs o.w)∨(c<x.ct.size∧0<c % 64∧n=bnm (bthF bs o.w) ((c / 64:Nat):Int))) (fun n=>(n=nnm (bthF bs o.w)∨(c<x.ct.size∧∃j:Nat,j<64∧64 * j<x.ct.size∧c≤64 * j∧n=bnm (bthF bs o.w) (j:Int)))∨(c<x.ct.size∧0<c % 64∧(mget ((c / 64:Nat):Int) x.bl).getD false=true∧n=bnm (bthF bs o.w) ((c / 64:Nat):Int)))):=by
 obtain ⟨hl,hlf,hq,hb0,hct,hbs,hmv⟩:=hD
 obtain ⟨ok,ow,of,oc,ot,nd⟩:=o
 dsimp only at *
 have n1:=Zp q bs ow
 have hbz:=Zu hbs ow
 have hbad:∀n:Nm,¬n ∈ ([]:List Nm):=fun n h=>by cases h
 generalize hBI:bthF bs ow=BI at *
 have n3:=YF BI
 have n4:=fun b=>YH none 0 [] (fun _=>False) (nnm BI) b YU (fun h=>h) (by simp) (fun _ h=>h.elim) hbz
 have n6:=YY bm q bs fs BI hl hlf hbz
 have t1:=Yk ok 2 hk
 have w1:=YA (z:=((2:Nat):Int)) (by omega)
 have hgo:=Y8 (bs:=bs) (fs:=fs) (bi:=BI) he
 generalize mGet bs fs BI=G at *
 obtain ⟨G1,G2⟩:=G
 dsimp only at he n6 hx hgo
 subst he
 have hil:=(List.getElem?_eq_some_iff.1 hx).1
 have hxs:=hct x (List.mem_of_getElem? hx)
 obtain ⟨L,hL⟩:∃L,x.ct.size=L:=⟨_,rfl⟩
 subst hf
 rw [hL] at hxs hgt ⊢
 have w7:(c:Int).tmod 64=((c % 64:Nat):Int):=by rw [Int.tmod_eq_emod_of_nonneg (Int.natCast_nonneg _)];exact (Int.natCast_emod _ 64).symm
 have w8:(c:Int).tdiv 64=((c / 64:Nat):Int):=by rw [Int.tdiv_eq_ediv_of_nonneg (Int.natCast_nonneg _)];exact (Int.natCast_ediv _ 64).symm
 have w9:IntKind.i64.wrap ((c / 64:Nat):Int)=((c / 64:Nat):Int):=wrapi (by omega) (by omega)
 have w10:IntKind.i64.wrap ((c % 64:Nat):Int)=((c % 64:Nat):Int):=wrapi (by omega) (by omega)
 have nb:=YM BI
 obtain ⟨g1,g2⟩:=BI
 obtain ⟨a1,a2,a3,a4,a5,a6,a7⟩:=nd
 simp only [Op7.v] at *
 simp only [Bi.v] at n1 n3 n6 nb
 refine ZM [_,_] func26 ntmps26 fun G w hp=>?_
 refine XE (f:=NmW none 0 []) (fun h=>YV h) ?_
 have n5:=n4
 repeat' (first|refine ZE ?_|refine ZD ?_|refine ZL ?_|refine ZF ?_|refine ZS ?_|refine ZO ?_|refine ZV ?_|refine ZR (fun b=>?_)|refine ZX (fun b=>?_)|refine ZH ?_|refine ZB ?_|refine ZT ?_|refine ZZ ?_|refine Zf ?_|refine Za ?_|refine Zd ?_|refine Zj (fun b=>?_)|refine Zm (fun b=>?_)|refine Zk ?_|refine ZU ?_|refine ZC (n1) (fun _ _=>?_)|refine l_call0 (n1) (fun _ _=>?_)|refine ZN (n1) (fun _ _=>?_)|refine ZC (n3) (fun _ _=>?_)|refine l_call0 (n3) (fun _ _=>?_)|refine ZN (n3) (fun _ _=>?_)|refine ZC (n4 _) (fun _ _=>?_)|refine l_call0 (n4 _) (fun _ _=>?_)|refine ZN (n4 _) (fun _ _=>?_)|refine ZC (n6) (fun _ _=>?_)|refine l_call0 (n6) (fun _ _=>?_)|refine ZN (n6) (fun _ _=>?_)|rw [t1]|rw [w1]|rw [hL]|refine Yv (m:=fs.length) (sz:=9) G1 hil ?_|refine Zn 9 G1 7 hx ?_|(refine ZJ (fun hc=>?_) (fun hc=>?_)<;>(try simp at hc)<;>(try omega))|(refine ZP (fun hc=>?_) (fun hc=>?_)<;>(try simp at hc)<;>(try omega))|refine ZA 1 [BiX _ _] [(0,0),(1,0),(2,0),(3,0),(4,0),(5,0),(6,4),(7,1),(8,4)] [] ?_|refine ZA 25 [] [(0,0),(1,0),(2,0),(3,0),(4,0),(5,0)] [] ?_|(refine ZG (fun hc=>?_) (fun hc=>?_)<;>(try simp at hc)<;>(try omega)))
 rename_i bo _ _ bb _ _ _ y hy _ _ _ _ _ y2 hy2
 have ha:=hy2.1
 have hb:=hy2.2
 have hya:=hy.1
 have hyb:y.1.length≤1:=hy.2
 clear n1 n4 n6 n5
 refine Z8 (X:={x:Nat×(List Nm×Option Addr×Nat) // x.1≤64∧SN x.2.1 (SB (· = nnm ⟨g1,g2⟩) ⟨g1,g2⟩ (CtC c L) x.1)∧x.2.1.length≤1+x.1}) (fun x=>[(0,.pointer (some ⟨bm,0,none⟩)),(3,.pointer (some ⟨bo,0,none⟩)),(4,.slice y.2.1 y.1.length y.2.2),(5,.slice x.1.2.2.1 x.1.2.1.length x.1.2.2.2),(6,.pointer (some ⟨bb,0,none⟩)),(11,.int .i64 (G1:Int)),(13,.int .i64 (L:Int)),(22,.int .i64 (x.1.1:Int))]) (fun x=>[NmW y.2.1 y.2.2 y.1,NmW x.1.2.2.1 x.1.2.2.2 x.1.2.1,Usg]) (fun _=>Pt bo (.cells #[.int .u8 ok.toNat,.int .u8 ow.toNat,.int .i64 (of),.int .i64 ((c:Nat)),.string ot,.int .i64 a1,.int .i64 a2,.int .i64 a3,.int .i64 a4,.int .i64 a5,.int .i64 a6,.string a7] 76)::Pt bb (.cells #[.string g1,.int .i64 g2] 68)::MoL bm q bs fs m) (fun x=>64 - x.1.1)
  ⟨(0,y2),Nat.zero_le _,(ha.cg fun n=>by simp only [false_or];exact Vu (A:=(· = nnm ⟨g1,g2⟩)) n),Nat.le_trans hb (by simp)⟩ ⟨rfl,rfl,rfl,rfl,rfl,rfl,rfl,rfl,trivial⟩ ?_
 rintro ⟨⟨i,P,o1,c1⟩,hi,hP,hpl⟩
 dsimp only at hi hP hpl ⊢
 by_cases hlt2:i<64
 ·have v1:IntKind.i64.wrap (64 * (i:Int))=((64 * i:Nat):Int):=by rw [wrapi (by omega) (by omega)];omega
  have v5:IntKind.i64.wrap ((i:Int)+1)=((i+1:Nat):Int):=by rw [wrapi (by omega) (by omega)];omega
  have m5:=nb (i:Int)
  have m6:=fun b=>YH o1 c1 P _ (bnm ⟨g1,g2⟩ (i:Int)) b hP (sb_new XS) (by omega) (VV (fun n h=>nn_ofB _ n h) hbz) hbz
  by_cases hR:CtC c L i
  ·obtain ⟨hr1,hr2⟩:=id hR
   repeat' (first|refine ZE ?_|refine ZD ?_|refine ZL ?_|refine ZF ?_|refine ZS ?_|refine ZO ?_|refine ZV ?_|refine ZR (fun b=>?_)|refine ZX (fun b=>?_)|refine ZH ?_|refine ZB ?_|refine ZW ?_|refine ZT ?_|refine ZZ ?_|refine Zf ?_|refine Za ?_|refine Zd ?_|refine Zj (fun b=>?_)|refine Zm (fun b=>?_)|refine Zk ?_|refine ZU ?_|refine ZC (m5) (fun _ _=>?_)|refine l_call0 (m5) (fun _ _=>?_)|refine ZN (m5) (fun _ _=>?_)|refine ZC (m6 _) (fun _ _=>?_)|refine l_call0 (m6 _) (fun _ _=>?_)|refine ZN (m6 _) (fun _ _=>?_)|rw [v1]|rw [v5]|(refine ZJ (fun hc=>?_) (fun hc=>?_)<;>(try simp at hc)<;>(try omega))|(refine ZP (fun hc=>?_) (fun hc=>?_)<;>(try simp at hc)<;>(try omega))|refine ZA 1 [] [(0,0),(1,0),(2,0),(3,0),(4,0),(5,0),(6,4),(7,1)] [8] ?_|refine ZA 6 [] [(1,0),(2,0),(3,0),(0,4),(4,0),(5,0),(6,0)] [] ?_|refine ZA 8 [] [(0,0),(3,0),(5,0),(1,4),(4,4),(6,4),(7,1),(8,4),(2,1),(9,0),(10,0)] [] ?_|refine ZA 14 [] [(0,0),(1,0),(2,0),(3,0),(4,0),(5,0),(6,0),(7,0),(8,0),(9,0),(10,0),(11,0),(12,0),(13,0),(14,0),(15,0),(16,0)] [] ?_|refine ZA 25 [] [(0,0),(1,0),(2,0),(3,0),(4,0),(5,0)] [] ?_|refine ZA 61 [] [(0,0),(1,0),(2,0),(3,0),(4,0),(5,0),(6,0),(7,0),(8,0),(9,0),(10,0),(11,4)] [] ?_|(refine ZG (fun hc=>?_) (fun hc=>?_)<;>(try simp at hc)<;>(try omega)))
   rename (NmQ _ _).X=>y3
   rename (NmQ _ _).pure y3=>hy3
   exact Zb ⟨(i+1,y3),by dsimp only;omega,(hy3.1.cg fun n=>sb_yes hR n),Nat.le_trans hy3.2 (by dsimp only;omega)⟩ (by show 64 - (i+1)<64 - i;omega) ⟨rfl,rfl,rfl,rfl,rfl,rfl,rfl,rfl,trivial⟩
  ·have hr:¬(64 * i<L∧c≤64 * i):=hR
   repeat' (first|refine ZE ?_|refine ZD ?_|refine ZL ?_|refine ZF ?_|refine ZS ?_|refine ZO ?_|refine ZV ?_|refine ZR (fun b=>?_)|refine ZX (fun b=>?_)|refine ZH ?_|refine ZB ?_|refine ZW ?_|refine ZT ?_|refine ZZ ?_|refine Zf ?_|refine Za ?_|refine Zd ?_|refine Zj (fun b=>?_)|refine Zm (fun b=>?_)|refine Zk ?_|refine ZU ?_|rw [v1]|rw [v5]|(refine ZJ (fun hc=>?_) (fun hc=>?_)<;>(try simp at hc)<;>(try omega))|(refine ZP (fun hc=>?_) (fun hc=>?_)<;>(try simp at hc)<;>(try omega))|refine ZA 1 [] [(0,0),(1,0),(2,0),(3,0),(4,0),(5,0),(6,4),(7,1)] [8] ?_|refine ZA 6 [] [(1,0),(2,0),(3,0),(0,4),(4,0),(5,0),(6,0)] [] ?_|refine ZA 8 [] [(0,0),(3,0),(5,0),(1,4),(4,4),(6,4),(7,1),(8,4),(2,1),(9,0),(10,0)] [] ?_|refine ZA 14 [] [(0,0),(1,0),(2,0),(3,0),(4,0),(5,0),(6,0),(7,0),(8,0),(9,0),(10,0),(11,0),(12,0),(13,0),(14,0),(15,0),(16,0)] [] ?_|refine ZA 25 [] [(0,0),(1,0),(2,0),(3,0),(4,0),(5,0)] [] ?_|refine ZA 61 [] [(0,0),(1,0),(2,0),(3,0),(4,0),(5,0),(6,0),(7,0),(8,0),(9,0),(10,0),(11,4)] [] ?_|(refine ZG (fun hc=>?_) (fun hc=>?_)<;>(try simp at hc)<;>(try omega)))
   all_goals exact Zb ⟨(i+1,P,o1,c1),by dsimp only;omega,(hP.cg fun n=>sb_no hR n),by dsimp only;omega⟩ (by show 64 - (i+1)<64 - i;omega) ⟨rfl,rfl,rfl,rfl,rfl,rfl,rfl,rfl,trivial⟩
 ·have hi64:i=64:=by omega
  subst hi64
  have hQ1:∀n,SB (· = nnm ⟨g1,g2⟩) ⟨g1,g2⟩ (CtC c L) 64 n↔(n=nnm ⟨g1,g2⟩∨(c<L∧∃j:Nat,j<64∧64 * j<L∧c≤64 * j∧n=bnm ⟨g1,g2⟩ (j:Int))):=fun n=>or_congr Iff.rfl ⟨fun ⟨t,h1,h2,h3⟩=>⟨hgt,t,h1,h2.1,h2.2,h3⟩,fun ⟨_,t,h1,h2,h3,h4⟩=>⟨t,h1,⟨h2,h3⟩,h4⟩⟩
  by_cases h6:c % 64=0
  ·rw [h6] at w7 w10
   repeat' (first|refine ZE ?_|refine ZD ?_|refine ZL ?_|refine ZF ?_|refine ZS ?_|refine ZO ?_|refine ZV ?_|refine ZR (fun b=>?_)|refine ZX (fun b=>?_)|refine ZH ?_|refine ZB ?_|refine ZW ?_|refine ZT ?_|refine ZZ ?_|refine Zf ?_|refine Za ?_|refine Zd ?_|refine Zj (fun b=>?_)|refine Zm (fun b=>?_)|refine Zk ?_|refine ZU ?_|rw [w7]|rw [w8]|rw [w9]|(refine ZJ (fun hc=>?_) (fun hc=>?_)<;>(try simp at hc)<;>(try omega))|(refine ZP (fun hc=>?_) (fun hc=>?_)<;>(try simp at hc)<;>(try omega))|refine ZA 1 [] [(0,0),(1,0),(2,0),(3,0),(4,0),(5,0),(6,4),(7,1)] [8] ?_|refine ZA 6 [] [(1,0),(2,0),(3,0),(0,4),(4,0),(5,0),(6,0)] [] ?_|refine ZA 8 [] [(0,0),(3,0),(5,0),(1,4),(4,4),(6,4),(7,1),(8,4),(2,1),(9,0),(10,0)] [] ?_|refine ZA 14 [] [(0,0),(1,0),(2,0),(3,0),(4,0),(5,0),(6,0),(7,0),(8,0),(9,0),(10,0),(11,0),(12,0),(13,0),(14,0),(15,0),(16,0)] [] ?_|refine ZA 25 [] [(0,0),(1,0),(2,0),(3,0),(4,0),(5,0)] [] ?_|refine ZA 61 [] [(0,0),(1,0),(2,0),(3,0),(4,0),(5,0),(6,0),(7,0),(8,0),(9,0),(10,0),(11,4)] [] ?_|(refine ZG (fun hc=>?_) (fun hc=>?_)<;>(try simp at hc)<;>(try omega)))
   all_goals exact ZK (y,(P,o1,c1)) rfl ⟨⟨hya.cg fun n=>⟨fun h=>h.elim False.elim .inl,fun h=>.inr (h.elim id fun h=>by omega)⟩,hP.cg fun n=>⟨fun h=>.inl ((hQ1 n).1 h),fun h=>(hQ1 n).2 (h.elim id fun h=>by omega)⟩⟩,Nat.le_trans hyb (by omega),Nat.le_trans hpl (by omega)⟩
  ·have h7:0<c % 64:=by omega
   have m5:=nb ((c / 64:Nat):Int)
   have m6:=fun b=>YH y.2.1 y.2.2 y.1 _ (bnm ⟨g1,g2⟩ ((c / 64:Nat):Int)) b hya (fun h=>h.elim id fun h=>XS h) (by omega) (fun n h=>by rcases h with h|h;exact h.elim;exact ofB_own (nn_ofB _ n h) hbz) hbz
   obtain ⟨vb,hvb⟩:∃vb,(mget ((c / 64:Nat):Int) x.bl).getD false=vb:=⟨_,rfl⟩
   have hvv:∀z,mget ((c / 64:Nat):Int) x.bl=z→(z.map blv).getD (.bool false) = .bool vb:=fun z hz=>by
    rw [hz] at hvb
    cases z with
    | none=>exact congrArg Value.bool hvb
    | some z=>exact congrArg Value.bool hvb
   have hvv':=hvv _ rfl
   refine Z6 (X:=Unit) (Lx:=fun _=>[Mp Yl ziv q.rm m,Mp ziv blv x.mr x.bl,CMr fs G1]) (p:=fun _=>True) (r:=CM q.rm m fs) (by repeat (first|exact Sel.here|apply Sel.there)) (fun h hh=>⟨(),trivial,cm_open hx hh⟩) (fun _ _=>?_)
   cases vb with
   | true=>
    have m7:=fun b=>YH o1 c1 P _ (bnm ⟨g1,g2⟩ ((c / 64:Nat):Int)) b hP (by
     rintro (h|⟨t,h1,h2,h3⟩)
     ·exact XS h
     ·have:=Xf h3
      have h22:=h2.2
      omega) (by omega) (VV (fun n h=>nn_ofB _ n h) hbz) hbz
    repeat' (first|refine ZE ?_|refine ZD ?_|refine ZL ?_|refine ZF ?_|refine ZS ?_|refine ZO ?_|refine ZV ?_|refine ZR (fun b=>?_)|refine ZX (fun b=>?_)|refine ZH ?_|refine ZB ?_|refine ZW ?_|refine ZT ?_|refine ZZ ?_|refine Zf ?_|refine Za ?_|refine Zd ?_|refine Zj (fun b=>?_)|refine Zm (fun b=>?_)|refine Zk ?_|refine ZU ?_|refine ZC (m5) (fun _ _=>?_)|refine l_call0 (m5) (fun _ _=>?_)|refine ZN (m5) (fun _ _=>?_)|refine ZC (m6 _) (fun _ _=>?_)|refine l_call0 (m6 _) (fun _ _=>?_)|refine ZN (m6 _) (fun _ _=>?_)|refine ZC (m7 _) (fun _ _=>?_)|refine l_call0 (m7 _) (fun _ _=>?_)|refine ZN (m7 _) (fun _ _=>?_)|rw [w7]|rw [w8]|rw [w9]|rw [w10]|refine Y1 (m:=fs.length) (sz:=9) G1 hil ?_|refine Zc 9 G1 8 hx ?_|refine r_mgetF key_zi ((c / 64:Nat):Int) _ rfl ?_|rw [hvv']|(refine ZJ (fun hc=>?_) (fun hc=>?_)<;>(try simp at hc)<;>(try omega))|(refine ZP (fun hc=>?_) (fun hc=>?_)<;>(try simp at hc)<;>(try omega))|refine ZA 1 [] [(0,0),(1,0),(2,0),(3,0),(4,0),(5,0),(6,4),(7,1)] [8] ?_|refine ZA 6 [] [(1,0),(2,0),(3,0),(0,4),(4,0),(5,0),(6,0)] [] ?_|refine ZA 8 [] [(0,0),(3,0),(5,0),(1,4),(4,4),(6,4),(7,1),(8,4),(2,1),(9,0),(10,0)] [] ?_|refine ZA 14 [] [(0,0),(1,0),(2,0),(3,0),(4,0),(5,0),(6,0),(7,0),(8,0),(9,0),(10,0),(11,0),(12,0),(13,0),(14,0),(15,0),(16,0)] [] ?_|refine ZA 25 [] [(0,0),(1,0),(2,0),(3,0),(4,0),(5,0)] [] ?_|refine ZA 61 [] [(0,0),(1,0),(2,0),(3,0),(4,0),(5,0),(6,0),(7,0),(8,0),(9,0),(10,0),(11,0)] [] ?_|(refine ZG (fun hc=>?_) (fun hc=>?_)<;>(try simp at hc)<;>(try omega)))
    rename_i Y4 hY4 _ _ Y5 hY5
    refine Zs (r:=CM q.rm m fs) (Lx:=[Mp Yl ziv q.rm m,Mp ziv blv x.mr x.bl,CMr fs G1]) (fun h hh=>cm_shut0 hx hh) ?_
    exact ZK (Y4,Y5) rfl ⟨⟨hY4.1.cg fun n=>⟨fun h=>h.elim (fun h=>h.elim False.elim .inl) fun h=>.inr ⟨hgt,h7,h⟩,fun h=>h.elim (fun h=>.inl (.inr h)) fun h=>.inr h.2.2⟩,hY5.1.cg fun n=>⟨fun h=>h.elim (fun h=>.inl ((hQ1 n).1 h)) fun h=>.inr ⟨hgt,h7,hvb,h⟩,fun h=>h.elim (fun h=>.inl ((hQ1 n).2 h)) fun h=>.inr h.2.2.2⟩⟩,Nat.le_trans hY4.2 (by omega),Nat.le_trans hY5.2 (by omega)⟩
   | false=>
    repeat' (first|refine ZE ?_|refine ZD ?_|refine ZL ?_|refine ZF ?_|refine ZS ?_|refine ZO ?_|refine ZV ?_|refine ZR (fun b=>?_)|refine ZX (fun b=>?_)|refine ZH ?_|refine ZB ?_|refine ZW ?_|refine ZT ?_|refine ZZ ?_|refine Zf ?_|refine Za ?_|refine Zd ?_|refine Zj (fun b=>?_)|refine Zm (fun b=>?_)|refine Zk ?_|refine ZU ?_|refine ZC (m5) (fun _ _=>?_)|refine l_call0 (m5) (fun _ _=>?_)|refine ZN (m5) (fun _ _=>?_)|refine ZC (m6 _) (fun _ _=>?_)|refine l_call0 (m6 _) (fun _ _=>?_)|refine ZN (m6 _) (fun _ _=>?_)|rw [w7]|rw [w8]|rw [w9]|rw [w10]|refine Y1 (m:=fs.length) (sz:=9) G1 hil ?_|refine Zc 9 G1 8 hx ?_|refine r_mgetF key_zi ((c / 64:Nat):Int) _ rfl ?_|rw [hvv']|(refine ZJ (fun hc=>?_) (fun hc=>?_)<;>(try simp at hc)<;>(try omega))|(refine ZP (fun hc=>?_) (fun hc=>?_)<;>(try simp at hc)<;>(try omega))|refine ZA 1 [] [(0,0),(1,0),(2,0),(3,0),(4,0),(5,0),(6,4),(7,1)] [8] ?_|refine ZA 6 [] [(1,0),(2,0),(3,0),(0,4),(4,0),(5,0),(6,0)] [] ?_|refine ZA 8 [] [(0,0),(3,0),(5,0),(1,4),(4,4),(6,4),(7,1),(8,4),(2,1),(9,0),(10,0)] [] ?_|refine ZA 14 [] [(0,0),(1,0),(2,0),(3,0),(4,0),(5,0),(6,0),(7,0),(8,0),(9,0),(10,0),(11,0),(12,0),(13,0),(14,0),(15,0),(16,0)] [] ?_|refine ZA 25 [] [(0,0),(1,0),(2,0),(3,0),(4,0),(5,0)] [] ?_|refine ZA 61 [] [(0,0),(1,0),(2,0),(3,0),(4,0),(5,0),(6,0),(7,0),(8,0),(9,0),(10,0),(11,0)] [] ?_|(refine ZG (fun hc=>?_) (fun hc=>?_)<;>(try simp at hc)<;>(try omega)))
    rename_i Y4 hY4
    refine Zs (r:=CM q.rm m fs) (Lx:=[Mp Yl ziv q.rm m,Mp ziv blv x.mr x.bl,CMr fs G1]) (fun h hh=>cm_shut0 hx hh) ?_
    exact ZK (Y4,(P,o1,c1)) rfl ⟨⟨hY4.1.cg fun n=>⟨fun h=>h.elim (fun h=>h.elim False.elim .inl) fun h=>.inr ⟨hgt,h7,h⟩,fun h=>h.elim (fun h=>.inl (.inr h)) fun h=>.inr h.2.2⟩,hP.cg fun n=>⟨fun h=>.inl ((hQ1 n).1 h),fun h=>(hQ1 n).2 (h.elim id fun h=>by rw [hvb] at h;exact absurd h.2.2.1 (by decide))⟩⟩,Nat.le_trans hY4.2 (by omega),Nat.le_trans hpl (by omega)⟩
end
end
section
open VQ
section
variable {es:Al} {bs:List Bi} {o:Op7}
theorem qop_0 (hj:o.k.toNat % 6=0):((qOp bs o).run es []).2=((qRead (bthF bs o.w) o.f o.c).run es []).2:=by
 unfold qOp;simp (decide:=true) only [hj,if_true,if_false,run_bind,run,List.append_nil]
theorem qop_1 (hj:o.k.toNat % 6=1):((qOp bs o).run es []).2=((qWrite (bthF bs o.w) o.f o.t).run es []).2:=by
 unfold qOp;simp (decide:=true) only [hj,if_true,if_false,run_bind,run,List.append_nil]
theorem qop_2 (hj:o.k.toNat % 6=2):((qOp bs o).run es []).2=((qResize (bthF bs o.w) o.c).run es []).2:=by
 unfold qOp;simp (decide:=true) only [hj,if_true,if_false,run_bind,run,List.append_nil]
theorem qop_3 (hj:o.k.toNat % 6=3):((qOp bs o).run es []).2=((qSet (bthF bs o.w) o.n).run es []).2:=by
 unfold qOp;simp (decide:=true) only [hj,if_true,if_false,run_bind,run,List.append_nil]
theorem qop_4 (hj:o.k.toNat % 6=4):((qOp bs o).run es []).2=((qRead (bthF bs o.w) 0 4096).run es []).2:=by
 unfold qOp;simp (decide:=true) only [hj,if_true,if_false,run_bind,run,List.append_nil]
theorem qop_5 (hj:o.k.toNat % 6=5):((qOp bs o).run es []).2=((qMake (Zg (o.w.toNat % 3)) o.n).run es []).2:=by
 unfold qOp;simp (decide:=true) only [hj,if_false,run_bind,run,List.append_nil]
theorem qRead_nw (b:Bi) (f c:Int):((qRead b f c).run es []).2.2=[]:=by
 unfold qRead
 rw [run_bind,Z7]
 dsimp only
 split
 ·rfl
 ·split
  ·rfl
  ·rw [run_bind,WN];rfl
end
theorem sb_iff {b:Bi} {P:Nat→Prop} {C:Prop} (hC:C) (n:Nm):SB (· = nnm b) b P 64 n↔(n=nnm b∨(C∧∃j:Nat,j<64∧P j∧n=bnm b (j:Int))):=or_congr Iff.rfl ⟨fun h=>⟨hC,h⟩,fun h=>h.2⟩
section
variable (bm:Nat) (q:Mq) (bs:List Bi) (fs:List Fq) (m:List (ByteArray×Int))
theorem XH {args:Array Value} {F:List Pf} {R:List HP} {A B A' B':Nm→Prop} (h:Enters 26∧Spec prog 26 args F R (TcP bm q bs fs m A B)) (hA:∀n,A n↔A' n) (hB:∀n,B n↔B' n) :
  Enters 26∧Spec prog 26 args F R (TcP bm q bs fs m A' B'):=
 ⟨h.1,h.2.imp fun _ _ _ q _ hq hs=>⟨q,rfl,⟨⟨hq.1.1.cg hA,hq.1.2.cg hB⟩,hq.2⟩,hs⟩⟩
theorem tch_ok {es:Al} {k:Nat} (o:Op7) (hD:DoH q bs fs m) (h:R7 es [] bs fs m k) (hk:k≤500):Enters 26∧Spec prog 26 #[.pointer (some ⟨bm,0,none⟩),o.v] [Usg] (MoL bm q bs fs m)
  (TcP bm q bs fs m (· ∈ ((qOp bs o).run es []).2.1) (· ∈ ((qOp bs o).run es []).2.2.map (·.nm))):=by
 have hl:=Nat.mod_lt o.k.toNat (show 0<6 by decide)
 have hg:=(Y0 h (by omega) o.w).2
 have hct:=hD.hct
 rcases (show o.k.toNat % 6=0∨o.k.toNat % 6=1∨o.k.toNat % 6=2∨o.k.toNat % 6=3∨o.k.toNat % 6=4∨o.k.toNat % 6=5 by omega) with hj|hj|hj|hj|hj|hj
 ·rw [qop_0 hj]
  have hW:∀n:Nm,False↔n ∈ ((qRead (bthF bs o.w) o.f o.c).run es []).2.2.map (·.nm):=fun n=>by rw [qRead_nw];simp
  by_cases he:(mGet bs fs (bthF bs o.w)).2=0
  ·obtain ⟨x,hx,-⟩:=hg he
   by_cases hv:o.f<0∨o.c<0
   ·exact XH _ _ _ _ _ (tchV0_ok bm q bs fs m o hj hD he hx (by omega)) (fun n=>by rw [ex_read0 h hk o.w o.f o.c (by omega)];simp) hW
   ·obtain ⟨f,hf⟩:∃f:Nat,o.f=(f:Int):=⟨o.f.toNat,by omega⟩
    obtain ⟨c,hc⟩:∃c:Nat,o.c=(c:Int):=⟨o.c.toNat,by omega⟩
    by_cases hlt:f<x.ct.size
    ·exact XH _ _ _ _ _ (tchG0_ok bm q bs fs m o hj hD he hx f c hf hc hlt) (fun n=>by rw [hf,hc,ex_read h hk o.w he hx f c n];exact sb_iff hlt n) hW
    ·exact XH _ _ _ _ _ (tchV0_ok bm q bs fs m o hj hD he hx (by omega)) (fun n=>by rw [hf,hc,ex_read h hk o.w he hx f c n];exact ⟨.inl,fun h=>h.elim id fun h=>absurd h.1 hlt⟩) hW
  ·exact XH _ _ _ _ _ (tchE_ok bm q bs fs m o (by omega) (by omega) hD he) (fun n=>by rw [ex_read0 h hk o.w o.f o.c (.inl he)];simp) hW
 ·rw [qop_1 hj]
  by_cases he:(mGet bs fs (bthF bs o.w)).2=0
  ·obtain ⟨x,hx,-⟩:=hg he
   by_cases hv:o.f<0∨4096<o.f
   ·exact XH _ _ _ _ _ (tchV1_ok bm q bs fs m o hj hD he hx hv) (fun n=>by rw [VH h hk o.w o.f o.t (.inr hv)];simp) (fun n=>by rw [VH h hk o.w o.f o.t (.inr hv)];simp)
   ·obtain ⟨f,hf⟩:∃f:Nat,o.f=(f:Int):=⟨o.f.toNat,by omega⟩
    obtain ⟨e1,e2⟩:=ex_write h hk o.w he hx f (by omega) o.t
    exact XH _ _ _ _ _ (tchG1_ok bm q bs fs m o hj hD he hx f hf (by omega)) (fun n=>by rw [hf,e1 n];unfold SB PtC;simp only [and_assoc]) (fun n=>by rw [hf,e2 n];unfold SB;simp only [false_or,and_assoc])
  ·exact XH _ _ _ _ _ (tchE_ok bm q bs fs m o (by omega) (by omega) hD he) (fun n=>by rw [VH h hk o.w o.f o.t (.inl he)];simp) (fun n=>by rw [VH h hk o.w o.f o.t (.inl he)];simp)
 ·rw [qop_2 hj]
  by_cases he:(mGet bs fs (bthF bs o.w)).2=0
  ·obtain ⟨x,hx,-⟩:=hg he
   by_cases hv:o.c<0∨4096<o.c∨o.c=(x.ct.size:Int)
   ·have hv2:(mGet bs fs (bthF bs o.w)).2≠0∨o.c<0∨4096<o.c∨∃x,fs[(mGet bs fs (bthF bs o.w)).1]? = some x∧o.c=(x.ct.size:Int):=.inr (hv.imp id fun hv=>hv.imp id fun hv=>⟨x,hx,hv⟩)
    exact XH _ _ _ _ _ (tchV2_ok bm q bs fs m o hj hD he hx hv) (fun n=>by rw [WU h hk o.w o.c hv2];simp) (fun n=>by rw [WU h hk o.w o.c hv2];simp)
   ·obtain ⟨c,hc⟩:∃c:Nat,o.c=(c:Int):=⟨o.c.toNat,by omega⟩
    obtain ⟨e1,e2⟩:=ex_resize h hk o.w he hx c (by omega) (by omega)
    by_cases hlt:c<x.ct.size
    ·exact XH _ _ _ _ _ (tchG2_ok bm q bs fs m o hj hD he hx c hc (by omega) hlt) (fun n=>by rw [hc,e1 n]) (fun n=>by rw [hc,e2 n])
    ·exact XH _ _ _ _ _ (tchB2_ok bm q bs fs m o hj hD he hx c hc (by omega) (by omega)) (fun n=>by rw [hc,e1 n];exact ⟨.inl,fun h=>h.elim id fun h=>absurd h.1 hlt⟩) (fun n=>by
      rw [hc,e2 n]
      exact ⟨fun h=>.inl (.inl h),fun h=>h.elim (fun h=>h.elim id fun h=>absurd h.1 hlt) fun h=>absurd h.1 hlt⟩)
  ·exact XH _ _ _ _ _ (tchE_ok bm q bs fs m o (by omega) (by omega) hD he) (fun n=>by rw [WU h hk o.w o.c (.inl he)];simp) (fun n=>by rw [WU h hk o.w o.c (.inl he)];simp)
 ·rw [qop_3 hj]
  obtain ⟨e1,e2⟩:=ex_set h hk o.w o.n
  rw [e1,e2]
  exact tch3_ok bm q bs fs m o hj hD
 ·rw [qop_4 hj]
  have hW:∀n:Nm,False↔n ∈ ((qRead (bthF bs o.w) 0 4096).run es []).2.2.map (·.nm):=fun n=>by rw [qRead_nw];simp
  by_cases he:(mGet bs fs (bthF bs o.w)).2=0
  ·obtain ⟨x,hx,-⟩:=hg he
   have hxs:=hct x (List.mem_of_getElem? hx)
   have e1:=fun n=>ex_read h hk o.w he hx 0 4096 n
   rw [show min 4096 (x.ct.size - 0)=min x.ct.size (x.ct.size - 0) by omega] at e1
   by_cases hlt:0<x.ct.size
   ·exact XH _ _ _ _ _ (tchG4_ok bm q bs fs m o hj hD he hx hlt) (fun n=>(sb_iff hlt n).trans (e1 n).symm) hW
   ·exact XH _ _ _ _ _ (tchV4_ok bm q bs fs m o hj hD he hx (by omega)) (fun n=>Iff.trans ⟨.inl,fun h=>h.elim id fun h=>absurd h.1 hlt⟩ (e1 n).symm) hW
  ·exact XH _ _ _ _ _ (tchE_ok bm q bs fs m o (by omega) (by omega) hD he) (fun n=>by rw [ex_read0 h hk o.w 0 4096 (.inl he)];simp) hW
 ·rw [qop_5 hj]
  obtain ⟨e1,e2⟩:=ex_make h hk (show o.w.toNat % 3<3 by omega) o.n
  rw [e1,e2]
  exact tch5_ok bm q bs fs m o hj hD
end
set_option maxHeartbeats 8000000 in
theorem lawITouches_ok (o:Option Addr) (cap:Nat) (l:List Op7) (c7:Op7):Enters 6∧Spec prog 6 #[.slice o l.length cap,c7.v] [OpS o cap l,Usg] [] (RetV (.bool true)):=by
 have n0:=after7_ok o cap l
 unfold AfP at n0
 have n1:=known27_ok
 have m0:=cut7_ok c7
 have hct:(cut7 c7).t.size≤500:=cutS_size _ _
 generalize cut7 c7=o2 at *
 obtain ⟨c1,c2,c3,c4,c5,⟨d1,d2,d3,d4,d5,d6,d7⟩⟩:=c7
 simp only [Op7.v] at m0 ⊢
 refine ZM [_,_] func6 ntmps6 fun G w hp=>?_
 repeat' (first|refine ZE ?_|refine ZD ?_|refine ZL ?_|refine ZF ?_|refine ZS ?_|refine ZR (fun b=>?_)|refine ZB ?_|refine ZC (n0) (fun _ _=>?_)|refine ZC (n1) (fun _ _=>?_)|fail)
 rename_i x hx _ _
 obtain ⟨bm,s,q,es,bs,fs,m⟩:=x
 obtain ⟨k,hk,hO⟩:=hx
 obtain ⟨z1,z2⟩:=hO.sml
 obtain ⟨-,g2,g3,-⟩:=hO.next hk o2
 dsimp only at z1 z2 g2 g3 ⊢
 have n2:=fun vb=>perf27_ok vb (some ⟨s,0,none⟩) es q bs o2 ⟨hct,z2⟩ z1
 have n3:=tch_ok bm q bs fs m o2 g2 hO.r (by omega)
 unfold TcP at n3
 obtain ⟨hN1,hN2⟩:=op_names (es:=es) z2 o2
 have hN:=fun n hn=>And.intro (Vj (es:=es) (qOp bs o2) [] n hn) (hN1 n hn)
 have hRo:=rsq_ok (es:=es) hN
 have hRl:=rsq_len es ((qOp bs o2).run es []).2.1 []
 have hsn:=vrd_sn (es:=es) hN
 clear hN hN1 hO
 generalize (qOp bs o2).run es []=G at *
 obtain ⟨G1,G2,G3⟩:=G
 dsimp only at *
 rw [List.length_nil] at hRl
 have hvl:=vrd_len (rsq es G2 [])
 have n6:=fun vb ps=>vwReads_ok vb ps (rsq es G2 []) G3 hRo (by omega)
 have n7:=fun vb ps rs=>Ue vb ps rs G3 g3.fit.1 (fun c hc=>(g3.fit.2 c hc).own)
 unfold WrPost at n7
 have hwl:(vwr G3).length≤200:=by rw [Wm];exact g3.fit.1
 have hwn:=vwr_sn G3
 generalize hRL:vrd (rsq es G2 [])=RL at *
 generalize hRS:rsq es G2 []=RS at *
 generalize hWL:vwr G3=WL at *
 obtain ⟨r1,r2,⟨r3,r4⟩,r5⟩:=G1
 obtain ⟨e1,e2,e3,e4,e5,⟨f1,f2,f3,f4,f5,f6,f7⟩⟩:=o2
 simp only [Op7.v,Rz7.v] at m0 n2 n3
 repeat' (first|refine ZE ?_|refine ZD ?_|refine ZF ?_|refine ZS ?_|refine ZV ?_|refine ZC (m0) (fun _ _=>?_)|refine ZC (XM _) (fun _ _=>?_)|refine ZC (n3) (fun _ _=>?_)|fail)
 rename_i y hy
 obtain ⟨⟨P,po,pc⟩,⟨Q,qo,qc⟩⟩:=y
 obtain ⟨⟨hP,hQ⟩,hpl,hql⟩:=hy
 dsimp only at hP hQ hpl hql ⊢
 have n8:=fun o1 c1=>sameNm_ok o1 po c1 pc RL P (sn_uniq hsn hP) (by omega)
 have n9:=fun o1 c1=>sameNm_ok o1 qo c1 qc WL Q (sn_uniq hwn hQ) (by omega)
 repeat' (first|refine ZE ?_|refine ZD ?_|refine ZL ?_|refine ZF ?_|refine ZT ?_|refine Zf ?_|refine ZU ?_|refine ZN (n2 _) (fun _ _=>?_)|refine ZC (n6 _ _) (fun _ _=>?_)|refine ZC (n7 _ _ _) (fun _ _=>?_)|refine ZC (n8 _ _) (fun _ _=>?_)|refine ZC (n9 _ _) (fun _ _=>?_)|refine ZA 7 [Vw _ _ _ _,BiX _ _] [(0,0),(1,0),(2,0),(3,0),(4,0),(5,0),(6,4)] [] ?_|fail)
 exact ZK () rfl trivial
end
variable {H:Type}
section
open Go.ChangeShapes Go.WideShapes Go.ChangeAt
structure Kept (W W':World):Prop where
 os:W'.os=W.os
 output:W'.output=W.output
 heap:∀(b:Nat) (o:Obj),W.heap[b]? = some o→W'.heap[b]? = some o
theorem Kept.but {W W':World} (h:Kept W W') (may:MemPlace→Prop):W.keptBut W' may:=by
 refine ⟨h.os,h.output,fun i hi=>?_⟩
 have h1:W.heap[i]? = some W.heap[i]:=Array.getElem?_eq_getElem hi
 have h2:=h.heap i _ h1
 rw [h1,h2]
 split
 ·rename_i c t fr c' t' fr' e1 e2
  rw [e1] at e2
  injection e2 with e2
  injection e2 with a1 a2 a3
  subst a1 a2 a3
  exact ⟨rfl,rfl,rfl,fun _ _=>rfl⟩
 ·rename_i es clock es' clock' e1 e2
  rw [e1] at e2
  injection e2 with e2
  injection e2 with a1 a2
  subst a1 a2
  exact .inr ⟨rfl,rfl⟩
 ·rfl
theorem calls_law {f:FuncId} {args:Array Value} {F:List Pf} {v:Value} (h:Spec prog f args F [] (RetV v)) (W:World) (hF:∀x ∈ F,x.p fun b=>W.heap[b]?) :
  Calls prog f args W fun e W'=>e = .returned v∧Kept W W':=by
 have hs:Sat emp W (fun b=>W.heap[b]?) F [] W:=⟨fun b=>W.heap[b]?,emp,fun _ _ e=>e,(fun _ _ e=>by cases e),(fun _ _ e=>by cases e),fun _=>.inr rfl,fun _=>.inr rfl,fun _=>.inr rfl,Sub.refl _,hF,trivial,Same.refl _⟩
 refine (h _ _ _ hs).mono ?_
 rintro e W' ⟨_,rfl,_,hp',hr,st⟩
 exact ⟨rfl,st.same.os,st.same.output,fun b o hb=>st.inp b o (st.sub b o hb)⟩
def contig (P:Program):Nat→List Field→Option Nat
 | o,[]=>some o
 | o,f::fs=>if f.offset=o then contig P (o+P.cellsOf f.type) fs else none
def plainT (P:Program):Nat→TypeId→Bool
 | 0,_=>false
 | k+1,t=>match P.underlying t with
  | some .bool=>true
  | some (.int _)=>true
  | some .string=>true
  | some (.struct fs)=>(fs.toList.all fun f=>plainT P k f.type) && (contig P 0 fs.toList == some (P.cellsOf t))
  | some (.array n e)=>plainT P k e && (P.cellsOf t == n * P.cellsOf e)
  | _=>false
variable {enc:TypeId×Value→H} {P:Program}
theorem Xj {α β:Type} {f g:α→Option β}:∀{l:List α} {r:List β},(∀a ∈ l,∀x,f a=some x→g a=some x)→l.mapM f=some r→l.mapM g=some r
 | [],r,_,h=>h
 | a::l,r,hfg,h=>by
  rw [List.mapM_cons] at h ⊢
  simp only [Option.bind_eq_bind,Option.bind_eq_some_iff,Option.pure_def,Option.some.injEq] at h ⊢
  obtain ⟨x,hx,xs,hxs,rfl⟩:=h
  exact ⟨x,hfg a (by simp) x hx,xs,Xj (fun b hb=>hfg b (by simp [hb])) hxs,rfl⟩
theorem mapM_all {α β:Type} {f:α→Option β} {p:β→Prop}:∀{l:List α} {r:List β},(∀a ∈ l,∀x,f a=some x→p x)→l.mapM f=some r→∀x ∈ r,p x
 | [],r,_,h=>by simp at h;subst h;simp
 | a::l,r,hfg,h=>by
  rw [List.mapM_cons] at h
  simp only [Option.bind_eq_bind,Option.bind_eq_some_iff,Option.pure_def,Option.some.injEq] at h
  obtain ⟨x,hx,xs,hxs,rfl⟩:=h
  intro y hy
  rcases List.mem_cons.1 hy with rfl|hy
  ·exact hfg a (by simp) y hx
  ·exact mapM_all (fun b hb=>hfg b (by simp [hb])) hxs y hy
theorem Wh {β γ:Type} {f:β→List γ}:∀{l:List β},(∀x ∈ l,f x=[])→l.flatMap f=[]
 | [],_=>rfl
 | a::l,h=>by rw [List.flatMap_cons,h a (by simp),Wh (fun x hx=>h x (by simp [hx]))];rfl
theorem Wn:∀(n k:Nat) (t:TypeId) (w:World) (base:Nat) (sp:Nat→Bool) (hd:Bool) (cs:List Value) (x:DataW H×List MemPlace),plainT P k t=true→DataW.trod enc P w base sp hd n t cs=some x→
  x.2=[]∧∀w' base' sp' hd',DataW.trod enc P w' base' sp' hd' n t cs=some x
 | 0,_,_,_,_,_,_,_,_,_,h=>by simp [DataW.trod] at h
 | n+1,0,_,_,_,_,_,_,_,hp,_=>by simp [plainT] at hp
 | n+1,k+1,t,w,base,sp,hd,cs,x,hp,h=>by
  unfold plainT at hp
  split at hp
  ·rename_i hu
   obtain ⟨b,rfl,rfl⟩:=DataW.trod_bool hu h
   exact ⟨rfl,fun _ _ _ _=>by simp [DataW.trod,hu]⟩
  ·rename_i hu
   obtain ⟨z,rfl,rfl,hz⟩:=DataW.trod_int hu h
   exact ⟨rfl,fun _ _ _ _=>by simp [DataW.trod,hu,hz]⟩
  ·rename_i hu
   obtain ⟨s,rfl,rfl,hs⟩:=DataW.trod_string hu h
   exact ⟨rfl,fun _ _ _ _=>by simp [DataW.trod,hu,hs]⟩
  ·rename_i fs hu
   rw [Bool.and_eq_true,List.all_eq_true] at hp
   simp only [DataW.trod,hu] at h ⊢
   split at h
   ·rename_i hl
    simp only [Option.map_eq_some_iff] at h
    obtain ⟨xs,hxs,rfl⟩:=h
    have ih:∀f ∈ fs.toList,∀y,DataW.trod enc P w base sp hd n f.type ((cs.drop f.offset).take (P.cellsOf f.type))=some y→y.2=[]∧∀w' base' sp' hd',DataW.trod enc P w' base' sp' hd' n f.type ((cs.drop f.offset).take (P.cellsOf f.type))=some y:=fun f hf y hy=>
     Wn n k f.type w base sp hd _ y (hp.1 f hf) hy
    refine ⟨Wh (mapM_all (fun f hf y hy=>(ih f hf y hy).1) hxs),fun w' base' sp' hd'=>?_⟩
    rw [if_pos hl,Xj (fun f hf y hy=>(ih f hf y hy).2 w' base' sp' hd') hxs]
    rfl
   ·cases h
  ·rename_i m e hu
   rw [Bool.and_eq_true] at hp
   simp only [DataW.trod,hu] at h ⊢
   split at h
   ·rename_i hl
    simp only [Option.map_eq_some_iff] at h
    obtain ⟨xs,hxs,rfl⟩:=h
    have ih:∀i ∈ List.range m,∀y,DataW.trod enc P w base sp hd n e ((cs.drop (i * P.cellsOf e)).take (P.cellsOf e))=some y→y.2=[]∧∀w' base' sp' hd',DataW.trod enc P w' base' sp' hd' n e ((cs.drop (i * P.cellsOf e)).take (P.cellsOf e))=some y:=fun i _ y hy=>
     Wn n k e w base sp hd _ y hp.1 hy
    refine ⟨Wh (mapM_all (fun i hi y hy=>(ih i hi y hy).1) hxs),fun w' base' sp' hd'=>?_⟩
    rw [if_pos hl,Xj (fun i hi y hy=>(ih i hi y hy).2 w' base' sp' hd') hxs]
    rfl
   ·cases h
  ·cases hp
theorem Yz {α β:Type} {f:α→Option β}:∀{l:List α} {r:List β},l.mapM f=some r→∀(i:Nat) (a:α),l[i]? = some a→∃b,r[i]? = some b∧f a=some b
 | [],r,_,i,a,hi=>by simp at hi
 | c::l,r,h,i,a,hi=>by
  rw [List.mapM_cons] at h
  simp only [Option.bind_eq_bind,Option.bind_eq_some_iff,Option.pure_def,Option.some.injEq] at h
  obtain ⟨x,hx,xs,hxs,rfl⟩:=h
  cases i with
  | zero=>simp at hi;subst hi;exact ⟨x,by simp,hx⟩
  | succ i=>simpa using Yz hxs i a (by simpa using hi)
theorem cover:∀(fs:List Field) (o total:Nat) (cs cs':List Value),contig P o fs=some total→cs.length=total→cs'.length=total→
  (∀f ∈ fs,(cs.drop f.offset).take (P.cellsOf f.type)=(cs'.drop f.offset).take (P.cellsOf f.type))→cs.drop o=cs'.drop o
 | [],o,total,cs,cs',h,h1,h2,_=>by
  simp only [contig,Option.some.injEq] at h
  rw [List.drop_eq_nil_of_le (by omega),List.drop_eq_nil_of_le (by omega)]
 | f::fs,o,total,cs,cs',h,h1,h2,hp=>by
  unfold contig at h
  split at h
  ·rename_i ho
   have ih:=cover fs (o+P.cellsOf f.type) total cs cs' h h1 h2 fun g hg=>hp g (by simp [hg])
   have h3:=hp f (by simp)
   rw [ho] at h3
   rw [←List.take_append_drop (P.cellsOf f.type) (cs.drop o),←List.take_append_drop (P.cellsOf f.type) (cs'.drop o),List.drop_drop,List.drop_drop,h3,ih]
  ·cases h
theorem trod_inj {H':Type} {enc':TypeId×Value→H'}:∀(n n' k:Nat) (t:TypeId) (w w':World) (base base':Nat) (sp sp':Nat→Bool) (hd hd':Bool) (cs cs':List Value) (x x':DataW H×List MemPlace),plainT P k t=true→
  DataW.trod enc P w base sp hd n t cs=some x→DataW.trod enc P w' base' sp' hd' n' t cs'=some x'→x.1=x'.1→cs=cs'
 | 0,_,_,_,_,_,_,_,_,_,_,_,_,_,_,_,_,h,_,_=>by simp [DataW.trod] at h
 | _+1,0,_,_,_,_,_,_,_,_,_,_,_,_,_,_,_,_,h,_=>by simp [DataW.trod] at h
 | n+1,n'+1,0,_,_,_,_,_,_,_,_,_,_,_,_,_,hp,_,_,_=>by simp [plainT] at hp
 | n+1,n'+1,k+1,t,w,w',base,base',sp,sp',hd,hd',cs,cs',x,x',hp,h,h',he=>by
  unfold plainT at hp
  split at hp
  ·rename_i hu
   obtain ⟨b,rfl,rfl⟩:=DataW.trod_bool hu h
   obtain ⟨b',rfl,rfl⟩:=DataW.trod_bool hu h'
   simp at he;subst he;rfl
  ·rename_i hu
   obtain ⟨z,rfl,rfl,hz⟩:=DataW.trod_int hu h
   obtain ⟨z',rfl,rfl,hz'⟩:=DataW.trod_int hu h'
   simp at he;subst he;rfl
  ·rename_i hu
   obtain ⟨s,rfl,rfl,hs⟩:=DataW.trod_string hu h
   obtain ⟨s',rfl,rfl,hs'⟩:=DataW.trod_string hu h'
   simp at he
   rw [Wj (by rw [he]:s.data.toList=s'.data.toList)]
  ·rename_i fs hu
   rw [Bool.and_eq_true,List.all_eq_true,beq_iff_eq] at hp
   simp only [DataW.trod,hu] at h h'
   split at h
   ·rename_i hl
    split at h'
    ·rename_i hl'
     simp only [Option.map_eq_some_iff] at h h'
     obtain ⟨xs,hxs,rfl⟩:=h
     obtain ⟨xs',hxs',rfl⟩:=h'
     simp only [DataW.agg.injEq] at he
     have:=cover fs.toList 0 _ cs cs' hp.2 hl hl' fun f hf=>by
      obtain ⟨i,hi,rfl⟩:=List.mem_iff_getElem.1 hf
      have hi':=List.getElem?_eq_getElem hi
      obtain ⟨y,hy1,hy2⟩:=Yz hxs i _ hi'
      obtain ⟨y',hy1',hy2'⟩:=Yz hxs' i _ hi'
      have hyy:y.1=y'.1:=by
       have h1:(xs.map (·.1))[i]? = some y.1:=by simp [hy1]
       have h2:(xs'.map (·.1))[i]? = some y'.1:=by simp [hy1']
       rw [he] at h1
       exact Option.some.inj (h1.symm.trans h2)
      exact trod_inj (enc':=enc') n n' k _ w w' base base' sp sp' hd hd' _ _ y y' (hp.1 _ hf) hy2 hy2' hyy
     simpa using this
    ·cases h'
   ·cases h
  ·rename_i m e hu
   rw [Bool.and_eq_true,beq_iff_eq] at hp
   simp only [DataW.trod,hu] at h h'
   split at h
   ·rename_i hl
    split at h'
    ·rename_i hl'
     simp only [Option.map_eq_some_iff] at h h'
     obtain ⟨xs,hxs,rfl⟩:=h
     obtain ⟨xs',hxs',rfl⟩:=h'
     simp only [DataW.agg.injEq] at he
     have hpart:∀i,i<m→(cs.drop (i * P.cellsOf e)).take (P.cellsOf e)=(cs'.drop (i * P.cellsOf e)).take (P.cellsOf e):=fun i hi=>by
      have hi':(List.range m)[i]? = some i:=by simp [hi]
      obtain ⟨y,hy1,hy2⟩:=Yz hxs i _ hi'
      obtain ⟨y',hy1',hy2'⟩:=Yz hxs' i _ hi'
      have hyy:y.1=y'.1:=by
       have h1:(xs.map (·.1))[i]? = some y.1:=by simp [hy1]
       have h2:(xs'.map (·.1))[i]? = some y'.1:=by simp [hy1']
       rw [he] at h1
       exact Option.some.inj (h1.symm.trans h2)
      exact trod_inj (enc':=enc') n n' k _ w w' base base' sp sp' hd hd' _ _ y y' hp.1 hy2 hy2' hyy
     apply List.ext_getElem?
     intro j
     by_cases hj:j<m * P.cellsOf e
     ·have hc:0<P.cellsOf e:=Nat.pos_of_ne_zero fun h0=>by rw [h0] at hj;simp at hj
      have h1:=congrArg (fun l=>l[j % P.cellsOf e]?) (hpart (j / P.cellsOf e) (Nat.div_lt_of_lt_mul (by rw [Nat.mul_comm];exact hj)))
      simp only [List.getElem?_take,List.getElem?_drop,if_pos (Nat.mod_lt j hc)] at h1
      rw [show j / P.cellsOf e * P.cellsOf e+j % P.cellsOf e=j by rw [Nat.mul_comm];exact Nat.div_add_mod j _] at h1
      exact h1
     ·rw [List.getElem?_eq_none (by omega),List.getElem?_eq_none (by omega)]
    ·cases h'
   ·cases h
  ·cases hp
theorem post_kept {f:Func} {s:ChangeSpec} {apart fresh handsOn again:Bool} {W W':World} {args:Array Value} {v:Value} {ds gs:List (DataW H)} {before pa pv:List MemPlace}
  (hW:DataW.Whole enc P f.params.toList s.vars apart W args.toList ds gs before)
  (hres:∀(b:Nat) (sp:Nat→Bool) (hd:Bool),DataW.TrodAll enc P W' b sp hd f.resultTypes.toList (v.resultList f.resultTypes.size) (s.fn H (ds++gs)).results [])
  (hargs:∀sp:Nat→Bool,(∀b<W.heap.size,sp b=true)→DataW.TrodAll enc P W' 0 sp true f.params.toList args.toList (s.fn H (ds++gs)).args pa)
  (hvars:∀sp:Nat→Bool,(∀b<W.heap.size,sp b=true)→DataW.TrodVars enc P W' sp s.vars (s.fn H (ds++gs)).vars pv)
  (hps:before=pa++pv) (hk:Kept W W')
  (hok:∀(j:Nat) (t:TypeId) (r:Value),f.resultTypes[j]? = some t→(v.resultList f.resultTypes.size)[j]? = some r→Value.okWide P W' .any 0 t r) :
  s.post enc P f apart fresh handsOn again W args v W':=by
 have hlt:=hW.lt
 refine ⟨ds,gs,before,[],pa,pv,hW,hres _ _ _,hargs _ (fun b hb=>by simpa using hb),hvars _ (fun b hb=>by simpa using hb),World.keptBut_mono (fun p hp=>⟨hp,?_⟩) (hk.but (· ∈ before)),fun _=>?_⟩
 ·rw [hps,List.mem_append] at hp
  exact Or.inr hp
 ·obtain ⟨_,_,_,_,_,hz,hn⟩:=hW
  refine ⟨hok,_,_,([]++pa)++pv,⟨[]++pa,pv,trodAll_append (hargs _ (fun _ _=>rfl)) (hres _ _ _),hvars _ (fun _ _=>rfl),rfl,?_,?_⟩,?_⟩
  ·intro b off hp
   have hm:MemPlace.cell b off ∈ before:=by rw [hps];simpa using hp
   have h1:=hz b off hm
   have h2:b<W.heap.size:=hlt _ hm
   have h4:W.heap[b]? = some W.heap[b]:=Array.getElem?_eq_getElem h2
   have h3:=hk.heap b _ h4
   unfold World.frozen? at h1 ⊢
   dsimp only at h1 ⊢
   rw [h4] at h1
   rw [h3]
   exact h1
  ·intro ha
   have:=hn ha
   rw [hps] at this
   simpa using this
  ·intro p hp _
   rw [hps]
   simpa using hp
def laidU : List (String × DataW Unit) := [("replevin/object.usages", Rows.laid_replevin_object_usages)]
theorem gUsg : prog.globalNamed "replevin/object.usages" = some 0 := by kernel_rfl
theorem tUsg:(prog.globals[0]?).map (·.type)=some 279:=by kernel_rfl
theorem plUsg:plainT prog 5 279=true:=by decide +kernel
theorem rdUsg (w:World):DataW.trod (fun _=>()) prog w 0 (fun _=>true) false 8 279 (usages.flatMap uf)=some (Rows.laid_replevin_object_usages,[]):=by kernel_rfl
theorem usg_of_laid {W:World} (h:laidMetH prog laidU W):Usg.p fun b=>W.heap[b]?:=by
 rw [MakeChecks.laidMetH_plain _ _ _ (by kernel_rfl)] at h
 obtain ⟨ps,⟨g0,t0,cs0,f0,p0,q0,hg0,ht0,hv0,hd0,_,_⟩,_,_⟩:=h
 obtain rfl:=Option.some.inj (gUsg.symm.trans hg0)
 obtain rfl:=Option.some.inj (tUsg.symm.trans ht0)
 have hcs:cs0.toList=usages.flatMap uf:=trod_inj (enc':=fun _=>()) _ _ _ _ W W _ _ _ _ _ _ _ _ _ _ plUsg hd0 (rdUsg W) rfl
 unfold World.var? at hv0
 rw [hg0] at hv0
 simp only [Option.bind_some] at hv0
 split at hv0
 ·rename_i cs t fr hb
  obtain rfl:=Option.some.inj hv0
  exact ⟨t,fr,by rw [←hcs];simpa using hb⟩
 ·cases hv0
inductive SK where
 | b
 | i (k:IntKind)
 | s
def sksF (g:TypeId→Option (List SK)):List Field→Option (List SK)
 | []=>some []
 | f::fs=>match g f.type,sksF g fs with
  | some a,some r=>some (a++r)
  | _,_=>none
def sks (P:Program):Nat→TypeId→Option (List SK)
 | 0,_=>none
 | k+1,t=>match P.underlying t with
  | some .bool=>some [.b]
  | some (.int ik)=>some [.i ik]
  | some .string=>some [.s]
  | some (.struct fs)=>sksF (sks P k) fs.toList
  | some (.array n e)=>(sks P k e).map fun l=>(List.replicate n l).flatten
  | _=>none
def CellOK (M:Nat):SK→Value→Prop
 | .b,v=>∃b,v = .bool b
 | .i k,v=>∃z,v = .int k z∧(Lit.int k z).wf=true
 | .s,v=>∃s:ByteArray,v = .string s∧s.size≤M
def CellsOK (M:Nat):List SK→List Value→Prop
 | [],[]=>True
 | k::ks,v::vs=>CellOK M k v∧CellsOK M ks vs
 | _,_=>False
theorem Xq {M:Nat}:∀{a b:List SK} {x y:List Value},CellsOK M a x→CellsOK M b y→CellsOK M (a++b) (x++y)
 | [],_,[],_,_,h=>h
 | _::_,_,_::_,_,⟨h1,h2⟩,h=>⟨h1,Xq h2 h⟩
theorem We {M M':Nat} (hM:M≤M'):∀{a:List SK} {x:List Value},CellsOK M a x→CellsOK M' a x
 | [],[],_=>trivial
 | k::_,_::_,⟨h1,h2⟩=>⟨by
   cases k with
   | b=>exact h1
   | i k=>exact h1
   | s=>obtain ⟨s,hs,hl⟩:=h1;exact ⟨s,hs,Nat.le_trans hl hM⟩,We hM h2⟩
theorem Vo:∀{l:List (DataW H)} {d:DataW H},d ∈ l→Rows.uptoBulk d≤Rows.uptoBulkAll l
 | c::l,d,h=>by
  rcases List.mem_cons.1 h with rfl|h
  ·simp only [Rows.uptoBulkAll];omega
  ·have:=Vo h
   simp only [Rows.uptoBulkAll];omega
theorem sksF_ok {M:Nat} {g:TypeId→Option (List SK)}:∀(fs:List Field) (o total:Nat) (cs:List Value) (ks:List SK),contig P o fs=some total→cs.length=total→sksF g fs=some ks→
  (∀f ∈ fs,∀k,g f.type=some k→CellsOK M k ((cs.drop f.offset).take (P.cellsOf f.type)))→CellsOK M ks (cs.drop o)
 | [],o,total,cs,ks,h,h1,h2,_=>by
  simp only [contig,Option.some.injEq] at h
  simp only [sksF,Option.some.injEq] at h2
  rw [←h2,List.drop_eq_nil_of_le (by omega)];trivial
 | f::fs,o,total,cs,ks,h,h1,h2,hp=>by
  unfold contig at h
  split at h
  ·rename_i ho
   unfold sksF at h2
   split at h2
   ·rename_i a r ha hr
    obtain rfl:=Option.some.inj h2
    have ih:=sksF_ok fs (o+P.cellsOf f.type) total cs r h h1 hr fun g hg=>hp g (by simp [hg])
    have h3:=hp f (by simp) a ha
    rw [ho] at h3
    rw [←List.take_append_drop (P.cellsOf f.type) (cs.drop o),List.drop_drop]
    exact Xq h3 ih
   ·cases h2
  ·cases h
theorem arr_cells {M c:Nat} {l:List SK}:∀(m:Nat) (cs:List Value),cs.length=m * c→(∀i,i<m→CellsOK M l ((cs.drop (i * c)).take c))→CellsOK M (List.replicate m l).flatten cs
 | 0,cs,h,_=>by
  have:cs=[]:=List.length_eq_zero_iff.1 (by omega)
  subst this;trivial
 | m+1,cs,h,hp=>by
  have h0:=hp 0 (by omega)
  rw [Nat.zero_mul,List.drop_zero] at h0
  have hl:cs.length=m * c+c:=by rw [h,Nat.succ_mul]
  have ih:=arr_cells (M:=M) (c:=c) (l:=l) m (cs.drop c) (by rw [List.length_drop];omega) fun i hi=>by
   have:=hp (i+1) (by omega)
   rw [List.drop_drop,show c+i * c=(i+1) * c by rw [Nat.succ_mul];omega]
   exact this
  rw [List.replicate_succ,List.flatten_cons,←List.take_append_drop c cs]
  exact Xq h0 ih
theorem WY:∀(n k:Nat) (t:TypeId) (w:World) (base:Nat) (sp:Nat→Bool) (hd:Bool) (cs:List Value) (x:DataW H×List MemPlace) (ks:List SK),plainT P k t=true→sks P k t=some ks→DataW.trod enc P w base sp hd n t cs=some x→CellsOK (Rows.uptoBulk x.1) ks cs
 | 0,_,_,_,_,_,_,_,_,_,_,_,h=>by simp [DataW.trod] at h
 | n+1,0,_,_,_,_,_,_,_,_,hp,_,_=>by simp [plainT] at hp
 | n+1,k+1,t,w,base,sp,hd,cs,x,ks,hp,hk,h=>by
  unfold plainT at hp
  unfold sks at hk
  split at hp
  ·rename_i hu
   rw [hu] at hk
   obtain rfl:=Option.some.inj hk
   obtain ⟨b,rfl,rfl⟩:=DataW.trod_bool hu h
   exact ⟨⟨b,rfl⟩,trivial⟩
  ·rename_i hu
   rw [hu] at hk
   obtain rfl:=Option.some.inj hk
   obtain ⟨z,rfl,rfl,hz⟩:=DataW.trod_int hu h
   exact ⟨⟨z,rfl,hz⟩,trivial⟩
  ·rename_i hu
   rw [hu] at hk
   obtain rfl:=Option.some.inj hk
   obtain ⟨s,rfl,rfl,hs⟩:=DataW.trod_string hu h
   refine ⟨⟨s,rfl,?_⟩,trivial⟩
   have hsz:s.data.toList.length=s.size:=by simp
   simp only [Rows.uptoBulk];omega
  ·rename_i fs hu
   rw [hu] at hk
   rw [Bool.and_eq_true,List.all_eq_true,beq_iff_eq] at hp
   simp only [DataW.trod,hu] at h
   split at h
   ·rename_i hl
    simp only [Option.map_eq_some_iff] at h
    obtain ⟨xs,hxs,rfl⟩:=h
    have:=sksF_ok (M:=Rows.uptoBulk (.agg (xs.map (·.1)))) (g:=sks P k) fs.toList 0 _ cs ks hp.2 hl hk fun f hf k' hk'=>by
     obtain ⟨i,hi,rfl⟩:=List.mem_iff_getElem.1 hf
     obtain ⟨y,hy1,hy2⟩:=Yz hxs i _ (List.getElem?_eq_getElem hi)
     refine We ?_ (WY n k _ w base sp hd _ y k' (hp.1 _ hf) hk' hy2)
     have hm:y.1 ∈ xs.map (·.1):=List.mem_map.2 ⟨y,List.mem_of_getElem? hy1,rfl⟩
     have:=Vo hm
     simp only [Rows.uptoBulk];omega
    simpa using this
   ·cases h
  ·rename_i m e hu
   rw [hu] at hk
   rw [Bool.and_eq_true,beq_iff_eq] at hp
   simp only [DataW.trod,hu] at h
   split at h
   ·rename_i hl
    simp only [Option.map_eq_some_iff] at h hk
    obtain ⟨xs,hxs,rfl⟩:=h
    obtain ⟨l,hl2,rfl⟩:=hk
    refine arr_cells m cs (by rw [hl,hp.2]) fun i hi=>?_
    have hi':(List.range m)[i]? = some i:=by simp [hi]
    obtain ⟨y,hy1,hy2⟩:=Yz hxs i _ hi'
    refine We ?_ (WY n k _ w base sp hd _ y l hp.1 hl2 hy2)
    have hm:y.1 ∈ xs.map (·.1):=List.mem_map.2 ⟨y,List.mem_of_getElem? hy1,rfl⟩
    have:=Vo hm
    simp only [Rows.uptoBulk];omega
   ·cases h
  ·cases hp
end
section
open Go.ChangeShapes Go.WideShapes Go.ChangeAt
theorem cells_at {W:World} {a:Addr} {n:Nat} {cs:List Value} (h:W.cells? 0 a n=some cs) (hn:0<n) :
  a.spot=none∧∃(c:Array Value) (fz:Nat×Nat×Nat),W.heap[a.block]? = some (.cells c fz.1 fz.2)∧cs.length=n∧∀j,j<n→c[a.off+j]? = cs[j]?:=by
 unfold World.cells? at h
 rw [if_pos (Nat.zero_le _)] at h
 have hl:cs.length=n:=by
  have:∀{α β:Type} {f:α→Option β} {l:List α} {r:List β},l.mapM f=some r→r.length=l.length:=fun {α β f} l=>by
   induction l with
   | nil=>intro r h;simp at h;subst h;rfl
   | cons x l ih=>
    intro r h
    rw [List.mapM_cons] at h
    simp only [Option.bind_eq_bind,Option.bind_eq_some_iff,Option.pure_def,Option.some.injEq] at h
    obtain ⟨y,_,ys,hys,rfl⟩:=h
    simp [ih hys]
  simpa using this h
 have hget:∀j,j<n→∃v,cs[j]? = some v∧W.cell? (a.add j)=some v:=fun j hj=>Yz h j j (by simp [hj])
 obtain ⟨v0,_,h0⟩:=hget 0 hn
 have ha0:a.add 0=a:=by simp [Addr.add]
 rw [ha0] at h0
 unfold World.cell? at h0
 split at h0
 ·rename_i c T fz hb
  split at h0
  ·cases h0
  ·rename_i hsp
   have hsp:a.spot=none:=by simpa using hsp
   refine ⟨hsp,c,(T,fz),hb,hl,fun j hj=>?_⟩
   obtain ⟨v,hv1,hv2⟩:=hget j hj
   rw [hv1]
   obtain ⟨ab,ao,asp⟩:=a
   dsimp only at hsp hb ⊢
   subst hsp
   rw [Y9 rfl] at hv2
   unfold World.cell? at hv2
   dsimp only at hv2
   rw [hb] at hv2
   simpa using hv2
 ·cases h0
theorem Kept.cell {W W':World} (h:Kept W W') {a:Addr} {v:Value} (hc:W.cell? a=some v):W'.cell? a=some v:=by
 unfold World.cell? at hc ⊢
 split at hc
 ·rename_i c T fz hb
  rw [h.heap _ _ hb]
  exact hc
 ·cases hc
theorem Kept.cells {W W':World} (h:Kept W W') {a:Addr} {n:Nat} {cs:List Value} (hc:W.cells? 0 a n=some cs):W'.cells? 0 a n=some cs:=by
 unfold World.cells? at hc ⊢
 rw [if_pos (Nat.zero_le _)] at hc ⊢
 exact Xj (fun i _ x hx=>h.cell hx) hc
variable {enc:TypeId×Value→H} {P:Program}
theorem Uj:∀(l:List (DataW H)),l.length≤Rows.uptoBulkAll l
 | []=>by simp [Rows.uptoBulkAll]
 | d::l=>by
  have:=Uj l
  have h1:1≤Rows.uptoBulk d:=by
   cases d with
   | lit x=>cases x<;>simp only [Rows.uptoBulk]<;>omega
   | _=>simp only [Rows.uptoBulk];omega
  simp only [Rows.uptoBulkAll,List.length_cons];omega
theorem UU {α:Type} {p:Nat→α→Prop}:∀(n:Nat),(∀i,i<n→∃y,p i y)→∃es:List α,es.length=n∧∀i y,es[i]? = some y→p i y
 | 0,_=>⟨[],rfl,by simp⟩
 | n+1,h=>by
  obtain ⟨es,hl,he⟩:=UU n fun i hi=>h i (by omega)
  obtain ⟨y,hy⟩:=h n (by omega)
  refine ⟨es++[y],by simp [hl],fun i z hz=>?_⟩
  by_cases hi:i<n
  ·exact he i z (by rwa [List.getElem?_append_left (by omega)] at hz)
  ·rw [List.getElem?_append_right (by omega)] at hz
   have h0:i - es.length=0:=by
    have:=(List.getElem?_eq_some_iff.1 hz).1
    simp at this;omega
   rw [h0] at hz
   simp at hz
   subst hz
   rw [show i=n by omega];exact hy
theorem drop_flat {α:Type} {fa:α→List Value} {sz:Nat} (hsz:∀e,(fa e).length=sz) (l:List Value):∀(es:List α) (off:Nat),(∀i e,es[i]? = some e→∀j,j<sz→l[off+i * sz+j]? = (fa e)[j]?)→l.drop off=es.flatMap fa++l.drop (off+es.length * sz)
 | [],off,_=>by simp
 | e::es,off,h=>by
  have h1:(l.drop off).take sz=fa e:=by
   apply List.ext_getElem?
   intro j
   rw [List.getElem?_take,List.getElem?_drop]
   split
   ·rename_i hj
    have:=h 0 e rfl j hj
    simpa using this
   ·rename_i hj
    rw [List.getElem?_eq_none (by rw [hsz];omega)]
  have ih:=drop_flat hsz l es (off+sz) fun i e' he j hj=>by
   have:=h (i+1) e' (by simpa using he) j hj
   rw [←this];congr 1;rw [Nat.add_mul];omega
  rw [←List.take_append_drop sz (l.drop off),h1,List.drop_drop,ih,List.flatMap_cons,List.append_assoc,List.length_cons]
  congr 3;rw [Nat.add_mul];omega
theorem mapM_len {α β:Type} {f:α→Option β} {l:List α}:∀{r:List β},l.mapM f=some r→r.length=l.length:=by
 induction l with
 | nil=>intro r h;simp at h;subst h;rfl
 | cons x l ih=>
  intro r h
  rw [List.mapM_cons] at h
  simp only [Option.bind_eq_bind,Option.bind_eq_some_iff,Option.pure_def,Option.some.injEq] at h
  obtain ⟨y,_,ys,hys,rfl⟩:=h
  simp [ih hys]
theorem open_slC {α:Type} {fa:α→List Value} {Q:α→Nat→Prop} {t e k:Nat} {W:World} {v:Value} {d:DataW H} {p:List MemPlace} (T:Nat) (hu:P.underlying t=some (.slice e)) (hpl:plainT P k e=true) (hc0:0<P.cellsOf e) (hsz:∀y,(fa y).length=P.cellsOf e)
  (hopen:∀(n:Nat) (cs:List Value) (x:DataW H×List MemPlace),DataW.trod enc P W 0 (fun _=>true) true n e cs=some x→∃y,cs=fa y∧Q y (Rows.uptoBulk x.1)) (hmono:∀y M M',Q y M→M≤M'→Q y M')
  (hv:∃a len cap,v = .slice a len cap) (h:DataW.Trod enc P W 0 (fun _=>true) true t v d p) :
  ∃(o:Option Addr) (cap:Nat) (es:List α),v = .slice o es.length cap∧(Sl T fa o cap es).p (fun b=>W.heap[b]?)∧es.length≤Rows.uptoBulk d∧(∀y ∈ es,Q y (Rows.uptoBulk d))∧
   ∀(W':World) (sp:Nat→Bool),Kept W W'→(∀b<W.heap.size,sp b=true)→DataW.Trod enc P W' 0 sp true t v d p:=by
 obtain ⟨a,len,cap,rfl⟩:=hv
 obtain ⟨n,hn⟩:=h
 cases n with
 | zero=>simp [DataW.trod] at hn
 | succ n=>
  have hcl:(Value.slice a len cap).cells.toList=[.slice a len cap]:=rfl
  rw [hcl] at hn
  cases a with
  | none=>
   have h0:len=0∧cap=0:=by
    unfold DataW.trod at hn
    rw [hu] at hn
    split at hn<;>simp_all
   obtain ⟨rfl,rfl⟩:=h0
   have hd:d = .nil∧p=[]:=by
    simp [DataW.trod,hu] at hn
    exact ⟨hn.1.symm,hn.2⟩
   obtain ⟨rfl,rfl⟩:=hd
   exact ⟨none,0,[],rfl,⟨by simp,.inl rfl⟩,by simp,by simp,fun W' sp _ _=>⟨n+1,by rw [hcl];simp [DataW.trod,hu]⟩⟩
  | some a=>
   simp only [DataW.trod,hu] at hn
   split at hn
   ·rename_i hb
    simp only [Option.bind_eq_some_iff,if_true,Option.map_eq_some_iff] at hn
    obtain ⟨elems,he,rest,hr,hx⟩:=hn
    simp only [Prod.mk.injEq] at hx
    obtain ⟨rfl,rfl⟩:=hx
    have hle:=mapM_len he
    rw [List.length_range] at hle
    have hbulk:∀x ∈ elems,Rows.uptoBulk x.1≤Rows.uptoBulk (DataW.slice (elems.map (·.1)) (rest.map (·.1))):=fun x hx=>by
     have:=Vo (List.mem_map.2 ⟨x,hx,rfl⟩:x.1 ∈ elems.map (·.1))
     simp only [Rows.uptoBulk];omega
    obtain ⟨es,hel,hes⟩:=UU (p:=fun i y=>∃x,x ∈ elems∧W.cells? 0 (a.add (i * P.cellsOf e)) (P.cellsOf e)=some (fa y)∧Q y (Rows.uptoBulk x.1)) len fun i hi=>by
     obtain ⟨x,hx1,hx2⟩:=Yz he i i (by simp [hi])
     simp only [Option.bind_eq_some_iff] at hx2
     obtain ⟨cs,hcs,htr⟩:=hx2
     obtain ⟨y,rfl,hy⟩:=hopen n cs x htr
     exact ⟨y,x,List.mem_of_getElem? hx1,hcs,hy⟩
    refine ⟨some a,cap,es,by rw [hel],⟨by omega,?_⟩,?_,?_,?_⟩
    ·by_cases hl0:es=[]
     ·exact .inl hl0
     ·right
      have hpos:0<es.length:=List.length_pos_iff.2 hl0
      obtain ⟨x0,_,hc1,_⟩:=hes 0 es[0] (List.getElem?_eq_getElem hpos)
      have ha0:a.add (0 * P.cellsOf e)=a:=by simp [Addr.add]
      rw [ha0] at hc1
      obtain ⟨hsp,c,fz,hblk,_,hcell⟩:=cells_at hc1 hc0
      obtain ⟨ab,ao,asp⟩:=a
      dsimp only at hsp hblk hcell
      subst hsp
      have hlt:ao<c.size:=by
       have h1:=hcell 0 hc0
       have h2:(fa es[0])[0]?≠none:=by
        rw [List.getElem?_eq_getElem (by rw [hsz];exact hc0)];simp
       rw [←h1] at h2
       exact Nat.lt_of_not_le fun h=>h2 (by simpa using Array.getElem?_eq_none_iff.2 h)
      have hdrop:=drop_flat hsz c.toList es ao fun i y hy j hj=>by
       obtain ⟨x,_,hci,_⟩:=hes i y hy
       rw [Y9 rfl] at hci
       obtain ⟨_,c',fz',hblk',_,hcell'⟩:=cells_at hci hc0
       dsimp only at hblk' hcell'
       rw [hblk] at hblk'
       injection hblk' with hblk'
       injection hblk' with e1
       subst e1
       rw [←hcell' j hj];simp
      refine ⟨ab,c,fz,c.toList.take ao,c.toList.drop (ao+es.length * P.cellsOf e),?_,hblk,?_⟩
      ·rw [List.length_take,Nat.min_eq_left (by simpa using Nat.le_of_lt hlt)]
      ·rw [←hdrop,List.take_append_drop]
    ·have:=Uj (elems.map (·.1))
     simp only [List.length_map] at this
     simp only [Rows.uptoBulk];omega
    ·intro y hy
     obtain ⟨i,hi,rfl⟩:=List.mem_iff_getElem.1 hy
     obtain ⟨x,hx,_,hq⟩:=hes i _ (List.getElem?_eq_getElem hi)
     exact hmono _ _ _ hq (hbulk x hx)
    ·intro W' sp hk hsp
     have hel1:∀i x,((W.cells? 0 (a.add (i * P.cellsOf e)) (P.cellsOf e)).bind (DataW.trod enc P W 0 (fun _=>true) true n e))=some x→((W'.cells? 0 (a.add (i * P.cellsOf e)) (P.cellsOf e)).bind (DataW.trod enc P W' 0 sp true n e))=some x:=fun i x hx=>by
      simp only [Option.bind_eq_some_iff] at hx ⊢
      obtain ⟨cs,hcs,htr⟩:=hx
      exact ⟨cs,hk.cells hcs,(Wn n _ _ W 0 _ _ _ _ hpl htr).2 W' 0 sp true⟩
     refine ⟨n+1,?_⟩
     rw [hcl]
     simp only [DataW.trod,hu]
     rw [if_pos hb]
     simp only [Option.bind_eq_some_iff,Option.map_eq_some_iff]
     refine ⟨elems,Xj (fun i _ x hx=>hel1 i x hx) he,rest,?_,rfl⟩
     by_cases hcap:cap=len
     ·have hrest:rest=[]:=by
       subst hcap
       simp at hr
       exact hr
      subst hrest
      subst hcap
      split<;>simp
     ·have hlt:a.block<W.heap.size:=by
       obtain ⟨x,_,hx2⟩:=Yz hr 0 0 (by rw [List.getElem?_range (by omega)])
       simp only [Option.bind_eq_some_iff] at hx2
       obtain ⟨cs,hcs,_⟩:=hx2
       obtain ⟨_,c,fz,hblk,_⟩:=cells_at hcs hc0
       have h1:=(Array.getElem?_eq_some_iff.1 hblk).1
       have h2:(a.add ((len+0) * P.cellsOf e)).block=a.block:=by unfold Addr.add;split<;>rfl
       rwa [h2] at h1
      rw [if_pos (hsp _ hlt)]
      exact Xj (fun j _ x hx=>hel1 (len+j) x hx) hr
   ·cases hn
theorem open_sl {α:Type} {fa:α→List Value} {Q:α→Nat→Prop} {t e k:Nat} {W:World} {base:Nat} {v:Value} {d:DataW H} {p:List MemPlace} (T:Nat) (hu:P.underlying t=some (.slice e)) (hpl:plainT P k e=true) (hc0:0<P.cellsOf e) (hsz:∀y,(fa y).length=P.cellsOf e)
  (hopen:∀(n:Nat) (cs:List Value) (x:DataW H×List MemPlace),DataW.trod enc P W 0 (fun _=>true) true n e cs=some x→∃y,cs=fa y∧Q y (Rows.uptoBulk x.1)) (hmono:∀y M M',Q y M→M≤M'→Q y M')
  (hv:Value.okWide P W .any base t v) (h:DataW.Trod enc P W 0 (fun _=>true) true t v d p) :
  ∃(o:Option Addr) (cap:Nat) (es:List α),v = .slice o es.length cap∧(Sl T fa o cap es).p (fun b=>W.heap[b]?)∧es.length≤Rows.uptoBulk d∧(∀y ∈ es,Q y (Rows.uptoBulk d))∧
   ∀(W':World) (sp:Nat→Bool),Kept W W'→(∀b<W.heap.size,sp b=true)→DataW.Trod enc P W' 0 sp true t v d p:=
 open_slC T hu hpl hc0 hsz hopen hmono (okWide_slice hu hv) h
end
section
open Go.ChangeShapes Go.WideShapes Go.ChangeAt
theorem own:ownKnob prog.godebug=none:=by kernel_rfl
theorem u8_of {n:Int} (h:(Lit.int .u8 n).wf=true):∃c:UInt8,n=(c.toNat:Int):=by
 have h1:0≤n∧n<256:=by
  simp [Lit.wf,IntKind.min,IntKind.max,IntKind.bits,IntKind.signed] at h
  omega
 exact ⟨UInt8.ofNat n.toNat,by simp;omega⟩
noncomputable def laidWorld (os:Os):World:=
 {World.holding prog os ⟨#[],#[],[]⟩ with heap:=(World.holding prog os ⟨#[],#[],[]⟩).heap.modify 0 fun
   | .cells _ t frozen=>.cells (usages.flatMap uf).toArray t frozen
   | o=>o}
theorem XU {M:Nat} {k:IntKind} {ks:List SK} {cs:List Value} (h:CellsOK M (.i k::ks) cs):∃z cs',cs = .int k z::cs'∧(Lit.int k z).wf=true∧CellsOK M ks cs':=by
 obtain _|⟨v,cs⟩:=cs
 ·exact h.elim
 ·obtain ⟨⟨z,rfl,hz⟩,h⟩:=h
  exact ⟨z,cs,rfl,hz,h⟩
theorem cells_s {M:Nat} {ks:List SK} {cs:List Value} (h:CellsOK M (.s::ks) cs):∃(s:ByteArray) (cs':List Value),cs = .string s::cs'∧s.size≤M∧CellsOK M ks cs':=by
 obtain _|⟨v,cs⟩:=cs
 ·exact h.elim
 ·obtain ⟨⟨z,rfl,hz⟩,h⟩:=h
  exact ⟨z,cs,rfl,hz,h⟩
theorem cells_nil {M:Nat} {cs:List Value} (h:CellsOK M [] cs):cs=[]:=by
 cases cs
 ·rfl
 ·exact h.elim
section
variable {enc:TypeId×Value→H} {W:World} {base:Nat} {v:Value} {d:DataW H} {p:List MemPlace}
theorem aggS {t:TypeId} {fs:Array Field} (hu:prog.underlying t=some (.struct fs)) (hv:Value.okWide prog W .any base t v):∃cs,v = .agg cs:=
 let ⟨cs,h,_⟩:=okWide_struct hu hv
 ⟨cs,h⟩
theorem open_agg {t:TypeId} {ks:List SK} (hpl:plainT prog 5 t=true) (hsk:sks prog 5 t=some ks) (hag:∃cs,v = .agg cs) (h:DataW.Trod enc prog W 0 (fun _=>true) true t v d p) :
  ∃cs:List Value,v = .agg cs.toArray∧CellsOK (Rows.uptoBulk d) ks cs∧p=[]∧∀w' base' sp' hd',DataW.Trod enc prog w' base' sp' hd' t v d []:=by
 obtain ⟨cs,rfl⟩:=hag
 obtain ⟨n,hn⟩:=h
 have hc:=WY n 5 _ W 0 _ _ _ _ _ hpl hsk hn
 obtain ⟨hp,hr⟩:=Wn n 5 _ W 0 _ _ _ _ hpl hn
 dsimp only at hp
 subst hp
 exact ⟨cs.toList,rfl,hc,rfl,fun w' base' sp' hd'=>⟨n,hr w' base' sp' hd'⟩⟩
end
end
section
open Go.ChangeShapes Go.WideShapes Go.ChangeAt

end
section
open Go.ChangeShapes Go.WideShapes Go.ChangeAt
section
variable {enc:TypeId×Value→H} {W:World} {base:Nat} {v:Value} {d:DataW H} {p:List MemPlace}
theorem plOp7:plainT prog 5 76=true:=by decide +kernel
theorem skOp7:sks prog 5 76=some [.i .u8,.i .u8,.i .i64,.i .i64,.s,.i .i64,.i .i64,.i .i64,.i .i64,.i .i64,.i .i64,.s]:=by kernel_rfl
theorem open_o7 {M:Nat} {cs:List Value} (h:CellsOK M [.i .u8,.i .u8,.i .i64,.i .i64,.s,.i .i64,.i .i64,.i .i64,.i .i64,.i .i64,.i .i64,.s] cs):∃c:Op7,cs=op7f c∧c.t.size≤M:=by
 obtain ⟨z1,cs,rfl,h1,h⟩:=XU h
 obtain ⟨z2,cs,rfl,h2,h⟩:=XU h
 obtain ⟨z3,cs,rfl,_,h⟩:=XU h
 obtain ⟨z4,cs,rfl,_,h⟩:=XU h
 obtain ⟨s5,cs,rfl,h5,h⟩:=cells_s h
 obtain ⟨y1,cs,rfl,_,h⟩:=XU h
 obtain ⟨y2,cs,rfl,_,h⟩:=XU h
 obtain ⟨y3,cs,rfl,_,h⟩:=XU h
 obtain ⟨y4,cs,rfl,_,h⟩:=XU h
 obtain ⟨y5,cs,rfl,_,h⟩:=XU h
 obtain ⟨y6,cs,rfl,_,h⟩:=XU h
 obtain ⟨s7,cs,rfl,_,h⟩:=cells_s h
 obtain rfl:=cells_nil h
 obtain ⟨c1,rfl⟩:=u8_of h1
 obtain ⟨c2,rfl⟩:=u8_of h2
 exact ⟨⟨c1,c2,z3,z4,s5,⟨y1,y2,y3,y4,y5,y6,s7⟩⟩,rfl,h5⟩
theorem open_ops7 (hv:Value.okWide prog W .any base 51 v) (h:DataW.Trod enc prog W 0 (fun _=>true) true 51 v d p) :
  ∃(o:Option Addr) (cap:Nat) (es:List Op7),v = .slice o es.length cap∧(Sl 76 op7f o cap es).p (fun b=>W.heap[b]?)∧es.length≤Rows.uptoBulk d∧(∀y ∈ es,y.t.size≤Rows.uptoBulk d)∧
   ∀(W':World) (sp:Nat→Bool),Kept W W'→(∀b<W.heap.size,sp b=true)→DataW.Trod enc prog W' 0 sp true 51 v d p:=
 open_sl (fa:=op7f) (Q:=fun y M=>y.t.size≤M) _ underlying51 plOp7 (by decide +kernel) (fun _=>show 12=_ by decide +kernel) (fun n cs x hx=>open_o7 (WY n 5 _ W 0 _ _ _ _ _ plOp7 skOp7 hx)) (fun _ _ _ h1 h2=>Nat.le_trans h1 h2) hv h
theorem open_op7 (hv:Value.okWide prog W .any base 76 v) (h:DataW.Trod enc prog W 0 (fun _=>true) true 76 v d p) :
  ∃o:Op7,v=o.v∧p=[]∧∀w' base' sp' hd',DataW.Trod enc prog w' base' sp' hd' 76 v d []:=by
 obtain ⟨cs,rfl,h,hp,hr⟩:=open_agg plOp7 skOp7 (aggS underlying76 hv) h
 obtain ⟨o,ho,_⟩:=open_o7 h
 refine ⟨o,?_,hp,hr⟩
 have:cs.toArray=(op7f o).toArray:=by rw [ho]
 first
  | (show Value.agg _=Value.agg _;congr 1)
  | exact congrArg Value.agg this
end
end
end Go.Proofs.YtdkndahndgkmnaaGreatDoor
