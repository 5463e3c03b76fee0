/-
  The contract of consequence.Compare.
  Contracts of the statements' own functions: names, out, build.
  What is written is read again; no program in sight.
  The contract of the statements' example, known.
  From contracts to the statements' form: memory that was there stays; plain data read the same everywhere; the table of the kinds.
  Slices of plain data as arguments: the fact that they lie in memory, and that they read the same later.
  The settled world; arguments of plain types, opened.
  The statements' arguments, opened: items, bytes.
  Conditions: those that each theorem states.
-/
import Derived.Test.YtfcnicnekddliaaGreatDoorK2
import Derived.Test.YtfcnicnekddliaaGreatDoorRows
import Derived.Test.YtfcnicnekddliaaGreatDoorCards
import Derived.Test.YtfcnicnekddliaaGreatDoorTie
import Derived.ChangeSame
import Derived.ProofKit
import Derived.OpenShut
import Derived.MakeChecks
import Derived.Deep.DeepHandedRow
set_option maxRecDepth 10000
namespace Go.Proofs.YtfcnicnekddliaaGreatDoor
open Go.RowKit Go.Proofs.Tryz
section
variable {n:Nat} {C:Cx} {Q:Exit→Act→World→Prop} {E E':List (Nat×Value)} {F F' F1 Fs F0:List Pf} {R R' R0 Rs N N' A:List HP} {k k':List Fr} {ops l:List Oper} {i d:Nat} {t ty0:TypeId} {x y z:Operand} {pos:String} {aft:Array Edge} {gd:Option (Nat×Bool)} {α β:Type} [DecidableEq α] {K:α→Value} {V:β→Value}
theorem X4 {kt et r:Nat} {rs te:TRow} {m:List (α×β)} {zv:Value} (hk:KeyOK kt K) (a:α) (o:Option β) (ho:mget a m=o) (nx:Wl n C ops.toArray k Q l ((d,(o.map V).getD zv)::E) F R) (hw:wantL ops E ⟨some d,.lookup t x y false,ty0,pos,aft,gd⟩=some true:=by rfl) (hn:Nat.blt d n=true:=by rfl)
  (hx:ev E x=some (.map (some r)):=by rfl) (hy:ev E y=some (K a):=by rfl) (hts:lookT tab t=some rs:=by rfl) (hrs:rs.k = .map kt et:=by rfl) (hte:lookT tab et=some te:=by rfl) (hzv:zval te=some zv:=by rfl)
  (hs:Sel (Mp K V r m) R R0:=by (repeat (first|exact Sel.here|apply Sel.there));first|done|fail):Wl n C ops.toArray k Q (⟨some d,.lookup t x y false,ty0,pos,aft,gd⟩::l) E F R:=by
 subst ho
 exact l_mget hk a nx hw hn hx hy hts hrs hte hzv hs
theorem XU {kt et r:Nat} {rs te:TRow} {m:List (α×β)} {zv:Value} (hk:KeyOK kt K) (a:α) (o:Option β) (ho:mget a m=o) (nx:Wl n C ops.toArray k Q l ((d,.tuple #[(o.map V).getD zv,.bool o.isSome])::E) F R) (hw:wantL ops E ⟨some d,.lookup t x y true,ty0,pos,aft,gd⟩=some true:=by rfl) (hn:Nat.blt d n=true:=by rfl)
  (hx:ev E x=some (.map (some r)):=by rfl) (hy:ev E y=some (K a):=by rfl) (hts:lookT tab t=some rs:=by rfl) (hrs:rs.k = .map kt et:=by rfl) (hte:lookT tab et=some te:=by rfl) (hzv:zval te=some zv:=by rfl)
  (hs:Sel (Mp K V r m) R R0:=by (repeat (first|exact Sel.here|apply Sel.there));first|done|fail):Wl n C ops.toArray k Q (⟨some d,.lookup t x y true,ty0,pos,aft,gd⟩::l) E F R:=by
 subst ho
 exact l_mget2 hk a nx hw hn hx hy hts hrs hte hzv hs
end
def En.v (e:En):Value:=.agg #[.string e.who,.int .i64 e.nu,.int .i64 e.tk,.int .i64 e.o.ch,.string e.o.tg,.string e.o.tx,.int .i64 e.o.us]
abbrev Sd:=ByteArray×Int
def sdv (s:Sd):Value:=.agg #[.string s.1,.int .i64 s.2]
def En.sd (e:En):Sd:=(e.who,e.nu)
def bv (b:Bool):Value:=.bool b
theorem beqS (a b:ByteArray):(a.toList == b.toList)=decide (a=b):=by
 rw [Zp,Zp,Bool.eq_iff_iff]
 simp only [beq_iff_eq,decide_eq_true_eq]
 exact ⟨fun h=>Xp h,fun h=>by rw [h]⟩
theorem beqI (a b:Int):(a == b)=decide (a=b):=by rw [Bool.eq_iff_iff];simp
theorem Yc:KeyOK 108 En.v where
 eq a b w:=by
  refine (equal_ok (t:=108) (x:=En.v a) (y:=En.v b) rfl w).trans ?_
  obtain ⟨a1,a2,a3,a4,a5,a6,a7⟩:=a
  obtain ⟨b1,b2,b3,b4,b5,b6,b7⟩:=b
  congr 1
  simp only [beqS,beqI,En.mk.injEq,Ou.mk.injEq]
  rw [Bool.eq_iff_iff]
  simp
 chk a em w:=ckC_ok XY em 20 10000 _ _ w (by omega) rfl
 bits a:=by simp [En.v,Instr.sameBits,beq_toListBytes]
 now:=⟨_,rfl,fun a b=>.inl rfl⟩
theorem Xs:KeyOK 118 sdv where
 eq a b w:=by
  refine (equal_ok (t:=118) (x:=sdv a) (y:=sdv b) rfl w).trans ?_
  obtain ⟨a1,a2⟩:=a
  obtain ⟨b1,b2⟩:=b
  congr 1
  simp only [beqS,beqI,Prod.mk.injEq]
  rw [Bool.eq_iff_iff]
  simp
 chk a em w:=ckC_ok XY em 20 10000 _ _ w (by omega) rfl
 bits a:=by simp [sdv,Instr.sameBits,beq_toListBytes]
 now:=⟨_,rfl,fun a b=>.inl rfl⟩
theorem Yw {α β:Type} [DecidableEq α] (a:α) (v:β):∀(m:List (α×β)) (b:α),mget b (mset a v m)=if a=b then some v else mget b m
 | [],b=>by
  by_cases h:a=b
  ·subst h;simp [mset,mget]
  ·have:b≠a:=fun e=>h e.symm
   simp [mset,mget,h,this]
 | (c,u)::m,b=>by
  have ih:=Yw a v m b
  unfold mset
  by_cases hac:a=c
  ·subst hac
   rw [if_pos rfl,mget,mget]
   by_cases hab:a=b
   ·subst hab;simp
   ·have:b≠a:=fun e=>hab e.symm
    simp [hab,this]
  ·rw [if_neg hac,mget,mget,ih]
   by_cases hab:a=b
   ·subst hab;simp [hac]
   ·simp [hab]
structure Cq where
 kind:Int
 who:ByteArray
 nu:Int
 place:Int
 old:Ou
 oldAt:Int
 new:Ou
 newAt:Int
 deriving DecidableEq
def cqf (c:Cq):List Value:=[.int .i64 c.kind,.string c.who,.int .i64 c.nu,.int .i64 c.place,.int .i64 c.old.ch,.string c.old.tg,.string c.old.tx,.int .i64 c.old.us,.int .i64 c.oldAt,.int .i64 c.new.ch,.string c.new.tg,.string c.new.tx,.int .i64 c.new.us,.int .i64 c.newAt]
def con1 (all:List En) (x:Lf) (p:Nat):Cq:=
 if x.e ∈ all then ⟨1,x.e.who,x.e.nu,p,x.e.o,x.e.tk,x.e.o,x.e.tk⟩
 else match all.find? fun y=>y.sd=x.e.sd with
  | some y=>⟨3,x.e.who,x.e.nu,p,x.e.o,x.e.tk,y.o,y.tk⟩
  | none=>⟨2,x.e.who,x.e.nu,p,x.e.o,x.e.tk,Ou.z,0⟩
def knw (all:List En) (x:Lf):List En:=
 (if x.e ∈ all then [] else match all.find? fun y=>y.sd=x.e.sd with|some y=>[y]|none=>[])++[x.e]
def YB (all:List En) (ls:List Lf):List Cq:=ls.mapIdx fun p x=>con1 all x p
def con2 (y:En):Cq:=⟨4,y.who,y.nu,-1,Ou.z,0,y.o,y.tk⟩
def Z7 (known:List En) (ys:List En):List Cq:=(ys.filter fun y=>decide (y ∉ known)).map con2
def consE (all:List En) (ls:List Lf):List Cq:=YB all ls++Z7 (ls.flatMap (knw all)) all
structure C1 (all:List En) where
 i:Nat
 m1:List (En×Bool)
 m2:List (Sd×En)
 hi:i≤all.length
 h1:∀e,mget e m1=if e ∈ all.take i then some true else none
 h2:∀s,mget s m2=(all.take i).find? fun y=>y.sd=s
structure C2 (all:List En) (ls:List Lf) where
 j:Nat
 o:Option Addr
 cap:Nat
 m3:List (En×Bool)
 hj:j≤ls.length
 h3:∀e,mget e m3=if e ∈ (ls.take j).flatMap (knw all) then some true else none
structure C3 (all:List En) where
 i:Nat
 o:Option Addr
 cap:Nat
 hi:i≤all.length
set_option maxHeartbeats 4000000 in
theorem consCompare_ok (b bs:Nat) (es:Al) (ls:List Lf) (hl:ls.length≤1000000) (hal:(allE es).length≤1000000):Enters 17∧Spec prog 17 #[.pointer (some ⟨b,0,none⟩),.pointer (some ⟨bs,0,none⟩)] [LgF b ls,St (some ⟨bs,0,none⟩) es] []
  ⟨Option Addr×Nat,fun q=>.tuple #[.slice q.1 (consE (allE es) ls).length q.2,.int .i64 0],fun _=>True,fun q=>[Sl 26 cqf q.1 q.2 (consE (allE es) ls)],fun _=>[]⟩:=by
 have n1:=outAll_ok (some ⟨bs,0,none⟩) es
 generalize allE es=all at *
 refine Zb [_,_] func17 ntmps17 fun G w hp=>?_
 repeat' (first|refine ZG ?_|refine ZH ?_|refine ZJ ?_|refine ZF ?_|refine ZP ?_|refine ZK ?_|refine ZN ?_|refine ZQ (fun b=>?_)|refine ZO (fun b=>?_)|refine ZB ?_|refine ZD ?_|refine ZR ?_|refine ZW ?_|refine ZZ ?_|refine Zg ?_|refine Za ?_|refine ZX ?_|refine Ze (fun b=>?_)|refine Zd (fun b=>?_)|refine Zf ?_|refine ZY ?_|refine ZI (n1) (fun _ _=>?_)|refine l_call0 (n1) (fun _ _=>?_)|refine ZU (n1) (fun _ _=>?_)|refine l_mkm Yc bv (fun r1=>?_)|refine l_mkm Xs En.v (fun r2=>?_)|refine ZC (fun hc=>?_) (fun hc=>?_)|refine ZM (fun hc=>?_) (fun hc=>?_)|refine ZA 26 [] [(0,0),(1,0),(2,0),(3,0),(4,0),(5,0),(6,0),(7,4),(8,0),(9,4),(10,0)] [11] ?_|refine ZA 28 [] [(0,0),(1,0),(2,0),(3,0),(4,0),(5,4),(6,0),(7,4),(8,0)] [9] ?_|refine ZE (fun hc=>?_) (fun hc=>?_))
 rename_i q _
 obtain ⟨qo,qc⟩:=q
 refine Yi (X:=C1 all) (Y:={m:List (En×Bool)×List (Sd×En) // (∀e,mget e m.1=if e ∈ all then some true else none)∧∀s,mget s m.2=all.find? fun y=>y.sd=s})
  (fun x=>[(0,.pointer (some ⟨b,0,none⟩)),(6,.slice qo all.length qc),(7,.map (some r1)),(8,.map (some r2)),(34,.slice qo all.length qc),(35,.int .i64 (all.length:Int)),(36,.int .i64 (x.i:Int))]) (fun _=>[LgF b ls,Sl 108 enf qo qc all]) (fun x=>[Mp En.v bv r1 x.m1,Mp sdv En.v r2 x.m2]) (fun x=>all.length - x.i)
  (fun _=>[(0,.pointer (some ⟨b,0,none⟩)),(6,.slice qo all.length qc),(7,.map (some r1)),(8,.map (some r2))]) (fun _=>[LgF b ls,Sl 108 enf qo qc all]) (fun m=>[Mp En.v bv r1 m.1.1,Mp sdv En.v r2 m.1.2])
  ⟨0,[],[],by omega,by simp [mget],by simp [mget]⟩ ⟨rfl,rfl,rfl,rfl,rfl,rfl,rfl,trivial⟩ ?_ ?_
 ·rintro ⟨⟨m1,m2⟩,h1,h2⟩
  dsimp only at h1 h2 ⊢
  repeat' (first|refine ZG ?_|refine ZH ?_|refine ZJ ?_|refine ZF ?_|refine ZP ?_|refine ZK ?_|refine ZN ?_|refine ZQ (fun b=>?_)|refine ZO (fun b=>?_)|refine ZB ?_|refine ZD ?_|refine ZR ?_|refine ZW ?_|refine ZZ ?_|refine Zg ?_|refine Za ?_|refine ZX ?_|refine Ze (fun b=>?_)|refine Zd (fun b=>?_)|refine Zf ?_|refine ZY ?_|refine ZI (lgLen_ok b ls) (fun _ _=>?_)|refine l_call0 (lgLen_ok b ls) (fun _ _=>?_)|refine ZU (lgLen_ok b ls) (fun _ _=>?_)|refine l_mkm Yc bv (fun r3=>?_)|refine ZC (fun hc=>?_) (fun hc=>?_)|refine ZM (fun hc=>?_) (fun hc=>?_)|refine ZA 26 [] [(0,0),(1,0),(2,0),(3,0),(4,0),(5,0),(6,0),(7,4),(8,0),(9,4),(10,0)] [11] ?_|refine ZA 28 [] [(0,0),(1,0),(2,0),(3,0),(4,0),(5,4),(6,0),(7,4),(8,0)] [9] ?_|refine ZE (fun hc=>?_) (fun hc=>?_))
  refine Zu (Lx:=[]) (r:=Row 26 14 none 0 0 []) (fun h _=>YG _ _ h) ?_
  refine Yi (X:=C2 all ls) (Y:={q:Option Addr×Nat×List (En×Bool) // ∀e,mget e q.2.2=if e ∈ ls.flatMap (knw all) then some true else none})
   (fun x=>[(0,.pointer (some ⟨b,0,none⟩)),(6,.slice qo all.length qc),(7,.map (some r1)),(8,.map (some r2)),(14,.slice x.o (YB all (ls.take x.j)).length x.cap),(15,.map (some r3)),(61,.int .i64 (ls.length:Int)),(62,.int .i64 (x.j:Int))]) (fun _=>[LgF b ls,Sl 108 enf qo qc all]) (fun x=>[Mp En.v bv r1 m1,Mp sdv En.v r2 m2,Mp En.v bv r3 x.m3,Row 26 14 x.o (YB all (ls.take x.j)).length x.cap ((YB all (ls.take x.j)).flatMap cqf)]) (fun x=>ls.length - x.j)
   (fun y=>[(6,.slice qo all.length qc),(14,.slice y.1.1 (YB all ls).length y.1.2.1),(15,.map (some r3))]) (fun _=>[Sl 108 enf qo qc all]) (fun y=>[Mp En.v bv r3 y.1.2.2,Row 26 14 y.1.1 (YB all ls).length y.1.2.1 ((YB all ls).flatMap cqf)])
   ⟨0,none,0,[],by omega,by simp [mget]⟩ ⟨rfl,rfl,rfl,rfl,rfl,rfl,rfl,rfl,trivial⟩ ?_ ?_
  ·rintro ⟨⟨o,cap,m3⟩,h3⟩
   dsimp only at h3 ⊢
   have hcl:(YB all ls).length=ls.length:=by simp [YB]
   generalize hK:ls.flatMap (knw all)=K at h3
   have hfin:consE all ls=YB all ls++Z7 K all:=by rw [consE,hK]
   rw [hfin]
   generalize YB all ls=A at *
   have e0:A=A++Z7 K (all.take 0):=by simp [Z7]
   repeat' (first|refine ZG ?_|refine ZH ?_|refine ZJ ?_|refine ZF ?_|refine ZP ?_|refine ZK ?_|refine ZN ?_|refine ZQ (fun b=>?_)|refine ZO (fun b=>?_)|refine ZB ?_|refine ZD ?_|refine ZR ?_|refine ZW ?_|refine ZZ ?_|refine Zg ?_|refine Za ?_|refine ZX ?_|refine Ze (fun b=>?_)|refine Zd (fun b=>?_)|refine Zf ?_|refine ZY ?_|refine ZC (fun hc=>?_) (fun hc=>?_)|refine ZM (fun hc=>?_) (fun hc=>?_)|refine ZA 26 [] [(0,0),(1,0),(2,0),(3,0),(4,0),(5,0),(6,0),(7,4),(8,0),(9,4),(10,0)] [11] ?_|refine ZA 28 [] [(0,0),(1,0),(2,0),(3,0),(4,0),(5,4),(6,0),(7,4),(8,0)] [9] ?_|refine ZE (fun hc=>?_) (fun hc=>?_))
   refine YY (T:=26) (sz:=14) (o:=o) (cap:=cap) (m:=A.length) (m':=(A++Z7 K (all.take 0)).length) (A.flatMap cqf) ((A++Z7 K (all.take 0)).flatMap cqf) (by rw [←e0]) (by rw [←e0]) ?_
   refine YO (X:=C3 all) (fun x=>[(14,.slice x.o (A++Z7 K (all.take x.i)).length x.cap),(15,.map (some r3)),(133,.slice qo all.length qc),(134,.int .i64 (all.length:Int)),(135,.int .i64 (x.i:Int))]) (fun _=>[Sl 108 enf qo qc all]) (fun x=>[Mp En.v bv r3 m3,Row 26 14 x.o (A++Z7 K (all.take x.i)).length x.cap ((A++Z7 K (all.take x.i)).flatMap cqf)]) (fun x=>all.length - x.i) ⟨0,o,cap,by omega⟩ ⟨by rw [←e0];rfl,rfl,rfl,rfl,rfl,trivial⟩ ?_
   rintro ⟨i,o,cap,hi⟩
   dsimp only
   have hln:(A++Z7 K (all.take i)).length≤2000000:=by
    have h4:(Z7 K (all.take i)).length≤(all.take i).length:=by simp only [Z7,List.length_map];exact List.length_filter_le ..
    simp only [List.length_append,List.length_take] at h4 ⊢
    omega
   have hln2:A.length+(Z7 K (all.take i)).length≤2000000:=by simpa only [List.length_append] using hln
   by_cases hlt:i<all.length
   ·obtain ⟨e,he⟩:∃e,all[i]? = some e:=⟨_,List.getElem?_eq_getElem hlt⟩
    have htk:all.take (i+1)=all.take i++[e]:=by rw [List.take_add_one,he];rfl
    have n3:=h3 e
    by_cases hin:e ∈ K
    ·rw [if_pos hin] at n3
     have e3:Z7 K (all.take (i+1))=Z7 K (all.take i):=by simp [Z7,htk,hin]
     repeat' (first|refine ZG ?_|refine ZH ?_|refine ZJ ?_|refine ZF ?_|refine ZP ?_|refine ZK ?_|refine ZN ?_|refine ZQ (fun b=>?_)|refine ZO (fun b=>?_)|refine ZB ?_|refine ZD ?_|refine ZR ?_|refine ZW ?_|refine ZZ ?_|refine Zg ?_|refine Za ?_|refine ZX ?_|refine Ze (fun b=>?_)|refine Zd (fun b=>?_)|refine Zf ?_|refine ZY ?_|refine Z2 (es:=all) i e he (fun b off=>?_)|refine Zy ?_|refine X4 Yc e (some true) n3 ?_|(refine ZC (fun hc=>?_) (fun hc=>?_)<;>(try simp at hc)<;>(try omega))|(refine ZM (fun hc=>?_) (fun hc=>?_)<;>(try simp at hc)<;>(try omega))|refine ZA 26 [] [(0,0),(1,0),(2,0),(3,0),(4,0),(5,0),(6,0),(7,4),(8,0),(9,4),(10,0)] [11] ?_|refine ZA 28 [] [(0,0),(1,0),(2,0),(3,0),(4,0),(5,4),(6,0),(7,4),(8,0)] [9] ?_|(refine ZE (fun hc=>?_) (fun hc=>?_)<;>(try simp at hc)<;>(try omega)))
     rw [wrapi (z:=(i:Int)+1) (by omega) (by omega),←e3]
     exact Zc ⟨i+1,o,cap,by omega⟩ (by show all.length - (i+1)<all.length - i;omega) ⟨rfl,rfl,rfl,rfl,rfl,trivial⟩
    ·rw [if_neg hin] at n3
     have e3:Z7 K (all.take (i+1))=Z7 K (all.take i)++[con2 e]:=by simp [Z7,htk,hin]
     have e1:(A++Z7 K (all.take i)).length+1=(A++Z7 K (all.take (i+1))).length:=by rw [e3];simp;omega
     have e2:(A++Z7 K (all.take i)).flatMap cqf++cqf (con2 e)=(A++Z7 K (all.take (i+1))).flatMap cqf:=by rw [e3];simp
     repeat' (first|refine ZG ?_|refine ZH ?_|refine ZJ ?_|refine ZF ?_|refine ZP ?_|refine ZK ?_|refine ZN ?_|refine ZQ (fun b=>?_)|refine ZO (fun b=>?_)|refine ZB ?_|refine ZD ?_|refine ZR ?_|refine ZW ?_|refine ZZ ?_|refine Zg ?_|refine Za ?_|refine ZX ?_|refine Ze (fun b=>?_)|refine Zd (fun b=>?_)|refine Zf ?_|refine ZY ?_|refine Z2 (es:=all) i e he (fun b off=>?_)|refine Zy ?_|refine X4 Yc e none n3 ?_|refine XC (fun o' cap'=>?_)|(refine ZC (fun hc=>?_) (fun hc=>?_)<;>(try simp at hc)<;>(try omega))|(refine ZM (fun hc=>?_) (fun hc=>?_)<;>(try simp at hc)<;>(try omega))|refine ZA 26 [] [(0,0),(1,0),(2,0),(3,0),(4,0),(5,0),(6,0),(7,4),(8,0),(9,4),(10,0)] [11] ?_|refine ZA 28 [] [(0,0),(1,0),(2,0),(3,0),(4,0),(5,4),(6,0),(7,4),(8,0)] [9] ?_|(refine ZE (fun hc=>?_) (fun hc=>?_)<;>(try simp at hc)<;>(try omega)))
     rw [wrapi (z:=(i:Int)+1) (by omega) (by omega)]
     refine YY (T:=26) (sz:=14) (o:=o') (cap:=cap') (m:=(A++Z7 K (all.take i)).length+1) _ _ e1 e2 ?_
     rw [e1]
     exact Zc ⟨i+1,o',cap',by omega⟩ (by show all.length - (i+1)<all.length - i;omega) ⟨rfl,rfl,rfl,rfl,rfl,trivial⟩
   ·have e:all.take i=all:=List.take_of_length_le (by omega)
    rw [e]
    repeat' (first|refine ZG ?_|refine ZH ?_|refine ZJ ?_|refine ZF ?_|refine ZP ?_|refine ZK ?_|refine ZN ?_|refine ZQ (fun b=>?_)|refine ZO (fun b=>?_)|refine ZB ?_|refine ZD ?_|refine ZR ?_|refine ZW ?_|refine ZZ ?_|refine Zg ?_|refine Za ?_|refine ZX ?_|refine Ze (fun b=>?_)|refine Zd (fun b=>?_)|refine Zf ?_|refine ZY ?_|(refine ZC (fun hc=>?_) (fun hc=>?_)<;>(try simp at hc)<;>(try omega))|(refine ZM (fun hc=>?_) (fun hc=>?_)<;>(try simp at hc)<;>(try omega))|refine ZA 26 [] [(0,0),(1,0),(2,0),(3,0),(4,0),(5,0),(6,0),(7,4),(8,0),(9,4),(10,0)] [11] ?_|refine ZA 28 [] [(0,0),(1,0),(2,0),(3,0),(4,0),(5,4),(6,0),(7,4),(8,0)] [9] ?_|(refine ZE (fun hc=>?_) (fun hc=>?_)<;>(try simp at hc)<;>(try omega)))
    refine k_frz (T:=26) (sz:=14) (f:=cqf) (o:=o) (cap:=cap) (A++Z7 K all) ?_ rfl rfl
    exact ZV (o,cap) rfl trivial
  ·rintro hx2 ⟨j,o,cap,m3,hj,h3⟩
   dsimp only
   have hcl:(YB all (ls.take j)).length=j:=by simp [YB];omega
   by_cases hlt:j<ls.length
   ·obtain ⟨x,hxj⟩:∃x,ls[j]? = some x:=⟨_,List.getElem?_eq_getElem hlt⟩
    have htk:ls.take (j+1)=ls.take j++[x]:=by rw [List.take_add_one,hxj];rfl
    have hc1:YB all (ls.take (j+1))=YB all (ls.take j)++[con1 all x j]:=by
     rw [htk,YB,List.mapIdx_append]
     simp [YB]
     congr 1;omega
    have e1:(YB all (ls.take j)).length+1=(YB all (ls.take (j+1))).length:=by rw [hc1];simp
    have e2:(YB all (ls.take j)).flatMap cqf++cqf (con1 all x j)=(YB all (ls.take (j+1))).flatMap cqf:=by rw [hc1];simp
    have n2:=lgGet_ok b ls j x hxj
    have n3:=h2 x.e.sd
    have n4:=h1 x.e
    by_cases hin:x.e ∈ all
    ·rw [if_pos hin] at n4
     cases hfd:all.find? fun y=>decide (y.sd=x.e.sd) with
     | none=>exact (List.find?_eq_none.1 hfd x.e hin (by simp)).elim
     | some y=>
      rw [hfd] at n3
      have hcon:con1 all x j=⟨1,x.e.who,x.e.nu,j,x.e.o,x.e.tk,x.e.o,x.e.tk⟩:=by rw [con1,if_pos hin]
      have g3:∀e,mget e (mset x.e true m3)=if e ∈ (ls.take (j+1)).flatMap (knw all) then some true else none:=fun e=>by
       rw [Yw,h3 e,htk]
       simp only [List.flatMap_append,List.flatMap_cons,List.flatMap_nil,List.append_nil,knw,if_pos hin,List.nil_append,List.mem_append,List.mem_singleton]
       by_cases hee:x.e=e
       ·subst hee;simp
       ·have:e≠x.e:=fun h=>hee h.symm
        simp [hee,this]
      rw [hcon] at e2
      repeat' (first|refine ZG ?_|refine ZH ?_|refine ZJ ?_|refine ZF ?_|refine ZP ?_|refine ZK ?_|refine ZN ?_|refine ZQ (fun b=>?_)|refine ZO (fun b=>?_)|refine ZB ?_|refine ZD ?_|refine ZW ?_|refine ZZ ?_|refine Zg ?_|refine Za ?_|refine ZX ?_|refine Ze (fun b=>?_)|refine Zd (fun b=>?_)|refine Zf ?_|refine ZY ?_|refine ZI (n2) (fun _ _=>?_)|refine l_call0 (n2) (fun _ _=>?_)|refine ZU (n2) (fun _ _=>?_)|refine XU Xs x.e.sd (some y) n3 ?_|refine X4 Yc x.e (some true) n4 ?_|refine XD Yc x.e true ?_|refine XC (fun o' cap'=>?_)|(refine ZC (fun hc=>?_) (fun hc=>?_)<;>(try simp at hc)<;>(try omega))|(refine ZM (fun hc=>?_) (fun hc=>?_)<;>(try simp at hc)<;>(try omega))|refine ZA 26 [Pt _ (.cells _ 26 _)] [(0,0),(1,0),(2,0),(3,0),(4,0),(5,0),(6,0),(7,4),(8,0),(9,4),(10,0),(11,4)] [] ?_|refine ZA 28 [Pt _ (.cells _ 26 _)] [(0,0),(1,0),(2,0),(3,0),(4,0),(5,4),(6,0),(7,4),(8,0),(9,4)] [] ?_|(refine ZE (fun hc=>?_) (fun hc=>?_)<;>(try simp at hc)<;>(try omega)))
      rw [wrapi (z:=(j:Int)+1) (by omega) (by omega)]
      refine YY (T:=26) (sz:=14) (o:=o') (cap:=cap') (m:=(YB all (ls.take j)).length+1) _ _ e1 e2 ?_
      rw [e1]
      exact Zc ⟨j+1,o',cap',_,by omega,g3⟩ (by show ls.length - (j+1)<ls.length - j;omega) ⟨rfl,rfl,rfl,rfl,rfl,rfl,rfl,rfl,trivial⟩
    ·rw [if_neg hin] at n4
     cases hfd:all.find? fun y=>decide (y.sd=x.e.sd) with
     | none=>
      rw [hfd] at n3
      have hcon:con1 all x j=⟨2,x.e.who,x.e.nu,j,x.e.o,x.e.tk,Ou.z,0⟩:=by rw [con1,if_neg hin,hfd]
      have g3:∀e,mget e (mset x.e true m3)=if e ∈ (ls.take (j+1)).flatMap (knw all) then some true else none:=fun e=>by
       rw [Yw,h3 e,htk]
       simp only [List.flatMap_append,List.flatMap_cons,List.flatMap_nil,List.append_nil,knw,if_neg hin,hfd,List.nil_append,List.mem_append,List.mem_singleton]
       by_cases hee:x.e=e
       ·subst hee;simp
       ·have:e≠x.e:=fun h=>hee h.symm
        simp [hee,this]
      rw [hcon] at e2
      repeat' (first|refine ZG ?_|refine ZH ?_|refine ZJ ?_|refine ZF ?_|refine ZP ?_|refine ZK ?_|refine ZN ?_|refine ZQ (fun b=>?_)|refine ZO (fun b=>?_)|refine ZB ?_|refine ZD ?_|refine ZW ?_|refine ZZ ?_|refine Zg ?_|refine Za ?_|refine ZX ?_|refine Ze (fun b=>?_)|refine Zd (fun b=>?_)|refine Zf ?_|refine ZY ?_|refine ZI (n2) (fun _ _=>?_)|refine l_call0 (n2) (fun _ _=>?_)|refine ZU (n2) (fun _ _=>?_)|refine XU Xs x.e.sd none n3 ?_|refine X4 Yc x.e none n4 ?_|refine XD Yc x.e true ?_|refine XC (fun o' cap'=>?_)|(refine ZC (fun hc=>?_) (fun hc=>?_)<;>(try simp at hc)<;>(try omega))|(refine ZM (fun hc=>?_) (fun hc=>?_)<;>(try simp at hc)<;>(try omega))|refine ZA 26 [Pt _ (.cells _ 26 _)] [(0,0),(1,0),(2,0),(3,0),(4,0),(5,0),(6,0),(7,4),(8,0),(9,4),(10,0),(11,4)] [] ?_|refine ZA 28 [Pt _ (.cells _ 26 _)] [(0,0),(1,0),(2,0),(3,0),(4,0),(5,4),(6,0),(7,4),(8,0),(9,4)] [] ?_|(refine ZE (fun hc=>?_) (fun hc=>?_)<;>(try simp at hc)<;>(try omega)))
      rw [wrapi (z:=(j:Int)+1) (by omega) (by omega)]
      refine YY (T:=26) (sz:=14) (o:=o') (cap:=cap') (m:=(YB all (ls.take j)).length+1) _ _ e1 e2 ?_
      rw [e1]
      exact Zc ⟨j+1,o',cap',_,by omega,g3⟩ (by show ls.length - (j+1)<ls.length - j;omega) ⟨rfl,rfl,rfl,rfl,rfl,rfl,rfl,rfl,trivial⟩
     | some y=>
      rw [hfd] at n3
      have hcon:con1 all x j=⟨3,x.e.who,x.e.nu,j,x.e.o,x.e.tk,y.o,y.tk⟩:=by rw [con1,if_neg hin,hfd]
      have g3:∀e,mget e (mset x.e true (mset y true m3))=if e ∈ (ls.take (j+1)).flatMap (knw all) then some true else none:=fun e=>by
       rw [Yw,Yw,h3 e,htk]
       simp only [List.flatMap_append,List.flatMap_cons,List.flatMap_nil,List.append_nil,knw,if_neg hin,hfd,List.mem_append,List.mem_singleton]
       by_cases hee:x.e=e
       ·subst hee;simp
       ·have h5:e≠x.e:=fun h=>hee h.symm
        by_cases hye:y=e
        ·subst hye;simp [hee]
        ·have h6:e≠y:=fun h=>hye h.symm
         simp [hee,hye,h5,h6]
      rw [hcon] at e2
      repeat' (first|refine ZG ?_|refine ZH ?_|refine ZJ ?_|refine ZF ?_|refine ZP ?_|refine ZK ?_|refine ZN ?_|refine ZQ (fun b=>?_)|refine ZO (fun b=>?_)|refine ZB ?_|refine ZD ?_|refine ZW ?_|refine ZZ ?_|refine Zg ?_|refine Za ?_|refine ZX ?_|refine Ze (fun b=>?_)|refine Zd (fun b=>?_)|refine Zf ?_|refine ZY ?_|refine ZI (n2) (fun _ _=>?_)|refine l_call0 (n2) (fun _ _=>?_)|refine ZU (n2) (fun _ _=>?_)|refine XU Xs x.e.sd (some y) n3 ?_|refine X4 Yc x.e none n4 ?_|refine XD Yc x.e true ?_|refine XD Yc y true ?_|refine XC (fun o' cap'=>?_)|(refine ZC (fun hc=>?_) (fun hc=>?_)<;>(try simp at hc)<;>(try omega))|(refine ZM (fun hc=>?_) (fun hc=>?_)<;>(try simp at hc)<;>(try omega))|refine ZA 26 [Pt _ (.cells _ 26 _)] [(0,0),(1,0),(2,0),(3,0),(4,0),(5,0),(6,0),(7,4),(8,0),(9,4),(10,0),(11,4)] [] ?_|refine ZA 28 [Pt _ (.cells _ 26 _)] [(0,0),(1,0),(2,0),(3,0),(4,0),(5,4),(6,0),(7,4),(8,0),(9,4)] [] ?_|(refine ZE (fun hc=>?_) (fun hc=>?_)<;>(try simp at hc)<;>(try omega)))
      rw [wrapi (z:=(j:Int)+1) (by omega) (by omega)]
      refine YY (T:=26) (sz:=14) (o:=o') (cap:=cap') (m:=(YB all (ls.take j)).length+1) _ _ e1 e2 ?_
      rw [e1]
      exact Zc ⟨j+1,o',cap',_,by omega,g3⟩ (by show ls.length - (j+1)<ls.length - j;omega) ⟨rfl,rfl,rfl,rfl,rfl,rfl,rfl,rfl,trivial⟩
   ·have e:ls.take j=ls:=List.take_of_length_le (by omega)
    rw [e] at h3
    rw [e]
    repeat' (first|refine ZG ?_|refine ZH ?_|refine ZJ ?_|refine ZF ?_|refine ZP ?_|refine ZK ?_|refine ZN ?_|refine ZQ (fun b=>?_)|refine ZO (fun b=>?_)|refine ZB ?_|refine ZD ?_|refine ZW ?_|refine ZZ ?_|refine Zg ?_|refine Za ?_|refine ZX ?_|refine Ze (fun b=>?_)|refine Zd (fun b=>?_)|refine Zf ?_|refine ZY ?_|(refine ZC (fun hc=>?_) (fun hc=>?_)<;>(try simp at hc)<;>(try omega))|(refine ZM (fun hc=>?_) (fun hc=>?_)<;>(try simp at hc)<;>(try omega))|refine ZA 26 [] [(0,0),(1,0),(2,0),(3,0),(4,0),(5,0),(6,0),(7,4),(8,0),(9,4),(10,0)] [11] ?_|refine ZA 28 [] [(0,0),(1,0),(2,0),(3,0),(4,0),(5,4),(6,0),(7,4),(8,0)] [9] ?_|(refine ZE (fun hc=>?_) (fun hc=>?_)<;>(try simp at hc)<;>(try omega)))
    exact Z4 hx2 ⟨(o,cap,m3),h3⟩ ⟨rfl,rfl,rfl,trivial⟩
 ·rintro hx ⟨i,m1,m2,hi,h1,h2⟩
  dsimp only
  by_cases hlt:i<all.length
  ·obtain ⟨e,he⟩:∃e,all[i]? = some e:=⟨_,List.getElem?_eq_getElem hlt⟩
   have htk:all.take (i+1)=all.take i++[e]:=by rw [List.take_add_one,he];rfl
   have g1:∀e',mget e' (mset e true m1)=if e' ∈ all.take (i+1) then some true else none:=fun e'=>by
    rw [Yw,h1 e',htk]
    by_cases hee:e=e'
    ·subst hee;simp
    ·have:e'≠e:=fun h=>hee h.symm
     simp [hee,this]
   cases hg:mget e.sd m2 with
   | none=>
    have g2:∀s,mget s (mset e.sd e m2)=(all.take (i+1)).find? fun y=>y.sd=s:=fun s=>by
     rw [Yw,h2 s,htk,List.find?_append]
     by_cases hes:e.sd=s
     ·subst hes
      rw [←h2,hg];simp
     ·simp [hes]
    repeat' (first|refine ZG ?_|refine ZH ?_|refine ZJ ?_|refine ZF ?_|refine ZP ?_|refine ZK ?_|refine ZN ?_|refine ZQ (fun b=>?_)|refine ZO (fun b=>?_)|refine ZB ?_|refine ZD ?_|refine ZW ?_|refine ZZ ?_|refine Zg ?_|refine Za ?_|refine ZX ?_|refine Ze (fun b=>?_)|refine Zd (fun b=>?_)|refine Zf ?_|refine ZY ?_|refine Z2 (es:=all) i e he (fun b off=>?_)|refine Zy ?_|refine XD Yc e true ?_|refine XU Xs e.sd none hg ?_|refine XD Xs e.sd e ?_|(refine ZC (fun hc=>?_) (fun hc=>?_)<;>(try simp at hc)<;>(try omega))|(refine ZM (fun hc=>?_) (fun hc=>?_)<;>(try simp at hc)<;>(try omega))|refine ZA 26 [] [(0,0),(1,0),(2,0),(3,0),(4,0),(5,0),(6,0),(7,4),(8,0),(9,4),(10,0)] [11] ?_|refine ZA 28 [] [(0,0),(1,0),(2,0),(3,0),(4,0),(5,4),(6,0),(7,4),(8,0)] [9] ?_|(refine ZE (fun hc=>?_) (fun hc=>?_)<;>(try simp at hc)<;>(try omega)))
    rw [wrapi (z:=(i:Int)+1) (by omega) (by omega)]
    exact Zc ⟨i+1,_,_,by omega,g1,g2⟩ (by show all.length - (i+1)<all.length - i;omega) ⟨rfl,rfl,rfl,rfl,rfl,rfl,rfl,trivial⟩
   | some e0=>
    have g2:∀s,mget s m2=(all.take (i+1)).find? fun y=>y.sd=s:=fun s=>by
     rw [htk,List.find?_append,←h2]
     by_cases hes:e.sd=s
     ·subst hes;rw [hg];simp
     ·simp [hes]
    repeat' (first|refine ZG ?_|refine ZH ?_|refine ZJ ?_|refine ZF ?_|refine ZP ?_|refine ZK ?_|refine ZN ?_|refine ZQ (fun b=>?_)|refine ZO (fun b=>?_)|refine ZB ?_|refine ZD ?_|refine ZW ?_|refine ZZ ?_|refine Zg ?_|refine Za ?_|refine ZX ?_|refine Ze (fun b=>?_)|refine Zd (fun b=>?_)|refine Zf ?_|refine ZY ?_|refine Z2 (es:=all) i e he (fun b off=>?_)|refine Zy ?_|refine XD Yc e true ?_|refine XU Xs e.sd (some e0) hg ?_|(refine ZC (fun hc=>?_) (fun hc=>?_)<;>(try simp at hc)<;>(try omega))|(refine ZM (fun hc=>?_) (fun hc=>?_)<;>(try simp at hc)<;>(try omega))|refine ZA 26 [] [(0,0),(1,0),(2,0),(3,0),(4,0),(5,0),(6,0),(7,4),(8,0),(9,4),(10,0)] [11] ?_|refine ZA 28 [] [(0,0),(1,0),(2,0),(3,0),(4,0),(5,4),(6,0),(7,4),(8,0)] [9] ?_|(refine ZE (fun hc=>?_) (fun hc=>?_)<;>(try simp at hc)<;>(try omega)))
    rw [wrapi (z:=(i:Int)+1) (by omega) (by omega)]
    exact Zc ⟨i+1,_,_,by omega,g1,g2⟩ (by show all.length - (i+1)<all.length - i;omega) ⟨rfl,rfl,rfl,rfl,rfl,rfl,rfl,trivial⟩
  ·have e:all.take i=all:=List.take_of_length_le (by omega)
   rw [e] at h1 h2
   repeat' (first|refine ZG ?_|refine ZH ?_|refine ZJ ?_|refine ZF ?_|refine ZP ?_|refine ZK ?_|refine ZN ?_|refine ZQ (fun b=>?_)|refine ZO (fun b=>?_)|refine ZB ?_|refine ZD ?_|refine ZW ?_|refine ZZ ?_|refine Zg ?_|refine Za ?_|refine ZX ?_|refine Ze (fun b=>?_)|refine Zd (fun b=>?_)|refine Zf ?_|refine ZY ?_|(refine ZC (fun hc=>?_) (fun hc=>?_)<;>(try simp at hc)<;>(try omega))|(refine ZM (fun hc=>?_) (fun hc=>?_)<;>(try simp at hc)<;>(try omega))|refine ZA 26 [] [(0,0),(1,0),(2,0),(3,0),(4,0),(5,0),(6,0),(7,4),(8,0),(9,4),(10,0)] [11] ?_|refine ZA 28 [] [(0,0),(1,0),(2,0),(3,0),(4,0),(5,4),(6,0),(7,4),(8,0)] [9] ?_|(refine ZE (fun hc=>?_) (fun hc=>?_)<;>(try simp at hc)<;>(try omega)))
   exact Z4 hx ⟨(m1,m2),h1,h2⟩ ⟨rfl,rfl,rfl,rfl,trivial⟩
section
variable {n:Nat} {C:Cx} {Q:Exit→Act→World→Prop} {E E':List (Nat×Value)} {F F' F1 Fs F0:List Pf} {R R' R0 Rs N N' A:List HP} {k k':List Fr} {ops l:List Oper} {L L':List (Nat×Nat)} {Tl:List Nat} {i d:Nat} {t ty0:TypeId} {x y:Operand} {pos:String} {aft:Array Edge} {gd:Option (Nat×Bool)} {v:Value}
theorem Xn {s:ByteArray} {z:Int} {rs:TRow} {w:World} (hi:Nat) (hle:hi≤s.size) (hts:lookT tab t=some rs) (hrs:rs.k = .str) (hz:z=(hi:Int)):(Instr.sliceAt t (.string s) none (some (.int .i64 z)) none).run prog w = .ok (.string (s.extract 0 hi)) w:=by
 subst hz
 have hu:=Ye (w:=w) hts hrs
 have hb:(Instr.sliceBound (.int .i64 (hi:Int)) s.size .sliceAlen).run prog w = .ok hi w:=by
  simp only [Instr.sliceBound,asIntOf,Sem.run_bind,Sem.run_pure,Result.andThen]
  rw [if_pos ⟨by omega,by omega⟩]
  simp
 simp [Instr.sliceAt,Instr.slice,Instr.sliceBounds,Sem.run_bind,hu,Result.andThen,hb]
theorem r_ssl {s:ByteArray} {z:Int} {rs:TRow} (hi:Nat) (hle:hi≤s.size) (nx:Wr n C ops k Q Tl Fs R L ((d,.string (s.extract 0 hi))::E) F N)
  (ho:nth ops i=some ⟨some d,.slice t x none (some y) none,ty0,pos,aft,gd⟩:=by rfl) (hw:wantL ops E ⟨some d,.slice t x none (some y) none,ty0,pos,aft,gd⟩=some true:=by rfl) (hx:ev E x=some (.string s):=by rfl) (hy:ev E y=some (.int .i64 z):=by rfl)
  (hts:lookT tab t=some rs:=by rfl) (hrs:rs.k = .str:=by rfl) (hz:z=(hi:Int):=by first|rfl|omega):Wr n C ops k Q Tl Fs R ((i,0)::L) E F N:=
 r_q (fun a w ha=>by
  simp only [execOp,Option.map_some,Option.map_none,ha.ev (x:=x) (by rw [ZT];exact hx),ha.ev (x:=y) (by rw [ZT];exact hy),Sem.run_bind,Xn (w:=w) hi hle hts hrs hz,Result.andThen,Sem.run_pure]) nx ho hw
theorem r_aix {cs:Array Value} {kd:IntKind} {m T:Nat} {z:Int} {rs tr:TRow} (j:Nat) (v:Value) (hv:cs[j]? = some v) (nx:Wr n C ops k Q Tl Fs R L ((d,v)::E) F N)
  (ho:nth ops i=some ⟨some d,.index t x y,ty0,pos,aft,gd⟩:=by rfl) (hw:wantL ops E ⟨some d,.index t x y,ty0,pos,aft,gd⟩=some true:=by rfl) (hx:ev E x=some (.agg cs):=by rfl) (hy:ev E y=some (.int kd z):=by rfl)
  (hts:lookT tab t=some rs:=by rfl) (hrs:rs.k = .arr m T:=by rfl) (hT:lookT tab T=some tr:=by rfl) (hsz:tr.size=1:=by rfl) (hag:tr.k.isAgg=false:=by rfl) (hot:tr.k≠.other:=by simp) (hm:cs.size=m:=by rfl) (hz:z=(j:Int):=by first|rfl|omega):Wr n C ops k Q Tl Fs R ((i,0)::L) E F N:=
 r_q (fun a w ha=>by
  subst hz
  have hlt:j<m:=by rw [←hm];exact (Array.getElem?_eq_some_iff.1 hv).1
  obtain ⟨d1,hd1,hk1⟩:=Zl.und hts
  rw [hrs] at hk1
  have hu1:(underlying t).run prog w = .ok (.array m T) w:=by
   cases d1<;>simp [chkKind] at hk1
   obtain ⟨rfl,rfl⟩:=hk1
   simp [underlying,hd1,go_sem]
  have hs1:=Zl.sizeOf hT w
  rw [hsz] at hs1
  have hia:=Zl.isAgg hT hot w
  rw [hag] at hia
  have hp:(part T cs j).run prog w = .ok v w:=by
   unfold part
   simp only [Sem.run_bind,hia,Result.andThen,Bool.false_eq_true,if_false,hv,Sem.run_pure]
  have hr:(Instr.index t (.agg cs) (.int kd (j:Int))).run prog w = .ok v w:=by
   unfold Instr.index
   simp only [asIntOf,Sem.run_bind,Sem.run_pure,Result.andThen,hu1]
   have hc:(0:Int)≤(j:Int)∧(j:Int)<((m:Nat):Int):=⟨by omega,by omega⟩
   rw [if_pos hc]
   simp only [Sem.run_bind,hs1,Result.andThen,Int.toNat_natCast,Nat.mul_one]
   exact hp
  simp only [execOp,ha.ev (x:=x) (by rw [ZT];exact hx),ha.ev (x:=y) (by rw [ZT];exact hy),Sem.run_bind,hr,Result.andThen,Sem.run_pure]) nx ho hw
end
structure It where
 who:UInt8
 nu:UInt8
 tk:UInt8
 ch:UInt8
 tx:ByteArray
def itf (x:It):List Value:=[.int .u8 x.who.toNat,.int .u8 x.nu.toNat,.int .u8 x.tk.toNat,.int .u8 x.ch.toNat,.string x.tx]
def It.v (x:It):Value:=.agg #[.int .u8 x.who.toNat,.int .u8 x.nu.toNat,.int .u8 x.tk.toNat,.int .u8 x.ch.toNat,.string x.tx]
def nm0:ByteArray:=⟨#[49]⟩
def nm1:ByteArray:=⟨#[49,46,50]⟩
def nm2:ByteArray:=⟨#[51]⟩
def who3 (j:Nat):ByteArray:=if j=0 then nm0 else if j=1 then nm1 else nm2
def ito (x:It):Ou:=⟨1+(x.ch.toNat % 4:Nat),⟨#[116]⟩,x.tx.extract 0 (min x.tx.size 20),5⟩
def itn (x:It):Nm:=⟨18,who3 (x.who.toNat % 3),(x.nu.toNat % 4:Nat),(x.tk.toNat % 8:Nat),⟨#[]⟩⟩
def itl (x:It) (p:Nat):Lf:=⟨⟨who3 (x.who.toNat % 3),(x.nu.toNat % 4:Nat),(x.tk.toNat % 8:Nat),ito x⟩,(9+p:Nat),(p / 5:Nat)⟩
theorem Z3:Enters 10∧Spec prog 10 #[] [] [] (RetV (.agg #[.string nm0,.string nm1,.string nm2])):=by
 refine Zb [] func10 ntmps10 fun G w hp=>?_
 repeat' (first|refine ZG ?_|refine ZH ?_|refine ZJ ?_|refine ZF ?_|refine ZP ?_|refine ZK ?_|refine ZN ?_|refine ZQ (fun b=>?_)|refine ZO (fun b=>?_)|refine ZB ?_|refine ZD ?_|refine ZR ?_|refine ZC (fun hc=>?_) (fun hc=>?_)|refine ZE (fun hc=>?_) (fun hc=>?_))
 exact ZV () rfl trivial
theorem WB {j:Nat} (h:j<3):(#[Value.string nm0,.string nm1,.string nm2])[j]? = some (.string (who3 j)):=by
 match j,h with
 | 0,_=>rfl
 | 1,_=>rfl
 | 2,_=>rfl
theorem Zs {z:Int} (h1:0≤z) (h2:z<9223372036854775808):IntKind.i64.wrap z=z:=wrapi (by omega) h2
theorem tmodN (a b:Nat):(a:Int).tmod (b:Int)=((a % b:Nat):Int):=by
 rw [Int.tmod_eq_emod_of_nonneg (Int.natCast_nonneg a)];exact (Int.natCast_emod a b).symm
theorem tdivN (a b:Nat):(a:Int).tdiv (b:Int)=((a / b:Nat):Int):=by
 rw [Int.tdiv_eq_ediv_of_nonneg (Int.natCast_nonneg a)];exact (Int.natCast_ediv a b).symm
theorem out_ok (x:It) (hx:x.tx.size≤1099511627776):Enters 42∧Spec prog 42 #[x.v] [] [] (RetV (ito x).v):=by
 have hch:(x.ch.toNat:Int).tmod 4=((x.ch.toNat % 4:Nat):Int):=tmodN _ 4
 have hmin:(if (20:Int)<(x.tx.size:Int) then (20:Int) else (x.tx.size:Int))=((min x.tx.size 20:Nat):Int):=by split<;>omega
 refine Zb [_] func42 ntmps42 fun G w hp=>?_
 repeat' (first|refine ZG ?_|refine ZH ?_|refine ZJ ?_|refine ZF ?_|refine ZP ?_|refine ZK ?_|refine ZN ?_|refine ZQ (fun b=>?_)|refine ZO (fun b=>?_)|refine ZB ?_|refine ZD ?_|refine ZR ?_|refine ZW ?_|refine ZZ ?_|refine Zg ?_|refine Za ?_|refine ZX ?_|refine Ze (fun b=>?_)|refine Zd (fun b=>?_)|refine Zf ?_|refine ZY ?_|refine r_ssl (s:=x.tx) (min x.tx.size 20) (by omega) ?_|rw [hmin]|refine ZC (fun hc=>?_) (fun hc=>?_)|refine ZM (fun hc=>?_) (fun hc=>?_)|refine ZA 1 [] [(0,0),(1,0),(2,0),(3,0),(4,0),(5,0),(6,0),(7,0),(8,0),(9,0),(10,0),(11,0),(12,0)] [13] ?_|refine ZE (fun hc=>?_) (fun hc=>?_))
 rw [hch,Zs (z:=((x.ch.toNat % 4:Nat):Int)) (by omega) (by omega),Zs (z:=1+((x.ch.toNat % 4:Nat):Int)) (by omega) (by omega)]
 exact ZV () rfl trivial
theorem lvalid_who (j:Nat):lvalid (who3 j).data.toList=true:=by
 unfold who3
 split
 ·have h:=(Y7 [49] 0 0 (by simp)).2.2.2
  rw [show ffirst (([49]:List UInt8).drop 0) 0 0=(⟨1,0,0⟩,1) from rfl] at h
  simp at h
  simp [nm0,lvalid,lparts,h]
 ·split
  ·have h:=(Y7 [49,46,50] 0 0 (by simp)).2.2.2
   rw [show ffirst (([49,46,50]:List UInt8).drop 0) 0 0=(⟨1,0,0⟩,1) from rfl] at h
   have h2:=(Y7 [49,46,50] 2 1 (by simp)).2.2.2
   rw [show ffirst (([49,46,50]:List UInt8).drop 2) 2 1=(⟨2,2,0⟩,3) from rfl] at h2
   simp at h h2
   simp [nm1,lvalid,lparts,h,h2]
  ·have h:=(Y7 [51] 0 0 (by simp)).2.2.2
   rw [show ffirst (([51]:List UInt8).drop 0) 0 0=(⟨3,0,0⟩,1) from rfl] at h
   simp at h
   simp [nm2,lvalid,lparts,h]
theorem WT (j:Nat):(who3 j).size≤3:=by
 unfold who3
 split
 ·decide
 ·split<;>decide
theorem WV (x:It):ochk (ito x)=0:=by
 have h1:isE (ito x).tg=false:=by simp [ito,isE,Zp]
 have h2:(ito x).tx.size≤20:=by simp [ito,ByteArray.size_extract];omega
 have h3:((ito x).tg.data.toList.any bad2)=false:=by simp [ito,bad2]
 unfold ochk
 rw [if_neg (by simp only [ito];omega),if_neg (by simp [h1]),if_neg (by show ¬64<(ByteArray.mk #[116]).size;decide),if_neg (by simp [h3]),if_neg (by omega),if_neg (by simp [ito])]
theorem WJ (m:Nat) (h:m≤1000):within (m:Int) 1073741824=true:=by
 unfold within
 rw [decide_eq_true (by omega),decide_eq_true (by omega)];rfl
theorem itn_chk (x:It):nchk (itn x)=0:=by
 have h1:lvalid (itn x).owner.data.toList=true:=lvalid_who (x.who.toNat % 3)
 have h2:isE (itn x).text=true:=by simp [itn,isE]
 have h3:within (itn x).number 1073741824=true:=WJ (x.nu.toNat % 4) (by omega)
 have h4:within (itn x).index 1073741824=true:=WJ (x.tk.toNat % 8) (by omega)
 rw [nchk,if_pos (by simp [itn])]
 show uchk ⟨_,true,true,true,false,1073741824⟩ (itn x)=0
 simp [uchk,h1,h2,h3,h4]
def stF (es:Al) (l:List It):Al:=l.foldl (fun es x=>insO (itn x) (oencS (ito x)) es) es
def ldF (l:List It):List Lf:=l.mapIdx fun p x=>itl x p
theorem oencS_size (x:It):(oencS (ito x)).size≤5000:=by
 rw [oencS,if_pos (WV x)]
 exact oenc_len (WV x)
theorem itl_chk (x:It) (p:Nat) (hp:p<20):lchk (itl x p)=0:=by
 have h1:=lvalid_who (x.who.toNat % 3)
 have h2:=WV x
 have h3:tick (itl x p).e.tk=true:=WJ (x.tk.toNat % 8) (by omega)
 have h4:tick (itl x p).tm=true:=WJ (9+p) (by omega)
 have h5:0≤(itl x p).e.nu∧(itl x p).e.nu≤1048576∧0≤(itl x p).rd∧(itl x p).rd≤1048576:=by simp only [itl];omega
 unfold lchk
 rw [if_neg (by simp [itl,h1]),if_neg (by rw [h3,h4];simp;omega)]
 exact h2
structure B1 (now:List It) where
 i:Nat
 q:Option Addr
 es:Al
 h1:i≤now.length∧i≤20
 h2:es=stF [] (now.take i)
 h3:es.length≤i
structure B2 (left:List It) where
 i:Nat
 h1:i≤left.length∧i≤20
set_option maxHeartbeats 2000000 in
theorem build_ok (o1 o2:Option Addr) (c1 c2:Nat) (now left:List It) (hn:∀x ∈ now,x.tx.size≤1099511627776) (hl:∀x ∈ left,x.tx.size≤1099511627776) (hn2:now.length≤1099511627776) (hl2:left.length≤1099511627776) :
  Enters 16∧Spec prog 16 #[.slice o1 now.length c1,.slice o2 left.length c2] [Sl 60 itf o1 c1 now,Sl 60 itf o2 c2 left,Usg] []
   ⟨Nat×Nat,fun q=>.tuple #[.pointer (some ⟨q.1,0,none⟩),.pointer (some ⟨q.2,0,none⟩),.bool true],fun _=>True,fun q=>[St (some ⟨q.1,0,none⟩) (stF [] (now.take 20)),LgF q.2 (ldF (left.take 20))],fun _=>[]⟩:=by
 refine Zb [_,_] func16 ntmps16 fun G w hp=>?_
 repeat' (first|refine ZG ?_|refine ZH ?_|refine ZJ ?_|refine ZF ?_|refine ZP ?_|refine ZK ?_|refine ZN ?_|refine ZQ (fun b=>?_)|refine ZO (fun b=>?_)|refine ZB ?_|refine ZD ?_|refine ZR ?_|refine ZW ?_|refine ZZ ?_|refine Zg ?_|refine Za ?_|refine ZX ?_|refine Ze (fun b=>?_)|refine Zd (fun b=>?_)|refine Zf ?_|refine ZY ?_|refine ZI (XW) (fun _ _=>?_)|refine l_call0 (XW) (fun _ _=>?_)|refine ZU (XW) (fun _ _=>?_)|refine ZI (XH) (fun _ _=>?_)|refine l_call0 (XH) (fun _ _=>?_)|refine ZU (XH) (fun _ _=>?_)|refine ZC (fun hc=>?_) (fun hc=>?_)|refine ZM (fun hc=>?_) (fun hc=>?_)|refine ZA 7 [] [(0,0),(2,0),(3,0),(4,0),(6,0),(7,0),(8,0),(9,0),(10,0),(11,0),(12,0),(13,0),(15,0),(1,4),(5,0),(14,4),(16,4),(17,0),(18,0),(19,0),(20,0),(21,0)] [] ?_|refine ZA 15 [] [(1,0),(2,0),(3,0),(5,0),(6,0),(7,0),(8,0),(9,0),(10,0),(11,0),(12,0),(13,0),(16,0),(17,0),(18,0),(19,0),(0,4),(4,0),(14,4),(15,0),(20,0),(21,1)] [22] ?_|refine ZE (fun hc=>?_) (fun hc=>?_))
 rename_i qs _ ql _
 refine Yi (X:=B1 now) (Y:=Option Addr)
  (fun x=>[(0,.slice o1 now.length c1),(1,.slice o2 left.length c2),(7,.pointer x.q),(8,.pointer (some ⟨ql,0,none⟩)),(9,.int .i64 (x.i:Int))]) (fun x=>[St x.q x.es,Sl 60 itf o1 c1 now,Sl 60 itf o2 c2 left,Usg]) (fun _=>[Lg ql []]) (fun x=>20 - x.i)
  (fun q=>[(1,.slice o2 left.length c2),(7,.pointer q),(8,.pointer (some ⟨ql,0,none⟩))]) (fun q=>[St q (stF [] (now.take 20)),Sl 60 itf o2 c2 left,Usg]) (fun _=>[Lg ql []])
  ⟨0,some ⟨qs,0,none⟩,[],by omega,rfl,by simp⟩ ⟨rfl,rfl,rfl,rfl,rfl,trivial⟩ ?_ ?_
 ·intro q
  refine k_st (ps:=q) (es:=stF [] (now.take 20)) (fun bs p t hp he hok=>?_)
  subst hp
  repeat' (first|refine ZG ?_|refine ZH ?_|refine ZJ ?_|refine ZF ?_|refine ZP ?_|refine ZK ?_|refine ZN ?_|refine ZQ (fun b=>?_)|refine ZO (fun b=>?_)|refine ZB ?_|refine ZD ?_|refine ZR ?_|refine ZW ?_|refine ZZ ?_|refine Zg ?_|refine Za ?_|refine ZX ?_|refine Ze (fun b=>?_)|refine Zd (fun b=>?_)|refine Zf ?_|refine ZY ?_|refine ZC (fun hc=>?_) (fun hc=>?_)|refine ZM (fun hc=>?_) (fun hc=>?_)|refine ZA 7 [] [(0,0),(2,0),(3,0),(4,0),(6,0),(7,0),(8,0),(9,0),(10,0),(11,0),(12,0),(13,0),(15,0),(1,4),(5,0),(14,4),(16,4),(17,0),(18,0),(19,0),(20,0),(21,0)] [] ?_|refine ZA 15 [] [(1,0),(2,0),(3,0),(5,0),(6,0),(7,0),(8,0),(9,0),(10,0),(11,0),(12,0),(13,0),(16,0),(17,0),(18,0),(19,0),(0,4),(4,0),(14,4),(15,0),(20,0),(21,1)] [22] ?_|refine ZE (fun hc=>?_) (fun hc=>?_))
  refine YO (X:=B2 left) (fun x=>[(1,.slice o2 left.length c2),(7,.pointer (some ⟨bs,0,none⟩)),(8,.pointer (some ⟨ql,0,none⟩)),(15,.int .i64 (x.i:Int))]) (fun _=>[St (some ⟨bs,0,none⟩) (stF [] (now.take 20)),Sl 60 itf o2 c2 left]) (fun x=>[Lg ql (ldF (left.take x.i))]) (fun x=>20 - x.i) ⟨0,by omega⟩ ⟨rfl,rfl,rfl,rfl,trivial⟩ ?_
  rintro ⟨i,hi⟩
  dsimp only
  by_cases hlt:i<left.length∧i<20
  ·obtain ⟨x,hxi⟩:∃x,left[i]? = some x:=⟨_,List.getElem?_eq_getElem hlt.1⟩
   have hmem:x ∈ left:=List.mem_of_getElem? hxi
   have htk:left.take (i+1)=left.take i++[x]:=by rw [List.take_add_one,hxi];rfl
   have hll:(left.take i).length=i:=by simp;omega
   have hld:ldF (left.take (i+1))=ldF (left.take i)++[itl x i]:=by
    rw [htk,ldF,List.mapIdx_append]
    simp only [List.mapIdx_cons,List.mapIdx_nil,ldF]
    rw [show 0+(left.take i).length=i by omega]
   have n1:=out_ok x (hl x hmem)
   have t1:(x.who.toNat:Int).tmod 3=((x.who.toNat % 3:Nat):Int):=tmodN _ 3
   have t2:(x.nu.toNat:Int).tmod 4=((x.nu.toNat % 4:Nat):Int):=tmodN _ 4
   have t3:(x.tk.toNat:Int).tmod 8=((x.tk.toNat % 8:Nat):Int):=tmodN _ 8
   have t4:(i:Int).tdiv 5=((i / 5:Nat):Int):=tdivN _ 5
   have w2:=Zs (z:=((x.nu.toNat % 4:Nat):Int)) (by omega) (by omega)
   have w3:=Zs (z:=((x.tk.toNat % 8:Nat):Int)) (by omega) (by omega)
   have w4:=Zs (z:=((i / 5:Nat):Int)) (by omega) (by omega)
   have w5:IntKind.i64.wrap (9+(i:Int))=((9+i:Nat):Int):=by rw [Zs (by omega) (by omega)];omega
   have hlat:late (ldF (left.take i)) (itl x i)=false:=by
    unfold late
    cases hgl:(ldF (left.take i)).getLast? with
    | none=>rfl
    | some y=>
     have hy:=List.mem_of_getLast? hgl
     rw [ldF,List.mem_mapIdx] at hy
     obtain ⟨p,hp,rfl⟩:=hy
     rw [hll] at hp
     show (decide (((9+i:Nat):Int)<((9+p:Nat):Int)) || decide (((i / 5:Nat):Int)<((p / 5:Nat):Int)))=false
     rw [decide_eq_false (by omega),decide_eq_false (by omega)];rfl
   have hleave:leaveE (ldF (left.take i)) (itl x i)=0:=by
    rw [leaveE,if_neg (by simp [itl_chk x i hlt.2]),if_neg (by simp [hlat]),if_neg (by simp [ldF];omega)]
   have hw0:=WT (x.who.toNat % 3)
   have n2:=leave_ok ql (ldF (left.take i)) (itl x i) (by show (who3 _).size≤_;omega) (by simp [ldF];omega)
   rw [WX hleave,←hld] at n2
   repeat' (first|refine ZG ?_|refine ZH ?_|refine ZJ ?_|refine ZF ?_|refine ZP ?_|refine ZK ?_|refine ZN ?_|refine ZQ (fun b=>?_)|refine ZO (fun b=>?_)|refine ZB ?_|refine ZD ?_|refine ZR ?_|refine ZW ?_|refine ZZ ?_|refine Zg ?_|refine Za ?_|refine ZX ?_|refine Ze (fun b=>?_)|refine Zd (fun b=>?_)|refine Zf ?_|refine ZY ?_|refine ZI (n1) (fun _ _=>?_)|refine l_call0 (n1) (fun _ _=>?_)|refine ZU (n1) (fun _ _=>?_)|refine ZI (n2) (fun _ _=>?_)|refine l_call0 (n2) (fun _ _=>?_)|refine ZU (n2) (fun _ _=>?_)|refine ZI (Z3) (fun _ _=>?_)|refine l_call0 (Z3) (fun _ _=>?_)|refine ZU (Z3) (fun _ _=>?_)|refine Z2 (es:=left) i x hxi (fun b off=>?_)|refine Zy ?_|rw [t1]|rw [t2]|rw [t3]|rw [t4]|rw [w2]|rw [w3]|rw [w4]|rw [w5]|refine r_aix (x.who.toNat % 3) _ (WB (by omega)) ?_|(refine ZC (fun hc=>?_) (fun hc=>?_)<;>(try simp at hc)<;>(try omega))|(refine ZM (fun hc=>?_) (fun hc=>?_)<;>(try simp at hc)<;>(try omega))|refine ZA 7 [] [(0,0),(2,0),(3,0),(4,0),(6,0),(7,0),(8,0),(9,0),(10,0),(11,0),(12,0),(13,0),(15,0),(1,4),(5,0),(14,4),(16,4),(17,0),(18,0),(19,0),(20,0),(21,0)] [] ?_|refine ZA 15 [] [(1,0),(2,0),(3,0),(5,0),(6,0),(7,0),(8,0),(9,0),(10,0),(11,0),(12,0),(13,0),(16,0),(17,0),(18,0),(19,0),(0,4),(4,0),(14,4),(15,0),(20,0),(21,1)] [22] ?_|(refine ZE (fun hc=>?_) (fun hc=>?_)<;>(try simp at hc)<;>(try omega)))
   rw [wrapi (z:=(i:Int)+1) (by omega) (by omega)]
   exact Zc ⟨i+1,by omega⟩ (by show 20 - (i+1)<20 - i;omega) ⟨rfl,rfl,rfl,rfl,trivial⟩
  ·have htk:left.take i=left.take 20:=by
    by_cases h20:i=20
    ·rw [h20]
    ·rw [List.take_of_length_le (by omega),List.take_of_length_le (by omega)]
   rw [htk]
   repeat' (first|refine ZG ?_|refine ZH ?_|refine ZJ ?_|refine ZF ?_|refine ZP ?_|refine ZK ?_|refine ZN ?_|refine ZQ (fun b=>?_)|refine ZO (fun b=>?_)|refine ZB ?_|refine ZD ?_|refine ZR ?_|refine ZW ?_|refine ZZ ?_|refine Zg ?_|refine Za ?_|refine ZX ?_|refine Ze (fun b=>?_)|refine Zd (fun b=>?_)|refine Zf ?_|refine ZY ?_|(refine ZC (fun hc=>?_) (fun hc=>?_)<;>(try simp at hc)<;>(try omega))|(refine ZM (fun hc=>?_) (fun hc=>?_)<;>(try simp at hc)<;>(try omega))|refine ZA 7 [] [(0,0),(2,0),(3,0),(4,0),(6,0),(7,0),(8,0),(9,0),(10,0),(11,0),(12,0),(13,0),(15,0),(1,4),(5,0),(14,4),(16,4),(17,0),(18,0),(19,0),(20,0),(21,0)] [] ?_|refine ZA 15 [] [(1,0),(2,0),(3,0),(5,0),(6,0),(7,0),(8,0),(9,0),(10,0),(11,0),(12,0),(13,0),(16,0),(17,0),(18,0),(19,0),(0,4),(4,0),(14,4),(15,0),(20,0),(21,1)] [22] ?_|(refine ZE (fun hc=>?_) (fun hc=>?_)<;>(try simp at hc)<;>(try omega)))
   all_goals refine k_lgz (b:=ql) (ls:=ldF (left.take 20)) ?_
   all_goals exact ZV (bs,ql) rfl trivial
 ·rintro hx ⟨i,q,es,hi,he,hlen⟩
  dsimp only
  by_cases hlt:i<now.length∧i<20
  ·obtain ⟨x,hxi⟩:∃x,now[i]? = some x:=⟨_,List.getElem?_eq_getElem hlt.1⟩
   have hmem:x ∈ now:=List.mem_of_getElem? hxi
   have htk:now.take (i+1)=now.take i++[x]:=by rw [List.take_add_one,hxi];rfl
   have n1:=out_ok x (hn x hmem)
   have n2:=X8 (ito x)
   have n3:=XJ (who3 (x.who.toNat % 3)) ((x.nu.toNat % 4:Nat):Int) ((x.tk.toNat % 8:Nat):Int)
   have hw0:=WT (x.who.toNat % 3)
   have n4:=stateWith_ok q es (itn x) (oencS (ito x)) (by show (who3 _).size≤_;omega) (by show (ByteArray.mk #[]).size≤_;decide)
   have hv:=oencS_size x
   have e0:withE es (itn x) (oencS (ito x))=0:=by rw [withE,if_neg (by simp [itn_chk x]),if_neg (by omega),if_neg (by omega)]
   rw [e0] at n4
   rw [WV x] at n2
   have t1:(x.who.toNat:Int).tmod 3=((x.who.toNat % 3:Nat):Int):=tmodN _ 3
   have t2:(x.nu.toNat:Int).tmod 4=((x.nu.toNat % 4:Nat):Int):=tmodN _ 4
   have t3:(x.tk.toNat:Int).tmod 8=((x.tk.toNat % 8:Nat):Int):=tmodN _ 8
   have w2:=Zs (z:=((x.nu.toNat % 4:Nat):Int)) (by omega) (by omega)
   have w3:=Zs (z:=((x.tk.toNat % 8:Nat):Int)) (by omega) (by omega)
   repeat' (first|refine ZG ?_|refine ZH ?_|refine ZJ ?_|refine ZF ?_|refine ZP ?_|refine ZK ?_|refine ZN ?_|refine ZQ (fun b=>?_)|refine ZO (fun b=>?_)|refine ZB ?_|refine ZD ?_|refine ZW ?_|refine ZZ ?_|refine Zg ?_|refine Za ?_|refine ZX ?_|refine Ze (fun b=>?_)|refine Zd (fun b=>?_)|refine Zf ?_|refine ZY ?_|refine ZI (n1) (fun _ _=>?_)|refine l_call0 (n1) (fun _ _=>?_)|refine ZU (n1) (fun _ _=>?_)|refine ZI (n2) (fun _ _=>?_)|refine l_call0 (n2) (fun _ _=>?_)|refine ZU (n2) (fun _ _=>?_)|refine ZI (Z3) (fun _ _=>?_)|refine l_call0 (Z3) (fun _ _=>?_)|refine ZU (Z3) (fun _ _=>?_)|refine ZI (n3) (fun _ _=>?_)|refine l_call0 (n3) (fun _ _=>?_)|refine ZU (n3) (fun _ _=>?_)|refine ZI (n4) (fun _ _=>?_)|refine l_call0 (n4) (fun _ _=>?_)|refine ZU (n4) (fun _ _=>?_)|refine Z2 (es:=now) i x hxi (fun b off=>?_)|refine Zy ?_|rw [t1]|rw [t2]|rw [t3]|rw [w2]|rw [w3]|refine r_aix (x.who.toNat % 3) _ (WB (by omega)) ?_|(refine ZC (fun hc=>?_) (fun hc=>?_)<;>(try simp at hc)<;>(try omega))|(refine ZM (fun hc=>?_) (fun hc=>?_)<;>(try simp at hc)<;>(try omega))|refine ZA 7 [] [(0,0),(2,0),(3,0),(4,0),(6,0),(7,0),(8,0),(9,0),(10,0),(11,0),(12,0),(13,0),(15,0),(1,4),(5,0),(14,4),(16,4),(17,0),(18,0),(19,0),(20,0),(21,0)] [] ?_|refine ZA 15 [] [(1,0),(2,0),(3,0),(5,0),(6,0),(7,0),(8,0),(9,0),(10,0),(11,0),(12,0),(13,0),(16,0),(17,0),(18,0),(19,0),(0,4),(4,0),(14,4),(15,0),(20,0),(21,1)] [22] ?_|(refine ZE (fun hc=>?_) (fun hc=>?_)<;>(try simp at hc)<;>(try omega)))
   rename_i q' _
   rw [wrapi (z:=(i:Int)+1) (by omega) (by omega)]
   have hil:=insO_len (itn x) (oencS (ito x)) es
   exact Zc ⟨i+1,q',insO (itn x) (oencS (ito x)) es,by omega,by rw [he,htk];simp [stF],by omega⟩ (by show 20 - (i+1)<20 - i;omega) ⟨rfl,rfl,rfl,rfl,rfl,trivial⟩
  ·have htk:now.take i=now.take 20:=by
    by_cases h20:i=20
    ·rw [h20]
    ·rw [List.take_of_length_le (by omega),List.take_of_length_le (by omega)]
   rw [htk] at he
   subst he
   repeat' (first|refine ZG ?_|refine ZH ?_|refine ZJ ?_|refine ZF ?_|refine ZP ?_|refine ZK ?_|refine ZN ?_|refine ZQ (fun b=>?_)|refine ZO (fun b=>?_)|refine ZB ?_|refine ZD ?_|refine ZW ?_|refine ZZ ?_|refine Zg ?_|refine Za ?_|refine ZX ?_|refine Ze (fun b=>?_)|refine Zd (fun b=>?_)|refine Zf ?_|refine ZY ?_|(refine ZC (fun hc=>?_) (fun hc=>?_)<;>(try simp at hc)<;>(try omega))|(refine ZM (fun hc=>?_) (fun hc=>?_)<;>(try simp at hc)<;>(try omega))|refine ZA 7 [] [(0,0),(2,0),(3,0),(4,0),(6,0),(7,0),(8,0),(9,0),(10,0),(11,0),(12,0),(13,0),(15,0),(1,4),(5,0),(14,4),(16,4),(17,0),(18,0),(19,0),(20,0),(21,0)] [] ?_|refine ZA 15 [] [(1,0),(2,0),(3,0),(5,0),(6,0),(7,0),(8,0),(9,0),(10,0),(11,0),(12,0),(13,0),(16,0),(17,0),(18,0),(19,0),(0,4),(4,0),(14,4),(15,0),(20,0),(21,1)] [22] ?_|(refine ZE (fun hc=>?_) (fun hc=>?_)<;>(try simp at hc)<;>(try omega)))
   all_goals exact Z4 hx q ⟨rfl,rfl,rfl,trivial⟩
theorem venc_props:∀(k u:Nat),u≤k→∃init last,venc u=init++[last]∧(∀b ∈ init,128≤b.toNat)∧last.toNat<128∧(0<u→last.toNat≠0)∧(init≠[]→0<u)∧dval (venc u)=u:=by
 intro k
 induction k with
 | zero=>
  intro u hu
  obtain rfl:u=0:=by omega
  refine ⟨[],0,?_,by simp,by decide,by simp,by simp,?_⟩
  ·rw [venc];simp
  ·rw [venc];simp [dval]
 | succ k ih=>
  intro u hu
  by_cases h:u<128
  ·have hv:venc u=[UInt8.ofNat u]:=by rw [venc,if_pos h]
   have ht:(UInt8.ofNat u).toNat=u:=by simp;omega
   refine ⟨[],UInt8.ofNat u,by rw [hv];rfl,by simp,by omega,fun h0=>by omega,by simp,?_⟩
   rw [hv,dval,dval,ht];omega
  ·have hv:venc u=UInt8.ofNat (u % 128+128)::venc (u / 128):=by rw [venc,if_neg h]
   have ht:(UInt8.ofNat (u % 128+128)).toNat=u % 128+128:=by simp;omega
   obtain ⟨init,last,h1,h2,h3,h4,h5,h6⟩:=ih (u / 128) (by omega)
   refine ⟨UInt8.ofNat (u % 128+128)::init,last,by rw [hv,h1];rfl,fun b hb=>?_,h3,fun _=>h4 (by omega),fun _=>by omega,?_⟩
   ·rcases List.mem_cons.1 hb with rfl|hb
    ·omega
    ·exact h2 b hb
   ·rw [hv,dval,h6,ht];omega
theorem pnat_venc (u:Nat) (hu:u<9223372036854775808) (rest:List UInt8):pnat (venc u++rest) 9=(u,(venc u).length,0):=by
 obtain ⟨init,last,h1,h2,h3,h4,h5,h6⟩:=venc_props u u (Nat.le_refl _)
 have hl:(venc u).length≤9:=venc_len 8 u (by simpa using hu)
 have hlen:(venc u).length=init.length+1:=by rw [h1];simp
 have hlast:lastN (venc u++rest) 9=init.length:=by
  refine Xc (by simp;omega) (by omega) (fun i hi=>?_) (.inr (.inr ⟨last,?_,h3⟩))
  ·refine ⟨init[i],?_,h2 _ (List.getElem_mem hi)⟩
   rw [h1,List.append_assoc,List.getElem?_append_left hi]
   exact List.getElem?_eq_getElem hi
  ·rw [h1,List.append_assoc,List.getElem?_append_right (Nat.le_refl _)]
   simp
 have hget:(venc u++rest)[init.length]? = some last:=by
  rw [h1,List.append_assoc,List.getElem?_append_right (Nat.le_refl _)];simp
 have htk:(venc u++rest).take (init.length+1)=venc u:=by rw [←hlen];simp
 unfold pnat
 dsimp only
 rw [hlast,if_neg (by omega),hget]
 dsimp only
 rw [if_neg,if_neg (by omega),htk,h6,hlen,Nat.mod_eq_of_lt (by omega)]
 rintro ⟨g1,g2⟩
 exact h4 (h5 (fun e=>by rw [e] at g1;simp at g1)) g2
theorem rnum_venc (u:Nat) (hu:u<9223372036854775808) (rest:List UInt8) (pos:Nat) (most:Int) (hm:(u:Int)≤most):rnum ⟨venc u++rest,pos,0⟩ most=((u:Int),⟨rest,pos+(venc u).length,0⟩):=by
 have hp:pnum (venc u++rest) most=((u:Int),(venc u).length,0):=by
  unfold pnum
  rw [pnat_venc u hu rest]
  dsimp only
  rw [if_neg (by omega)]
 unfold rnum rstep
 dsimp only
 rw [hp]
 simp
theorem rtext_venc (s:ByteArray) (rest:List UInt8) (pos:Nat) (most:Int) (hm:(s.size:Int)≤most) (h2:s.size≤16777216):rtext ⟨venc s.size++s.data.toList++rest,pos,0⟩ most=(s,⟨rest,pos+((venc s.size).length+s.size),0⟩):=by
 have hs:s.data.toList.length=s.size:=by simp
 have e1:(venc s.size++(s.data.toList++rest)).drop ((venc s.size).length+s.size)=rest:=by
  rw [←List.append_assoc,←hs,←List.length_append,List.drop_left]
 have e2:((venc s.size++(s.data.toList++rest)).take ((venc s.size).length+s.size)).drop (venc s.size).length=s.data.toList:=by
  rw [←List.append_assoc,←hs,←List.length_append,List.take_left,List.drop_left]
 have hp:ptext (venc s.size++(s.data.toList++rest)) most=(s,(venc s.size).length+s.size,0):=by
  unfold ptext
  rw [pnat_venc s.size (by omega) (s.data.toList++rest)]
  dsimp only
  rw [if_neg (by simp),if_neg (by omega),if_neg (by simp only [List.length_append];omega),e2]
 unfold rtext rstep
 dsimp only
 rw [List.append_assoc,hp,if_neg (by simp),if_neg (by simp)]
 dsimp only
 rw [e1]
theorem odec_enc {o:Ou} (h:ochk o=0):odec (oencS o)=some o:=by
 obtain ⟨h1,h2,h3,h4⟩:=Wd h
 have e1:((o.ch.toNat:Nat):Int)=o.ch:=by omega
 have e2:((o.us.toNat:Nat):Int)=o.us:=by omega
 have hr:∃p,oread ⟨oenc o,0,0⟩=(o,⟨[],p,0⟩):=by
  unfold oread oenc
  simp only [List.append_assoc]
  rw [rnum_venc o.ch.toNat (by omega) _ 0 4 (by omega)]
  dsimp only
  rw [show venc o.tg.size++(o.tg.data.toList++(venc o.tx.size++(o.tx.data.toList++venc o.us.toNat)))=venc o.tg.size++o.tg.data.toList++(venc o.tx.size++(o.tx.data.toList++venc o.us.toNat)) by simp]
  rw [rtext_venc o.tg _ _ 64 (by omega) (by omega)]
  dsimp only
  rw [show venc o.tx.size++(o.tx.data.toList++venc o.us.toNat)=venc o.tx.size++o.tx.data.toList++venc o.us.toNat by simp]
  rw [rtext_venc o.tx _ _ 4096 (by omega) (by omega)]
  dsimp only
  have h5:=rnum_venc o.us.toNat (by omega) [] (0+(venc o.ch.toNat).length+((venc o.tg.size).length+o.tg.size)+((venc o.tx.size).length+o.tx.size)) 65535 (by omega)
  rw [List.append_nil] at h5
  rw [h5,e1,e2]
  exact ⟨_,rfl⟩
 obtain ⟨p,hr⟩:=hr
 unfold odec
 rw [oencS,if_pos h]
 dsimp only
 rw [hr]
 simp [h]
def kx:It:=⟨1,0,0,0,⟨#[120]⟩⟩
def ky:It:=⟨1,0,0,0,⟨#[121]⟩⟩
def kc:Cq:=⟨3,nm1,0,0,ito ky,0,ito kx,0⟩
theorem all_one (x:It):allE (stF [] [x])=[⟨who3 (x.who.toNat % 3),(x.nu.toNat % 4:Nat),(x.tk.toNat % 8:Nat),ito x⟩]:=by
 have h0:cmpO (itn x) (itn x)=0:=YD.self _
 have h1:stF [] [x]=[(itn x,oencS (ito x))]:=rfl
 have h2:kn [(itn x,oencS (ito x))] 18=[itn x]:=by simp [kn,itn]
 have h3:getO (itn x) [(itn x,oencS (ito x))]=some (oencS (ito x)):=by simp [getO,h0]
 rw [allE,h1,h2]
 unfold allN
 simp only [List.filterMap_cons,List.filterMap_nil,entO,h3,Option.getD_some,odec_enc (WV x),Option.map_some]
 rfl
theorem known_cons:consE (allE (stF [] ([kx].take 20))) (ldF ([ky].take 20))=[kc]:=by
 have h1:allE (stF [] ([kx].take 20))=[⟨nm1,0,0,ito kx⟩]:=all_one kx
 have h2:ldF ([ky].take 20)=[⟨⟨nm1,0,0,ito ky⟩,9,0⟩]:=rfl
 have h3:ito ky≠ito kx:=fun h=>by
  have:=congrArg Ou.tx h
  exact absurd this (by decide)
 rw [h1,h2]
 simp [consE,YB,Z7,con1,knw,h3,En.sd,kc]
set_option maxHeartbeats 1000000 in
theorem X7:Enters 6∧Spec prog 6 #[] [Usg] [] (RetV (.bool true)):=by
 have n1:=fun o1 o2 c1 c2=>build_ok o1 o2 c1 c2 [kx] [ky] (by decide) (by decide) (by decide) (by decide)
 have n2:=fun b bs=>consCompare_ok b bs (stF [] ([kx].take 20)) (ldF ([ky].take 20)) (by decide) (by rw [show allE (stF [] ([kx].take 20))=_ from all_one kx];decide)
 simp only [known_cons] at n2
 have hy:(kc.old.tx.toList == ByteArray.toList ⟨#[121]⟩)=true:=by rw [Zp,Zp];decide
 have hxx:(kc.new.tx.toList == ByteArray.toList ⟨#[120]⟩)=true:=by rw [Zp,Zp];decide
 refine Zb [] func6 ntmps6 fun G w hp=>?_
 repeat' (first|refine ZG ?_|refine ZH ?_|refine ZJ ?_|refine ZF ?_|refine ZP ?_|refine ZK ?_|refine ZN ?_|refine ZQ (fun b=>?_)|refine ZO (fun b=>?_)|refine ZB ?_|refine ZD ?_|refine ZR ?_|refine ZC (fun hc=>?_) (fun hc=>?_)|refine ZE (fun hc=>?_) (fun hc=>?_))
 refine l_shut (Lx:=[Pt b (.cells #[.int .u8 1,.int .u8 0,.int .u8 0,.int .u8 0,.string ⟨#[121]⟩] 60)]) (r:=Row 60 5 (some ⟨b,0,none⟩) 1 1 (itf ky)) (fun h hh=>row_pt rfl h hh) ?_
 refine l_frz (T:=60) (sz:=5) (f:=itf) (o:=some ⟨b,0,none⟩) (cap:=1) [ky] ?_ rfl rfl
 rename_i b1
 refine l_shut (Lx:=[Pt b1 (.cells #[.int .u8 1,.int .u8 0,.int .u8 0,.int .u8 0,.string ⟨#[120]⟩] 60)]) (r:=Row 60 5 (some ⟨b1,0,none⟩) 1 1 (itf kx)) (fun h hh=>row_pt rfl h hh) ?_
 refine l_frz (T:=60) (sz:=5) (f:=itf) (o:=some ⟨b1,0,none⟩) (cap:=1) [kx] ?_ rfl rfl
 repeat' (first|refine ZG ?_|refine ZH ?_|refine ZJ ?_|refine ZF ?_|refine ZP ?_|refine ZK ?_|refine ZN ?_|refine ZQ (fun b=>?_)|refine ZO (fun b=>?_)|refine ZB ?_|refine ZD ?_|refine ZR ?_|refine ZI (n1 _ _ _ _) (fun _ _=>?_)|refine l_call0 (n1 _ _ _ _) (fun _ _=>?_)|refine ZI (n2 _ _) (fun _ _=>?_)|refine l_call0 (n2 _ _) (fun _ _=>?_)|refine Z2 (es:=[kc]) 0 kc rfl (fun b off=>?_)|refine Zy ?_|rw [hy]|rw [hxx]|refine ZC (fun hc=>?_) (fun hc=>?_)|refine ZE (fun hc=>?_) (fun hc=>?_))
 exact ZV () rfl trivial
section
open Go.ChangeShapes Go.WideShapes Go.ChangeAt
structure Kept (W W':World):Prop where
 os:W'.os=W.os
 output:W'.output=W.output
 heap:∀(b:Nat) (o:Obj),W.heap[b]? = some o→W'.heap[b]? = some o
theorem Kept.but {W W':World} (h:Kept W W') (may:MemPlace→Prop):W.keptBut W' may:=by
 refine ⟨h.os,h.output,fun i hi=>?_⟩
 have h1:W.heap[i]? = some W.heap[i]:=Array.getElem?_eq_getElem hi
 have h2:=h.heap i _ h1
 rw [h1,h2]
 split
 ·rename_i c t fr c' t' fr' e1 e2
  rw [e1] at e2
  injection e2 with e2
  injection e2 with a1 a2 a3
  subst a1 a2 a3
  exact ⟨rfl,rfl,rfl,fun _ _=>rfl⟩
 ·rename_i es clock es' clock' e1 e2
  rw [e1] at e2
  injection e2 with e2
  injection e2 with a1 a2
  subst a1 a2
  exact .inr ⟨rfl,rfl⟩
 ·rfl
theorem calls_law {f:FuncId} {args:Array Value} {F:List Pf} {v:Value} (h:Spec prog f args F [] (RetV v)) (W:World) (hF:∀x ∈ F,x.p fun b=>W.heap[b]?) :
  Calls prog f args W fun e W'=>e = .returned v∧Kept W W':=by
 have hs:Sat emp W (fun b=>W.heap[b]?) F [] W:=⟨fun b=>W.heap[b]?,emp,fun _ _ e=>e,(fun _ _ e=>by cases e),(fun _ _ e=>by cases e),fun _=>.inr rfl,fun _=>.inr rfl,fun _=>.inr rfl,Sub.refl _,hF,trivial,Same.refl _⟩
 refine (h _ _ _ hs).mono ?_
 rintro e W' ⟨_,rfl,_,hp',hr,st⟩
 exact ⟨rfl,st.same.os,st.same.output,fun b o hb=>st.inp b o (st.sub b o hb)⟩
def contig (P:Program):Nat→List Field→Option Nat
 | o,[]=>some o
 | o,f::fs=>if f.offset=o then contig P (o+P.cellsOf f.type) fs else none
def plainT (P:Program):Nat→TypeId→Bool
 | 0,_=>false
 | k+1,t=>match P.underlying t with
  | some .bool=>true
  | some (.int _)=>true
  | some .string=>true
  | some (.struct fs)=>(fs.toList.all fun f=>plainT P k f.type) && (contig P 0 fs.toList == some (P.cellsOf t))
  | some (.array n e)=>plainT P k e && (P.cellsOf t == n * P.cellsOf e)
  | _=>false
variable {H:Type} {enc:TypeId×Value→H} {P:Program}
theorem Yl {α β:Type} {f g:α→Option β}:∀{l:List α} {r:List β},(∀a ∈ l,∀x,f a=some x→g a=some x)→l.mapM f=some r→l.mapM g=some r
 | [],r,_,h=>h
 | a::l,r,hfg,h=>by
  rw [List.mapM_cons] at h ⊢
  simp only [Option.bind_eq_bind,Option.bind_eq_some_iff,Option.pure_def,Option.some.injEq] at h ⊢
  obtain ⟨x,hx,xs,hxs,rfl⟩:=h
  exact ⟨x,hfg a (by simp) x hx,xs,Yl (fun b hb=>hfg b (by simp [hb])) hxs,rfl⟩
theorem mapM_all {α β:Type} {f:α→Option β} {p:β→Prop}:∀{l:List α} {r:List β},(∀a ∈ l,∀x,f a=some x→p x)→l.mapM f=some r→∀x ∈ r,p x
 | [],r,_,h=>by simp at h;subst h;simp
 | a::l,r,hfg,h=>by
  rw [List.mapM_cons] at h
  simp only [Option.bind_eq_bind,Option.bind_eq_some_iff,Option.pure_def,Option.some.injEq] at h
  obtain ⟨x,hx,xs,hxs,rfl⟩:=h
  intro y hy
  rcases List.mem_cons.1 hy with rfl|hy
  ·exact hfg a (by simp) y hx
  ·exact mapM_all (fun b hb=>hfg b (by simp [hb])) hxs y hy
theorem XI {β γ:Type} {f:β→List γ}:∀{l:List β},(∀x ∈ l,f x=[])→l.flatMap f=[]
 | [],_=>rfl
 | a::l,h=>by rw [List.flatMap_cons,h a (by simp),XI (fun x hx=>h x (by simp [hx]))];rfl
theorem Ys:∀(n k:Nat) (t:TypeId) (w:World) (base:Nat) (sp:Nat→Bool) (hd:Bool) (cs:List Value) (x:DataW H×List MemPlace),plainT P k t=true→DataW.trod enc P w base sp hd n t cs=some x→
  x.2=[]∧∀w' base' sp' hd',DataW.trod enc P w' base' sp' hd' n t cs=some x
 | 0,_,_,_,_,_,_,_,_,_,h=>by simp [DataW.trod] at h
 | n+1,0,_,_,_,_,_,_,_,hp,_=>by simp [plainT] at hp
 | n+1,k+1,t,w,base,sp,hd,cs,x,hp,h=>by
  unfold plainT at hp
  split at hp
  ·rename_i hu
   obtain ⟨b,rfl,rfl⟩:=DataW.trod_bool hu h
   exact ⟨rfl,fun _ _ _ _=>by simp [DataW.trod,hu]⟩
  ·rename_i hu
   obtain ⟨z,rfl,rfl,hz⟩:=DataW.trod_int hu h
   exact ⟨rfl,fun _ _ _ _=>by simp [DataW.trod,hu,hz]⟩
  ·rename_i hu
   obtain ⟨s,rfl,rfl,hs⟩:=DataW.trod_string hu h
   exact ⟨rfl,fun _ _ _ _=>by simp [DataW.trod,hu,hs]⟩
  ·rename_i fs hu
   rw [Bool.and_eq_true,List.all_eq_true] at hp
   simp only [DataW.trod,hu] at h ⊢
   split at h
   ·rename_i hl
    simp only [Option.map_eq_some_iff] at h
    obtain ⟨xs,hxs,rfl⟩:=h
    have ih:∀f ∈ fs.toList,∀y,DataW.trod enc P w base sp hd n f.type ((cs.drop f.offset).take (P.cellsOf f.type))=some y→y.2=[]∧∀w' base' sp' hd',DataW.trod enc P w' base' sp' hd' n f.type ((cs.drop f.offset).take (P.cellsOf f.type))=some y:=fun f hf y hy=>
     Ys n k f.type w base sp hd _ y (hp.1 f hf) hy
    refine ⟨XI (mapM_all (fun f hf y hy=>(ih f hf y hy).1) hxs),fun w' base' sp' hd'=>?_⟩
    rw [if_pos hl,Yl (fun f hf y hy=>(ih f hf y hy).2 w' base' sp' hd') hxs]
    rfl
   ·cases h
  ·rename_i m e hu
   rw [Bool.and_eq_true] at hp
   simp only [DataW.trod,hu] at h ⊢
   split at h
   ·rename_i hl
    simp only [Option.map_eq_some_iff] at h
    obtain ⟨xs,hxs,rfl⟩:=h
    have ih:∀i ∈ List.range m,∀y,DataW.trod enc P w base sp hd n e ((cs.drop (i * P.cellsOf e)).take (P.cellsOf e))=some y→y.2=[]∧∀w' base' sp' hd',DataW.trod enc P w' base' sp' hd' n e ((cs.drop (i * P.cellsOf e)).take (P.cellsOf e))=some y:=fun i _ y hy=>
     Ys n k e w base sp hd _ y hp.1 hy
    refine ⟨XI (mapM_all (fun i hi y hy=>(ih i hi y hy).1) hxs),fun w' base' sp' hd'=>?_⟩
    rw [if_pos hl,Yl (fun i hi y hy=>(ih i hi y hy).2 w' base' sp' hd') hxs]
    rfl
   ·cases h
  ·cases hp
theorem YL {α β:Type} {f:α→Option β}:∀{l:List α} {r:List β},l.mapM f=some r→∀(i:Nat) (a:α),l[i]? = some a→∃b,r[i]? = some b∧f a=some b
 | [],r,_,i,a,hi=>by simp at hi
 | c::l,r,h,i,a,hi=>by
  rw [List.mapM_cons] at h
  simp only [Option.bind_eq_bind,Option.bind_eq_some_iff,Option.pure_def,Option.some.injEq] at h
  obtain ⟨x,hx,xs,hxs,rfl⟩:=h
  cases i with
  | zero=>simp at hi;subst hi;exact ⟨x,by simp,hx⟩
  | succ i=>simpa using YL hxs i a (by simpa using hi)
theorem cover:∀(fs:List Field) (o total:Nat) (cs cs':List Value),contig P o fs=some total→cs.length=total→cs'.length=total→
  (∀f ∈ fs,(cs.drop f.offset).take (P.cellsOf f.type)=(cs'.drop f.offset).take (P.cellsOf f.type))→cs.drop o=cs'.drop o
 | [],o,total,cs,cs',h,h1,h2,_=>by
  simp only [contig,Option.some.injEq] at h
  rw [List.drop_eq_nil_of_le (by omega),List.drop_eq_nil_of_le (by omega)]
 | f::fs,o,total,cs,cs',h,h1,h2,hp=>by
  unfold contig at h
  split at h
  ·rename_i ho
   have ih:=cover fs (o+P.cellsOf f.type) total cs cs' h h1 h2 fun g hg=>hp g (by simp [hg])
   have h3:=hp f (by simp)
   rw [ho] at h3
   rw [←List.take_append_drop (P.cellsOf f.type) (cs.drop o),←List.take_append_drop (P.cellsOf f.type) (cs'.drop o),List.drop_drop,List.drop_drop,h3,ih]
  ·cases h
theorem Xd {H':Type} {enc':TypeId×Value→H'}:∀(n n' k:Nat) (t:TypeId) (w w':World) (base base':Nat) (sp sp':Nat→Bool) (hd hd':Bool) (cs cs':List Value) (x x':DataW H×List MemPlace),plainT P k t=true→
  DataW.trod enc P w base sp hd n t cs=some x→DataW.trod enc P w' base' sp' hd' n' t cs'=some x'→x.1=x'.1→cs=cs'
 | 0,_,_,_,_,_,_,_,_,_,_,_,_,_,_,_,_,h,_,_=>by simp [DataW.trod] at h
 | _+1,0,_,_,_,_,_,_,_,_,_,_,_,_,_,_,_,_,h,_=>by simp [DataW.trod] at h
 | n+1,n'+1,0,_,_,_,_,_,_,_,_,_,_,_,_,_,hp,_,_,_=>by simp [plainT] at hp
 | n+1,n'+1,k+1,t,w,w',base,base',sp,sp',hd,hd',cs,cs',x,x',hp,h,h',he=>by
  unfold plainT at hp
  split at hp
  ·rename_i hu
   obtain ⟨b,rfl,rfl⟩:=DataW.trod_bool hu h
   obtain ⟨b',rfl,rfl⟩:=DataW.trod_bool hu h'
   simp at he;subst he;rfl
  ·rename_i hu
   obtain ⟨z,rfl,rfl,hz⟩:=DataW.trod_int hu h
   obtain ⟨z',rfl,rfl,hz'⟩:=DataW.trod_int hu h'
   simp at he;subst he;rfl
  ·rename_i hu
   obtain ⟨s,rfl,rfl,hs⟩:=DataW.trod_string hu h
   obtain ⟨s',rfl,rfl,hs'⟩:=DataW.trod_string hu h'
   simp at he
   rw [Xp (by rw [he]:s.data.toList=s'.data.toList)]
  ·rename_i fs hu
   rw [Bool.and_eq_true,List.all_eq_true,beq_iff_eq] at hp
   simp only [DataW.trod,hu] at h h'
   split at h
   ·rename_i hl
    split at h'
    ·rename_i hl'
     simp only [Option.map_eq_some_iff] at h h'
     obtain ⟨xs,hxs,rfl⟩:=h
     obtain ⟨xs',hxs',rfl⟩:=h'
     simp only [DataW.agg.injEq] at he
     have:=cover fs.toList 0 _ cs cs' hp.2 hl hl' fun f hf=>by
      obtain ⟨i,hi,rfl⟩:=List.mem_iff_getElem.1 hf
      have hi':=List.getElem?_eq_getElem hi
      obtain ⟨y,hy1,hy2⟩:=YL hxs i _ hi'
      obtain ⟨y',hy1',hy2'⟩:=YL hxs' i _ hi'
      have hyy:y.1=y'.1:=by
       have h1:(xs.map (·.1))[i]? = some y.1:=by simp [hy1]
       have h2:(xs'.map (·.1))[i]? = some y'.1:=by simp [hy1']
       rw [he] at h1
       exact Option.some.inj (h1.symm.trans h2)
      exact Xd (enc':=enc') n n' k _ w w' base base' sp sp' hd hd' _ _ y y' (hp.1 _ hf) hy2 hy2' hyy
     simpa using this
    ·cases h'
   ·cases h
  ·rename_i m e hu
   rw [Bool.and_eq_true,beq_iff_eq] at hp
   simp only [DataW.trod,hu] at h h'
   split at h
   ·rename_i hl
    split at h'
    ·rename_i hl'
     simp only [Option.map_eq_some_iff] at h h'
     obtain ⟨xs,hxs,rfl⟩:=h
     obtain ⟨xs',hxs',rfl⟩:=h'
     simp only [DataW.agg.injEq] at he
     have hpart:∀i,i<m→(cs.drop (i * P.cellsOf e)).take (P.cellsOf e)=(cs'.drop (i * P.cellsOf e)).take (P.cellsOf e):=fun i hi=>by
      have hi':(List.range m)[i]? = some i:=by simp [hi]
      obtain ⟨y,hy1,hy2⟩:=YL hxs i _ hi'
      obtain ⟨y',hy1',hy2'⟩:=YL hxs' i _ hi'
      have hyy:y.1=y'.1:=by
       have h1:(xs.map (·.1))[i]? = some y.1:=by simp [hy1]
       have h2:(xs'.map (·.1))[i]? = some y'.1:=by simp [hy1']
       rw [he] at h1
       exact Option.some.inj (h1.symm.trans h2)
      exact Xd (enc':=enc') n n' k _ w w' base base' sp sp' hd hd' _ _ y y' hp.1 hy2 hy2' hyy
     apply List.ext_getElem?
     intro j
     by_cases hj:j<m * P.cellsOf e
     ·have hc:0<P.cellsOf e:=Nat.pos_of_ne_zero fun h0=>by rw [h0] at hj;simp at hj
      have h1:=congrArg (fun l=>l[j % P.cellsOf e]?) (hpart (j / P.cellsOf e) (Nat.div_lt_of_lt_mul (by rw [Nat.mul_comm];exact hj)))
      simp only [List.getElem?_take,List.getElem?_drop,if_pos (Nat.mod_lt j hc)] at h1
      rw [show j / P.cellsOf e * P.cellsOf e+j % P.cellsOf e=j by rw [Nat.mul_comm];exact Nat.div_add_mod j _] at h1
      exact h1
     ·rw [List.getElem?_eq_none (by omega),List.getElem?_eq_none (by omega)]
    ·cases h'
   ·cases h
  ·cases hp
theorem post_kept {f:Func} {s:ChangeSpec} {apart fresh handsOn again:Bool} {W W':World} {args:Array Value} {v:Value} {ds gs:List (DataW H)} {before pa pv:List MemPlace}
  (hW:DataW.Whole enc P f.params.toList s.vars apart W args.toList ds gs before)
  (hres:∀(b:Nat) (sp:Nat→Bool) (hd:Bool),DataW.TrodAll enc P W' b sp hd f.resultTypes.toList (v.resultList f.resultTypes.size) (s.fn H (ds++gs)).results [])
  (hargs:∀sp:Nat→Bool,(∀b<W.heap.size,sp b=true)→DataW.TrodAll enc P W' 0 sp true f.params.toList args.toList (s.fn H (ds++gs)).args pa)
  (hvars:∀sp:Nat→Bool,(∀b<W.heap.size,sp b=true)→DataW.TrodVars enc P W' sp s.vars (s.fn H (ds++gs)).vars pv)
  (hps:before=pa++pv) (hk:Kept W W')
  (hok:∀(j:Nat) (t:TypeId) (r:Value),f.resultTypes[j]? = some t→(v.resultList f.resultTypes.size)[j]? = some r→Value.okWide P W' .any 0 t r) :
  s.post enc P f apart fresh handsOn again W args v W':=by
 have hlt:=hW.lt
 refine ⟨ds,gs,before,[],pa,pv,hW,hres _ _ _,hargs _ (fun b hb=>by simpa using hb),hvars _ (fun b hb=>by simpa using hb),World.keptBut_mono (fun p hp=>⟨hp,?_⟩) (hk.but (· ∈ before)),fun _=>?_⟩
 ·rw [hps,List.mem_append] at hp
  exact Or.inr hp
 ·obtain ⟨_,_,_,_,_,hz,hn⟩:=hW
  refine ⟨hok,_,_,([]++pa)++pv,⟨[]++pa,pv,trodAll_append (hargs _ (fun _ _=>rfl)) (hres _ _ _),hvars _ (fun _ _=>rfl),rfl,?_,?_⟩,?_⟩
  ·intro b off hp
   have hm:MemPlace.cell b off ∈ before:=by rw [hps];simpa using hp
   have h1:=hz b off hm
   have h2:b<W.heap.size:=hlt _ hm
   have h4:W.heap[b]? = some W.heap[b]:=Array.getElem?_eq_getElem h2
   have h3:=hk.heap b _ h4
   unfold World.frozen? at h1 ⊢
   dsimp only at h1 ⊢
   rw [h4] at h1
   rw [h3]
   exact h1
  ·intro ha
   have:=hn ha
   rw [hps] at this
   simpa using this
  ·intro p hp _
   rw [hps]
   simpa using hp
def laidU : List (String × DataW Unit) := [("replevin/object.usages", Rows.laid_replevin_object_usages)]
theorem gUsg : prog.globalNamed "replevin/object.usages" = some 0 := by kernel_rfl
theorem tUsg:(prog.globals[0]?).map (·.type)=some 189:=by kernel_rfl
theorem plUsg:plainT prog 5 189=true:=by decide +kernel
theorem rdUsg (w:World):DataW.trod (fun _=>()) prog w 0 (fun _=>true) false 8 189 (usages.flatMap uf)=some (Rows.laid_replevin_object_usages,[]):=by kernel_rfl
theorem usg_of_laid {W:World} (h:laidMetH prog laidU W):Usg.p fun b=>W.heap[b]?:=by
 rw [MakeChecks.laidMetH_plain _ _ _ (by kernel_rfl)] at h
 obtain ⟨ps,⟨g0,t0,cs0,f0,p0,q0,hg0,ht0,hv0,hd0,_,_⟩,_,_⟩:=h
 obtain rfl:=Option.some.inj (gUsg.symm.trans hg0)
 obtain rfl:=Option.some.inj (tUsg.symm.trans ht0)
 have hcs:cs0.toList=usages.flatMap uf:=Xd (enc':=fun _=>()) _ _ _ _ W W _ _ _ _ _ _ _ _ _ _ plUsg hd0 (rdUsg W) rfl
 unfold World.var? at hv0
 rw [hg0] at hv0
 simp only [Option.bind_some] at hv0
 split at hv0
 ·rename_i cs t fr hb
  obtain rfl:=Option.some.inj hv0
  exact ⟨t,fr,by rw [←hcs];simpa using hb⟩
 ·cases hv0
inductive SK where
 | b
 | i (k:IntKind)
 | s
def sksF (g:TypeId→Option (List SK)):List Field→Option (List SK)
 | []=>some []
 | f::fs=>match g f.type,sksF g fs with
  | some a,some r=>some (a++r)
  | _,_=>none
def sks (P:Program):Nat→TypeId→Option (List SK)
 | 0,_=>none
 | k+1,t=>match P.underlying t with
  | some .bool=>some [.b]
  | some (.int ik)=>some [.i ik]
  | some .string=>some [.s]
  | some (.struct fs)=>sksF (sks P k) fs.toList
  | some (.array n e)=>(sks P k e).map fun l=>(List.replicate n l).flatten
  | _=>none
def CellOK (M:Nat):SK→Value→Prop
 | .b,v=>∃b,v = .bool b
 | .i k,v=>∃z,v = .int k z∧(Lit.int k z).wf=true
 | .s,v=>∃s:ByteArray,v = .string s∧s.size≤M
def CellsOK (M:Nat):List SK→List Value→Prop
 | [],[]=>True
 | k::ks,v::vs=>CellOK M k v∧CellsOK M ks vs
 | _,_=>False
theorem Yp {M:Nat}:∀{a b:List SK} {x y:List Value},CellsOK M a x→CellsOK M b y→CellsOK M (a++b) (x++y)
 | [],_,[],_,_,h=>h
 | _::_,_,_::_,_,⟨h1,h2⟩,h=>⟨h1,Yp h2 h⟩
theorem XE {M M':Nat} (hM:M≤M'):∀{a:List SK} {x:List Value},CellsOK M a x→CellsOK M' a x
 | [],[],_=>trivial
 | k::_,_::_,⟨h1,h2⟩=>⟨by
   cases k with
   | b=>exact h1
   | i k=>exact h1
   | s=>obtain ⟨s,hs,hl⟩:=h1;exact ⟨s,hs,Nat.le_trans hl hM⟩,XE hM h2⟩
theorem WR:∀{l:List (DataW H)} {d:DataW H},d ∈ l→Rows.uptoBulk d≤Rows.uptoBulkAll l
 | c::l,d,h=>by
  rcases List.mem_cons.1 h with rfl|h
  ·simp only [Rows.uptoBulkAll];omega
  ·have:=WR h
   simp only [Rows.uptoBulkAll];omega
theorem sksF_ok {M:Nat} {g:TypeId→Option (List SK)}:∀(fs:List Field) (o total:Nat) (cs:List Value) (ks:List SK),contig P o fs=some total→cs.length=total→sksF g fs=some ks→
  (∀f ∈ fs,∀k,g f.type=some k→CellsOK M k ((cs.drop f.offset).take (P.cellsOf f.type)))→CellsOK M ks (cs.drop o)
 | [],o,total,cs,ks,h,h1,h2,_=>by
  simp only [contig,Option.some.injEq] at h
  simp only [sksF,Option.some.injEq] at h2
  rw [←h2,List.drop_eq_nil_of_le (by omega)];trivial
 | f::fs,o,total,cs,ks,h,h1,h2,hp=>by
  unfold contig at h
  split at h
  ·rename_i ho
   unfold sksF at h2
   split at h2
   ·rename_i a r ha hr
    obtain rfl:=Option.some.inj h2
    have ih:=sksF_ok fs (o+P.cellsOf f.type) total cs r h h1 hr fun g hg=>hp g (by simp [hg])
    have h3:=hp f (by simp) a ha
    rw [ho] at h3
    rw [←List.take_append_drop (P.cellsOf f.type) (cs.drop o),List.drop_drop]
    exact Yp h3 ih
   ·cases h2
  ·cases h
theorem arr_cells {M c:Nat} {l:List SK}:∀(m:Nat) (cs:List Value),cs.length=m * c→(∀i,i<m→CellsOK M l ((cs.drop (i * c)).take c))→CellsOK M (List.replicate m l).flatten cs
 | 0,cs,h,_=>by
  have:cs=[]:=List.length_eq_zero_iff.1 (by omega)
  subst this;trivial
 | m+1,cs,h,hp=>by
  have h0:=hp 0 (by omega)
  rw [Nat.zero_mul,List.drop_zero] at h0
  have hl:cs.length=m * c+c:=by rw [h,Nat.succ_mul]
  have ih:=arr_cells (M:=M) (c:=c) (l:=l) m (cs.drop c) (by rw [List.length_drop];omega) fun i hi=>by
   have:=hp (i+1) (by omega)
   rw [List.drop_drop,show c+i * c=(i+1) * c by rw [Nat.succ_mul];omega]
   exact this
  rw [List.replicate_succ,List.flatten_cons,←List.take_append_drop c cs]
  exact Yp h0 ih
theorem Yq:∀(n k:Nat) (t:TypeId) (w:World) (base:Nat) (sp:Nat→Bool) (hd:Bool) (cs:List Value) (x:DataW H×List MemPlace) (ks:List SK),plainT P k t=true→sks P k t=some ks→DataW.trod enc P w base sp hd n t cs=some x→CellsOK (Rows.uptoBulk x.1) ks cs
 | 0,_,_,_,_,_,_,_,_,_,_,_,h=>by simp [DataW.trod] at h
 | n+1,0,_,_,_,_,_,_,_,_,hp,_,_=>by simp [plainT] at hp
 | n+1,k+1,t,w,base,sp,hd,cs,x,ks,hp,hk,h=>by
  unfold plainT at hp
  unfold sks at hk
  split at hp
  ·rename_i hu
   rw [hu] at hk
   obtain rfl:=Option.some.inj hk
   obtain ⟨b,rfl,rfl⟩:=DataW.trod_bool hu h
   exact ⟨⟨b,rfl⟩,trivial⟩
  ·rename_i hu
   rw [hu] at hk
   obtain rfl:=Option.some.inj hk
   obtain ⟨z,rfl,rfl,hz⟩:=DataW.trod_int hu h
   exact ⟨⟨z,rfl,hz⟩,trivial⟩
  ·rename_i hu
   rw [hu] at hk
   obtain rfl:=Option.some.inj hk
   obtain ⟨s,rfl,rfl,hs⟩:=DataW.trod_string hu h
   refine ⟨⟨s,rfl,?_⟩,trivial⟩
   have hsz:s.data.toList.length=s.size:=by simp
   simp only [Rows.uptoBulk];omega
  ·rename_i fs hu
   rw [hu] at hk
   rw [Bool.and_eq_true,List.all_eq_true,beq_iff_eq] at hp
   simp only [DataW.trod,hu] at h
   split at h
   ·rename_i hl
    simp only [Option.map_eq_some_iff] at h
    obtain ⟨xs,hxs,rfl⟩:=h
    have:=sksF_ok (M:=Rows.uptoBulk (.agg (xs.map (·.1)))) (g:=sks P k) fs.toList 0 _ cs ks hp.2 hl hk fun f hf k' hk'=>by
     obtain ⟨i,hi,rfl⟩:=List.mem_iff_getElem.1 hf
     obtain ⟨y,hy1,hy2⟩:=YL hxs i _ (List.getElem?_eq_getElem hi)
     refine XE ?_ (Yq n k _ w base sp hd _ y k' (hp.1 _ hf) hk' hy2)
     have hm:y.1 ∈ xs.map (·.1):=List.mem_map.2 ⟨y,List.mem_of_getElem? hy1,rfl⟩
     have:=WR hm
     simp only [Rows.uptoBulk];omega
    simpa using this
   ·cases h
  ·rename_i m e hu
   rw [hu] at hk
   rw [Bool.and_eq_true,beq_iff_eq] at hp
   simp only [DataW.trod,hu] at h
   split at h
   ·rename_i hl
    simp only [Option.map_eq_some_iff] at h hk
    obtain ⟨xs,hxs,rfl⟩:=h
    obtain ⟨l,hl2,rfl⟩:=hk
    refine arr_cells m cs (by rw [hl,hp.2]) fun i hi=>?_
    have hi':(List.range m)[i]? = some i:=by simp [hi]
    obtain ⟨y,hy1,hy2⟩:=YL hxs i _ hi'
    refine XE ?_ (Yq n k _ w base sp hd _ y l hp.1 hl2 hy2)
    have hm:y.1 ∈ xs.map (·.1):=List.mem_map.2 ⟨y,List.mem_of_getElem? hy1,rfl⟩
    have:=WR hm
    simp only [Rows.uptoBulk];omega
   ·cases h
  ·cases hp
end
section
open Go.ChangeShapes Go.WideShapes Go.ChangeAt
theorem cells_at {W:World} {a:Addr} {n:Nat} {cs:List Value} (h:W.cells? 0 a n=some cs) (hn:0<n) :
  a.spot=none∧∃(c:Array Value) (fz:Nat×Nat×Nat),W.heap[a.block]? = some (.cells c fz.1 fz.2)∧cs.length=n∧∀j,j<n→c[a.off+j]? = cs[j]?:=by
 unfold World.cells? at h
 rw [if_pos (Nat.zero_le _)] at h
 have hl:cs.length=n:=by
  have:∀{α β:Type} {f:α→Option β} {l:List α} {r:List β},l.mapM f=some r→r.length=l.length:=fun {α β f} l=>by
   induction l with
   | nil=>intro r h;simp at h;subst h;rfl
   | cons x l ih=>
    intro r h
    rw [List.mapM_cons] at h
    simp only [Option.bind_eq_bind,Option.bind_eq_some_iff,Option.pure_def,Option.some.injEq] at h
    obtain ⟨y,_,ys,hys,rfl⟩:=h
    simp [ih hys]
  simpa using this h
 have hget:∀j,j<n→∃v,cs[j]? = some v∧W.cell? (a.add j)=some v:=fun j hj=>YL h j j (by simp [hj])
 obtain ⟨v0,_,h0⟩:=hget 0 hn
 have ha0:a.add 0=a:=by simp [Addr.add]
 rw [ha0] at h0
 unfold World.cell? at h0
 split at h0
 ·rename_i c T fz hb
  split at h0
  ·cases h0
  ·rename_i hsp
   have hsp:a.spot=none:=by simpa using hsp
   refine ⟨hsp,c,(T,fz),hb,hl,fun j hj=>?_⟩
   obtain ⟨v,hv1,hv2⟩:=hget j hj
   rw [hv1]
   obtain ⟨ab,ao,asp⟩:=a
   dsimp only at hsp hb ⊢
   subst hsp
   rw [Y2 rfl] at hv2
   unfold World.cell? at hv2
   dsimp only at hv2
   rw [hb] at hv2
   simpa using hv2
 ·cases h0
theorem Kept.cell {W W':World} (h:Kept W W') {a:Addr} {v:Value} (hc:W.cell? a=some v):W'.cell? a=some v:=by
 unfold World.cell? at hc ⊢
 split at hc
 ·rename_i c T fz hb
  rw [h.heap _ _ hb]
  exact hc
 ·cases hc
theorem Kept.cells {W W':World} (h:Kept W W') {a:Addr} {n:Nat} {cs:List Value} (hc:W.cells? 0 a n=some cs):W'.cells? 0 a n=some cs:=by
 unfold World.cells? at hc ⊢
 rw [if_pos (Nat.zero_le _)] at hc ⊢
 exact Yl (fun i _ x hx=>h.cell hx) hc
variable {H:Type} {enc:TypeId×Value→H} {P:Program}
theorem Wh:∀(l:List (DataW H)),l.length≤Rows.uptoBulkAll l
 | []=>by simp [Rows.uptoBulkAll]
 | d::l=>by
  have:=Wh l
  have h1:1≤Rows.uptoBulk d:=by
   cases d with
   | lit x=>cases x<;>simp only [Rows.uptoBulk]<;>omega
   | _=>simp only [Rows.uptoBulk];omega
  simp only [Rows.uptoBulkAll,List.length_cons];omega
theorem Wf {α:Type} {p:Nat→α→Prop}:∀(n:Nat),(∀i,i<n→∃y,p i y)→∃es:List α,es.length=n∧∀i y,es[i]? = some y→p i y
 | 0,_=>⟨[],rfl,by simp⟩
 | n+1,h=>by
  obtain ⟨es,hl,he⟩:=Wf n fun i hi=>h i (by omega)
  obtain ⟨y,hy⟩:=h n (by omega)
  refine ⟨es++[y],by simp [hl],fun i z hz=>?_⟩
  by_cases hi:i<n
  ·exact he i z (by rwa [List.getElem?_append_left (by omega)] at hz)
  ·rw [List.getElem?_append_right (by omega)] at hz
   have h0:i - es.length=0:=by
    have:=(List.getElem?_eq_some_iff.1 hz).1
    simp at this;omega
   rw [h0] at hz
   simp at hz
   subst hz
   rw [show i=n by omega];exact hy
theorem drop_flat {α:Type} {fa:α→List Value} {sz:Nat} (hsz:∀e,(fa e).length=sz) (l:List Value):∀(es:List α) (off:Nat),(∀i e,es[i]? = some e→∀j,j<sz→l[off+i * sz+j]? = (fa e)[j]?)→l.drop off=es.flatMap fa++l.drop (off+es.length * sz)
 | [],off,_=>by simp
 | e::es,off,h=>by
  have h1:(l.drop off).take sz=fa e:=by
   apply List.ext_getElem?
   intro j
   rw [List.getElem?_take,List.getElem?_drop]
   split
   ·rename_i hj
    have:=h 0 e rfl j hj
    simpa using this
   ·rename_i hj
    rw [List.getElem?_eq_none (by rw [hsz];omega)]
  have ih:=drop_flat hsz l es (off+sz) fun i e' he j hj=>by
   have:=h (i+1) e' (by simpa using he) j hj
   rw [←this];congr 1;rw [Nat.add_mul];omega
  rw [←List.take_append_drop sz (l.drop off),h1,List.drop_drop,ih,List.flatMap_cons,List.append_assoc,List.length_cons]
  congr 3;rw [Nat.add_mul];omega
theorem mapM_len {α β:Type} {f:α→Option β} {l:List α}:∀{r:List β},l.mapM f=some r→r.length=l.length:=by
 induction l with
 | nil=>intro r h;simp at h;subst h;rfl
 | cons x l ih=>
  intro r h
  rw [List.mapM_cons] at h
  simp only [Option.bind_eq_bind,Option.bind_eq_some_iff,Option.pure_def,Option.some.injEq] at h
  obtain ⟨y,_,ys,hys,rfl⟩:=h
  simp [ih hys]
theorem open_slC {α:Type} {fa:α→List Value} {Q:α→Nat→Prop} {t e k:Nat} {W:World} {v:Value} {d:DataW H} {p:List MemPlace} (T:Nat) (hu:P.underlying t=some (.slice e)) (hpl:plainT P k e=true) (hc0:0<P.cellsOf e) (hsz:∀y,(fa y).length=P.cellsOf e)
  (hopen:∀(n:Nat) (cs:List Value) (x:DataW H×List MemPlace),DataW.trod enc P W 0 (fun _=>true) true n e cs=some x→∃y,cs=fa y∧Q y (Rows.uptoBulk x.1)) (hmono:∀y M M',Q y M→M≤M'→Q y M')
  (hv:∃a len cap,v = .slice a len cap) (h:DataW.Trod enc P W 0 (fun _=>true) true t v d p) :
  ∃(o:Option Addr) (cap:Nat) (es:List α),v = .slice o es.length cap∧(Sl T fa o cap es).p (fun b=>W.heap[b]?)∧es.length≤Rows.uptoBulk d∧(∀y ∈ es,Q y (Rows.uptoBulk d))∧
   ∀(W':World) (sp:Nat→Bool),Kept W W'→(∀b<W.heap.size,sp b=true)→DataW.Trod enc P W' 0 sp true t v d p:=by
 obtain ⟨a,len,cap,rfl⟩:=hv
 obtain ⟨n,hn⟩:=h
 cases n with
 | zero=>simp [DataW.trod] at hn
 | succ n=>
  have hcl:(Value.slice a len cap).cells.toList=[.slice a len cap]:=rfl
  rw [hcl] at hn
  cases a with
  | none=>
   have h0:len=0∧cap=0:=by
    unfold DataW.trod at hn
    rw [hu] at hn
    split at hn<;>simp_all
   obtain ⟨rfl,rfl⟩:=h0
   have hd:d = .nil∧p=[]:=by
    simp [DataW.trod,hu] at hn
    exact ⟨hn.1.symm,hn.2⟩
   obtain ⟨rfl,rfl⟩:=hd
   exact ⟨none,0,[],rfl,⟨by simp,.inl rfl⟩,by simp,by simp,fun W' sp _ _=>⟨n+1,by rw [hcl];simp [DataW.trod,hu]⟩⟩
  | some a=>
   simp only [DataW.trod,hu] at hn
   split at hn
   ·rename_i hb
    simp only [Option.bind_eq_some_iff,if_true,Option.map_eq_some_iff] at hn
    obtain ⟨elems,he,rest,hr,hx⟩:=hn
    simp only [Prod.mk.injEq] at hx
    obtain ⟨rfl,rfl⟩:=hx
    have hle:=mapM_len he
    rw [List.length_range] at hle
    have hbulk:∀x ∈ elems,Rows.uptoBulk x.1≤Rows.uptoBulk (DataW.slice (elems.map (·.1)) (rest.map (·.1))):=fun x hx=>by
     have:=WR (List.mem_map.2 ⟨x,hx,rfl⟩:x.1 ∈ elems.map (·.1))
     simp only [Rows.uptoBulk];omega
    obtain ⟨es,hel,hes⟩:=Wf (p:=fun i y=>∃x,x ∈ elems∧W.cells? 0 (a.add (i * P.cellsOf e)) (P.cellsOf e)=some (fa y)∧Q y (Rows.uptoBulk x.1)) len fun i hi=>by
     obtain ⟨x,hx1,hx2⟩:=YL he i i (by simp [hi])
     simp only [Option.bind_eq_some_iff] at hx2
     obtain ⟨cs,hcs,htr⟩:=hx2
     obtain ⟨y,rfl,hy⟩:=hopen n cs x htr
     exact ⟨y,x,List.mem_of_getElem? hx1,hcs,hy⟩
    refine ⟨some a,cap,es,by rw [hel],⟨by omega,?_⟩,?_,?_,?_⟩
    ·by_cases hl0:es=[]
     ·exact .inl hl0
     ·right
      have hpos:0<es.length:=List.length_pos_iff.2 hl0
      obtain ⟨x0,_,hc1,_⟩:=hes 0 es[0] (List.getElem?_eq_getElem hpos)
      have ha0:a.add (0 * P.cellsOf e)=a:=by simp [Addr.add]
      rw [ha0] at hc1
      obtain ⟨hsp,c,fz,hblk,_,hcell⟩:=cells_at hc1 hc0
      obtain ⟨ab,ao,asp⟩:=a
      dsimp only at hsp hblk hcell
      subst hsp
      have hlt:ao<c.size:=by
       have h1:=hcell 0 hc0
       have h2:(fa es[0])[0]?≠none:=by
        rw [List.getElem?_eq_getElem (by rw [hsz];exact hc0)];simp
       rw [←h1] at h2
       exact Nat.lt_of_not_le fun h=>h2 (by simpa using Array.getElem?_eq_none_iff.2 h)
      have hdrop:=drop_flat hsz c.toList es ao fun i y hy j hj=>by
       obtain ⟨x,_,hci,_⟩:=hes i y hy
       rw [Y2 rfl] at hci
       obtain ⟨_,c',fz',hblk',_,hcell'⟩:=cells_at hci hc0
       dsimp only at hblk' hcell'
       rw [hblk] at hblk'
       injection hblk' with hblk'
       injection hblk' with e1
       subst e1
       rw [←hcell' j hj];simp
      refine ⟨ab,c,fz,c.toList.take ao,c.toList.drop (ao+es.length * P.cellsOf e),?_,hblk,?_⟩
      ·rw [List.length_take,Nat.min_eq_left (by simpa using Nat.le_of_lt hlt)]
      ·rw [←hdrop,List.take_append_drop]
    ·have:=Wh (elems.map (·.1))
     simp only [List.length_map] at this
     simp only [Rows.uptoBulk];omega
    ·intro y hy
     obtain ⟨i,hi,rfl⟩:=List.mem_iff_getElem.1 hy
     obtain ⟨x,hx,_,hq⟩:=hes i _ (List.getElem?_eq_getElem hi)
     exact hmono _ _ _ hq (hbulk x hx)
    ·intro W' sp hk hsp
     have hel1:∀i x,((W.cells? 0 (a.add (i * P.cellsOf e)) (P.cellsOf e)).bind (DataW.trod enc P W 0 (fun _=>true) true n e))=some x→((W'.cells? 0 (a.add (i * P.cellsOf e)) (P.cellsOf e)).bind (DataW.trod enc P W' 0 sp true n e))=some x:=fun i x hx=>by
      simp only [Option.bind_eq_some_iff] at hx ⊢
      obtain ⟨cs,hcs,htr⟩:=hx
      exact ⟨cs,hk.cells hcs,(Ys n _ _ W 0 _ _ _ _ hpl htr).2 W' 0 sp true⟩
     refine ⟨n+1,?_⟩
     rw [hcl]
     simp only [DataW.trod,hu]
     rw [if_pos hb]
     simp only [Option.bind_eq_some_iff,Option.map_eq_some_iff]
     refine ⟨elems,Yl (fun i _ x hx=>hel1 i x hx) he,rest,?_,rfl⟩
     by_cases hcap:cap=len
     ·have hrest:rest=[]:=by
       subst hcap
       simp at hr
       exact hr
      subst hrest
      subst hcap
      split<;>simp
     ·have hlt:a.block<W.heap.size:=by
       obtain ⟨x,_,hx2⟩:=YL hr 0 0 (by rw [List.getElem?_range (by omega)])
       simp only [Option.bind_eq_some_iff] at hx2
       obtain ⟨cs,hcs,_⟩:=hx2
       obtain ⟨_,c,fz,hblk,_⟩:=cells_at hcs hc0
       have h1:=(Array.getElem?_eq_some_iff.1 hblk).1
       have h2:(a.add ((len+0) * P.cellsOf e)).block=a.block:=by unfold Addr.add;split<;>rfl
       rwa [h2] at h1
      rw [if_pos (hsp _ hlt)]
      exact Yl (fun j _ x hx=>hel1 (len+j) x hx) hr
   ·cases hn
theorem open_sl {α:Type} {fa:α→List Value} {Q:α→Nat→Prop} {t e k:Nat} {W:World} {base:Nat} {v:Value} {d:DataW H} {p:List MemPlace} (T:Nat) (hu:P.underlying t=some (.slice e)) (hpl:plainT P k e=true) (hc0:0<P.cellsOf e) (hsz:∀y,(fa y).length=P.cellsOf e)
  (hopen:∀(n:Nat) (cs:List Value) (x:DataW H×List MemPlace),DataW.trod enc P W 0 (fun _=>true) true n e cs=some x→∃y,cs=fa y∧Q y (Rows.uptoBulk x.1)) (hmono:∀y M M',Q y M→M≤M'→Q y M')
  (hv:Value.okWide P W .any base t v) (h:DataW.Trod enc P W 0 (fun _=>true) true t v d p) :
  ∃(o:Option Addr) (cap:Nat) (es:List α),v = .slice o es.length cap∧(Sl T fa o cap es).p (fun b=>W.heap[b]?)∧es.length≤Rows.uptoBulk d∧(∀y ∈ es,Q y (Rows.uptoBulk d))∧
   ∀(W':World) (sp:Nat→Bool),Kept W W'→(∀b<W.heap.size,sp b=true)→DataW.Trod enc P W' 0 sp true t v d p:=
 open_slC T hu hpl hc0 hsz hopen hmono (okWide_slice hu hv) h
end
section
open Go.ChangeShapes Go.WideShapes Go.ChangeAt
theorem own:ownKnob prog.godebug=none:=by kernel_rfl
theorem Xb {n:Int} (h:(Lit.int .u8 n).wf=true):∃c:UInt8,n=(c.toNat:Int):=by
 have h1:0≤n∧n<256:=by
  simp [Lit.wf,IntKind.min,IntKind.max,IntKind.bits,IntKind.signed] at h
  omega
 exact ⟨UInt8.ofNat n.toNat,by simp;omega⟩
noncomputable def laidWorld (os:Os):World:=
 {World.holding prog os ⟨#[],#[],[]⟩ with heap:=(World.holding prog os ⟨#[],#[],[]⟩).heap.modify 0 fun
   | .cells _ t frozen=>.cells (usages.flatMap uf).toArray t frozen
   | o=>o}
theorem Yd {M:Nat} {k:IntKind} {ks:List SK} {cs:List Value} (h:CellsOK M (.i k::ks) cs):∃z cs',cs = .int k z::cs'∧(Lit.int k z).wf=true∧CellsOK M ks cs':=by
 obtain _|⟨v,cs⟩:=cs
 ·exact h.elim
 ·obtain ⟨⟨z,rfl,hz⟩,h⟩:=h
  exact ⟨z,cs,rfl,hz,h⟩
theorem cells_s {M:Nat} {ks:List SK} {cs:List Value} (h:CellsOK M (.s::ks) cs):∃(s:ByteArray) (cs':List Value),cs = .string s::cs'∧s.size≤M∧CellsOK M ks cs':=by
 obtain _|⟨v,cs⟩:=cs
 ·exact h.elim
 ·obtain ⟨⟨z,rfl,hz⟩,h⟩:=h
  exact ⟨z,cs,rfl,hz,h⟩
theorem cells_nil {M:Nat} {cs:List Value} (h:CellsOK M [] cs):cs=[]:=by
 cases cs
 ·rfl
 ·exact h.elim
section
variable {H:Type} {enc:TypeId×Value→H} {W:World} {base:Nat} {v:Value} {d:DataW H} {p:List MemPlace}
theorem aggA {t e:TypeId} {n:Nat} (hu:prog.underlying t=some (.array n e)) (hv:Value.okWide prog W .any base t v):∃cs,v = .agg cs:=by
 simp only [Value.okWide,hu] at hv
 obtain ⟨cs,h,_⟩:=hv
 exact ⟨cs,h⟩
theorem open_agg {t:TypeId} {ks:List SK} (hpl:plainT prog 5 t=true) (hsk:sks prog 5 t=some ks) (hag:∃cs,v = .agg cs) (h:DataW.Trod enc prog W 0 (fun _=>true) true t v d p) :
  ∃cs:List Value,v = .agg cs.toArray∧CellsOK (Rows.uptoBulk d) ks cs∧p=[]∧∀w' base' sp' hd',DataW.Trod enc prog w' base' sp' hd' t v d []:=by
 obtain ⟨cs,rfl⟩:=hag
 obtain ⟨n,hn⟩:=h
 have hc:=Yq n 5 _ W 0 _ _ _ _ _ hpl hsk hn
 obtain ⟨hp,hr⟩:=Ys n 5 _ W 0 _ _ _ _ hpl hn
 dsimp only at hp
 subst hp
 exact ⟨cs.toList,rfl,hc,rfl,fun w' base' sp' hd'=>⟨n,hr w' base' sp' hd'⟩⟩
end
end
section
open Go.ChangeShapes Go.WideShapes Go.ChangeAt

end
end Go.Proofs.YtfcnicnekddliaaGreatDoor
