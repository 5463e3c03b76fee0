/-
  The contract of consequence.Compare.
  Contracts of the statements' own functions: names, out, build.
  Runs of actions as the statements of layer 50 make them.
  Rules for an entry of a map that is changed where it stands (m[k] = append(m[k], ..)).
  Rules for rows of elements that are owned: made, read and written by index; arrays.
  Rules for owned slices that are changed in place; calls of function values where the order is drawn.
  Lists that are changed in a window by exchanges: what sorting algorithms do, without a program.
  The contracts of pdqsort at replevin/object.Name, for windows of less than 50 elements.
  A cut behind the first statements of a function: the rest is walked once.
  Numbers that pdqsort reckons with: the length in bits, the next power of two, xorshift.
  Pivots: median of three, choosePivot. (replevin/object.Name)
  Reversal, sifting down. (replevin/object.Name)
  Sorting by a heap. (replevin/object.Name)
  What a partition keeps while it goes on, without a program.
  Partitions. (replevin/object.Name)
  Insertion that gives up. (replevin/object.Name)
  pdqsort, whole. (replevin/object.Name)
  The contract of slices.SortFunc at replevin/object.Name, for at most 200 elements.
  Slices that stay: the beginning of one, and one appended to another.
  The contract of object.Sort at two names.
  Conditions: those that each theorem states.
-/
import Derived.Test.YtdkndahndgkmnaaGreatDoorJ2
import Derived.Test.YtdkndahndgkmnaaGreatDoorJ1
import Derived.Deep.OwnRows
set_option maxRecDepth 10000
namespace Go.Proofs.YtdkndahndgkmnaaGreatDoor
open Go.RowKit Go.Proofs.Tryz
section
variable {n:Nat} {C:Cx} {Q:Exit→Act→World→Prop} {E E':List (Nat×Value)} {F F' F1 Fs F0:List Pf} {R R' R0 Rs N N' A:List HP} {k k':List Fr} {ops l:List Oper} {i d:Nat} {t ty0:TypeId} {x y z:Operand} {pos:String} {aft:Array Edge} {gd:Option (Nat×Bool)} {α β:Type} [DecidableEq α] {K:α→Value} {V:β→Value}
theorem WW {kt et r:Nat} {rs te:TRow} {m:List (α×β)} {zv:Value} (hk:KeyOK kt K) (a:α) (o:Option β) (ho:mget a m=o) (nx:Wl n C ops.toArray k Q l ((d,(o.map V).getD zv)::E) F R) (hw:wantL ops E ⟨some d,.lookup t x y false,ty0,pos,aft,gd⟩=some true:=by rfl) (hn:Nat.blt d n=true:=by rfl)
  (hx:ev E x=some (.map (some r)):=by rfl) (hy:ev E y=some (K a):=by rfl) (hts:lookT tab t=some rs:=by rfl) (hrs:rs.k = .map kt et:=by rfl) (hte:lookT tab et=some te:=by rfl) (hzv:zval te=some zv:=by rfl)
  (hs:Sel (Mp K V r m) R R0:=by (repeat (first|exact Sel.here|apply Sel.there));first|done|fail):Wl n C ops.toArray k Q (⟨some d,.lookup t x y false,ty0,pos,aft,gd⟩::l) E F R:=by
 subst ho
 exact l_mget hk a nx hw hn hx hy hts hrs hte hzv hs
theorem Xk {kt et r:Nat} {rs te:TRow} {m:List (α×β)} {zv:Value} (hk:KeyOK kt K) (a:α) (o:Option β) (ho:mget a m=o) (nx:Wl n C ops.toArray k Q l ((d,.tuple #[(o.map V).getD zv,.bool o.isSome])::E) F R) (hw:wantL ops E ⟨some d,.lookup t x y true,ty0,pos,aft,gd⟩=some true:=by rfl) (hn:Nat.blt d n=true:=by rfl)
  (hx:ev E x=some (.map (some r)):=by rfl) (hy:ev E y=some (K a):=by rfl) (hts:lookT tab t=some rs:=by rfl) (hrs:rs.k = .map kt et:=by rfl) (hte:lookT tab et=some te:=by rfl) (hzv:zval te=some zv:=by rfl)
  (hs:Sel (Mp K V r m) R R0:=by (repeat (first|exact Sel.here|apply Sel.there));first|done|fail):Wl n C ops.toArray k Q (⟨some d,.lookup t x y true,ty0,pos,aft,gd⟩::l) E F R:=by
 subst ho
 exact l_mget2 hk a nx hw hn hx hy hts hrs hte hzv hs
end
def En.v (e:En):Value:=.agg #[.string e.who,.int .i64 e.nu,.int .i64 e.tk,.int .i64 e.o.ch,.string e.o.tg,.string e.o.tx,.int .i64 e.o.us]
abbrev Sd:=ByteArray×Int
def sdv (s:Sd):Value:=.agg #[.string s.1,.int .i64 s.2]
def En.sd (e:En):Sd:=(e.who,e.nu)
def bv (b:Bool):Value:=.bool b
theorem beqS (a b:ByteArray):(a.toList == b.toList)=decide (a=b):=by
 rw [Zt,Zt,Bool.eq_iff_iff]
 simp only [beq_iff_eq,decide_eq_true_eq]
 exact ⟨fun h=>WG h,fun h=>by rw [h]⟩
theorem beqI (a b:Int):(a == b)=decide (a=b):=by rw [Bool.eq_iff_iff];simp
theorem Yr:KeyOK 173 En.v where
 eq a b w:=by
  refine (equal_ok (t:=173) (x:=En.v a) (y:=En.v b) rfl w).trans ?_
  obtain ⟨a1,a2,a3,a4,a5,a6,a7⟩:=a
  obtain ⟨b1,b2,b3,b4,b5,b6,b7⟩:=b
  congr 1
  simp only [beqS,beqI,En.mk.injEq,Ou.mk.injEq]
  rw [Bool.eq_iff_iff]
  simp
 chk a em w:=ckC_ok Yy em 20 10000 _ _ w (by omega) rfl
 bits a:=by simp [En.v,Instr.sameBits,beq_toListBytes]
 now:=⟨_,rfl,fun a b=>.inl rfl⟩
theorem WE:KeyOK 182 sdv where
 eq a b w:=by
  refine (equal_ok (t:=182) (x:=sdv a) (y:=sdv b) rfl w).trans ?_
  obtain ⟨a1,a2⟩:=a
  obtain ⟨b1,b2⟩:=b
  congr 1
  simp only [beqS,beqI,Prod.mk.injEq]
  rw [Bool.eq_iff_iff]
  simp
 chk a em w:=ckC_ok Yy em 20 10000 _ _ w (by omega) rfl
 bits a:=by simp [sdv,Instr.sameBits,beq_toListBytes]
 now:=⟨_,rfl,fun a b=>.inl rfl⟩
theorem YO {α β:Type} [DecidableEq α] (a:α) (v:β):∀(m:List (α×β)) (b:α),mget b (mset a v m)=if a=b then some v else mget b m
 | [],b=>by
  by_cases h:a=b
  ·subst h;simp [mset,mget]
  ·have:b≠a:=fun e=>h e.symm
   simp [mset,mget,h,this]
 | (c,u)::m,b=>by
  have ih:=YO a v m b
  unfold mset
  by_cases hac:a=c
  ·subst hac
   rw [if_pos rfl,mget,mget]
   by_cases hab:a=b
   ·subst hab;simp
   ·have:b≠a:=fun e=>hab e.symm
    simp [hab,this]
  ·rw [if_neg hac,mget,mget,ih]
   by_cases hab:a=b
   ·subst hab;simp [hac]
   ·simp [hab]
structure Cq where
 kind:Int
 who:ByteArray
 nu:Int
 place:Int
 old:Ou
 oldAt:Int
 new:Ou
 newAt:Int
 deriving DecidableEq
def cqf (c:Cq):List Value:=[.int .i64 c.kind,.string c.who,.int .i64 c.nu,.int .i64 c.place,.int .i64 c.old.ch,.string c.old.tg,.string c.old.tx,.int .i64 c.old.us,.int .i64 c.oldAt,.int .i64 c.new.ch,.string c.new.tg,.string c.new.tx,.int .i64 c.new.us,.int .i64 c.newAt]
def con1 (all:List En) (x:Lf) (p:Nat):Cq:=
 if x.e ∈ all then ⟨1,x.e.who,x.e.nu,p,x.e.o,x.e.tk,x.e.o,x.e.tk⟩
 else match all.find? fun y=>y.sd=x.e.sd with
  | some y=>⟨3,x.e.who,x.e.nu,p,x.e.o,x.e.tk,y.o,y.tk⟩
  | none=>⟨2,x.e.who,x.e.nu,p,x.e.o,x.e.tk,Ou.z,0⟩
def knw (all:List En) (x:Lf):List En:=
 (if x.e ∈ all then [] else match all.find? fun y=>y.sd=x.e.sd with|some y=>[y]|none=>[])++[x.e]
def YM (all:List En) (ls:List Lf):List Cq:=ls.mapIdx fun p x=>con1 all x p
def con2 (y:En):Cq:=⟨4,y.who,y.nu,-1,Ou.z,0,y.o,y.tk⟩
def YH (known:List En) (ys:List En):List Cq:=(ys.filter fun y=>decide (y ∉ known)).map con2
def consE (all:List En) (ls:List Lf):List Cq:=YM all ls++YH (ls.flatMap (knw all)) all
structure C1 (all:List En) where
 i:Nat
 m1:List (En×Bool)
 m2:List (Sd×En)
 hi:i≤all.length
 h1:∀e,mget e m1=if e ∈ all.take i then some true else none
 h2:∀s,mget s m2=(all.take i).find? fun y=>y.sd=s
structure C2 (all:List En) (ls:List Lf) where
 j:Nat
 o:Option Addr
 cap:Nat
 m3:List (En×Bool)
 hj:j≤ls.length
 h3:∀e,mget e m3=if e ∈ (ls.take j).flatMap (knw all) then some true else none
structure C3 (all:List En) where
 i:Nat
 o:Option Addr
 cap:Nat
 hi:i≤all.length
set_option maxHeartbeats 4000000 in
theorem consCompare_ok (b bs:Nat) (es:Al) (ls:List Lf) (hl:ls.length≤1000000) (hal:(allE es).length≤1000000):Enters 29∧Spec prog 29 #[.pointer (some ⟨b,0,none⟩),.pointer (some ⟨bs,0,none⟩)] [LgF b ls,St (some ⟨bs,0,none⟩) es] []
  ⟨Option Addr×Nat,fun q=>.tuple #[.slice q.1 (consE (allE es) ls).length q.2,.int .i64 0],fun _=>True,fun q=>[Sl 27 cqf q.1 q.2 (consE (allE es) ls)],fun _=>[]⟩:=by
 have n1:=outAll_ok (some ⟨bs,0,none⟩) es
 generalize allE es=all at *
 refine Zb [_,_] func29 ntmps29 fun G w hp=>?_
 repeat' (first|refine ZH ?_|refine ZG ?_|refine ZK ?_|refine ZI ?_|refine ZP ?_|refine ZJ ?_|refine ZM ?_|refine ZN (fun b=>?_)|refine ZO (fun b=>?_)|refine ZA ?_|refine ZB ?_|refine ZR ?_|refine ZZ ?_|refine ZW ?_|refine Zf ?_|refine Za ?_|refine ZY ?_|refine Ze (fun b=>?_)|refine Zg (fun b=>?_)|refine Zd ?_|refine ZX ?_|refine ZF (n1) (fun _ _=>?_)|refine l_call0 (n1) (fun _ _=>?_)|refine ZT (n1) (fun _ _=>?_)|refine XS Yr bv (fun r1=>?_)|refine XS WE En.v (fun r2=>?_)|refine ZC (fun hc=>?_) (fun hc=>?_)|refine ZL (fun hc=>?_) (fun hc=>?_)|refine ZD 26 [] [(0,0),(1,0),(2,0),(3,0),(4,0),(5,0),(6,0),(7,4),(8,0),(9,4),(10,0)] [11] ?_|refine ZD 28 [] [(0,0),(1,0),(2,0),(3,0),(4,0),(5,4),(6,0),(7,4),(8,0)] [9] ?_|refine ZE (fun hc=>?_) (fun hc=>?_))
 rename_i q _
 obtain ⟨qo,qc⟩:=q
 refine Yz (X:=C1 all) (Y:={m:List (En×Bool)×List (Sd×En) // (∀e,mget e m.1=if e ∈ all then some true else none)∧∀s,mget s m.2=all.find? fun y=>y.sd=s})
  (fun x=>[(0,.pointer (some ⟨b,0,none⟩)),(6,.slice qo all.length qc),(7,.map (some r1)),(8,.map (some r2)),(34,.slice qo all.length qc),(35,.int .i64 (all.length:Int)),(36,.int .i64 (x.i:Int))]) (fun _=>[LgF b ls,Sl 173 enf qo qc all]) (fun x=>[Mp En.v bv r1 x.m1,Mp sdv En.v r2 x.m2]) (fun x=>all.length - x.i)
  (fun _=>[(0,.pointer (some ⟨b,0,none⟩)),(6,.slice qo all.length qc),(7,.map (some r1)),(8,.map (some r2))]) (fun _=>[LgF b ls,Sl 173 enf qo qc all]) (fun m=>[Mp En.v bv r1 m.1.1,Mp sdv En.v r2 m.1.2])
  ⟨0,[],[],by omega,by simp [mget],by simp [mget]⟩ ⟨rfl,rfl,rfl,rfl,rfl,rfl,rfl,trivial⟩ ?_ ?_
 ·rintro ⟨⟨m1,m2⟩,h1,h2⟩
  dsimp only at h1 h2 ⊢
  repeat' (first|refine ZH ?_|refine ZG ?_|refine ZK ?_|refine ZI ?_|refine ZP ?_|refine ZJ ?_|refine ZM ?_|refine ZN (fun b=>?_)|refine ZO (fun b=>?_)|refine ZA ?_|refine ZB ?_|refine ZR ?_|refine ZZ ?_|refine ZW ?_|refine Zf ?_|refine Za ?_|refine ZY ?_|refine Ze (fun b=>?_)|refine Zg (fun b=>?_)|refine Zd ?_|refine ZX ?_|refine ZF (lgLen_ok b ls) (fun _ _=>?_)|refine l_call0 (lgLen_ok b ls) (fun _ _=>?_)|refine ZT (lgLen_ok b ls) (fun _ _=>?_)|refine XS Yr bv (fun r3=>?_)|refine ZC (fun hc=>?_) (fun hc=>?_)|refine ZL (fun hc=>?_) (fun hc=>?_)|refine ZD 26 [] [(0,0),(1,0),(2,0),(3,0),(4,0),(5,0),(6,0),(7,4),(8,0),(9,4),(10,0)] [11] ?_|refine ZD 28 [] [(0,0),(1,0),(2,0),(3,0),(4,0),(5,4),(6,0),(7,4),(8,0)] [9] ?_|refine ZE (fun hc=>?_) (fun hc=>?_))
  refine Zs (Lx:=[]) (r:=Row 27 14 none 0 0 []) (fun h _=>YQ _ _ h) ?_
  refine Yz (X:=C2 all ls) (Y:={q:Option Addr×Nat×List (En×Bool) // ∀e,mget e q.2.2=if e ∈ ls.flatMap (knw all) then some true else none})
   (fun x=>[(0,.pointer (some ⟨b,0,none⟩)),(6,.slice qo all.length qc),(7,.map (some r1)),(8,.map (some r2)),(14,.slice x.o (YM all (ls.take x.j)).length x.cap),(15,.map (some r3)),(61,.int .i64 (ls.length:Int)),(62,.int .i64 (x.j:Int))]) (fun _=>[LgF b ls,Sl 173 enf qo qc all]) (fun x=>[Mp En.v bv r1 m1,Mp sdv En.v r2 m2,Mp En.v bv r3 x.m3,Row 27 14 x.o (YM all (ls.take x.j)).length x.cap ((YM all (ls.take x.j)).flatMap cqf)]) (fun x=>ls.length - x.j)
   (fun y=>[(6,.slice qo all.length qc),(14,.slice y.1.1 (YM all ls).length y.1.2.1),(15,.map (some r3))]) (fun _=>[Sl 173 enf qo qc all]) (fun y=>[Mp En.v bv r3 y.1.2.2,Row 27 14 y.1.1 (YM all ls).length y.1.2.1 ((YM all ls).flatMap cqf)])
   ⟨0,none,0,[],by omega,by simp [mget]⟩ ⟨rfl,rfl,rfl,rfl,rfl,rfl,rfl,rfl,trivial⟩ ?_ ?_
  ·rintro ⟨⟨o,cap,m3⟩,h3⟩
   dsimp only at h3 ⊢
   have hcl:(YM all ls).length=ls.length:=by simp [YM]
   generalize hK:ls.flatMap (knw all)=K at h3
   have hfin:consE all ls=YM all ls++YH K all:=by rw [consE,hK]
   rw [hfin]
   generalize YM all ls=A at *
   have e0:A=A++YH K (all.take 0):=by simp [YH]
   repeat' (first|refine ZH ?_|refine ZG ?_|refine ZK ?_|refine ZI ?_|refine ZP ?_|refine ZJ ?_|refine ZM ?_|refine ZN (fun b=>?_)|refine ZO (fun b=>?_)|refine ZA ?_|refine ZB ?_|refine ZR ?_|refine ZZ ?_|refine ZW ?_|refine Zf ?_|refine Za ?_|refine ZY ?_|refine Ze (fun b=>?_)|refine Zg (fun b=>?_)|refine Zd ?_|refine ZX ?_|refine ZC (fun hc=>?_) (fun hc=>?_)|refine ZL (fun hc=>?_) (fun hc=>?_)|refine ZD 26 [] [(0,0),(1,0),(2,0),(3,0),(4,0),(5,0),(6,0),(7,4),(8,0),(9,4),(10,0)] [11] ?_|refine ZD 28 [] [(0,0),(1,0),(2,0),(3,0),(4,0),(5,4),(6,0),(7,4),(8,0)] [9] ?_|refine ZE (fun hc=>?_) (fun hc=>?_))
   refine Ys (T:=27) (sz:=14) (o:=o) (cap:=cap) (m:=A.length) (m':=(A++YH K (all.take 0)).length) (A.flatMap cqf) ((A++YH K (all.take 0)).flatMap cqf) (by rw [←e0]) (by rw [←e0]) ?_
   refine Z6 (X:=C3 all) (fun x=>[(14,.slice x.o (A++YH K (all.take x.i)).length x.cap),(15,.map (some r3)),(133,.slice qo all.length qc),(134,.int .i64 (all.length:Int)),(135,.int .i64 (x.i:Int))]) (fun _=>[Sl 173 enf qo qc all]) (fun x=>[Mp En.v bv r3 m3,Row 27 14 x.o (A++YH K (all.take x.i)).length x.cap ((A++YH K (all.take x.i)).flatMap cqf)]) (fun x=>all.length - x.i) ⟨0,o,cap,by omega⟩ ⟨by rw [←e0];rfl,rfl,rfl,rfl,rfl,trivial⟩ ?_
   rintro ⟨i,o,cap,hi⟩
   dsimp only
   have hln:(A++YH K (all.take i)).length≤2000000:=by
    have h4:(YH K (all.take i)).length≤(all.take i).length:=by simp only [YH,List.length_map];exact List.length_filter_le ..
    simp only [List.length_append,List.length_take] at h4 ⊢
    omega
   have hln2:A.length+(YH K (all.take i)).length≤2000000:=by simpa only [List.length_append] using hln
   by_cases hlt:i<all.length
   ·obtain ⟨e,he⟩:∃e,all[i]? = some e:=⟨_,List.getElem?_eq_getElem hlt⟩
    have htk:all.take (i+1)=all.take i++[e]:=by rw [List.take_add_one,he];rfl
    have n3:=h3 e
    by_cases hin:e ∈ K
    ·rw [if_pos hin] at n3
     have e3:YH K (all.take (i+1))=YH K (all.take i):=by simp [YH,htk,hin]
     repeat' (first|refine ZH ?_|refine ZG ?_|refine ZK ?_|refine ZI ?_|refine ZP ?_|refine ZJ ?_|refine ZM ?_|refine ZN (fun b=>?_)|refine ZO (fun b=>?_)|refine ZA ?_|refine ZB ?_|refine ZR ?_|refine ZZ ?_|refine ZW ?_|refine Zf ?_|refine Za ?_|refine ZY ?_|refine Ze (fun b=>?_)|refine Zg (fun b=>?_)|refine Zd ?_|refine ZX ?_|refine Zp (es:=all) i e he (fun b off=>?_)|refine Zm ?_|refine WW Yr e (some true) n3 ?_|(refine ZC (fun hc=>?_) (fun hc=>?_)<;>(try simp at hc)<;>(try omega))|(refine ZL (fun hc=>?_) (fun hc=>?_)<;>(try simp at hc)<;>(try omega))|refine ZD 26 [] [(0,0),(1,0),(2,0),(3,0),(4,0),(5,0),(6,0),(7,4),(8,0),(9,4),(10,0)] [11] ?_|refine ZD 28 [] [(0,0),(1,0),(2,0),(3,0),(4,0),(5,4),(6,0),(7,4),(8,0)] [9] ?_|(refine ZE (fun hc=>?_) (fun hc=>?_)<;>(try simp at hc)<;>(try omega)))
     rw [wrapi (z:=(i:Int)+1) (by omega) (by omega),←e3]
     exact Zc ⟨i+1,o,cap,by omega⟩ (by show all.length - (i+1)<all.length - i;omega) ⟨rfl,rfl,rfl,rfl,rfl,trivial⟩
    ·rw [if_neg hin] at n3
     have e3:YH K (all.take (i+1))=YH K (all.take i)++[con2 e]:=by simp [YH,htk,hin]
     have e1:(A++YH K (all.take i)).length+1=(A++YH K (all.take (i+1))).length:=by rw [e3];simp;omega
     have e2:(A++YH K (all.take i)).flatMap cqf++cqf (con2 e)=(A++YH K (all.take (i+1))).flatMap cqf:=by rw [e3];simp
     repeat' (first|refine ZH ?_|refine ZG ?_|refine ZK ?_|refine ZI ?_|refine ZP ?_|refine ZJ ?_|refine ZM ?_|refine ZN (fun b=>?_)|refine ZO (fun b=>?_)|refine ZA ?_|refine ZB ?_|refine ZR ?_|refine ZZ ?_|refine ZW ?_|refine Zf ?_|refine Za ?_|refine ZY ?_|refine Ze (fun b=>?_)|refine Zg (fun b=>?_)|refine Zd ?_|refine ZX ?_|refine Zp (es:=all) i e he (fun b off=>?_)|refine Zm ?_|refine WW Yr e none n3 ?_|refine Yq (fun o' cap'=>?_)|(refine ZC (fun hc=>?_) (fun hc=>?_)<;>(try simp at hc)<;>(try omega))|(refine ZL (fun hc=>?_) (fun hc=>?_)<;>(try simp at hc)<;>(try omega))|refine ZD 26 [] [(0,0),(1,0),(2,0),(3,0),(4,0),(5,0),(6,0),(7,4),(8,0),(9,4),(10,0)] [11] ?_|refine ZD 28 [] [(0,0),(1,0),(2,0),(3,0),(4,0),(5,4),(6,0),(7,4),(8,0)] [9] ?_|(refine ZE (fun hc=>?_) (fun hc=>?_)<;>(try simp at hc)<;>(try omega)))
     rw [wrapi (z:=(i:Int)+1) (by omega) (by omega)]
     refine Ys (T:=27) (sz:=14) (o:=o') (cap:=cap') (m:=(A++YH K (all.take i)).length+1) _ _ e1 e2 ?_
     rw [e1]
     exact Zc ⟨i+1,o',cap',by omega⟩ (by show all.length - (i+1)<all.length - i;omega) ⟨rfl,rfl,rfl,rfl,rfl,trivial⟩
   ·have e:all.take i=all:=List.take_of_length_le (by omega)
    rw [e]
    repeat' (first|refine ZH ?_|refine ZG ?_|refine ZK ?_|refine ZI ?_|refine ZP ?_|refine ZJ ?_|refine ZM ?_|refine ZN (fun b=>?_)|refine ZO (fun b=>?_)|refine ZA ?_|refine ZB ?_|refine ZR ?_|refine ZZ ?_|refine ZW ?_|refine Zf ?_|refine Za ?_|refine ZY ?_|refine Ze (fun b=>?_)|refine Zg (fun b=>?_)|refine Zd ?_|refine ZX ?_|(refine ZC (fun hc=>?_) (fun hc=>?_)<;>(try simp at hc)<;>(try omega))|(refine ZL (fun hc=>?_) (fun hc=>?_)<;>(try simp at hc)<;>(try omega))|refine ZD 26 [] [(0,0),(1,0),(2,0),(3,0),(4,0),(5,0),(6,0),(7,4),(8,0),(9,4),(10,0)] [11] ?_|refine ZD 28 [] [(0,0),(1,0),(2,0),(3,0),(4,0),(5,4),(6,0),(7,4),(8,0)] [9] ?_|(refine ZE (fun hc=>?_) (fun hc=>?_)<;>(try simp at hc)<;>(try omega)))
    refine Xt (T:=27) (sz:=14) (f:=cqf) (o:=o) (cap:=cap) (A++YH K all) ?_ rfl rfl
    exact ZS (o,cap) rfl trivial
  ·rintro hx2 ⟨j,o,cap,m3,hj,h3⟩
   dsimp only
   have hcl:(YM all (ls.take j)).length=j:=by simp [YM];omega
   by_cases hlt:j<ls.length
   ·obtain ⟨x,hxj⟩:∃x,ls[j]? = some x:=⟨_,List.getElem?_eq_getElem hlt⟩
    have htk:ls.take (j+1)=ls.take j++[x]:=by rw [List.take_add_one,hxj];rfl
    have hc1:YM all (ls.take (j+1))=YM all (ls.take j)++[con1 all x j]:=by
     rw [htk,YM,List.mapIdx_append]
     simp [YM]
     congr 1;omega
    have e1:(YM all (ls.take j)).length+1=(YM all (ls.take (j+1))).length:=by rw [hc1];simp
    have e2:(YM all (ls.take j)).flatMap cqf++cqf (con1 all x j)=(YM all (ls.take (j+1))).flatMap cqf:=by rw [hc1];simp
    have n2:=lgGet_ok b ls j x hxj
    have n3:=h2 x.e.sd
    have n4:=h1 x.e
    by_cases hin:x.e ∈ all
    ·rw [if_pos hin] at n4
     cases hfd:all.find? fun y=>decide (y.sd=x.e.sd) with
     | none=>exact (List.find?_eq_none.1 hfd x.e hin (by simp)).elim
     | some y=>
      rw [hfd] at n3
      have hcon:con1 all x j=⟨1,x.e.who,x.e.nu,j,x.e.o,x.e.tk,x.e.o,x.e.tk⟩:=by rw [con1,if_pos hin]
      have g3:∀e,mget e (mset x.e true m3)=if e ∈ (ls.take (j+1)).flatMap (knw all) then some true else none:=fun e=>by
       rw [YO,h3 e,htk]
       simp only [List.flatMap_append,List.flatMap_cons,List.flatMap_nil,List.append_nil,knw,if_pos hin,List.nil_append,List.mem_append,List.mem_singleton]
       by_cases hee:x.e=e
       ·subst hee;simp
       ·have:e≠x.e:=fun h=>hee h.symm
        simp [hee,this]
      rw [hcon] at e2
      repeat' (first|refine ZH ?_|refine ZG ?_|refine ZK ?_|refine ZI ?_|refine ZP ?_|refine ZJ ?_|refine ZM ?_|refine ZN (fun b=>?_)|refine ZO (fun b=>?_)|refine ZA ?_|refine ZB ?_|refine ZZ ?_|refine ZW ?_|refine Zf ?_|refine Za ?_|refine ZY ?_|refine Ze (fun b=>?_)|refine Zg (fun b=>?_)|refine Zd ?_|refine ZX ?_|refine ZF (n2) (fun _ _=>?_)|refine l_call0 (n2) (fun _ _=>?_)|refine ZT (n2) (fun _ _=>?_)|refine Xk WE x.e.sd (some y) n3 ?_|refine WW Yr x.e (some true) n4 ?_|refine XJ Yr x.e true ?_|refine Yq (fun o' cap'=>?_)|(refine ZC (fun hc=>?_) (fun hc=>?_)<;>(try simp at hc)<;>(try omega))|(refine ZL (fun hc=>?_) (fun hc=>?_)<;>(try simp at hc)<;>(try omega))|refine ZD 26 [Pt _ (.cells _ 27 _)] [(0,0),(1,0),(2,0),(3,0),(4,0),(5,0),(6,0),(7,4),(8,0),(9,4),(10,0),(11,4)] [] ?_|refine ZD 28 [Pt _ (.cells _ 27 _)] [(0,0),(1,0),(2,0),(3,0),(4,0),(5,4),(6,0),(7,4),(8,0),(9,4)] [] ?_|(refine ZE (fun hc=>?_) (fun hc=>?_)<;>(try simp at hc)<;>(try omega)))
      rw [wrapi (z:=(j:Int)+1) (by omega) (by omega)]
      refine Ys (T:=27) (sz:=14) (o:=o') (cap:=cap') (m:=(YM all (ls.take j)).length+1) _ _ e1 e2 ?_
      rw [e1]
      exact Zc ⟨j+1,o',cap',_,by omega,g3⟩ (by show ls.length - (j+1)<ls.length - j;omega) ⟨rfl,rfl,rfl,rfl,rfl,rfl,rfl,rfl,trivial⟩
    ·rw [if_neg hin] at n4
     cases hfd:all.find? fun y=>decide (y.sd=x.e.sd) with
     | none=>
      rw [hfd] at n3
      have hcon:con1 all x j=⟨2,x.e.who,x.e.nu,j,x.e.o,x.e.tk,Ou.z,0⟩:=by rw [con1,if_neg hin,hfd]
      have g3:∀e,mget e (mset x.e true m3)=if e ∈ (ls.take (j+1)).flatMap (knw all) then some true else none:=fun e=>by
       rw [YO,h3 e,htk]
       simp only [List.flatMap_append,List.flatMap_cons,List.flatMap_nil,List.append_nil,knw,if_neg hin,hfd,List.nil_append,List.mem_append,List.mem_singleton]
       by_cases hee:x.e=e
       ·subst hee;simp
       ·have:e≠x.e:=fun h=>hee h.symm
        simp [hee,this]
      rw [hcon] at e2
      repeat' (first|refine ZH ?_|refine ZG ?_|refine ZK ?_|refine ZI ?_|refine ZP ?_|refine ZJ ?_|refine ZM ?_|refine ZN (fun b=>?_)|refine ZO (fun b=>?_)|refine ZA ?_|refine ZB ?_|refine ZZ ?_|refine ZW ?_|refine Zf ?_|refine Za ?_|refine ZY ?_|refine Ze (fun b=>?_)|refine Zg (fun b=>?_)|refine Zd ?_|refine ZX ?_|refine ZF (n2) (fun _ _=>?_)|refine l_call0 (n2) (fun _ _=>?_)|refine ZT (n2) (fun _ _=>?_)|refine Xk WE x.e.sd none n3 ?_|refine WW Yr x.e none n4 ?_|refine XJ Yr x.e true ?_|refine Yq (fun o' cap'=>?_)|(refine ZC (fun hc=>?_) (fun hc=>?_)<;>(try simp at hc)<;>(try omega))|(refine ZL (fun hc=>?_) (fun hc=>?_)<;>(try simp at hc)<;>(try omega))|refine ZD 26 [Pt _ (.cells _ 27 _)] [(0,0),(1,0),(2,0),(3,0),(4,0),(5,0),(6,0),(7,4),(8,0),(9,4),(10,0),(11,4)] [] ?_|refine ZD 28 [Pt _ (.cells _ 27 _)] [(0,0),(1,0),(2,0),(3,0),(4,0),(5,4),(6,0),(7,4),(8,0),(9,4)] [] ?_|(refine ZE (fun hc=>?_) (fun hc=>?_)<;>(try simp at hc)<;>(try omega)))
      rw [wrapi (z:=(j:Int)+1) (by omega) (by omega)]
      refine Ys (T:=27) (sz:=14) (o:=o') (cap:=cap') (m:=(YM all (ls.take j)).length+1) _ _ e1 e2 ?_
      rw [e1]
      exact Zc ⟨j+1,o',cap',_,by omega,g3⟩ (by show ls.length - (j+1)<ls.length - j;omega) ⟨rfl,rfl,rfl,rfl,rfl,rfl,rfl,rfl,trivial⟩
     | some y=>
      rw [hfd] at n3
      have hcon:con1 all x j=⟨3,x.e.who,x.e.nu,j,x.e.o,x.e.tk,y.o,y.tk⟩:=by rw [con1,if_neg hin,hfd]
      have g3:∀e,mget e (mset x.e true (mset y true m3))=if e ∈ (ls.take (j+1)).flatMap (knw all) then some true else none:=fun e=>by
       rw [YO,YO,h3 e,htk]
       simp only [List.flatMap_append,List.flatMap_cons,List.flatMap_nil,List.append_nil,knw,if_neg hin,hfd,List.mem_append,List.mem_singleton]
       by_cases hee:x.e=e
       ·subst hee;simp
       ·have h5:e≠x.e:=fun h=>hee h.symm
        by_cases hye:y=e
        ·subst hye;simp [hee]
        ·have h6:e≠y:=fun h=>hye h.symm
         simp [hee,hye,h5,h6]
      rw [hcon] at e2
      repeat' (first|refine ZH ?_|refine ZG ?_|refine ZK ?_|refine ZI ?_|refine ZP ?_|refine ZJ ?_|refine ZM ?_|refine ZN (fun b=>?_)|refine ZO (fun b=>?_)|refine ZA ?_|refine ZB ?_|refine ZZ ?_|refine ZW ?_|refine Zf ?_|refine Za ?_|refine ZY ?_|refine Ze (fun b=>?_)|refine Zg (fun b=>?_)|refine Zd ?_|refine ZX ?_|refine ZF (n2) (fun _ _=>?_)|refine l_call0 (n2) (fun _ _=>?_)|refine ZT (n2) (fun _ _=>?_)|refine Xk WE x.e.sd (some y) n3 ?_|refine WW Yr x.e none n4 ?_|refine XJ Yr x.e true ?_|refine XJ Yr y true ?_|refine Yq (fun o' cap'=>?_)|(refine ZC (fun hc=>?_) (fun hc=>?_)<;>(try simp at hc)<;>(try omega))|(refine ZL (fun hc=>?_) (fun hc=>?_)<;>(try simp at hc)<;>(try omega))|refine ZD 26 [Pt _ (.cells _ 27 _)] [(0,0),(1,0),(2,0),(3,0),(4,0),(5,0),(6,0),(7,4),(8,0),(9,4),(10,0),(11,4)] [] ?_|refine ZD 28 [Pt _ (.cells _ 27 _)] [(0,0),(1,0),(2,0),(3,0),(4,0),(5,4),(6,0),(7,4),(8,0),(9,4)] [] ?_|(refine ZE (fun hc=>?_) (fun hc=>?_)<;>(try simp at hc)<;>(try omega)))
      rw [wrapi (z:=(j:Int)+1) (by omega) (by omega)]
      refine Ys (T:=27) (sz:=14) (o:=o') (cap:=cap') (m:=(YM all (ls.take j)).length+1) _ _ e1 e2 ?_
      rw [e1]
      exact Zc ⟨j+1,o',cap',_,by omega,g3⟩ (by show ls.length - (j+1)<ls.length - j;omega) ⟨rfl,rfl,rfl,rfl,rfl,rfl,rfl,rfl,trivial⟩
   ·have e:ls.take j=ls:=List.take_of_length_le (by omega)
    rw [e] at h3
    rw [e]
    repeat' (first|refine ZH ?_|refine ZG ?_|refine ZK ?_|refine ZI ?_|refine ZP ?_|refine ZJ ?_|refine ZM ?_|refine ZN (fun b=>?_)|refine ZO (fun b=>?_)|refine ZA ?_|refine ZB ?_|refine ZZ ?_|refine ZW ?_|refine Zf ?_|refine Za ?_|refine ZY ?_|refine Ze (fun b=>?_)|refine Zg (fun b=>?_)|refine Zd ?_|refine ZX ?_|(refine ZC (fun hc=>?_) (fun hc=>?_)<;>(try simp at hc)<;>(try omega))|(refine ZL (fun hc=>?_) (fun hc=>?_)<;>(try simp at hc)<;>(try omega))|refine ZD 26 [] [(0,0),(1,0),(2,0),(3,0),(4,0),(5,0),(6,0),(7,4),(8,0),(9,4),(10,0)] [11] ?_|refine ZD 28 [] [(0,0),(1,0),(2,0),(3,0),(4,0),(5,4),(6,0),(7,4),(8,0)] [9] ?_|(refine ZE (fun hc=>?_) (fun hc=>?_)<;>(try simp at hc)<;>(try omega)))
    exact YD hx2 ⟨(o,cap,m3),h3⟩ ⟨rfl,rfl,rfl,trivial⟩
 ·rintro hx ⟨i,m1,m2,hi,h1,h2⟩
  dsimp only
  by_cases hlt:i<all.length
  ·obtain ⟨e,he⟩:∃e,all[i]? = some e:=⟨_,List.getElem?_eq_getElem hlt⟩
   have htk:all.take (i+1)=all.take i++[e]:=by rw [List.take_add_one,he];rfl
   have g1:∀e',mget e' (mset e true m1)=if e' ∈ all.take (i+1) then some true else none:=fun e'=>by
    rw [YO,h1 e',htk]
    by_cases hee:e=e'
    ·subst hee;simp
    ·have:e'≠e:=fun h=>hee h.symm
     simp [hee,this]
   cases hg:mget e.sd m2 with
   | none=>
    have g2:∀s,mget s (mset e.sd e m2)=(all.take (i+1)).find? fun y=>y.sd=s:=fun s=>by
     rw [YO,h2 s,htk,List.find?_append]
     by_cases hes:e.sd=s
     ·subst hes
      rw [←h2,hg];simp
     ·simp [hes]
    repeat' (first|refine ZH ?_|refine ZG ?_|refine ZK ?_|refine ZI ?_|refine ZP ?_|refine ZJ ?_|refine ZM ?_|refine ZN (fun b=>?_)|refine ZO (fun b=>?_)|refine ZA ?_|refine ZB ?_|refine ZZ ?_|refine ZW ?_|refine Zf ?_|refine Za ?_|refine ZY ?_|refine Ze (fun b=>?_)|refine Zg (fun b=>?_)|refine Zd ?_|refine ZX ?_|refine Zp (es:=all) i e he (fun b off=>?_)|refine Zm ?_|refine XJ Yr e true ?_|refine Xk WE e.sd none hg ?_|refine XJ WE e.sd e ?_|(refine ZC (fun hc=>?_) (fun hc=>?_)<;>(try simp at hc)<;>(try omega))|(refine ZL (fun hc=>?_) (fun hc=>?_)<;>(try simp at hc)<;>(try omega))|refine ZD 26 [] [(0,0),(1,0),(2,0),(3,0),(4,0),(5,0),(6,0),(7,4),(8,0),(9,4),(10,0)] [11] ?_|refine ZD 28 [] [(0,0),(1,0),(2,0),(3,0),(4,0),(5,4),(6,0),(7,4),(8,0)] [9] ?_|(refine ZE (fun hc=>?_) (fun hc=>?_)<;>(try simp at hc)<;>(try omega)))
    rw [wrapi (z:=(i:Int)+1) (by omega) (by omega)]
    exact Zc ⟨i+1,_,_,by omega,g1,g2⟩ (by show all.length - (i+1)<all.length - i;omega) ⟨rfl,rfl,rfl,rfl,rfl,rfl,rfl,trivial⟩
   | some e0=>
    have g2:∀s,mget s m2=(all.take (i+1)).find? fun y=>y.sd=s:=fun s=>by
     rw [htk,List.find?_append,←h2]
     by_cases hes:e.sd=s
     ·subst hes;rw [hg];simp
     ·simp [hes]
    repeat' (first|refine ZH ?_|refine ZG ?_|refine ZK ?_|refine ZI ?_|refine ZP ?_|refine ZJ ?_|refine ZM ?_|refine ZN (fun b=>?_)|refine ZO (fun b=>?_)|refine ZA ?_|refine ZB ?_|refine ZZ ?_|refine ZW ?_|refine Zf ?_|refine Za ?_|refine ZY ?_|refine Ze (fun b=>?_)|refine Zg (fun b=>?_)|refine Zd ?_|refine ZX ?_|refine Zp (es:=all) i e he (fun b off=>?_)|refine Zm ?_|refine XJ Yr e true ?_|refine Xk WE e.sd (some e0) hg ?_|(refine ZC (fun hc=>?_) (fun hc=>?_)<;>(try simp at hc)<;>(try omega))|(refine ZL (fun hc=>?_) (fun hc=>?_)<;>(try simp at hc)<;>(try omega))|refine ZD 26 [] [(0,0),(1,0),(2,0),(3,0),(4,0),(5,0),(6,0),(7,4),(8,0),(9,4),(10,0)] [11] ?_|refine ZD 28 [] [(0,0),(1,0),(2,0),(3,0),(4,0),(5,4),(6,0),(7,4),(8,0)] [9] ?_|(refine ZE (fun hc=>?_) (fun hc=>?_)<;>(try simp at hc)<;>(try omega)))
    rw [wrapi (z:=(i:Int)+1) (by omega) (by omega)]
    exact Zc ⟨i+1,_,_,by omega,g1,g2⟩ (by show all.length - (i+1)<all.length - i;omega) ⟨rfl,rfl,rfl,rfl,rfl,rfl,rfl,trivial⟩
  ·have e:all.take i=all:=List.take_of_length_le (by omega)
   rw [e] at h1 h2
   repeat' (first|refine ZH ?_|refine ZG ?_|refine ZK ?_|refine ZI ?_|refine ZP ?_|refine ZJ ?_|refine ZM ?_|refine ZN (fun b=>?_)|refine ZO (fun b=>?_)|refine ZA ?_|refine ZB ?_|refine ZZ ?_|refine ZW ?_|refine Zf ?_|refine Za ?_|refine ZY ?_|refine Ze (fun b=>?_)|refine Zg (fun b=>?_)|refine Zd ?_|refine ZX ?_|(refine ZC (fun hc=>?_) (fun hc=>?_)<;>(try simp at hc)<;>(try omega))|(refine ZL (fun hc=>?_) (fun hc=>?_)<;>(try simp at hc)<;>(try omega))|refine ZD 26 [] [(0,0),(1,0),(2,0),(3,0),(4,0),(5,0),(6,0),(7,4),(8,0),(9,4),(10,0)] [11] ?_|refine ZD 28 [] [(0,0),(1,0),(2,0),(3,0),(4,0),(5,4),(6,0),(7,4),(8,0)] [9] ?_|(refine ZE (fun hc=>?_) (fun hc=>?_)<;>(try simp at hc)<;>(try omega)))
   exact YD hx ⟨(m1,m2),h1,h2⟩ ⟨rfl,rfl,rfl,rfl,trivial⟩
variable {n:Nat} {C:Cx} {Q:Exit→Act→World→Prop} {E E':List (Nat×Value)} {F F' F1 Fs F0:List Pf} {R R' R0 Rs N N' A:List HP} {k k':List Fr} {ops l:List Oper} {L L':List (Nat×Nat)} {Tl:List Nat} {d:Nat} {t ty0:TypeId} {x y:Operand} {pos:String} {aft:Array Edge} {gd:Option (Nat×Bool)}
section
variable {i:Nat} {v:Value}
theorem run_sslice {s:ByteArray} {z:Int} {rs:TRow} {w:World} (hi:Nat) (hle:hi≤s.size) (hts:lookT tab t=some rs) (hrs:rs.k = .str) (hz:z=(hi:Int)):(Instr.sliceAt t (.string s) none (some (.int .i64 z)) none).run prog w = .ok (.string (s.extract 0 hi)) w:=by
 subst hz
 have hu:=Y4 (w:=w) hts hrs
 have hb:(Instr.sliceBound (.int .i64 (hi:Int)) s.size .sliceAlen).run prog w = .ok hi w:=by
  simp only [Instr.sliceBound,asIntOf,Sem.run_bind,Sem.run_pure,Result.andThen]
  rw [if_pos ⟨by omega,by omega⟩]
  simp
 simp [Instr.sliceAt,Instr.slice,Instr.sliceBounds,Sem.run_bind,hu,Result.andThen,hb]
theorem r_ssl {s:ByteArray} {z:Int} {rs:TRow} (hi:Nat) (hle:hi≤s.size) (nx:Wr n C ops k Q Tl Fs R L ((d,.string (s.extract 0 hi))::E) F N)
  (ho:nth ops i=some ⟨some d,.slice t x none (some y) none,ty0,pos,aft,gd⟩:=by rfl) (hw:wantL ops E ⟨some d,.slice t x none (some y) none,ty0,pos,aft,gd⟩=some true:=by rfl) (hx:ev E x=some (.string s):=by rfl) (hy:ev E y=some (.int .i64 z):=by rfl)
  (hts:lookT tab t=some rs:=by rfl) (hrs:rs.k = .str:=by rfl) (hz:z=(hi:Int):=by first|rfl|omega):Wr n C ops k Q Tl Fs R ((i,0)::L) E F N:=
 r_q (fun a w ha=>by
  simp only [execOp,Option.map_some,Option.map_none,ha.ev (x:=x) (by rw [ZU];exact hx),ha.ev (x:=y) (by rw [ZU];exact hy),Sem.run_bind,run_sslice (w:=w) hi hle hts hrs hz,Result.andThen,Sem.run_pure]) nx ho hw
theorem r_aix {cs:Array Value} {kd:IntKind} {m T:Nat} {z:Int} {rs tr:TRow} (j:Nat) (v:Value) (hv:cs[j]? = some v) (nx:Wr n C ops k Q Tl Fs R L ((d,v)::E) F N)
  (ho:nth ops i=some ⟨some d,.index t x y,ty0,pos,aft,gd⟩:=by rfl) (hw:wantL ops E ⟨some d,.index t x y,ty0,pos,aft,gd⟩=some true:=by rfl) (hx:ev E x=some (.agg cs):=by rfl) (hy:ev E y=some (.int kd z):=by rfl)
  (hts:lookT tab t=some rs:=by rfl) (hrs:rs.k = .arr m T:=by rfl) (hT:lookT tab T=some tr:=by rfl) (hsz:tr.size=1:=by rfl) (hag:tr.k.isAgg=false:=by rfl) (hot:tr.k≠.other:=by simp) (hm:cs.size=m:=by rfl) (hz:z=(j:Int):=by first|rfl|omega):Wr n C ops k Q Tl Fs R ((i,0)::L) E F N:=
 r_q (fun a w ha=>by
  subst hz
  have hlt:j<m:=by rw [←hm];exact (Array.getElem?_eq_some_iff.1 hv).1
  obtain ⟨d1,hd1,hk1⟩:=Zl.und hts
  rw [hrs] at hk1
  have hu1:(underlying t).run prog w = .ok (.array m T) w:=by
   cases d1<;>simp [chkKind] at hk1
   obtain ⟨rfl,rfl⟩:=hk1
   simp [underlying,hd1,go_sem]
  have hs1:=Zl.sizeOf hT w
  rw [hsz] at hs1
  have hia:=Zl.isAgg hT hot w
  rw [hag] at hia
  have hp:(part T cs j).run prog w = .ok v w:=by
   unfold part
   simp only [Sem.run_bind,hia,Result.andThen,Bool.false_eq_true,if_false,hv,Sem.run_pure]
  have hr:(Instr.index t (.agg cs) (.int kd (j:Int))).run prog w = .ok v w:=by
   unfold Instr.index
   simp only [asIntOf,Sem.run_bind,Sem.run_pure,Result.andThen,hu1]
   have hc:(0:Int)≤(j:Int)∧(j:Int)<((m:Nat):Int):=⟨by omega,by omega⟩
   rw [if_pos hc]
   simp only [Sem.run_bind,hs1,Result.andThen,Int.toNat_natCast,Nat.mul_one]
   exact hp
  simp only [execOp,ha.ev (x:=x) (by rw [ZU];exact hx),ha.ev (x:=y) (by rw [ZU];exact hy),Sem.run_bind,hr,Result.andThen,Sem.run_pure]) nx ho hw
end
structure It where
 who:UInt8
 nu:UInt8
 tk:UInt8
 ch:UInt8
 tx:ByteArray
def itf (x:It):List Value:=[.int .u8 x.who.toNat,.int .u8 x.nu.toNat,.int .u8 x.tk.toNat,.int .u8 x.ch.toNat,.string x.tx]
def It.v (x:It):Value:=.agg #[.int .u8 x.who.toNat,.int .u8 x.nu.toNat,.int .u8 x.tk.toNat,.int .u8 x.ch.toNat,.string x.tx]
def nm0:ByteArray:=⟨#[49]⟩
def nm1:ByteArray:=⟨#[49,46,50]⟩
def nm2:ByteArray:=⟨#[51]⟩
def Yk (j:Nat):ByteArray:=if j=0 then nm0 else if j=1 then nm1 else nm2
def ito (x:It):Ou:=⟨1+(x.ch.toNat % 4:Nat),⟨#[116]⟩,x.tx.extract 0 (min x.tx.size 20),5⟩
def itn (x:It):Nm:=⟨18,Yk (x.who.toNat % 3),(x.nu.toNat % 4:Nat),(x.tk.toNat % 8:Nat),⟨#[]⟩⟩
def itl (x:It) (p:Nat):Lf:=⟨⟨Yk (x.who.toNat % 3),(x.nu.toNat % 4:Nat),(x.tk.toNat % 8:Nat),ito x⟩,(9+p:Nat),(p / 5:Nat)⟩
theorem Z9:Enters 9∧Spec prog 9 #[] [] [] (RetV (.agg #[.string nm0,.string nm1,.string nm2])):=by
 refine Zb [] func9 ntmps9 fun G w hp=>?_
 repeat' (first|refine ZH ?_|refine ZG ?_|refine ZK ?_|refine ZI ?_|refine ZP ?_|refine ZJ ?_|refine ZM ?_|refine ZN (fun b=>?_)|refine ZO (fun b=>?_)|refine ZA ?_|refine ZB ?_|refine ZR ?_|refine ZC (fun hc=>?_) (fun hc=>?_)|refine ZE (fun hc=>?_) (fun hc=>?_))
 exact ZS () rfl trivial
theorem WR {j:Nat} (h:j<3):(#[Value.string nm0,.string nm1,.string nm2])[j]? = some (.string (Yk j)):=by
 match j,h with
 | 0,_=>rfl
 | 1,_=>rfl
 | 2,_=>rfl
theorem Zx {z:Int} (h1:0≤z) (h2:z<9223372036854775808):IntKind.i64.wrap z=z:=wrapi (by omega) h2
theorem tmodN (a b:Nat):(a:Int).tmod (b:Int)=((a % b:Nat):Int):=by
 rw [Int.tmod_eq_emod_of_nonneg (Int.natCast_nonneg a)];exact (Int.natCast_emod a b).symm
theorem tdivN (a b:Nat):(a:Int).tdiv (b:Int)=((a / b:Nat):Int):=by
 rw [Int.tdiv_eq_ediv_of_nonneg (Int.natCast_nonneg a)];exact (Int.natCast_ediv a b).symm
theorem out_ok (x:It) (hx:x.tx.size≤1099511627776):Enters 75∧Spec prog 75 #[x.v] [] [] (RetV (ito x).v):=by
 have hch:(x.ch.toNat:Int).tmod 4=((x.ch.toNat % 4:Nat):Int):=tmodN _ 4
 have hmin:(if (20:Int)<(x.tx.size:Int) then (20:Int) else (x.tx.size:Int))=((min x.tx.size 20:Nat):Int):=by split<;>omega
 refine Zb [_] func75 ntmps75 fun G w hp=>?_
 repeat' (first|refine ZH ?_|refine ZG ?_|refine ZK ?_|refine ZI ?_|refine ZP ?_|refine ZJ ?_|refine ZM ?_|refine ZN (fun b=>?_)|refine ZO (fun b=>?_)|refine ZA ?_|refine ZB ?_|refine ZR ?_|refine ZZ ?_|refine ZW ?_|refine Zf ?_|refine Za ?_|refine ZY ?_|refine Ze (fun b=>?_)|refine Zg (fun b=>?_)|refine Zd ?_|refine ZX ?_|refine r_ssl (s:=x.tx) (min x.tx.size 20) (by omega) ?_|rw [hmin]|refine ZC (fun hc=>?_) (fun hc=>?_)|refine ZL (fun hc=>?_) (fun hc=>?_)|refine ZD 1 [] [(0,0),(1,0),(2,0),(3,0),(4,0),(5,0),(6,0),(7,0),(8,0),(9,0),(10,0),(11,0),(12,0)] [13] ?_|refine ZE (fun hc=>?_) (fun hc=>?_))
 rw [hch,Zx (z:=((x.ch.toNat % 4:Nat):Int)) (by omega) (by omega),Zx (z:=1+((x.ch.toNat % 4:Nat):Int)) (by omega) (by omega)]
 exact ZS () rfl trivial
theorem lvalid_who (j:Nat):lvalid (Yk j).data.toList=true:=by
 unfold Yk
 split
 ·have h:=(XU [49] 0 0 (by simp)).2.2.2
  rw [show ffirst (([49]:List UInt8).drop 0) 0 0=(⟨1,0,0⟩,1) from rfl] at h
  simp at h
  simp [nm0,lvalid,lparts,h]
 ·split
  ·have h:=(XU [49,46,50] 0 0 (by simp)).2.2.2
   rw [show ffirst (([49,46,50]:List UInt8).drop 0) 0 0=(⟨1,0,0⟩,1) from rfl] at h
   have h2:=(XU [49,46,50] 2 1 (by simp)).2.2.2
   rw [show ffirst (([49,46,50]:List UInt8).drop 2) 2 1=(⟨2,2,0⟩,3) from rfl] at h2
   simp at h h2
   simp [nm1,lvalid,lparts,h,h2]
  ·have h:=(XU [51] 0 0 (by simp)).2.2.2
   rw [show ffirst (([51]:List UInt8).drop 0) 0 0=(⟨3,0,0⟩,1) from rfl] at h
   simp at h
   simp [nm2,lvalid,lparts,h]
theorem WU (j:Nat):(Yk j).size≤3:=by
 unfold Yk
 split
 ·decide
 ·split<;>decide
theorem WZ (x:It):ochk (ito x)=0:=by
 have h1:isE (ito x).tg=false:=by simp [ito,isE,Zt]
 have h2:(ito x).tx.size≤20:=by simp [ito,ByteArray.size_extract];omega
 have h3:((ito x).tg.data.toList.any bad2)=false:=by simp [ito,bad2]
 unfold ochk
 rw [if_neg (by simp only [ito];omega),if_neg (by simp [h1]),if_neg (by show ¬64<(ByteArray.mk #[116]).size;decide),if_neg (by simp [h3]),if_neg (by omega),if_neg (by simp [ito])]
theorem WY (m:Nat) (h:m≤1000):within (m:Int) 1073741824=true:=by
 unfold within
 rw [decide_eq_true (by omega),decide_eq_true (by omega)];rfl
theorem itn_chk (x:It):nchk (itn x)=0:=by
 have h1:lvalid (itn x).owner.data.toList=true:=lvalid_who (x.who.toNat % 3)
 have h2:isE (itn x).text=true:=by simp [itn,isE]
 have h3:within (itn x).number 1073741824=true:=WY (x.nu.toNat % 4) (by omega)
 have h4:within (itn x).index 1073741824=true:=WY (x.tk.toNat % 8) (by omega)
 rw [nchk,if_pos (by simp [itn])]
 show uchk ⟨_,true,true,true,false,1073741824⟩ (itn x)=0
 simp [uchk,h1,h2,h3,h4]
def stF (es:Al) (l:List It):Al:=l.foldl (fun es x=>insO (itn x) (oencS (ito x)) es) es
def ldF (l:List It):List Lf:=l.mapIdx fun p x=>itl x p
theorem oencS_size (x:It):(oencS (ito x)).size≤5000:=by
 rw [oencS,if_pos (WZ x)]
 exact oenc_len (WZ x)
theorem itl_chk (x:It) (p:Nat) (hp:p<20):lchk (itl x p)=0:=by
 have h1:=lvalid_who (x.who.toNat % 3)
 have h2:=WZ x
 have h3:tick (itl x p).e.tk=true:=WY (x.tk.toNat % 8) (by omega)
 have h4:tick (itl x p).tm=true:=WY (9+p) (by omega)
 have h5:0≤(itl x p).e.nu∧(itl x p).e.nu≤1048576∧0≤(itl x p).rd∧(itl x p).rd≤1048576:=by simp only [itl];omega
 unfold lchk
 rw [if_neg (by simp [itl,h1]),if_neg (by rw [h3,h4];simp;omega)]
 exact h2
structure B1 (now:List It) where
 i:Nat
 q:Option Addr
 es:Al
 h1:i≤now.length∧i≤20
 h2:es=stF [] (now.take i)
 h3:es.length≤i
structure B2 (left:List It) where
 i:Nat
 h1:i≤left.length∧i≤20
set_option maxHeartbeats 2000000 in
theorem build_ok (o1 o2:Option Addr) (c1 c2:Nat) (now left:List It) (hn:∀x ∈ now,x.tx.size≤1099511627776) (hl:∀x ∈ left,x.tx.size≤1099511627776) (hn2:now.length≤1099511627776) (hl2:left.length≤1099511627776) :
  Enters 28∧Spec prog 28 #[.slice o1 now.length c1,.slice o2 left.length c2] [Sl 95 itf o1 c1 now,Sl 95 itf o2 c2 left,Usg] []
   ⟨Nat×Nat,fun q=>.tuple #[.pointer (some ⟨q.1,0,none⟩),.pointer (some ⟨q.2,0,none⟩),.bool true],fun _=>True,fun q=>[St (some ⟨q.1,0,none⟩) (stF [] (now.take 20)),LgF q.2 (ldF (left.take 20))],fun _=>[]⟩:=by
 refine Zb [_,_] func28 ntmps28 fun G w hp=>?_
 repeat' (first|refine ZH ?_|refine ZG ?_|refine ZK ?_|refine ZI ?_|refine ZP ?_|refine ZJ ?_|refine ZM ?_|refine ZN (fun b=>?_)|refine ZO (fun b=>?_)|refine ZA ?_|refine ZB ?_|refine ZR ?_|refine ZZ ?_|refine ZW ?_|refine Zf ?_|refine Za ?_|refine ZY ?_|refine Ze (fun b=>?_)|refine Zg (fun b=>?_)|refine Zd ?_|refine ZX ?_|refine ZF (Xj) (fun _ _=>?_)|refine l_call0 (Xj) (fun _ _=>?_)|refine ZT (Xj) (fun _ _=>?_)|refine ZF (Xc) (fun _ _=>?_)|refine l_call0 (Xc) (fun _ _=>?_)|refine ZT (Xc) (fun _ _=>?_)|refine ZC (fun hc=>?_) (fun hc=>?_)|refine ZL (fun hc=>?_) (fun hc=>?_)|refine ZD 7 [] [(0,0),(2,0),(3,0),(4,0),(6,0),(7,0),(8,0),(9,0),(10,0),(11,0),(12,0),(13,0),(15,0),(1,4),(5,0),(14,4),(16,4),(17,0),(18,0),(19,0),(20,0),(21,0)] [] ?_|refine ZD 15 [] [(1,0),(2,0),(3,0),(5,0),(6,0),(7,0),(8,0),(9,0),(10,0),(11,0),(12,0),(13,0),(16,0),(17,0),(18,0),(19,0),(0,4),(4,0),(14,4),(15,0),(20,0),(21,1)] [22] ?_|refine ZE (fun hc=>?_) (fun hc=>?_))
 rename_i qs _ ql _
 refine Yz (X:=B1 now) (Y:=Option Addr)
  (fun x=>[(0,.slice o1 now.length c1),(1,.slice o2 left.length c2),(7,.pointer x.q),(8,.pointer (some ⟨ql,0,none⟩)),(9,.int .i64 (x.i:Int))]) (fun x=>[St x.q x.es,Sl 95 itf o1 c1 now,Sl 95 itf o2 c2 left,Usg]) (fun _=>[Lg ql []]) (fun x=>20 - x.i)
  (fun q=>[(1,.slice o2 left.length c2),(7,.pointer q),(8,.pointer (some ⟨ql,0,none⟩))]) (fun q=>[St q (stF [] (now.take 20)),Sl 95 itf o2 c2 left,Usg]) (fun _=>[Lg ql []])
  ⟨0,some ⟨qs,0,none⟩,[],by omega,rfl,by simp⟩ ⟨rfl,rfl,rfl,rfl,rfl,trivial⟩ ?_ ?_
 ·intro q
  refine k_st (ps:=q) (es:=stF [] (now.take 20)) (fun bs p t hp he hok=>?_)
  subst hp
  repeat' (first|refine ZH ?_|refine ZG ?_|refine ZK ?_|refine ZI ?_|refine ZP ?_|refine ZJ ?_|refine ZM ?_|refine ZN (fun b=>?_)|refine ZO (fun b=>?_)|refine ZA ?_|refine ZB ?_|refine ZR ?_|refine ZZ ?_|refine ZW ?_|refine Zf ?_|refine Za ?_|refine ZY ?_|refine Ze (fun b=>?_)|refine Zg (fun b=>?_)|refine Zd ?_|refine ZX ?_|refine ZC (fun hc=>?_) (fun hc=>?_)|refine ZL (fun hc=>?_) (fun hc=>?_)|refine ZD 7 [] [(0,0),(2,0),(3,0),(4,0),(6,0),(7,0),(8,0),(9,0),(10,0),(11,0),(12,0),(13,0),(15,0),(1,4),(5,0),(14,4),(16,4),(17,0),(18,0),(19,0),(20,0),(21,0)] [] ?_|refine ZD 15 [] [(1,0),(2,0),(3,0),(5,0),(6,0),(7,0),(8,0),(9,0),(10,0),(11,0),(12,0),(13,0),(16,0),(17,0),(18,0),(19,0),(0,4),(4,0),(14,4),(15,0),(20,0),(21,1)] [22] ?_|refine ZE (fun hc=>?_) (fun hc=>?_))
  refine Z6 (X:=B2 left) (fun x=>[(1,.slice o2 left.length c2),(7,.pointer (some ⟨bs,0,none⟩)),(8,.pointer (some ⟨ql,0,none⟩)),(15,.int .i64 (x.i:Int))]) (fun _=>[St (some ⟨bs,0,none⟩) (stF [] (now.take 20)),Sl 95 itf o2 c2 left]) (fun x=>[Lg ql (ldF (left.take x.i))]) (fun x=>20 - x.i) ⟨0,by omega⟩ ⟨rfl,rfl,rfl,rfl,trivial⟩ ?_
  rintro ⟨i,hi⟩
  dsimp only
  by_cases hlt:i<left.length∧i<20
  ·obtain ⟨x,hxi⟩:∃x,left[i]? = some x:=⟨_,List.getElem?_eq_getElem hlt.1⟩
   have hmem:x ∈ left:=List.mem_of_getElem? hxi
   have htk:left.take (i+1)=left.take i++[x]:=by rw [List.take_add_one,hxi];rfl
   have hll:(left.take i).length=i:=by simp;omega
   have hld:ldF (left.take (i+1))=ldF (left.take i)++[itl x i]:=by
    rw [htk,ldF,List.mapIdx_append]
    simp only [List.mapIdx_cons,List.mapIdx_nil,ldF]
    rw [show 0+(left.take i).length=i by omega]
   have n1:=out_ok x (hl x hmem)
   have t1:(x.who.toNat:Int).tmod 3=((x.who.toNat % 3:Nat):Int):=tmodN _ 3
   have t2:(x.nu.toNat:Int).tmod 4=((x.nu.toNat % 4:Nat):Int):=tmodN _ 4
   have t3:(x.tk.toNat:Int).tmod 8=((x.tk.toNat % 8:Nat):Int):=tmodN _ 8
   have t4:(i:Int).tdiv 5=((i / 5:Nat):Int):=tdivN _ 5
   have w2:=Zx (z:=((x.nu.toNat % 4:Nat):Int)) (by omega) (by omega)
   have w3:=Zx (z:=((x.tk.toNat % 8:Nat):Int)) (by omega) (by omega)
   have w4:=Zx (z:=((i / 5:Nat):Int)) (by omega) (by omega)
   have w5:IntKind.i64.wrap (9+(i:Int))=((9+i:Nat):Int):=by rw [Zx (by omega) (by omega)];omega
   have hlat:late (ldF (left.take i)) (itl x i)=false:=by
    unfold late
    cases hgl:(ldF (left.take i)).getLast? with
    | none=>rfl
    | some y=>
     have hy:=List.mem_of_getLast? hgl
     rw [ldF,List.mem_mapIdx] at hy
     obtain ⟨p,hp,rfl⟩:=hy
     rw [hll] at hp
     show (decide (((9+i:Nat):Int)<((9+p:Nat):Int)) || decide (((i / 5:Nat):Int)<((p / 5:Nat):Int)))=false
     rw [decide_eq_false (by omega),decide_eq_false (by omega)];rfl
   have hleave:leaveE (ldF (left.take i)) (itl x i)=0:=by
    rw [leaveE,if_neg (by simp [itl_chk x i hlt.2]),if_neg (by simp [hlat]),if_neg (by simp [ldF];omega)]
   have hw0:=WU (x.who.toNat % 3)
   have n2:=leave_ok ql (ldF (left.take i)) (itl x i) (by show (Yk _).size≤_;omega) (by simp [ldF];omega)
   rw [Wv hleave,←hld] at n2
   repeat' (first|refine ZH ?_|refine ZG ?_|refine ZK ?_|refine ZI ?_|refine ZP ?_|refine ZJ ?_|refine ZM ?_|refine ZN (fun b=>?_)|refine ZO (fun b=>?_)|refine ZA ?_|refine ZB ?_|refine ZR ?_|refine ZZ ?_|refine ZW ?_|refine Zf ?_|refine Za ?_|refine ZY ?_|refine Ze (fun b=>?_)|refine Zg (fun b=>?_)|refine Zd ?_|refine ZX ?_|refine ZF (n1) (fun _ _=>?_)|refine l_call0 (n1) (fun _ _=>?_)|refine ZT (n1) (fun _ _=>?_)|refine ZF (n2) (fun _ _=>?_)|refine l_call0 (n2) (fun _ _=>?_)|refine ZT (n2) (fun _ _=>?_)|refine ZF (Z9) (fun _ _=>?_)|refine l_call0 (Z9) (fun _ _=>?_)|refine ZT (Z9) (fun _ _=>?_)|refine Zp (es:=left) i x hxi (fun b off=>?_)|refine Zm ?_|rw [t1]|rw [t2]|rw [t3]|rw [t4]|rw [w2]|rw [w3]|rw [w4]|rw [w5]|refine r_aix (x.who.toNat % 3) _ (WR (by omega)) ?_|(refine ZC (fun hc=>?_) (fun hc=>?_)<;>(try simp at hc)<;>(try omega))|(refine ZL (fun hc=>?_) (fun hc=>?_)<;>(try simp at hc)<;>(try omega))|refine ZD 7 [] [(0,0),(2,0),(3,0),(4,0),(6,0),(7,0),(8,0),(9,0),(10,0),(11,0),(12,0),(13,0),(15,0),(1,4),(5,0),(14,4),(16,4),(17,0),(18,0),(19,0),(20,0),(21,0)] [] ?_|refine ZD 15 [] [(1,0),(2,0),(3,0),(5,0),(6,0),(7,0),(8,0),(9,0),(10,0),(11,0),(12,0),(13,0),(16,0),(17,0),(18,0),(19,0),(0,4),(4,0),(14,4),(15,0),(20,0),(21,1)] [22] ?_|(refine ZE (fun hc=>?_) (fun hc=>?_)<;>(try simp at hc)<;>(try omega)))
   rw [wrapi (z:=(i:Int)+1) (by omega) (by omega)]
   exact Zc ⟨i+1,by omega⟩ (by show 20 - (i+1)<20 - i;omega) ⟨rfl,rfl,rfl,rfl,trivial⟩
  ·have htk:left.take i=left.take 20:=by
    by_cases h20:i=20
    ·rw [h20]
    ·rw [List.take_of_length_le (by omega),List.take_of_length_le (by omega)]
   rw [htk]
   repeat' (first|refine ZH ?_|refine ZG ?_|refine ZK ?_|refine ZI ?_|refine ZP ?_|refine ZJ ?_|refine ZM ?_|refine ZN (fun b=>?_)|refine ZO (fun b=>?_)|refine ZA ?_|refine ZB ?_|refine ZR ?_|refine ZZ ?_|refine ZW ?_|refine Zf ?_|refine Za ?_|refine ZY ?_|refine Ze (fun b=>?_)|refine Zg (fun b=>?_)|refine Zd ?_|refine ZX ?_|(refine ZC (fun hc=>?_) (fun hc=>?_)<;>(try simp at hc)<;>(try omega))|(refine ZL (fun hc=>?_) (fun hc=>?_)<;>(try simp at hc)<;>(try omega))|refine ZD 7 [] [(0,0),(2,0),(3,0),(4,0),(6,0),(7,0),(8,0),(9,0),(10,0),(11,0),(12,0),(13,0),(15,0),(1,4),(5,0),(14,4),(16,4),(17,0),(18,0),(19,0),(20,0),(21,0)] [] ?_|refine ZD 15 [] [(1,0),(2,0),(3,0),(5,0),(6,0),(7,0),(8,0),(9,0),(10,0),(11,0),(12,0),(13,0),(16,0),(17,0),(18,0),(19,0),(0,4),(4,0),(14,4),(15,0),(20,0),(21,1)] [22] ?_|(refine ZE (fun hc=>?_) (fun hc=>?_)<;>(try simp at hc)<;>(try omega)))
   all_goals refine k_lgz (b:=ql) (ls:=ldF (left.take 20)) ?_
   all_goals exact ZS (bs,ql) rfl trivial
 ·rintro hx ⟨i,q,es,hi,he,hlen⟩
  dsimp only
  by_cases hlt:i<now.length∧i<20
  ·obtain ⟨x,hxi⟩:∃x,now[i]? = some x:=⟨_,List.getElem?_eq_getElem hlt.1⟩
   have hmem:x ∈ now:=List.mem_of_getElem? hxi
   have htk:now.take (i+1)=now.take i++[x]:=by rw [List.take_add_one,hxi];rfl
   have n1:=out_ok x (hn x hmem)
   have n2:=Wq (ito x)
   have n3:=Xb (Yk (x.who.toNat % 3)) ((x.nu.toNat % 4:Nat):Int) ((x.tk.toNat % 8:Nat):Int)
   have hw0:=WU (x.who.toNat % 3)
   have n4:=stateWith_ok q es (itn x) (oencS (ito x)) (by show (Yk _).size≤_;omega) (by show (ByteArray.mk #[]).size≤_;decide)
   have hv:=oencS_size x
   have e0:withE es (itn x) (oencS (ito x))=0:=by rw [withE,if_neg (by simp [itn_chk x]),if_neg (by omega),if_neg (by omega)]
   rw [e0] at n4
   rw [WZ x] at n2
   have t1:(x.who.toNat:Int).tmod 3=((x.who.toNat % 3:Nat):Int):=tmodN _ 3
   have t2:(x.nu.toNat:Int).tmod 4=((x.nu.toNat % 4:Nat):Int):=tmodN _ 4
   have t3:(x.tk.toNat:Int).tmod 8=((x.tk.toNat % 8:Nat):Int):=tmodN _ 8
   have w2:=Zx (z:=((x.nu.toNat % 4:Nat):Int)) (by omega) (by omega)
   have w3:=Zx (z:=((x.tk.toNat % 8:Nat):Int)) (by omega) (by omega)
   repeat' (first|refine ZH ?_|refine ZG ?_|refine ZK ?_|refine ZI ?_|refine ZP ?_|refine ZJ ?_|refine ZM ?_|refine ZN (fun b=>?_)|refine ZO (fun b=>?_)|refine ZA ?_|refine ZB ?_|refine ZZ ?_|refine ZW ?_|refine Zf ?_|refine Za ?_|refine ZY ?_|refine Ze (fun b=>?_)|refine Zg (fun b=>?_)|refine Zd ?_|refine ZX ?_|refine ZF (n1) (fun _ _=>?_)|refine l_call0 (n1) (fun _ _=>?_)|refine ZT (n1) (fun _ _=>?_)|refine ZF (n2) (fun _ _=>?_)|refine l_call0 (n2) (fun _ _=>?_)|refine ZT (n2) (fun _ _=>?_)|refine ZF (Z9) (fun _ _=>?_)|refine l_call0 (Z9) (fun _ _=>?_)|refine ZT (Z9) (fun _ _=>?_)|refine ZF (n3) (fun _ _=>?_)|refine l_call0 (n3) (fun _ _=>?_)|refine ZT (n3) (fun _ _=>?_)|refine ZF (n4) (fun _ _=>?_)|refine l_call0 (n4) (fun _ _=>?_)|refine ZT (n4) (fun _ _=>?_)|refine Zp (es:=now) i x hxi (fun b off=>?_)|refine Zm ?_|rw [t1]|rw [t2]|rw [t3]|rw [w2]|rw [w3]|refine r_aix (x.who.toNat % 3) _ (WR (by omega)) ?_|(refine ZC (fun hc=>?_) (fun hc=>?_)<;>(try simp at hc)<;>(try omega))|(refine ZL (fun hc=>?_) (fun hc=>?_)<;>(try simp at hc)<;>(try omega))|refine ZD 7 [] [(0,0),(2,0),(3,0),(4,0),(6,0),(7,0),(8,0),(9,0),(10,0),(11,0),(12,0),(13,0),(15,0),(1,4),(5,0),(14,4),(16,4),(17,0),(18,0),(19,0),(20,0),(21,0)] [] ?_|refine ZD 15 [] [(1,0),(2,0),(3,0),(5,0),(6,0),(7,0),(8,0),(9,0),(10,0),(11,0),(12,0),(13,0),(16,0),(17,0),(18,0),(19,0),(0,4),(4,0),(14,4),(15,0),(20,0),(21,1)] [22] ?_|(refine ZE (fun hc=>?_) (fun hc=>?_)<;>(try simp at hc)<;>(try omega)))
   rename_i q' _
   rw [wrapi (z:=(i:Int)+1) (by omega) (by omega)]
   have hil:=insO_len (itn x) (oencS (ito x)) es
   exact Zc ⟨i+1,q',insO (itn x) (oencS (ito x)) es,by omega,by rw [he,htk];simp [stF],by omega⟩ (by show 20 - (i+1)<20 - i;omega) ⟨rfl,rfl,rfl,rfl,rfl,trivial⟩
  ·have htk:now.take i=now.take 20:=by
    by_cases h20:i=20
    ·rw [h20]
    ·rw [List.take_of_length_le (by omega),List.take_of_length_le (by omega)]
   rw [htk] at he
   subst he
   repeat' (first|refine ZH ?_|refine ZG ?_|refine ZK ?_|refine ZI ?_|refine ZP ?_|refine ZJ ?_|refine ZM ?_|refine ZN (fun b=>?_)|refine ZO (fun b=>?_)|refine ZA ?_|refine ZB ?_|refine ZZ ?_|refine ZW ?_|refine Zf ?_|refine Za ?_|refine ZY ?_|refine Ze (fun b=>?_)|refine Zg (fun b=>?_)|refine Zd ?_|refine ZX ?_|(refine ZC (fun hc=>?_) (fun hc=>?_)<;>(try simp at hc)<;>(try omega))|(refine ZL (fun hc=>?_) (fun hc=>?_)<;>(try simp at hc)<;>(try omega))|refine ZD 7 [] [(0,0),(2,0),(3,0),(4,0),(6,0),(7,0),(8,0),(9,0),(10,0),(11,0),(12,0),(13,0),(15,0),(1,4),(5,0),(14,4),(16,4),(17,0),(18,0),(19,0),(20,0),(21,0)] [] ?_|refine ZD 15 [] [(1,0),(2,0),(3,0),(5,0),(6,0),(7,0),(8,0),(9,0),(10,0),(11,0),(12,0),(13,0),(16,0),(17,0),(18,0),(19,0),(0,4),(4,0),(14,4),(15,0),(20,0),(21,1)] [22] ?_|(refine ZE (fun hc=>?_) (fun hc=>?_)<;>(try simp at hc)<;>(try omega)))
   all_goals exact YD hx q ⟨rfl,rfl,rfl,trivial⟩
structure Aq where
 wt:UInt8
 who:UInt8
 rd:UInt8
 wr:UInt8
 it:It
def aqf (x:Aq):List Value:=[.int .u8 x.wt.toNat,.int .u8 x.who.toNat,.int .u8 x.rd.toNat,.int .u8 x.wr.toNat,.int .u8 x.it.who.toNat,.int .u8 x.it.nu.toNat,.int .u8 x.it.tk.toNat,.int .u8 x.it.ch.toNat,.string x.it.tx]
def Aq.v (x:Aq):Value:=.agg #[.int .u8 x.wt.toNat,.int .u8 x.who.toNat,.int .u8 x.rd.toNat,.int .u8 x.wr.toNat,.int .u8 x.it.who.toNat,.int .u8 x.it.nu.toNat,.int .u8 x.it.tk.toNat,.int .u8 x.it.ch.toNat,.string x.it.tx]
def ChOK (c:Ch):Prop:=c.nm.owner.size≤1000∧c.nm.text.size≤1000
def AkOK (a:Ak):Prop:=a.k.l.size≤1000∧a.rd.length≤100∧a.wr.length≤100∧(∀c ∈ a.rd,ChOK c)∧∀c ∈ a.wr,ChOK c
section
variable {n:Nat} {C:Cx} {Q:Exit→Act→World→Prop} {E E':List (Nat×Value)} {F F' F1 Fs F0:List Pf} {R R' R0 Rs N N' A:List HP} {k k':List Fr} {ops l:List Oper} {L L':List (Nat×Nat)} {Tl:List Nat} {i d:Nat} {t ty0:TypeId} {x y z:Operand} {pos:String} {aft:Array Edge} {gd:Option (Nat×Bool)} {α β:Type} [DecidableEq α] {K:α→Value} {V:β→Value}
def MpE (K:α→Value) (V:β→Value) (r:Nat) (m:List (α×β)) (a:α) (s:Nat):HP:=fun h=>∃es clock,h r=some (.map es clock)∧es.toList.map (fun e=>(e.key,e.val))=(m.map fun x=>(K x.1,V x.2))∧BornOK es clock∧∃j u e,mfind a m 0=some (j,u)∧es[j]? = some e∧e.born=s
theorem mpE_shut {r s:Nat} {m:List (α×β)} {a:α} {G:H} {w0 w:World} {hp0:H} {es:Array MapEntry} {clock:Nat} (h:Sat G w0 hp0 F (Pt r (.map es clock)::R0) w)
  (he:es.toList.map (fun e=>(e.key,e.val))=m.map fun x=>(K x.1,V x.2)) (hB:BornOK es clock) (hE:∃j u e,mfind a m 0=some (j,u)∧es[j]? = some e∧e.born=s):Sat G w0 hp0 F (MpE K V r m a s::R0) w:=
 h.shut (L:=[Pt r (.map es clock)]) fun k hk=>by
  obtain ⟨h1,h2,_,s1,_,hx,_⟩:=hk
  exact ⟨es,clock,s1 _ _ hx,he,hB,hE⟩
theorem mpE_open {r s:Nat} {m:List (α×β)} {a:α} {G:H} {w0 w:World} {hp0:H} (hs:Sel (MpE K V r m a s) R R0) (h:Sat G w0 hp0 F R w) :
  ∃es clock,Sat G w0 hp0 F (Pt r (.map es clock)::R0) w∧es.toList.map (fun e=>(e.key,e.val))=(m.map fun x=>(K x.1,V x.2))∧BornOK es clock∧∃j u e,mfind a m 0=some (j,u)∧es[j]? = some e∧e.born=s:=by
 obtain ⟨⟨⟨es,clock⟩,he,hB,hE⟩,h1⟩:=(h.sel hs).open' (X:={x:Array MapEntry×Nat // x.1.toList.map (fun e=>(e.key,e.val))=(m.map fun x=>(K x.1,V x.2))∧BornOK x.1 x.2∧∃j u e,mfind a m 0=some (j,u)∧x.1[j]? = some e∧e.born=s}) (L:=fun x=>[Pt r (.map x.1.1 x.1.2)]) fun k hk=>by
  obtain ⟨es,clock,h1,h2,h3,h4⟩:=hk
  exact ⟨⟨(es,clock),h2,h3,h4⟩,k,emp,(fun _=>.inr rfl),Sub.refl _,(fun _ _ e=>by cases e),h1,trivial⟩
 exact ⟨es,clock,h1,he,hB,hE⟩
theorem mfind_new (a:α) (v:β):∀(m:List (α×β)) (i:Nat),mfind a m i=none→mfind a (m++[(a,v)]) i=some (i+m.length,v)
 | [],i,_=>by simp [mfind]
 | (b,u)::m,i,h=>by
  unfold mfind at h
  split at h
  ·cases h
  ·rename_i hab
   rw [List.cons_append,mfind,if_neg hab,mfind_new a v m (i+1) h,List.length_cons]
   congr 2;omega
theorem mfind_set (a:α) (v:β):∀(m:List (α×β)) (i j:Nat) (u:β),mfind a m i=some (j,u)→mfind a (mset a v m) i=some (j,v)
 | [],_,_,_,h=>by cases h
 | (b,u')::m,i,j,u,h=>by
  unfold mfind at h
  split at h
  ·rename_i hab
   subst hab
   simp only [Option.some.injEq,Prod.mk.injEq] at h
   obtain ⟨rfl,rfl⟩:=h
   rw [mset,if_pos rfl,mfind,if_pos rfl]
  ·rename_i hab
   rw [mset,if_neg hab,mfind,if_neg hab]
   exact mfind_set a v m (i+1) j u h
theorem mset_id (a:α):∀(m:List (α×β)) (i j:Nat) (u:β),mfind a m i=some (j,u)→mset a u m=m
 | [],_,_,_,h=>by cases h
 | (b,u')::m,i,j,u,h=>by
  unfold mfind at h
  split at h
  ·rename_i hab
   subst hab
   simp only [Option.some.injEq,Prod.mk.injEq] at h
   obtain ⟨rfl,rfl⟩:=h
   rw [mset,if_pos rfl]
  ·rename_i hab
   rw [mset,if_neg hab,mset_id a m (i+1) j u h]
omit [DecidableEq α] in
theorem es_len {es:Array MapEntry} {m:List (α×β)} (he:es.toList.map (fun e=>(e.key,e.val))=(m.map fun x=>(K x.1,V x.2))):es.size=m.length:=by
 have:=congrArg List.length he
 simpa using this
theorem l_ment {kt et r:Nat} {rs te:TRow} {m:List (α×β)} (hk:KeyOK kt K) (a:α) (z0 v0:β) (hv0:(mget a m).getD z0=v0) (nx:∀s:Nat,Wl n C ops.toArray k Q l ((d,.tuple #[V v0,.int .i64 (s:Int)])::E) F (MpE K V r (mset a v0 m) a s::R0))
  (hw:wantL ops E ⟨some d,.mapEntry t x y,ty0,pos,aft,gd⟩=some true:=by rfl) (hn:Nat.blt d n=true:=by rfl)
  (hx:ev E x=some (.map (some r)):=by rfl) (hy:ev E y=some (K a):=by rfl) (hts:lookT tab t=some rs:=by rfl) (hrs:rs.k = .map kt et:=by rfl) (hte:lookT tab et=some te:=by rfl) (hzv:zval te=some (V z0):=by rfl)
  (hs:Sel (Mp K V r m) R R0:=by (repeat (first|exact Sel.here|apply Sel.there));first|done|fail):Wl n C ops.toArray k Q (⟨some d,.mapEntry t x y,ty0,pos,aft,gd⟩::l) E F R:=
 Z8 (fun t ht=>by cases ht;exact Nat.le_of_ble_eq_true hn) (fun c hc=>by cases hc) hw fun ac w ha hsat=>by
  obtain ⟨es,clock,h1,he,hB⟩:=WM hs hsat
  have hb:=h1.pt Sel.here
  have hu:=XP (w:=w) hts hrs
  have hg:(getObj r).run prog w = .ok (.map es clock) w:=by simp [getObj,Sem.run,hb]
  have hc:=hk.chk a false w
  have hf:=Yn hk a es.toList m w he
  have hz0:=zval_ok hte hzv w
  have hfg:=XL a m 0
  unfold OpRes
  simp only [execOp,ha.ev (x:=x) (by rw [ZU];exact hx),ha.ev (x:=y) (by rw [ZU];exact hy),Instr.mapEntry,Sem.run_bind,hu,Result.andThen,hg,hc,hf]
  cases hm:mfind a m 0 with
  | none=>
   rw [hm] at hfg
   have hv:z0=v0:=by rw [←hv0,←hfg];rfl
   subst hv
   simp only [Option.map_none]
   have hset:(setObj r (.map (es.push {key:=K a,val:=V z0,born:=clock}) (clock+1))).run prog w = .ok () {w with heap:=w.heap.setIfInBounds r (.map (es.push {key:=K a,val:=V z0,born:=clock}) (clock+1))}:=by simp [setObj,Sem.run,hb]
   simp only [Sem.run_bind,hz0,Result.andThen,hset,Sem.run_pure]
   have hem:mset a z0 m=m++[(a,z0)]:=X3 a z0 m 0 hm
   refine fun a' ha'=>nx clock a' _ ha' (mpE_shut (YK h1) ?_ ?_ ⟨m.length,z0,{key:=K a,val:=V z0,born:=clock},?_,?_,rfl⟩)
   ·rw [hem]
    simp [he]
   ·refine ⟨?_,fun e hem=>?_⟩
    ·rw [Array.toList_push,List.map_append]
     refine List.nodup_append.2 ⟨hB.1,by simp,fun b hb c hc=>?_⟩
     obtain ⟨e,hem,rfl⟩:=List.mem_map.1 hb
     have:=hB.2 e hem
     simp at hc
     omega
    ·rw [Array.toList_push] at hem
     rcases List.mem_append.1 hem with hem|hem
     ·have:=hB.2 e hem;omega
     ·obtain rfl:=List.mem_singleton.1 hem
      exact Nat.lt_succ_self _
   ·rw [hem,mfind_new a z0 m 0 hm,Nat.zero_add]
   ·rw [←es_len he];simp
  | some q=>
   obtain ⟨j,u⟩:=q
   rw [hm] at hfg
   have hv:u=v0:=by rw [←hv0,←hfg];rfl
   subst hv
   obtain ⟨p,hj,hp,hms⟩:=XR a u m 0 j u hm
   obtain rfl:j=p:=by omega
   have hkey:(es.toList.map (fun e=>(e.key,e.val)))[j]? = some (K a,V u):=by rw [he];simp [hp]
   obtain ⟨e0,he0,hek⟩:∃e0,es[j]? = some e0∧(e0.key,e0.val)=(K a,V u):=by
    simpa only [List.getElem?_map,Array.getElem?_toList,Option.map_eq_some_iff] using hkey
   have hold:e0.key=K a:=congrArg Prod.fst hek
   simp only [Option.map_some]
   have hkt:(Instr.keyThatStays (K a) (K a)).run prog w = .ok (K a) w:=by simp [Instr.keyThatStays,hk.bits a]
   have hset:(setObj r (.map (es.modify j fun e=>{e with key:=K a}) clock)).run prog w = .ok () {w with heap:=w.heap.setIfInBounds r (.map (es.modify j fun e=>{e with key:=K a}) clock)}:=by simp [setObj,Sem.run,hb]
   simp only [he0,Option.map_some,Option.getD_some,hold,hkt,Sem.run_bind,Result.andThen,hset,Sem.run_pure]
   have hborn:(es.modify j fun e=>{e with key:=K a}).toList.map (·.born)=es.toList.map (·.born):=by
    apply List.ext_getElem?
    intro i
    simp only [List.getElem?_map,Array.getElem?_toList,Array.getElem?_modify]
    split
    ·cases es[i]?<;>rfl
    ·rfl
   have hid:mset a u m=m:=mset_id a m 0 j u hm
   refine fun a' ha'=>nx e0.born a' _ ha' (mpE_shut (YK h1) ?_ ⟨by rw [hborn];exact hB.1,fun e hem=>?_⟩ ⟨j,u,{e0 with key:=K a},?_,?_,rfl⟩)
   ·rw [hid,←he]
    apply List.ext_getElem?
    intro i
    simp only [List.getElem?_map,Array.getElem?_toList,Array.getElem?_modify]
    by_cases hij:j=i
    ·subst hij
     rw [if_pos rfl,he0]
     have h1:=congrArg Prod.fst hek
     have h2:=congrArg Prod.snd hek
     simp at h1 h2
     simp [h1,h2]
    ·rw [if_neg hij]
   ·have h3:e.born ∈ es.toList.map (·.born):=by rw [←hborn];exact List.mem_map_of_mem hem
    obtain ⟨e',hem',he'⟩:=List.mem_map.1 h3
    rw [←he'];exact hB.2 e' hem'
   ·rw [hid];exact hm
   ·rw [Array.getElem?_modify,if_pos rfl,he0];rfl
theorem l_estore {r s:Nat} {m:List (α×β)} {a:α} (v:β) (nx:Wl n C ops.toArray k Q l E F (Mp K V r (mset a v m)::R0)) (hw:wantL ops E ⟨none,.entryStore t x y z,ty0,pos,aft,gd⟩=some true:=by rfl)
  (hx:ev E x=some (.map (some r)):=by rfl) (hy:ev E y=some (.int .i64 (s:Int)):=by rfl) (hz:ev E z=some (V v):=by rfl)
  (hs:Sel (MpE K V r m a s) R R0:=by (repeat (first|exact Sel.here|apply Sel.there));first|done|fail):Wl n C ops.toArray k Q (⟨none,.entryStore t x y z,ty0,pos,aft,gd⟩::l) E F R:=
 Z8 (fun t ht=>by cases ht) (fun c hc=>by cases hc) hw fun ac w ha hsat=>by
  obtain ⟨es,clock,h1,he,hB,j,u,e0,hm,he0,hs0⟩:=mpE_open hs hsat
  have hb:=h1.pt Sel.here
  have hg:(getObj r).run prog w = .ok (.map es clock) w:=by simp [getObj,Sem.run,hb]
  have hjl:j<es.size:=(Array.getElem?_eq_some_iff.1 he0).1
  have hej:es[j]=e0:=(Array.getElem?_eq_some_iff.1 he0).2
  have hfi:es.findIdx? (fun e=>(e.born:Int) == (s:Int))=some j:=by
   rw [Array.findIdx?_eq_some_iff_getElem]
   refine ⟨hjl,by rw [hej,hs0];simp,fun i hi=>?_⟩
   intro hc
   have hc:(es[i].born:Int)=(s:Int):=by simpa using hc
   have hne:=List.pairwise_iff_getElem.1 hB.1 i j (by simp;omega) (by simp;exact hjl) hi
   simp only [List.getElem_map,Array.getElem_toList] at hne
   rw [hej,hs0] at hne
   exact hne (by omega)
  have hset:(setObj r (.map (es.modify j fun e=>{e with val:=V v}) clock)).run prog w = .ok () {w with heap:=w.heap.setIfInBounds r (.map (es.modify j fun e=>{e with val:=V v}) clock)}:=by simp [setObj,Sem.run,hb]
  unfold OpRes
  simp only [execOp,ha.ev (x:=x) (by rw [ZU];exact hx),ha.ev (x:=y) (by rw [ZU];exact hy),ha.ev (x:=z) (by rw [ZU];exact hz),Instr.entryStore,asInt,asIntOf,Sem.run_bind,Result.andThen,hg,Sem.run_pure,hfi,hset]
  obtain ⟨p,hj,hp,hms⟩:=XR a v m 0 j u hm
  obtain rfl:j=p:=by omega
  have hborn:(es.modify j fun e=>{e with val:=V v}).toList.map (·.born)=es.toList.map (·.born):=by
   apply List.ext_getElem?
   intro i
   simp only [List.getElem?_map,Array.getElem?_toList,Array.getElem?_modify]
   split
   ·cases es[i]?<;>rfl
   ·rfl
  refine fun a' ha'=>nx a' _ ha' (X2 (YK h1) ?_ ⟨by rw [hborn];exact hB.1,fun e hem=>?_⟩)
  ·rw [hms]
   apply List.ext_getElem?
   intro i
   have hei:(es.toList.map (fun e=>(e.key,e.val)))[i]? = (m.map fun x=>(K x.1,V x.2))[i]?:=by rw [he]
   simp only [List.getElem?_map,Array.getElem?_toList,Array.getElem?_modify,List.getElem?_set] at hei ⊢
   by_cases hij:j=i
   ·subst hij
    simp only [if_true]
    have hlt:=(List.getElem?_eq_some_iff.1 hp).1
    rw [if_pos hlt]
    rw [hp,he0] at hei
    simp only [Option.map_some,Option.some.injEq,Prod.mk.injEq] at hei
    rw [he0]
    simp [hei.1]
   ·simp only [if_neg hij]
    exact hei
  ·have h3:e.born ∈ es.toList.map (·.born):=by rw [←hborn];exact List.mem_map_of_mem hem
   obtain ⟨e',hem',he'⟩:=List.mem_map.1 h3
   rw [←he'];exact hB.2 e' hem'
end
variable {b:Nat}
section
variable {i:Nat} {off:Nat} {cs:Array Value} {ty:TypeId} {fzn:Nat×Nat} {v:Value}
def Ar {α:Type} (T:Nat) (f:α→List Value) (b:Nat) (es:List α):HP:=Pt b (.cells (es.flatMap f).toArray T (0,0))
theorem W1 {β:Type}:∀(vs c:List Value) (o:Nat) (k:List Value→Option β),o+vs.length≤c.length→putF c o vs k=k (c.take o++vs++c.drop (o+vs.length))
 | [],c,o,k,_=>by cases c<;>simp [putF]
 | v::vs,[],o,k,h=>by simp at h
 | v::vs,x::c,0,k,h=>by
  simp only [putF]
  rw [W1 vs c 0 _ (by simp at h ⊢;omega)]
  simp
 | v::vs,x::c,o+1,k,h=>by
  simp only [putF]
  rw [W1 (v::vs) c o _ (by simp at h ⊢;omega),Nat.add_right_comm]
  simp
 termination_by vs c=>(vs.length,c.length)
theorem stv_in {pre xs xs' post:List Value} {o:Nat} (h:stv t xs o v=some xs'):stv t (pre++(xs++post)) (pre.length+o) v=some (pre++(xs'++post)):=by
 unfold stv at h ⊢
 split at h
 ·rename_i r vs hr hvs
  cases hc:(Nat.beq vs.length r.size && vs.all one1) with
  | false=>simp [hc] at h
  | true=>
   simp only [hc,cond_true] at h ⊢
   obtain ⟨h1,h2⟩:=Xy _ _ _ _ _ h
   simp only [Option.some.injEq] at h2
   cases vs with
   | nil=>
    have e1:xs'=xs:=by rw [←h2];simp
    subst e1
    cases hh:pre++(xs'++post)<;>simp [putF]
   | cons u us=>
    have hle:=h1 (by simp)
    rw [W1 _ _ _ _ (by simp at hle ⊢;omega)]
    rw [←h2]
    congr 1
    rw [List.take_length_add_append,List.take_append_of_le_length (by omega),show pre.length+o+(u::us).length=pre.length+(o+(u::us).length) by omega,List.drop_length_add_append,List.drop_append_of_le_length hle]
    simp
 ·cases h
theorem ar_split {α:Type} {f:α→List Value} {sz:Nat} (hf:∀e,(f e).length=sz) {es:List α} {j:Nat} {e:α} (he:es[j]? = some e):es.flatMap f=(es.take j).flatMap f++(f e++(es.drop (j+1)).flatMap f)∧((es.take j).flatMap f).length=j * sz:=by
 refine ⟨Y5 he,?_⟩
 have:=(List.getElem?_eq_some_iff.1 he).1
 rw [Zw hf,List.length_take,Nat.min_eq_left (by omega)]
theorem ar_set {α:Type} {f:α→List Value} {es:List α} {j:Nat} {e e':α} (he:es[j]? = some e):(es.set j e').flatMap f=(es.take j).flatMap f++(f e'++(es.drop (j+1)).flatMap f):=by
 have hlt:=(List.getElem?_eq_some_iff.1 he).1
 rw [Y5 (f:=f) (es:=es.set j e') (i:=j) (e:=e') (by simp [hlt])]
 rw [List.take_set_of_le (Nat.le_refl _),List.drop_set_of_lt (Nat.lt_succ_self _)]
theorem l_ixS {T sz m cap:Nat} {z:Int} {rs tr:TRow} (j:Nat) (hlt:j<m) (nx:Wl n C ops.toArray k Q l ((d,.pointer (some ⟨b,j * sz,none⟩))::E) F R)
  (hw:wantL ops E ⟨some d,.indexAddr t x y,ty0,pos,aft,gd⟩=some true:=by rfl) (hn:Nat.blt d n=true:=by rfl) (hx:ev E x=some (.slice (some ⟨b,0,none⟩) m cap):=by rfl) (hy:ev E y=some (.int .i64 z):=by rfl)
  (hts:lookT tab t=some rs:=by rfl) (hrs:rs.k = .slice T:=by rfl) (hT:lookT tab T=some tr:=by rfl) (hsz:tr.size=sz:=by rfl) (hz:z=(j:Int):=by first|rfl|omega):Wl n C ops.toArray k Q (⟨some d,.indexAddr t x y,ty0,pos,aft,gd⟩::l) E F R:=
 l_q (fun a w ha=>by
  have hr1:=XH (o:=some ⟨b,0,none⟩) (m:=m) (cap:=cap) (w:=w) hts hrs hT hsz hz hlt (p:=⟨b,j * sz,none⟩) (by simp [Xf rfl])
  simp only [execOp,ha.ev (x:=x) (by rw [ZU];exact hx),ha.ev (x:=y) (by rw [ZU];exact hy),Sem.run_bind,Result.andThen,hr1,Sem.run_pure]) nx (by intro c h;cases h) hw hn
theorem k_cut {Y:Type} {c:Code} {k2:List Fr} (mE:Y→List (Nat×Value)) (mF:Y→List Pf) (mR:Y→List HP) (t2:∀y,Wk n C k2 Q (mE y) (mF y) (mR y)) (t:(∀y,Wk n C k2 Q (mE y) (mF y) (mR y))→Wk n C k Q E F R) (_h:nf 1000 k = .c c::k2:=by rfl):Wk n C k Q E F R:=t t2
theorem k_to {Y:Type} {mE:Y→List (Nat×Value)} {mF:Y→List Pf} {mR:Y→List HP} (hx:∀y,Wk n C k Q (mE y) (mF y) (mR y)) (y:Y) (he:EntE E (mE y))
  (hf:EntF F (mF y):=by (repeat (first|exact trivial|exact Sel.here|apply Sel.there|apply EntF.cons));first|done|fail) (hr:Sels (mR y) R R0:=by (repeat (first|exact Sels.nil|exact Sel.here|apply Sel.there|apply Sels.cons));first|done|fail):Wk n C k Q E F R:=k_drop he hf hr (hx y)
end
section
variable {i:Nat} {off:Nat} {cs:Array Value} {ty:TypeId} {fzn:Nat×Nat} {v:Value}
theorem Zu {f:FuncId} {fs cs:Array Value} {args:Array Operand} {tys:Array TypeId} {vs us:List Value} {post:Post} (spec:Enters f∧Spec prog f us.toArray F1 A post)
  (nx:∀x,post.pure x→Wr n C ops k Q Tl Fs R L ((d,post.val x)::E) (post.F x++F) (post.R x++N')) (ho:nth ops i=some ⟨some d,.call ⟨.value x,args,tys⟩,ty0,pos,aft,gd⟩:=by rfl)
  (hw:wantL ops E ⟨some d,.call ⟨.value x,args,tys⟩,ty0,pos,aft,gd⟩=some true:=by rfl)
  (hx:ev E x=some (.func (.func f) fs cs):=by rfl) (hargs:evs (ev E) args.toList some=some vs:=by rfl) (has:fs.toList++vs++cs.toList=us:=by rfl)
  (sel:Sels A N N':=by (repeat (first|exact Sels.nil|exact Sel.here|apply Sel.there|apply Sels.cons));first|done|fail)
  (hF:EntF F F1:=by (repeat (first|exact trivial|exact Sel.here|apply Sel.there|apply EntF.cons));first|done|fail):Wr n C ops k Q Tl Fs R ((i,4)::L) E F N:=
 YY ho fun hp hr w st hz sb=>by
  simp only [Zr hw]
  refine ⟨⟨post.X,post.val,post.pure,fun x=>post.F x++F,fun x=>post.R x++N'⟩,fun a G w hp' ha hsub hsat=>?_,fun x hx=>nx x hx hp hr w st hz sb⟩
  unfold OpRes
  rw [run_callF spec.1 hx hargs ha w]
  have e:fs++vs.toArray++cs=us.toArray:=by rw [←has,←Array.toList_inj];simp
  rw [e]
  exact Yu spec.2 hsat sel hF.all fun x w' hx hs'=>⟨x,rfl,hx,hs'⟩
theorem stv_ok' {w:World} {cs':List Value} (h:w.heap[b]? = some (.cells cs ty fzn)) (hf:fzn=(0,0)∨cs.toList.length≤fzn.1) (hv:stv t cs.toList off v=some cs') :
  ∃w',(storeVar t ⟨b,off,none⟩ v).run prog w = .ok () w'∧w'.heap[b]? = some (.cells cs'.toArray ty fzn)∧Same w w'∧∀c,c≠b→w'.heap[c]? = w.heap[c]?:=by
 unfold stv at hv
 split at hv
 ·rename_i r vs hr hvs
  cases hc:(Nat.beq vs.length r.size && vs.all one1) with
  | false=>simp [hc] at hv
  | true=>
   simp only [hc,cond_true] at hv
   rw [Bool.and_eq_true] at hc
   have hlen:=Nat.eq_of_beq_eq_true hc.1
   obtain ⟨h1,h2⟩:=Xy _ _ _ _ _ hv
   have hcl:=X1 hvs
   have hsz:=Zl.sizeOf hr w
   have hle:vs≠[]→off+0+vs.length≤cs.toList.length:=fun hne=>by simpa using h1 hne
   have hst:∃w',(storeCells ⟨b,off,none⟩ vs 0).run prog w = .ok () w'∧w'.heap[b]? = some (.cells cs'.toArray ty fzn)∧Same w w'∧∀c,c≠b→w'.heap[c]? = w.heap[c]?:=by
    by_cases hne:vs=[]
    ·subst hne
     refine ⟨w,rfl,?_,Same.refl _,fun _ _=>rfl⟩
     simp at h2;subst h2;simpa using h
    ·obtain ⟨w',g1,g2,g3,g4⟩:=Yc (P:=prog) off vs 0 w cs.toList (by simpa using h) hf hc.2 (hle hne)
     refine ⟨w',g1,?_,g3,g4⟩
     rw [g2]
     simp at h2;simp [h2]
   obtain ⟨w',g1,g2⟩:=hst
   refine ⟨w',?_,g2⟩
   unfold storeVar
   simp only [Sem.run_bind,hsz,Result.andThen,hcl]
   rw [if_neg (by simp [hlen])]
   exact g1
 ·cases hv
def Ax {α:Type} (T:Nat) (f:α→List Value) (b:Nat) (es:List α) (q:List Value×(Nat×Nat)):HP:=Pt b (.cells (es.flatMap f++q.1).toArray T q.2)
def AxOK (len:Nat) (q:List Value×(Nat×Nat)):Prop:=q.2=(0,0)∨len+q.1.length≤q.2.1
theorem Wb {α:Type} {f:α→List Value} {sz:Nat} {q:List Value} (hf:∀e,(f e).length=sz) {es:List α} {j:Nat} {e:α} (he:es[j]? = some e):es.flatMap f++q=(es.take j).flatMap f++(f e++((es.drop (j+1)).flatMap f++q))∧((es.take j).flatMap f).length=j * sz:=by
 obtain ⟨h1,h2⟩:=ar_split hf he
 exact ⟨by rw [h1];simp,h2⟩
theorem Zo {α:Type} {T:Nat} {f:α→List Value} {es:List α} {q:List Value×(Nat×Nat)} {e:α} (sz j o:Nat) (he:es[j]? = some e) (nx:Wr n C ops k Q Tl Fs R L ((d,v)::E) F N) (hop:nth ops i=some ⟨some d,.load t x,ty0,pos,aft,gd⟩:=by rfl) (hw:wantL ops E ⟨some d,.load t x,ty0,pos,aft,gd⟩=some true:=by rfl)
  (hx:ev E x=some (.pointer (some ⟨b,off,none⟩)):=by rfl) (hs:Sel (Ax T f b es q) R R0:=by (repeat (first|exact Sel.here|apply Sel.there));first|done|fail) (hv:ldv t (f e) o=some v:=by rfl) (hf:∀e,(f e).length=sz:=by intro;rfl) (ho:off=j * sz+o:=by first|rfl|omega) :
  Wr n C ops k Q Tl Fs R ((i,0)::L) E F N:=
 YY hop fun hp hr w st hz sb=>by
  simp only [Zr hw]
  refine ⟨v,fun a w ha hin=>?_,nx hp hr w st hz sb⟩
  obtain ⟨e1,e2⟩:=Wb (q:=q.1) hf he
  have hv':ldv t (es.flatMap f++q.1).toArray.toList off=some v:=by
   rw [ho,←e2]
   show ldv t (es.flatMap f++q.1) _=_
   rw [e1]
   exact ldv_in hv
  have hr:=Y3 (hin _ _ (sb _ _ (stat_pt st hs))) hv'
  simp only [execOp,Instr.loadAt,ha.ev (by rw [ZU];exact hx),Instr.sureAddr,Sem.run_bind,Sem.run_pure,Result.andThen,hr]
theorem Zq {α:Type} {T:Nat} {f:α→List Value} {es:List α} {q:List Value×(Nat×Nat)} {e:α} (sz j o:Nat) (he:es[j]? = some e) (nx:Wr n C ops k Q Tl Fs R L ((d,v)::E) F N) (hop:nth ops i=some ⟨some d,.load t x,ty0,pos,aft,gd⟩:=by rfl) (hw:wantL ops E ⟨some d,.load t x,ty0,pos,aft,gd⟩=some true:=by rfl)
  (hx:ev E x=some (.pointer (some ⟨b,off,none⟩)):=by rfl) (hs:Sel (Ax T f b es q) N N':=by (repeat (first|exact Sel.here|apply Sel.there));first|done|fail) (hv:ldv t (f e) o=some v:=by rfl) (hf:∀e,(f e).length=sz:=by intro;rfl) (ho:off=j * sz+o:=by first|rfl|omega) :
  Wr n C ops k Q Tl Fs R ((i,3)::L) E F N:=
 YY hop fun hp hr w st hz sb=>by
  simp only [Zr hw]
  refine ⟨v,fun a G w hp' ha hsub hsat=>?_,nx hp hr w st hz sb⟩
  obtain ⟨e1,e2⟩:=Wb (q:=q.1) hf he
  have hv':ldv t (es.flatMap f++q.1).toArray.toList off=some v:=by
   rw [ho,←e2]
   show ldv t (es.flatMap f++q.1) _=_
   rw [e1]
   exact ldv_in hv
  have hr:=Y3 (hsat.pt hs) hv'
  simp only [execOp,Instr.loadAt,ha.ev (by rw [ZU];exact hx),Instr.sureAddr,Sem.run_bind,Sem.run_pure,Result.andThen,hr]
theorem Yl {α:Type} {T:Nat} {f:α→List Value} {es:List α} {q:List Value×(Nat×Nat)} {e:α} (sz j o:Nat) (e':α) (he:es[j]? = some e) (hq:AxOK (es.length * sz) q) (nx:Wr n C ops k Q Tl Fs R L E F (Ax T f b (es.set j e') q::N'))
  (hop:nth ops i=some ⟨none,.store t x y,ty0,pos,aft,gd⟩:=by rfl) (hw:wantL ops E ⟨none,.store t x y,ty0,pos,aft,gd⟩=some true:=by rfl)
  (hx:ev E x=some (.pointer (some ⟨b,off,none⟩)):=by rfl) (hy:ev E y=some v:=by rfl) (hs:Sel (Ax T f b es q) N N':=by (repeat (first|exact Sel.here|apply Sel.there));first|done|fail) (hv:stv t (f e) o v=some (f e'):=by rfl) (hf:∀e,(f e).length=sz:=by intro;rfl) (ho:off=j * sz+o:=by first|rfl|omega) :
  Wr n C ops k Q Tl Fs R ((i,4)::L) E F N:=
 YY hop fun hp hr w st hz sb=>by
  simp only [Zr hw]
  refine ⟨⟨Unit,fun _=>undef,fun _=>True,fun _=>F,fun _=>Ax T f b (es.set j e') q::N'⟩,fun a G w hp' ha hsub hsat=>?_,fun _ _=>nx hp hr w st hz sb⟩
  obtain ⟨e1,e2⟩:=Wb (q:=q.1) hf he
  have hv':stv t (es.flatMap f++q.1).toArray.toList off v=some ((es.set j e').flatMap f++q.1):=by
   rw [ho,←e2,ar_set he]
   show stv t (es.flatMap f++q.1) _ _=_
   rw [e1,stv_in hv]
   simp
  have hfz:q.2=(0,0)∨(es.flatMap f++q.1).toArray.toList.length≤q.2.1:=by
   rcases hq with h|h
   ·exact .inl h
   ·exact .inr (by simpa [Zw hf] using h)
  obtain ⟨w',g1,g2,g3,g4⟩:=stv_ok' (hsat.pt hs) hfz hv'
  unfold OpRes
  simp only [execOp,Instr.storeAt,ha.ev (x:=x) (by rw [ZU];exact hx),ha.ev (x:=y) (by rw [ZU];exact hy),Instr.sureAddr,Sem.run_bind,Sem.run_pure,Result.andThen,g1]
  exact ⟨(),trivial,trivial,(hsat.sel hs).write g3 g2 fun c hc _=>g4 c hc⟩
theorem Z0 {α:Type} {T:Nat} {f:α→List Value} {es:List α} {q:List Value×(Nat×Nat)} {e:α} (sz j o:Nat) (e':α) (he:es[j]? = some e) (hq:AxOK (es.length * sz) q) (nx:Wl n C ops.toArray k Q l E F (Ax T f b (es.set j e') q::R0)) (hw:wantL ops E ⟨none,.store t x y,ty0,pos,aft,gd⟩=some true:=by rfl)
  (hx:ev E x=some (.pointer (some ⟨b,off,none⟩)):=by rfl) (hy:ev E y=some v:=by rfl) (hs:Sel (Ax T f b es q) R R0:=by (repeat (first|exact Sel.here|apply Sel.there));first|done|fail) (hv:stv t (f e) o v=some (f e'):=by rfl) (hf:∀e,(f e).length=sz:=by intro;rfl) (ho:off=j * sz+o:=by first|rfl|omega) :
  Wl n C ops.toArray k Q (⟨none,.store t x y,ty0,pos,aft,gd⟩::l) E F R:=
 Z8 (fun t ht=>by cases ht) (fun c hc=>by cases hc) hw fun a w ha hsat=>by
  obtain ⟨e1,e2⟩:=Wb (q:=q.1) hf he
  have hv':stv t (es.flatMap f++q.1).toArray.toList off v=some ((es.set j e').flatMap f++q.1):=by
   rw [ho,←e2,ar_set he]
   show stv t (es.flatMap f++q.1) _ _=_
   rw [e1,stv_in hv]
   simp
  have hfz:q.2=(0,0)∨(es.flatMap f++q.1).toArray.toList.length≤q.2.1:=by
   rcases hq with h|h
   ·exact .inl h
   ·exact .inr (by simpa [Zw hf] using h)
  obtain ⟨w',g1,g2,g3,g4⟩:=stv_ok' (hsat.pt hs) hfz hv'
  unfold OpRes
  simp only [execOp,Instr.storeAt,ha.ev (x:=x) (by rw [ZU];exact hx),ha.ev (x:=y) (by rw [ZU];exact hy),Instr.sureAddr,Sem.run_bind,Sem.run_pure,Result.andThen,g1]
  exact fun a' ha'=>nx a' w' ha' ((hsat.sel hs).write g3 g2 fun c hc _=>g4 c hc)
theorem l_six8 {s:ByteArray} {z:Int} {kd:IntKind} {rs:TRow} (j m:Nat) (hjm:j<m) (nx:∀c:UInt8,Wl n C ops.toArray k Q l ((d,.int .u8 c.toNat)::E) F R)
  (hw:wantL ops E ⟨some d,.index t x y,ty0,pos,aft,gd⟩=some true:=by rfl) (hn:Nat.blt d n=true:=by rfl) (hx:ev E x=some (.string s):=by rfl) (hy:ev E y=some (.int kd z):=by rfl)
  (hts:lookT tab t=some rs:=by rfl) (hrs:rs.k = .str:=by rfl) (hz:z=(j:Int):=by first|rfl|omega) (hm:Nat.ble m s.data.toList.length=true:=by decide +kernel):Wl n C ops.toArray k Q (⟨some d,.index t x y,ty0,pos,aft,gd⟩::l) E F R:=
 have hlt:j<s.data.toList.length:=Nat.lt_of_lt_of_le hjm (Nat.le_of_ble_eq_true hm)
 l_q (fun a w ha=>by
  subst hz
  have h0:(0:Int)≤(j:Int):=by omega
  have h1:s[j]? = some s.data.toList[j]:=by
   have hlt':j<s.size:=by simpa using hlt
   rw [getElem?_pos s j hlt']
   rfl
  simp only [execOp,ha.ev (x:=x) (by rw [ZU];exact hx),ha.ev (x:=y) (by rw [ZU];exact hy),Instr.index,asIntOf,Y4 hts hrs,Sem.run_bind,Result.andThen,Sem.run_pure,if_pos h0,Int.toNat_natCast,h1]) (nx s.data.toList[j]) (by intro c h;cases h) hw hn
def AnyI:Post:=⟨Int,fun z=>.int .i64 z,fun _=>True,fun _=>[],fun _=>[]⟩
theorem len64_ok (u:Nat) (hu:u<256):Enters 182∧Spec prog 182 #[.int .u64 (u:Int)] [] [] AnyI:=by
 have wu:IntKind.u8.wrap (u:Int)=(u:Int):=by simp [IntKind.wrap,IntKind.bits,IntKind.signed];omega
 refine Zb [_] func182 ntmps182 fun G w hp=>?_
 repeat' (first|refine ZH ?_|refine ZG ?_|refine ZK ?_|refine ZI ?_|refine ZP ?_|refine ZJ ?_|refine ZM ?_|refine ZN (fun b=>?_)|refine ZO (fun b=>?_)|refine ZA ?_|refine ZB ?_|refine ZR ?_|rw [wu]|refine l_six8 u 256 hu (fun c=>?_)|(refine ZC (fun hc=>?_) (fun hc=>?_)<;>(try simp at hc)<;>(try omega))|(refine ZE (fun hc=>?_) (fun hc=>?_)<;>(try simp at hc)<;>(try omega)))
 exact ZS (post:=AnyI) _ rfl trivial
theorem bitsLen_ok (u:Nat) (hu:u<256):Enters 131∧Spec prog 131 #[.int .u64 (u:Int)] [] [] AnyI:=by
 have s1:=len64_ok u hu
 refine Zb [_] func131 ntmps131 fun G w hp=>?_
 repeat' (first|refine ZH ?_|refine ZG ?_|refine ZK ?_|refine ZI ?_|refine ZP ?_|refine ZJ ?_|refine ZM ?_|refine ZN (fun b=>?_)|refine ZO (fun b=>?_)|refine ZA ?_|refine ZB ?_|refine ZR ?_|refine ZF (s1) (fun _ _=>?_)|refine l_call0 (s1) (fun _ _=>?_)|(refine ZC (fun hc=>?_) (fun hc=>?_)<;>(try simp at hc)<;>(try omega))|(refine ZE (fun hc=>?_) (fun hc=>?_)<;>(try simp at hc)<;>(try omega)))
 rename_i z _
 exact ZS (post:=AnyI) z rfl trivial
def Srd {α:Type} (c:α→α→Int) (l:List α):Prop:=l.Pairwise fun a b=>¬c b a<0
theorem srt_insr {α:Type} {c:α→α→Int} (ha:∀a b,c a b<0→¬c b a<0) (ht:∀a b d,¬c b a<0→¬c d b<0→¬c d a<0) {P S:List α} {x:α} (h:Srd c (P++S)) (h1:∀s ∈ S,c x s<0) (h2:∀p,P.getLast? = some p→¬c x p<0):Srd c (P++x::S):=by
 obtain ⟨hP,hS,hPS⟩:=List.pairwise_append.1 h
 refine List.pairwise_append.2 ⟨hP,List.pairwise_cons.2 ⟨fun s hs=>ha _ _ (h1 s hs),hS⟩,fun p hp y hy=>?_⟩
 rcases List.mem_cons.1 hy with rfl|hy
 ·rcases List.eq_nil_or_concat P with rfl|⟨P',q,rfl⟩
  ·cases hp
  ·have hq:=h2 q (by simp)
   rw [List.concat_eq_append] at hp hP
   rcases List.mem_append.1 hp with hp|hp
   ·exact ht p q _ ((List.pairwise_append.1 hP).2.2 p hp q (by simp)) hq
   ·obtain rfl:=List.mem_singleton.1 hp;exact hq
 ·exact hPS p hp y hy
theorem swap_set {α:Type} (P:List α) (p x:α) (S:List α):((P++p::x::S).set (P.length+1) p).set P.length x=P++x::p::S:=by
 rw [List.set_append_right _ _ (by omega)]
 simp
end
section
variable {α:Type} [Inhabited α]
def gt (l:List α) (i:Nat):α:=l.getD i default
theorem ZQ {l:List α} {i:Nat} (h:i<l.length):l[i]? = some (gt l i):=by
 unfold gt;rw [List.getD_eq_getElem?_getD,List.getElem?_eq_getElem h];rfl
theorem gt_of {l:List α} {i:Nat} {x:α} (h:l[i]? = some x):gt l i=x:=by
 unfold gt;rw [List.getD_eq_getElem?_getD,h];rfl
theorem Z3 {l:List α} {i:Nat} (h:i<l.length):gt l i ∈ l:=List.mem_of_getElem? (ZQ h)
theorem gt_set {l:List α} {i k:Nat} {x:α} (h:i<l.length):gt (l.set i x) k=if k=i then x else gt l k:=by
 unfold gt
 rw [List.getD_eq_getElem?_getD,List.getD_eq_getElem?_getD,List.getElem?_set]
 by_cases hk:k=i
 ·subst hk;simp [h]
 ·rw [if_neg (fun h=>hk h.symm),if_neg hk]
def sw (l:List α) (i j:Nat):List α:=(l.set i (gt l j)).set j (gt l i)
theorem sw_len (l:List α) (i j:Nat):(sw l i j).length=l.length:=by simp [sw]
theorem Xv {l:List α} {i j k:Nat} (hi:i<l.length) (hj:j<l.length):gt (sw l i j) k=if k=j then gt l i else if k=i then gt l j else gt l k:=by
 unfold sw
 rw [gt_set (by simpa using hj),gt_set hi]
theorem sw_perm {l:List α} {i j:Nat} (hi:i<l.length) (hj:j<l.length):(sw l i j).Perm l:=by
 have h1:gt l j=l[j]:=gt_of (List.getElem?_eq_getElem hj)
 have h2:gt l i=l[i]:=gt_of (List.getElem?_eq_getElem hi)
 unfold sw
 rw [h1,h2]
 exact List.set_set_perm hi hj
structure Win (a b:Nat) (l l':List α):Prop where
 perm:l'.Perm l
 out:∀k,k<a∨b≤k→gt l' k=gt l k
variable {a a' b':Nat} {l l' l'':List α}
theorem Win.len (h:Win a b l l'):l'.length=l.length:=h.perm.length_eq
theorem Win.refl:Win a b l l:=⟨List.Perm.refl _,fun _ _=>rfl⟩
theorem Win.trans (h:Win a b l l') (k:Win a b l' l''):Win a b l l'':=⟨k.perm.trans h.perm,fun i hi=>(k.out i hi).trans (h.out i hi)⟩
theorem Win.mono (h:Win a' b' l l') (h1:a≤a') (h2:b'≤b):Win a b l l':=⟨h.perm,fun k hk=>h.out k (by omega)⟩
theorem Win.sw {i j:Nat} (h1:a≤i) (h2:i<b) (h3:a≤j) (h4:j<b) (hb:b≤l.length):Win a b l (sw l i j):=⟨sw_perm (by omega) (by omega),fun k hk=>by
 rw [Xv (by omega) (by omega),if_neg (by omega),if_neg (by omega)]⟩
theorem Win.sub (h:Win a b l l') {U:α→Prop} (hU:∀x ∈ l,U x):∀x ∈ l',U x:=fun x hx=>hU x (h.perm.mem_iff.1 hx)
def wn (l:List α) (a b:Nat):List α:=(l.drop a).take (b - a)
theorem mem_wn {x:α} (hb:b≤l.length):x ∈ wn l a b↔∃k,a≤k∧k<b∧gt l k=x:=by
 unfold wn
 rw [List.mem_iff_getElem?]
 constructor
 ·rintro ⟨i,hi⟩
  rw [List.getElem?_take] at hi
  split at hi
  ·rw [List.getElem?_drop] at hi
   exact ⟨a+i,by omega,by omega,gt_of hi⟩
  ·cases hi
 ·rintro ⟨k,h1,h2,rfl⟩
  refine ⟨k - a,?_⟩
  rw [List.getElem?_take,if_pos (by omega),List.getElem?_drop,show a+(k - a)=k by omega,ZQ (by omega)]
omit [Inhabited α] in
theorem wn_split (hab:a≤b):l=l.take a++(wn l a b++l.drop b):=by
 unfold wn
 rw [show l.drop b=(l.drop a).drop (b - a) by rw [List.drop_drop];congr 1;omega,List.take_append_drop,List.take_append_drop]
theorem Win.wn (h:Win a b l l') (hab:a≤b):(wn l' a b).Perm (wn l a b):=by
 have h1:=h.perm
 have e1:l'.take a=l.take a:=by
  apply List.ext_getElem?
  intro i
  rw [List.getElem?_take,List.getElem?_take]
  split
  ·rename_i hi
   by_cases hl:i<l.length
   ·rw [ZQ (by rw [h.len];exact hl),ZQ hl,h.out i (by omega)]
   ·rw [List.getElem?_eq_none (by rw [h.len];omega),List.getElem?_eq_none (by omega)]
  ·rfl
 have e2:l'.drop b=l.drop b:=by
  apply List.ext_getElem?
  intro i
  rw [List.getElem?_drop,List.getElem?_drop]
  by_cases hl:b+i<l.length
  ·rw [ZQ (by rw [h.len];exact hl),ZQ hl,h.out (b+i) (by omega)]
  ·rw [List.getElem?_eq_none (by rw [h.len];omega),List.getElem?_eq_none (by omega)]
 rw [wn_split (l:=l') hab,wn_split (l:=l) hab,e1,e2] at h1
 exact (List.perm_append_right_iff _).1 ((List.perm_append_left_iff _).1 h1)
theorem Win.all (h:Win a b l l') (hb:b≤l.length) {P:α→Prop} (hP:∀k,a≤k→k<b→P (gt l k)) (k:Nat) (h1:a≤k) (h2:k<b):P (gt l' k):=by
 have hm:gt l' k ∈ Go.Proofs.YtdkndahndgkmnaaGreatDoor.wn l' a b:=(mem_wn (by rw [h.len];exact hb)).2 ⟨k,h1,h2,rfl⟩
 obtain ⟨j,h3,h4,h5⟩:=(mem_wn hb).1 ((h.wn (by omega)).mem_iff.1 hm)
 rw [←h5]
 exact hP j h3 h4
structure Wk0 (c:α→α→Int):Prop where
 a:∀x y,c x y<0→¬c y x<0
 t:∀x y z,¬c y x<0→¬c z y<0→¬c z x<0
variable {c:α→α→Int} (W:Wk0 c)
include W
omit [Inhabited α] in
theorem Wk0.i (x:α):¬c x x<0:=fun h=>W.a x x h h
omit [Inhabited α] in
theorem Wk0.lt_of {x y z:α} (h1:c x y<0) (h2:¬c z y<0):c x z<0:=Classical.byContradiction fun h=>W.t y z x h2 h h1
omit W
def Sw (c:α→α→Int) (a b:Nat) (l:List α):Prop:=∀i j,a≤i→i<j→j<b→¬c (gt l j) (gt l i)<0
theorem Sw.srd (h:Sw c 0 l.length l):Srd c l:=by
 unfold Srd
 rw [List.pairwise_iff_getElem]
 intro i j hi hj hij
 have h1:=h i j (by omega) hij hj
 rw [gt_of (List.getElem?_eq_getElem hi),gt_of (List.getElem?_eq_getElem hj)] at h1
 exact h1
theorem Sw.nil (h:b≤a+1):Sw c a b l:=fun i j h1 h2 h3=>by omega
structure Jw (c:α→α→Int) (a b a' b':Nat) (l0 l:List α):Prop where
 w:Win a b l0 l
 h1:a≤a'
 h2:b'≤b
 p:∀i j,a≤i→i<j→j<b→¬(a'≤i∧j<b')→¬c (gt l j) (gt l i)<0
def Lw (c:α→α→Int) (a b:Nat) (l:List α):Prop:=0<a→∀k,a≤k→k<b→¬c (gt l k) (gt l (a - 1))<0
variable {l0 l1 l2:List α} {m:Nat}
theorem Jw.win (h:Jw c a b a' b' l0 l) (hb:b≤l0.length) (hw:Win a' b' l l1):Jw c a b a' b' l0 l1:=by
 refine ⟨h.w.trans (hw.mono h.h1 h.h2),h.h1,h.h2,fun i j hi hij hj hn=>?_⟩
 have hl:=h.w.len
 have h2:=h.h2
 by_cases hi':a'≤i∧i<b'
 ·rw [hw.out j (by omega)]
  exact hw.all (by omega) (P:=fun x=>¬c (gt l j) x<0) (fun k h1 h2=>h.p k j (by have:=h.h1;omega) (by omega) hj (by omega)) i hi'.1 hi'.2
 ·rw [hw.out i (by omega)]
  by_cases hj':a'≤j∧j<b'
  ·exact hw.all (by omega) (P:=fun x=>¬c x (gt l i)<0) (fun k h1 h2=>h.p i k hi (by omega) (by omega) (by omega)) j hj'.1 hj'.2
  ·rw [hw.out j (by omega)]
   exact h.p i j hi hij hj hn
theorem Jw.low (h:Jw c a b a' b' l0 l) (hb:b≤l0.length) (hl:Lw c a b l0):Lw c a' b' l:=fun h0 k h1 h2=>by
 have ha:=h.h1
 have hb':=h.h2
 by_cases he:a'=a
 ·subst he
  rw [h.w.out (a' - 1) (by omega)]
  exact h.w.all hb (P:=fun x=>¬c x (gt l0 (a' - 1))<0) (fun k h3 h4=>hl h0 k h3 h4) k (by omega) (by omega)
 ·exact h.p (a' - 1) k (by omega) (by omega) (by omega) (by omega)
theorem Jw.done (h:Jw c a b a' b' l0 l) (hs:Sw c a' b' l):Win a b l0 l∧Sw c a b l:=⟨h.w,fun i j hi hij hj=>by
 by_cases hn:a'≤i∧j<b'
 ·exact hs i j hn.1 hij hn.2
 ·exact h.p i j hi hij hj hn⟩
theorem Jw.init:Jw c a b a b l l:=⟨Win.refl,Nat.le_refl _,Nat.le_refl _,fun _ _ h1 _ h3 h4=>absurd ⟨h1,h3⟩ h4⟩
theorem Jw.shrink {a2 b2:Nat} (h:Jw c a b a' b' l0 l) (h1:a'≤a2) (h2:b2≤b') (hp:∀i j,a'≤i→i<j→j<b'→¬(a2≤i∧j<b2)→¬c (gt l j) (gt l i)<0):Jw c a b a2 b2 l0 l:=⟨h.w,by have:=h.h1;omega,by have:=h.h2;omega,fun i j hi hij hj hn=>by
 by_cases hn':a'≤i∧j<b'
 ·exact hp i j hn'.1 hij hn'.2 hn
 ·exact h.p i j hi hij hj hn'⟩
structure Pt0 (c:α→α→Int) (a b m:Nat) (l:List α):Prop where
 h1:a≤m
 h2:m<b
 lo:∀k,a≤k→k<m→c (gt l k) (gt l m)<0
 hi:∀k,m<k→k<b→¬c (gt l k) (gt l m)<0
include W in
theorem Pt0.left (hp:Pt0 c a' b' m l) (hb:b'≤l.length) (hw:Win a' m l l1) (hs:Sw c a' m l1):∀i j,a'≤i→i<j→j<b'→¬(m+1≤i∧j<b')→¬c (gt l1 j) (gt l1 i)<0:=fun i j hi hij hj hn=>by
 have h1:=hp.h1
 have h2:=hp.h2
 by_cases hjm:j<m
 ·exact hs i j hi hij hjm
 ·rw [hw.out j (by omega)]
  by_cases him:i<m
  ·have h3:c (gt l1 i) (gt l m)<0:=hw.all (by omega) (P:=fun x=>c x (gt l m)<0) (fun k h1 h2=>hp.lo k h1 h2) i hi him
   by_cases hjm':j=m
   ·rw [hjm'];exact W.a _ _ h3
   ·exact W.a _ _ (W.lt_of h3 (hp.hi j (by omega) hj))
  ·obtain rfl:i=m:=by omega
   rw [hw.out i (by omega)]
   exact hp.hi j (by omega) hj
include W in
theorem Pt0.right (hp:Pt0 c a' b' m l) (hb:b'≤l.length) (hw:Win (m+1) b' l l1) (hs:Sw c (m+1) b' l1):∀i j,a'≤i→i<j→j<b'→¬(a'≤i∧j<m)→¬c (gt l1 j) (gt l1 i)<0:=fun i j hi hij hj hn=>by
 have h1:=hp.h1
 have h2:=hp.h2
 by_cases him:m<i
 ·exact hs i j (by omega) hij hj
 ·rw [hw.out i (by omega)]
  by_cases hjm:m<j
  ·have h3:¬c (gt l1 j) (gt l m)<0:=hw.all (by omega) (P:=fun x=>¬c x (gt l m)<0) (fun k h1 h2=>hp.hi k (by omega) h2) j (by omega) hj
   by_cases him':i=m
   ·rw [him'];exact h3
   ·exact W.a _ _ (W.lt_of (hp.lo i hi (by omega)) h3)
  ·obtain rfl:j=m:=by omega
   rw [hw.out j (by omega)]
   exact W.a _ _ (hp.lo i hi (by omega))
theorem Pt0.lw (hp:Pt0 c a b m l):Lw c (m+1) b l:=fun _ k h1 h2=>hp.hi k (by omega) h2
theorem Lw.sub (h:Lw c a b l) (hm:m≤b):Lw c a m l:=fun h0 k h1 h2=>h h0 k h1 (by omega)
include W in
theorem eq_shrink {q:α} (hlow:∀k,a'≤k→k<b'→¬c (gt l k) q<0) (h1:∀k,a'≤k→k<m→¬c q (gt l k)<0):∀i j,a'≤i→i<j→j<b'→¬(m≤i∧j<b')→¬c (gt l j) (gt l i)<0:=fun i j hi hij hj hn=>
 W.t _ _ _ (h1 i hi (by omega)) (hlow j (by omega) hj)
def Hp (c:α→α→Int) (f lo n x:Nat) (l:List α):Prop:=∀i j,lo≤i→(j=2 * i+1∨j=2 * i+2)→j<n→i≠x→¬c (gt l (f+i)) (gt l (f+j))<0
def Hq (c:α→α→Int) (f lo n x:Nat) (l:List α):Prop:=∀i j,lo≤i→(x=2 * i+1∨x=2 * i+2)→(j=2 * x+1∨j=2 * x+2)→j<n→¬c (gt l (f+i)) (gt l (f+j))<0
variable {f lo x y:Nat}
include W in
theorem Hp.step (h:Hp c f lo n x l) (hq:Hq c f lo n x l) (hx:lo≤x) (hy:y=2 * x+1∨y=2 * x+2) (hyn:y<n) (hn:f+n≤l.length) (hlt:c (gt l (f+x)) (gt l (f+y))<0)
  (hmax:∀z,(z=2 * x+1∨z=2 * x+2)→z<n→¬c (gt l (f+y)) (gt l (f+z))<0):Hp c f lo n y (sw l (f+x) (f+y))∧Hq c f lo n y (sw l (f+x) (f+y)):=by
 have g:=fun k=>Xv (l:=l) (i:=f+x) (j:=f+y) (k:=f+k) (by omega) (by omega)
 constructor
 ·intro i j hi hij hj hiy
  rw [g i,g j,if_neg (by omega:¬f+i=f+y)]
  by_cases hix:i=x
  ·subst hix
   rw [if_pos rfl]
   by_cases hjy:j=y
   ·subst hjy;rw [if_pos rfl];exact W.a _ _ hlt
   ·rw [if_neg (by omega),if_neg (by omega)]
    exact hmax j hij hj
  ·rw [if_neg (by omega)]
   have h3:=h i j hi hij hj hix
   by_cases hjy:j=y
   ·omega
   ·rw [if_neg (by omega)]
    by_cases hjx:j=x
    ·subst hjx
     rw [if_pos rfl]
     exact hq i y hi hij hy hyn
    ·rw [if_neg (by omega)];exact h3
 ·intro i j hi hyi hj hjn
  have hix:i=x:=by omega
  subst hix
  rw [g i,g j,if_neg (by omega),if_pos rfl,if_neg (by omega),if_neg (by omega)]
  exact h y j (by omega) hj hjn (by omega)
theorem Hp.stop (h:Hp c f lo n x l) (hs:∀j,(j=2 * x+1∨j=2 * x+2)→j<n→¬c (gt l (f+x)) (gt l (f+j))<0):∀i j,lo≤i→(j=2 * i+1∨j=2 * i+2)→j<n→¬c (gt l (f+i)) (gt l (f+j))<0:=fun i j hi hij hj=>by
 by_cases hx:i=x
 ·subst hx;exact hs j hij hj
 ·exact h i j hi hij hj hx
def He (c:α→α→Int) (f lo n:Nat) (l:List α):Prop:=∀i j,lo≤i→(j=2 * i+1∨j=2 * i+2)→j<n→¬c (gt l (f+i)) (gt l (f+j))<0
include W in
theorem He.top (h:He c f 0 n l):∀j,j<n→¬c (gt l f) (gt l (f+j))<0:=by
 intro j
 induction j using Nat.strongRecOn with
 | ind j ih=>
  intro hj
  by_cases h0:j=0
  ·subst h0;exact W.i _
  ·have h1:=ih ((j - 1) / 2) (by omega) (by omega)
   have h2:=h ((j - 1) / 2) j (by omega) (by omega) hj
   exact W.t _ _ _ h2 h1
structure Hs (c:α→α→Int) (f n N:Nat) (l:List α):Prop where
 he:He c f 0 n l
 so:∀p q,p<q→q<N→n≤q→¬c (gt l (f+q)) (gt l (f+p))<0
include W in
theorem Hs.pop {i N:Nat} (h:Hs c f (i+1) N l) (hi:i<N) (hN:f+N≤l.length) (hw:Win f (f+i) (sw l f (f+i)) l2) (he:He c f 0 i l2):Hs c f i N l2:=by
 refine ⟨he,fun p q hpq hq hiq=>?_⟩
 have g:=fun k=>Xv (l:=l) (i:=f) (j:=f+i) (k:=k) (by omega) (by omega)
 have hs:=sw_len l f (f+i)
 have hall:∀P:α→Prop,(∀k,k≤i→P (gt l (f+k)))→∀p,p<i→P (gt l2 (f+p)):=fun P hP p hp=>
  hw.all (by omega) (P:=P) (fun k h1 h2=>by
   rw [g k,if_neg (by omega)]
   by_cases hk:k=f
   ·rw [if_pos hk];exact hP i (Nat.le_refl _)
   ·rw [if_neg hk,show k=f+(k - f) by omega];exact hP (k - f) (by omega)) (f+p) (by omega) (by omega)
 rw [hw.out (f+q) (by omega),g (f+q)]
 by_cases hqi:q=i
 ·subst hqi
  rw [if_pos rfl]
  exact hall (fun x=>¬c (gt l f) x<0) (fun k hk=>h.he.top W k (by omega)) p hpq
 ·rw [if_neg (by omega),if_neg (by omega)]
  by_cases hpi:p<i
  ·exact hall (fun x=>¬c (gt l (f+q)) x<0) (fun k hk=>h.so k q (by omega) hq (by omega)) p hpi
  ·rw [hw.out (f+p) (by omega),g (f+p)]
   by_cases hp':p=i
   ·rw [if_pos (by omega)]
    exact h.so 0 q (by omega) hq (by omega)
   ·rw [if_neg (by omega),if_neg (by omega)]
    exact h.so p q hpq hq (by omega)
theorem Hs.done {N:Nat} (h:Hs c f 0 N l):Sw c f (f+N) l:=fun i j h1 h2 h3=>by
 have:=h.so (i - f) (j - f) (by omega) (by omega) (by omega)
 rwa [show f+(j - f)=j by omega,show f+(i - f)=i by omega] at this
theorem Hs.init {n N:Nat} (h:He c f 0 n l) (hn:N≤n):Hs c f n N l:=⟨h,fun p q h1 h2 h3=>by omega⟩
omit [Inhabited α] in
theorem snocRec {motive:List α→Prop} (l:List α) (nil:motive []) (snoc:∀(l:List α) (x:α),motive l→motive (l++[x])):motive l:=by
 have h:∀n (l:List α),l.length=n→motive l:=by
  intro n
  induction n with
  | zero=>intro l hl;rw [List.length_eq_zero_iff.1 hl];exact nil
  | succ n ih=>
   intro l hl
   rcases List.eq_nil_or_concat l with h|⟨l',x,h⟩
   ·subst h;exact nil
   ·rw [List.concat_eq_append] at h
    subst h
    exact snoc l' x (ih l' (by simpa using hl))
 exact h _ l rfl
def inR (c:α→α→Int) (P:List α) (x:α):List α:=(P.reverse.dropWhile fun s=>decide (c x s<0)).reverse++x::(P.reverse.takeWhile fun s=>decide (c x s<0)).reverse
omit [Inhabited α] in
theorem inR_eq {P S P0:List α} {x:α} (h:P++S=P0) (h1:∀s ∈ S,c x s<0) (h2:∀p,P.getLast? = some p→¬c x p<0):inR c P0 x=P++x::S:=by
 subst h
 have h3:∀s ∈ S.reverse,decide (c x s<0)=true:=fun s hs=>by simpa using h1 s (List.mem_reverse.1 hs)
 have h4:P.reverse.takeWhile (fun s=>decide (c x s<0))=[]∧P.reverse.dropWhile (fun s=>decide (c x s<0))=P.reverse:=by
  rcases List.eq_nil_or_concat P with hP|⟨P',q,hP⟩
  ·subst hP;simp
  ·rw [List.concat_eq_append] at hP
   subst hP
   have:=h2 q (by simp)
   simp [this]
 unfold inR
 rw [List.reverse_append,List.takeWhile_append_of_pos h3,List.dropWhile_append_of_pos h3,h4.1,h4.2]
 simp
def isR (c:α→α→Int) (l:List α):List α:=l.foldl (inR c) []
omit [Inhabited α] in
theorem inR_split (P:List α) (x:α):∃Q S,Q++S=P∧(∀s ∈ S,c x s<0)∧(∀p,Q.getLast? = some p→¬c x p<0)∧inR c P x=Q++x::S:=by
 induction P using snocRec with
 | nil=>exact ⟨[],[],rfl,by simp,by simp,by simp [inR]⟩
 | snoc P q ih=>
  by_cases hq:c x q<0
  ·obtain ⟨Q,S,h1,h2,h3,h4⟩:=ih
   have h5:∀s ∈ S++[q],c x s<0:=by
    intro s hs
    rcases List.mem_append.1 hs with hs|hs
    ·exact h2 s hs
    ·obtain rfl:=List.mem_singleton.1 hs;exact hq
   exact ⟨Q,S++[q],by rw [←h1];simp,h5,h3,inR_eq (by rw [←h1];simp) h5 h3⟩
  ·have h3:∀p,(P++[q]).getLast? = some p→¬c x p<0:=fun p hp=>by
    simp at hp;subst hp;exact hq
   exact ⟨P++[q],[],by simp,by simp,h3,inR_eq (by simp) (by simp) h3⟩
omit [Inhabited α] in
theorem inR_perm (P:List α) (x:α):(inR c P x).Perm (P++[x]):=by
 obtain ⟨Q,S,h1,_,_,h4⟩:=inR_split (c:=c) P x
 rw [h4,←h1,List.append_assoc]
 refine List.Perm.append_left Q ?_
 exact (List.perm_append_comm (l₁:=[x]) (l₂:=S))
omit [Inhabited α] in
theorem isR_snoc (l:List α) (x:α):isR c (l++[x])=inR c (isR c l) x:=by simp [isR]
omit [Inhabited α] in
theorem isR_perm (l:List α):(isR c l).Perm l:=by
 induction l using snocRec with
 | nil=>exact List.Perm.refl _
 | snoc l x ih=>rw [isR_snoc];exact (inR_perm _ _).trans (ih.append_right [x])
omit [Inhabited α] in
include W in
theorem isR_srd (l:List α):Srd c (isR c l):=by
 induction l using snocRec with
 | nil=>exact List.Pairwise.nil
 | snoc l x ih=>
  rw [isR_snoc]
  obtain ⟨Q,S,h1,h2,h3,h4⟩:=inR_split (c:=c) (isR c l) x
  rw [h4]
  exact srt_insr W.a (fun a b d=>W.t a b d) (by rw [h1];exact ih) h2 h3
omit [Inhabited α] in
theorem isR_len (l:List α):(isR c l).length=l.length:=(isR_perm l).length_eq
theorem sw_of {A M B:List α} (h:Srd c M):Sw c A.length (A.length+M.length) (A++(M++B)):=fun i j h1 h2 h3=>by
 have e:∀k,A.length≤k→k<A.length+M.length→gt (A++(M++B)) k=M[k - A.length]!∧k - A.length<M.length:=fun k h1 h2=>by
  refine ⟨gt_of ?_,by omega⟩
  rw [List.getElem?_append_right h1,List.getElem?_append_left (by omega),List.getElem!_eq_getElem?_getD,List.getElem?_eq_getElem (by omega)]
  rfl
 obtain ⟨e1,l1⟩:=e i h1 (by omega)
 obtain ⟨e2,l2⟩:=e j (by omega) h3
 rw [e1,e2]
 unfold Srd at h
 rw [List.pairwise_iff_getElem] at h
 have:=h (i - A.length) (j - A.length) l1 l2 (by omega)
 rw [List.getElem!_eq_getElem?_getD,List.getElem!_eq_getElem?_getD,List.getElem?_eq_getElem l1,List.getElem?_eq_getElem l2]
 exact this
theorem win_of {A M M' B:List α} (h:M'.Perm M):Win A.length (A.length+M.length) (A++(M++B)) (A++(M'++B)):=⟨(h.append_right B).append_left A,fun k hk=>by
 unfold gt
 rw [List.getD_eq_getElem?_getD,List.getD_eq_getElem?_getD]
 have hl:=h.length_eq
 rcases hk with hk|hk
 ·rw [List.getElem?_append_left hk,List.getElem?_append_left hk]
 ·rw [List.getElem?_append_right (by omega),List.getElem?_append_right (by omega),List.getElem?_append_right (by omega),List.getElem?_append_right (by omega),hl]⟩
end
section
variable (b cap:Nat) (q:List Value×(Nat×Nat)) (fv:FuncId) (Fc:Pf) (c:Nm→Nm→Int) (W:Wk0 c) (U:Nm→Prop) (hcmp:∀x y,U x→U y→Enters fv∧Spec prog fv #[x.v,y.v] [Fc] [] (RetV (.int .i64 (c x y))))
include hcmp in
set_option maxHeartbeats 4000000 in
theorem insWN_ok (A M B:List Nm) (n:Nat) (hn:n=A.length+(M.length+B.length)) (hn2:n≤1000000) (hq:AxOK (n * 5) q) (hU:∀x ∈ A++(M++B),U x) :
  Enters 186∧Spec prog 186 #[.slice (some ⟨b,0,none⟩) n cap,.int .i64 (A.length:Int),.int .i64 ((A.length+M.length:Nat):Int),.func (.func fv) #[] #[]] [Fc] [Ax 46 nmf b (A++(M++B)) q]
   ⟨Unit,fun _=>.tuple #[],fun _=>True,fun _=>[],fun _=>[Ax 46 nmf b (A++(isR c M++B)) q]⟩:=by
 have w0:IntKind.i64.wrap ((A.length:Int)+1)=((A.length+1:Nat):Int):=by rw [wrapi (by omega) (by omega)];omega
 have h1:M.take 1++(M.drop 1++B)=M++B:=by rw [←List.append_assoc,List.take_append_drop]
 have h2:isR c (M.take 1)=M.take 1:=by
  cases M with
  | nil=>rfl
  | cons x M=>simp [isR,inR]
 refine Zb [_,_,_,_] func186 ntmps186 fun G w hp=>?_
 repeat' (first|refine ZH ?_|refine ZG ?_|refine ZK ?_|refine ZI ?_|refine ZP ?_|refine ZJ ?_|refine ZM ?_|refine ZN (fun b=>?_)|refine ZO (fun b=>?_)|refine ZA ?_|refine ZB ?_|refine ZR ?_|refine ZZ ?_|refine ZW ?_|refine Zf ?_|refine Za ?_|refine ZY ?_|refine Ze (fun b=>?_)|refine Zg (fun b=>?_)|refine Zd ?_|refine ZX ?_|refine ZC (fun hc=>?_) (fun hc=>?_)|refine ZL (fun hc=>?_) (fun hc=>?_)|refine ZD 4 [] [(0,0),(1,0),(2,0),(3,0),(4,0),(5,0),(6,0),(7,0),(8,0),(9,0),(10,0),(11,0),(12,0),(13,0),(14,4),(15,0),(16,0)] [] ?_|refine ZD 6 [] [(0,0),(1,0),(2,0),(3,0),(4,0),(5,0),(6,0),(7,0),(8,0),(9,0),(10,0),(11,0),(12,0),(13,0),(14,0),(15,4),(16,0)] [17] ?_|refine ZE (fun hc=>?_) (fun hc=>?_))
 rw [w0]
 refine Z6 (X:={i:Nat // 1≤i∧i≤max 1 M.length}) (fun i=>[(0,.slice (some ⟨b,0,none⟩) n cap),(1,.int .i64 (A.length:Int)),(2,.int .i64 ((A.length+M.length:Nat):Int)),(3,.func (.func fv) #[] #[]),(8,.int .i64 ((A.length+i.1:Nat):Int))]) (fun _=>[Fc]) (fun i=>[Ax 46 nmf b (A++(isR c (M.take i.1)++(M.drop i.1++B))) q]) (fun i=>M.length - i.1)
  ⟨1,by omega,by omega⟩ ⟨rfl,rfl,rfl,rfl,rfl,trivial⟩ ?_ (hr:=by dsimp only;rw [h2,h1];exact Sels.cons Sel.here Sels.nil)
 rintro ⟨i,hi1,hi2⟩
 dsimp only at hi1 hi2 ⊢
 by_cases hin:i<M.length
 ·obtain ⟨x,hx⟩:∃x,M[i]? = some x:=⟨_,List.getElem?_eq_getElem hin⟩
  have hd:M.drop i=x::M.drop (i+1):=by
   rw [List.getElem?_eq_getElem hin] at hx
   rw [←Option.some.inj hx,List.getElem_cons_drop]
  have ht:M.take (i+1)=M.take i++[x]:=by rw [List.take_add_one,hx];rfl
  have hl0:(isR c (M.take i)).length=i:=by rw [isR_len,List.length_take];omega
  have hUx:U x:=hU x (by simp [List.mem_of_getElem? hx])
  have hUP:∀p ∈ isR c (M.take i),U p:=fun p hp=>hU p (by
   have:=List.mem_of_mem_take ((isR_perm _).mem_iff.1 hp)
   simp [this])
  have hdl:(M.drop (i+1)).length=M.length - (i+1):=List.length_drop
  rw [hd]
  have hR:isR c (M.take (i+1))=inR c (isR c (M.take i)) x:=by rw [ht,isR_snoc]
  generalize isR c (M.take i)=P0 at *
  generalize hDe:M.drop (i+1)=D0 at *
  obtain ⟨D,hD⟩:∃D,D=D0++B:=⟨_,rfl⟩
  have hDl:D.length=D0.length+B.length:=by rw [hD,List.length_append]
  rw [show (x::D0++B)=x::([]++D) by rw [hD];rfl]
  repeat' (first|refine ZH ?_|refine ZG ?_|refine ZK ?_|refine ZI ?_|refine ZP ?_|refine ZJ ?_|refine ZM ?_|refine ZN (fun b=>?_)|refine ZO (fun b=>?_)|refine ZA ?_|refine ZB ?_|refine ZZ ?_|refine ZW ?_|refine Zf ?_|refine Za ?_|refine ZY ?_|refine Ze (fun b=>?_)|refine Zg (fun b=>?_)|refine Zd ?_|refine ZX ?_|(refine ZC (fun hc=>?_) (fun hc=>?_)<;>(try simp at hc)<;>(try omega))|(refine ZL (fun hc=>?_) (fun hc=>?_)<;>(try simp at hc)<;>(try omega))|refine ZD 4 [] [(0,0),(1,0),(2,0),(3,0),(4,0),(5,0),(6,0),(7,0),(8,0),(9,0),(10,0),(11,0),(12,0),(13,0),(14,4),(15,0),(16,0)] [] ?_|refine ZD 6 [] [(0,0),(1,0),(2,0),(3,0),(4,0),(5,0),(6,0),(7,0),(8,0),(9,0),(10,0),(11,0),(12,0),(13,0),(14,0),(15,4),(16,0)] [17] ?_|(refine ZE (fun hc=>?_) (fun hc=>?_)<;>(try simp at hc)<;>(try omega)))
  refine Z6 (X:={t:List Nm×List Nm // t.1++t.2=P0∧∀s ∈ t.2,c x s<0}) (fun t=>[(0,.slice (some ⟨b,0,none⟩) n cap),(1,.int .i64 (A.length:Int)),(2,.int .i64 ((A.length+M.length:Nat):Int)),(3,.func (.func fv) #[] #[]),(8,.int .i64 ((A.length+i:Nat):Int)),(9,.int .i64 ((A.length+t.1.1.length:Nat):Int))]) (fun _=>[Fc]) (fun t=>[Ax 46 nmf b (A++(t.1.1++x::(t.1.2++D))) q]) (fun t=>t.1.1.length)
   ⟨(P0,[]),by simp,by simp⟩ ⟨rfl,rfl,rfl,rfl,rfl,(by show look _ _=some (Value.int .i64 ((A.length+P0.length:Nat):Int));rw [hl0];rfl),trivial⟩ ?_
  rintro ⟨⟨P,S⟩,hPS,hS⟩
  dsimp only at hPS hS ⊢
  have hout:(∀p,P.getLast? = some p→¬c x p<0)→A++(P++x::(S++D))=A++(isR c (M.take (i+1))++(M.drop (i+1)++B)):=fun h2=>by
   rw [hR,hDe,inR_eq hPS hS h2,←hD];simp
  have wn:IntKind.i64.wrap (((A.length+i:Nat):Int)+1)=((A.length+(i+1):Nat):Int):=by rw [wrapi (by omega) (by omega)];omega
  rcases List.eq_nil_or_concat P with hP|⟨P',p,hP⟩
  ·subst hP
   have h1:=hout (by simp)
   rw [h1]
   simp only [List.length_nil,Nat.add_zero]
   repeat' (first|refine ZH ?_|refine ZG ?_|refine ZK ?_|refine ZI ?_|refine ZP ?_|refine ZJ ?_|refine ZM ?_|refine ZN (fun b=>?_)|refine ZO (fun b=>?_)|refine ZA ?_|refine ZB ?_|refine ZR ?_|refine ZZ ?_|refine ZW ?_|refine Zf ?_|refine Za ?_|refine ZY ?_|refine Ze (fun b=>?_)|refine Zg (fun b=>?_)|refine Zd ?_|refine ZX ?_|(refine ZC (fun hc=>?_) (fun hc=>?_)<;>(try simp at hc)<;>(try omega))|(refine ZL (fun hc=>?_) (fun hc=>?_)<;>(try simp at hc)<;>(try omega))|refine ZD 4 [] [(0,0),(1,0),(2,0),(3,0),(4,0),(5,0),(6,0),(7,0),(8,0),(9,0),(10,0),(11,0),(12,0),(13,0),(14,4),(15,0),(16,0)] [] ?_|refine ZD 6 [] [(0,0),(1,0),(2,0),(3,0),(4,0),(5,0),(6,0),(7,0),(8,0),(9,0),(10,0),(11,0),(12,0),(13,0),(14,0),(15,4),(16,0)] [17] ?_|(refine ZE (fun hc=>?_) (fun hc=>?_)<;>(try simp at hc)<;>(try omega)))
   rw [wn]
   exact Zc ⟨i+1,by omega,by omega⟩ (by show M.length - (i+1)<M.length - i;omega) ⟨rfl,rfl,rfl,rfl,rfl,trivial⟩
  ·rw [List.concat_eq_append] at hP
   subst hP
   have hPl:=congrArg List.length hPS
   simp only [List.length_append,List.length_cons,List.length_nil] at hPl
   have hj:((A.length+(P'++[p]).length:Nat):Int)=(((A++P').length:Nat):Int)+1:=by simp;omega
   have hAP:(A++P').length=A.length+P'.length:=List.length_append
   have w1:IntKind.i64.wrap (((A++P').length:Int)+1 - 1)=((A++P').length:Int):=by
    rw [wrapi (by omega) (by omega)];omega
   have e1:A++(P'++[p]++x::(S++D))=(A++P')++p::x::(S++D):=by simp
   have hUp:U p:=hUP p (by rw [←hPS];simp)
   have e2:A.length+P'.length=(A++P').length:=hAP.symm
   have e3:A++(P'++x::(p::S++D))=(A++P')++x::p::(S++D):=by simp
   have hSD:(S++D).length=S.length+D.length:=List.length_append
   rw [hj,e1]
   rw [e1] at hout
   have b0:decide ((A.length:Int)<((A++P').length:Int)+1)=true:=by simp<;>omega
   have hlen:n=(A++P').length+1+1+(S++D).length:=by omega
   have hnx:∀t:{t:List Nm×List Nm // t.1++t.2=P0∧∀s ∈ t.2,c x s<0},True:=fun _=>trivial
   clear hnx
   generalize hAPe:A++P'=AP at *
   generalize hSDe:S++D=SD at *
   have g1:(AP++p::x::SD)[AP.length+1]? = some x:=by
    rw [List.getElem?_append_right (by omega)];simp
   have g0:(AP++p::x::SD)[AP.length]? = some p:=by
    rw [List.getElem?_append_right (by omega)];simp
   have g2:((AP++p::x::SD).set (AP.length+1) p)[AP.length]? = some p:=by
    rw [List.getElem?_set_ne (by omega)];exact g0
   have hl2:(AP++p::x::SD).length=n:=by simp;omega
   have hq1:AxOK ((AP++p::x::SD).length * 5) q:=by rw [hl2];exact hq
   have hq2:AxOK (((AP++p::x::SD).set (AP.length+1) p).length * 5) q:=by rw [List.length_set,hl2];exact hq
   have hj1:AP.length+1<n:=by omega
   have hj0:AP.length<n:=by omega
   have sp:=hcmp x p hUx hUp
   repeat' (first|refine ZH ?_|refine ZG ?_|refine ZK ?_|refine ZI ?_|refine ZP ?_|refine ZJ ?_|refine ZM ?_|refine ZN (fun b=>?_)|refine ZO (fun b=>?_)|refine ZA ?_|refine ZB ?_|refine ZR ?_|refine ZZ ?_|refine ZW ?_|refine Zf ?_|refine Za ?_|refine ZY ?_|refine Ze (fun b=>?_)|refine Zg (fun b=>?_)|refine Zd ?_|refine ZX ?_|rw [b0]|rw [w1]|refine r_ixP (m:=n) (AP.length+1) hj1 ?_|refine r_ixP (m:=n) AP.length hj0 ?_|refine Zo 5 (AP.length+1) 0 g1 ?_|refine Zo 5 AP.length 0 g0 ?_|refine Zq 5 (AP.length+1) 0 g1 ?_|refine Zq 5 AP.length 0 g0 ?_|refine Yl 5 (AP.length+1) 0 p g1 hq1 ?_|refine Zu sp (fun _ _=>?_)|refine l_ixS (m:=n) (AP.length+1) hj1 ?_|refine l_ixS (m:=n) AP.length hj0 ?_|refine Z0 5 (AP.length+1) 0 p g1 hq1 ?_|refine Z0 5 AP.length 0 x g2 hq2 ?_|refine Y0 ?_|(refine ZC (fun hc=>?_) (fun hc=>?_)<;>(try simp at hc)<;>(try omega))|(refine ZL (fun hc=>?_) (fun hc=>?_)<;>(try simp at hc)<;>(try omega))|refine ZD 4 [] [(0,0),(1,0),(2,0),(3,0),(4,0),(5,0),(6,0),(7,0),(8,0),(9,0),(10,0),(11,0),(12,0),(13,0),(14,4),(15,0),(16,0)] [] ?_|refine ZD 6 [Ax _ _ _ _ _] [(0,0),(1,0),(2,0),(3,0),(4,0),(5,0),(6,0),(7,0),(8,0),(10,0),(11,0),(12,0),(9,3),(13,3),(14,0),(15,4),(16,0)] [17] ?_|(refine ZE (fun hc=>?_) (fun hc=>?_)<;>(try simp at hc)<;>(try omega)))
   ·rw [swap_set,←e3]
    refine Zc ⟨(P',p::S),by simpa using hPS,by
     intro s hs
     rcases List.mem_cons.1 hs with rfl|hs
     ·exact hc
     ·exact hS s hs⟩ (by simp) ⟨rfl,rfl,rfl,rfl,rfl,(by show look _ _=some (Value.int .i64 ((A.length+P'.length:Nat):Int));rw [e2];rfl),trivial⟩
   ·rw [hout (by simpa using hc),wn]
    exact Zc ⟨i+1,by omega,by omega⟩ (by show M.length - (i+1)<M.length - i;omega) ⟨rfl,rfl,rfl,rfl,rfl,trivial⟩
 ·have e1:isR c (M.take i)++(M.drop i++B)=isR c M++B:=by
   rw [List.take_of_length_le (by omega),List.drop_eq_nil_of_le (by omega)];rfl
  rw [e1]
  repeat' (first|refine ZH ?_|refine ZG ?_|refine ZK ?_|refine ZI ?_|refine ZP ?_|refine ZJ ?_|refine ZM ?_|refine ZN (fun b=>?_)|refine ZO (fun b=>?_)|refine ZA ?_|refine ZB ?_|refine ZR ?_|refine ZZ ?_|refine ZW ?_|refine Zf ?_|refine Za ?_|refine ZY ?_|refine Ze (fun b=>?_)|refine Zg (fun b=>?_)|refine Zd ?_|refine ZX ?_|(refine ZC (fun hc=>?_) (fun hc=>?_)<;>(try simp at hc)<;>(try omega))|(refine ZL (fun hc=>?_) (fun hc=>?_)<;>(try simp at hc)<;>(try omega))|refine ZD 4 [] [(0,0),(1,0),(2,0),(3,0),(4,0),(5,0),(6,0),(7,0),(8,0),(9,0),(10,0),(11,0),(12,0),(13,0),(14,4),(15,0),(16,0)] [] ?_|refine ZD 6 [] [(0,0),(1,0),(2,0),(3,0),(4,0),(5,0),(6,0),(7,0),(8,0),(9,0),(10,0),(11,0),(12,0),(13,0),(14,0),(15,4),(16,0)] [17] ?_|(refine ZE (fun hc=>?_) (fun hc=>?_)<;>(try simp at hc)<;>(try omega)))
  exact XB () rfl trivial
end
def drpS:Nat→List Fr→List Fr
 | m+1,.c (.seq _ b)::k=>drpS m (.c b::k)
 | _,k=>k
section
theorem k_cutd {Y:Type} {c2:Code} {k2:List Fr} (m:Nat) (mE:Y→List (Nat×Value)) (mF:Y→List Pf) (mR:Y→List HP) (t2:∀y,Wk n C (.c c2::k2) Q (mE y) (mF y) (mR y)) (t:(∀y,Wk n C (.c c2::k2) Q (mE y) (mF y) (mR y))→Wk n C k Q E F R) (_h:drpS m k = .c c2::k2:=by rfl):Wk n C k Q E F R:=t t2
theorem Xh (t:Wk n C k Q E F R):Wk n C (.c .skip::k) Q E F R:=fun a w ha hs=>Yv 1 (.c .skip::k) (t a w ha hs)
end
section
theorem l_six8P {s:ByteArray} {z:Int} {kd:IntKind} {rs:TRow} (Pr:Nat→Nat→Bool) (j m:Nat) (hjm:j<m) (nx:∀c:UInt8,Pr j c.toNat=true→Wl n C ops.toArray k Q l ((d,.int .u8 c.toNat)::E) F R)
  (hw:wantL ops E ⟨some d,.index t x y,ty0,pos,aft,gd⟩=some true:=by rfl) (hn:Nat.blt d n=true:=by rfl) (hx:ev E x=some (.string s):=by rfl) (hy:ev E y=some (.int kd z):=by rfl)
  (hts:lookT tab t=some rs:=by rfl) (hrs:rs.k = .str:=by rfl) (hz:z=(j:Int):=by first|rfl|omega) (hm:(Nat.ble m s.data.toList.length && (List.range m).all (fun j=>Pr j (s.data.toList.getD j 0).toNat))=true:=by decide +kernel):Wl n C ops.toArray k Q (⟨some d,.index t x y,ty0,pos,aft,gd⟩::l) E F R:=by
 rw [Bool.and_eq_true] at hm
 have hlt:j<s.data.toList.length:=Nat.lt_of_lt_of_le hjm (Nat.le_of_ble_eq_true hm.1)
 have hp:Pr j (s.data.toList[j]).toNat=true:=by
  have:=List.all_eq_true.1 hm.2 j (List.mem_range.2 hjm)
  rwa [List.getD_eq_getElem?_getD,List.getElem?_eq_getElem hlt] at this
 exact l_q (fun a w ha=>by
  subst hz
  have h0:(0:Int)≤(j:Int):=by omega
  have h1:s[j]? = some s.data.toList[j]:=by
   have hlt':j<s.size:=by simpa using hlt
   rw [getElem?_pos s j hlt']
   rfl
  simp only [execOp,ha.ev (x:=x) (by rw [ZU];exact hx),ha.ev (x:=y) (by rw [ZU];exact hy),Instr.index,asIntOf,Y4 hts hrs,Sem.run_bind,Result.andThen,Sem.run_pure,if_pos h0,Int.toNat_natCast,h1]) (nx s.data.toList[j] hp) (by intro c h;cases h) hw hn
end
def LenP (u c:Nat):Bool:=Nat.ble c 8 && (Nat.blt u (2 ^ c) && (Nat.ble (2 ^ c) (2 * u) || Nat.beq u 0))
theorem len64P_ok (u:Nat) (hu:u<256):Enters 182∧Spec prog 182 #[.int .u64 (u:Int)] [] [] ⟨{c:Nat // LenP u c=true},fun c=>.int .i64 (c.1:Int),fun _=>True,fun _=>[],fun _=>[]⟩:=by
 have wu:IntKind.u8.wrap (u:Int)=(u:Int):=by simp [IntKind.wrap,IntKind.bits,IntKind.signed];omega
 refine Zb [_] func182 ntmps182 fun G w hp=>?_
 repeat' (first|refine ZH ?_|refine ZG ?_|refine ZK ?_|refine ZI ?_|refine ZP ?_|refine ZJ ?_|refine ZM ?_|refine ZN (fun b=>?_)|refine ZO (fun b=>?_)|refine ZA ?_|refine ZB ?_|refine ZR ?_|rw [wu]|refine l_six8P LenP u 256 hu (fun c hc=>?_)|(refine ZC (fun hc=>?_) (fun hc=>?_)<;>(try simp at hc)<;>(try omega))|(refine ZE (fun hc=>?_) (fun hc=>?_)<;>(try simp at hc)<;>(try omega)))
 rename_i c hc
 have hc8:c.toNat≤8:=by
  unfold LenP at hc
  rw [Bool.and_eq_true] at hc
  exact Nat.le_of_ble_eq_true hc.1
 refine ZS ⟨c.toNat,hc⟩ ?_ trivial
 show Value.int .i64 _=Value.int .i64 _
 congr 1
 simp (disch:=omega) only [wrapi]
 omega
theorem bitsLenP_ok (u:Nat) (hu:u<256):Enters 131∧Spec prog 131 #[.int .u64 (u:Int)] [] [] ⟨{c:Nat // LenP u c=true},fun c=>.int .i64 (c.1:Int),fun _=>True,fun _=>[],fun _=>[]⟩:=by
 have s1:=len64P_ok u hu
 refine Zb [_] func131 ntmps131 fun G w hp=>?_
 repeat' (first|refine ZH ?_|refine ZG ?_|refine ZK ?_|refine ZI ?_|refine ZP ?_|refine ZJ ?_|refine ZM ?_|refine ZN (fun b=>?_)|refine ZO (fun b=>?_)|refine ZA ?_|refine ZB ?_|refine ZR ?_|refine ZF (s1) (fun _ _=>?_)|refine l_call0 (s1) (fun _ _=>?_)|(refine ZC (fun hc=>?_) (fun hc=>?_)<;>(try simp at hc)<;>(try omega))|(refine ZE (fun hc=>?_) (fun hc=>?_)<;>(try simp at hc)<;>(try omega)))
 rename_i z _
 exact ZS z rfl trivial
theorem shl8:∀c:Fin 9,IntKind.u64.wrap (1 * 2 ^ min ((c.val:Int).toNat) IntKind.u64.bits)=((2 ^ c.val:Nat):Int):=by decide +kernel
theorem pow2_ok (u:Nat) (hu:u<256):Enters 211∧Spec prog 211 #[.int .i64 (u:Int)] [] [] ⟨{c:Nat // LenP u c=true},fun c=>.int .u64 ((2 ^ c.1:Nat):Int),fun _=>True,fun _=>[],fun _=>[]⟩:=by
 have s1:=bitsLenP_ok u hu
 have w1:IntKind.u64.wrap (u:Int)=(u:Int):=Xs (by omega)
 refine Zb [_] func211 ntmps211 fun G w hp=>?_
 repeat' (first|refine ZH ?_|refine ZG ?_|refine ZK ?_|refine ZI ?_|refine ZP ?_|refine ZJ ?_|refine ZM ?_|refine ZN (fun b=>?_)|refine ZO (fun b=>?_)|refine ZA ?_|refine ZB ?_|refine ZR ?_|refine ZF (s1) (fun _ _=>?_)|refine l_call0 (s1) (fun _ _=>?_)|rw [w1]|(refine ZC (fun hc=>?_) (fun hc=>?_)<;>(try simp at hc))|(refine ZE (fun hc=>?_) (fun hc=>?_)<;>(try simp at hc)))
 rename_i z _
 obtain ⟨z,hz⟩:=z
 have hz8:z≤8:=by
  unfold LenP at hz
  rw [Bool.and_eq_true] at hz
  exact Nat.le_of_ble_eq_true hz.1
 have e:IntKind.u64.wrap (1 * 2 ^ min ((z:Int).toNat) IntKind.u64.bits)=((2 ^ z:Nat):Int):=shl8 ⟨z,by omega⟩
 refine ZS ⟨z,hz⟩ ?_ trivial
 exact congrArg (Value.int .u64) e
theorem xnext_ok (rb:Nat) (z:Int):Enters 212∧Spec prog 212 #[.pointer (some ⟨rb,0,none⟩)] [] [Pt rb (.cells #[.int .u64 z] 330)] ⟨Int,fun z=>.int .u64 z,fun _=>True,fun _=>[],fun z=>[Pt rb (.cells #[.int .u64 z] 330)]⟩:=by
 refine Zb [_] func212 ntmps212 fun G w hp=>?_
 repeat' (first|refine ZH ?_|refine ZG ?_|refine ZK ?_|refine ZI ?_|refine ZP ?_|refine ZJ ?_|refine ZM ?_|refine ZN (fun b=>?_)|refine ZO (fun b=>?_)|refine ZA ?_|refine ZB ?_|refine ZR ?_|refine ZZ ?_|refine ZW ?_|refine Zf ?_|refine Za ?_|refine ZY ?_|refine Ze (fun b=>?_)|refine Zg (fun b=>?_)|refine Zd ?_|refine ZX ?_|refine Y0 ?_|(refine ZC (fun hc=>?_) (fun hc=>?_)<;>(try simp at hc))|(refine ZL (fun hc=>?_) (fun hc=>?_)<;>(try simp at hc))|refine ZD 1 [Pt _ _] [(0,0),(1,0),(3,0),(4,0),(2,3),(5,3),(6,0),(7,0),(8,0)] [9] ?_|refine ZD 2 [Pt _ _] [(0,0),(1,0),(3,0),(4,0),(2,3),(5,3),(6,0),(7,0),(8,0)] [9] ?_|refine ZD 3 [Pt _ _] [(0,0),(1,0),(3,0),(4,0),(2,3),(5,3),(6,0),(7,0),(8,0)] [9] ?_|(refine ZE (fun hc=>?_) (fun hc=>?_)<;>(try simp at hc)))
 exact ZS _ rfl trivial
theorem and_low (z y:Int) (c:Nat) (hc:c≤8) (hy:y=((2 ^ c:Nat):Int)):∃o:Nat,o<2 ^ c∧IntKind.i64.wrap (IntKind.u64.wrap (((BitVec.ofInt IntKind.u64.bits z &&& BitVec.ofInt IntKind.u64.bits (IntKind.u64.wrap (y - 1))).toNat:Nat):Int))=(o:Int):=by
 have hp:(2:Nat) ^ c≤2 ^ 8:=Nat.pow_le_pow_right (by omega) hc
 have h1:0<(2:Nat) ^ c:=Nat.pow_pos (by omega)
 have w1:IntKind.u64.wrap (y - 1)=((2 ^ c - 1:Nat):Int):=by
  rw [hy,show ((2 ^ c:Nat):Int) - 1=((2 ^ c - 1:Nat):Int) by omega]
  exact Xs (by omega)
 rw [w1]
 have h2:(BitVec.ofInt IntKind.u64.bits z &&& BitVec.ofInt IntKind.u64.bits ((2 ^ c - 1:Nat):Int)).toNat≤2 ^ c - 1:=by
  rw [BitVec.toNat_and]
  refine Nat.le_trans Nat.and_le_right ?_
  rw [BitVec.ofInt_natCast,BitVec.toNat_ofNat]
  exact Nat.mod_le _ _
 generalize (BitVec.ofInt IntKind.u64.bits z &&& BitVec.ofInt IntKind.u64.bits ((2 ^ c - 1:Nat):Int)).toNat=o at h2
 exact ⟨o,by omega,by rw [Xs (by omega),wrapi (by omega) (by omega)]⟩
section
variable {i:Nat}
theorem Zj {T sz m cap:Nat} {z:Int} {rs tr:TRow} (j:Nat) (hlt:j<m) (nx:Wr n C ops k Q Tl Fs R L ((d,.pointer (some ⟨b,j * sz,none⟩))::E) F N)
  (ho:nth ops i=some ⟨some d,.indexAddr t x y,ty0,pos,aft,gd⟩:=by rfl) (hw:wantL ops E ⟨some d,.indexAddr t x y,ty0,pos,aft,gd⟩=some true:=by rfl) (hx:ev E x=some (.slice (some ⟨b,0,none⟩) m cap):=by rfl) (hy:ev E y=some (.int .i64 z):=by rfl)
  (hts:lookT tab t=some rs:=by rfl) (hrs:rs.k = .slice T:=by rfl) (hT:lookT tab T=some tr:=by rfl) (hsz:tr.size=sz:=by rfl) (hz:z=(j:Int):=by first|rfl|omega|(simp (disch:=omega) only [wrapi];first|done|omega|fail)):Wr n C ops k Q Tl Fs R ((i,0)::L) E F N:=
 r_ixP j hlt nx ho hw hx hy hts hrs hT hsz hz
theorem k_ax {α:Type} {T b:Nat} {f:α→List Value} {es:List α} {q:List Value×(Nat×Nat)} (es':List α) (h:es=es') (t:Wk n C k Q E F (Ax T f b es' q::R0)) (hs:Sel (Ax T f b es q) R R0:=by (repeat (first|exact Sel.here|apply Sel.there));first|done|fail):Wk n C k Q E F R:=by
 subst h
 exact fun a w ha hsat=>t a w ha (hsat.sel hs)
end
section
variable (bk cap:Nat) (q:List Value×(Nat×Nat)) (fv:FuncId) (Fc:Pf) (c:Nm→Nm→Int) (W:Wk0 c) (U:Nm→Prop) (hcmp:∀x y,U x→U y→Enters fv∧Spec prog fv #[x.v,y.v] [Fc] [] (RetV (.int .i64 (c x y))))
instance inhN:Inhabited Nm:=⟨⟨0,⟨#[]⟩,0,0,⟨#[]⟩⟩⟩
include hcmp in
theorem ord2N_ok (l:List Nm) (n:Nat) (hn:n=l.length) (hU:∀x ∈ l,U x) (i j:Nat) (hi:i<n) (hj:j<n) (sb:Nat) (z:Int) :
  Enters 224∧Spec prog 224 #[.slice (some ⟨bk,0,none⟩) n cap,.int .i64 (i:Int),.int .i64 (j:Int),.pointer (some ⟨sb,0,none⟩),.func (.func fv) #[] #[]] [Fc] [Ax 46 nmf bk l q,Pt sb (.cells #[.int .i64 z] 3)]
   ⟨{t:Nat×Nat×Int // (t.1=i∧t.2.1=j)∨(t.1=j∧t.2.1=i)},fun t=>.tuple #[.int .i64 (t.1.1:Int),.int .i64 (t.1.2.1:Int)],fun _=>True,fun _=>[],fun t=>[Ax 46 nmf bk l q,Pt sb (.cells #[.int .i64 t.1.2.2] 3)]⟩:=by
 have ki:i<l.length:=by omega
 have kj:j<l.length:=by omega
 have sp:=hcmp (gt l j) (gt l i) (hU _ (Z3 kj)) (hU _ (Z3 ki))
 refine Zb [_,_,_,_,_] func224 ntmps224 fun G w hp=>?_
 repeat' (first|refine ZH ?_|refine ZG ?_|refine ZK ?_|refine ZI ?_|refine ZP ?_|refine ZJ ?_|refine ZM ?_|refine ZN (fun b=>?_)|refine ZO (fun b=>?_)|refine ZA ?_|refine ZB ?_|refine ZR ?_|refine ZZ ?_|refine ZW ?_|refine Zf ?_|refine Za ?_|refine ZY ?_|refine Ze (fun b=>?_)|refine Zg (fun b=>?_)|refine Zd ?_|refine ZX ?_|refine Zj (m:=n) (i) hi ?_|refine l_ixW (m:=n) (i) hi ?_|refine Zj (m:=n) (j) hj ?_|refine l_ixW (m:=n) (j) hj ?_|refine Zo 5 (i) 0 (ZQ ki) ?_|refine l_ldE 5 (i) 0 (ZQ ki) ?_|refine Zo 5 (j) 0 (ZQ kj) ?_|refine l_ldE 5 (j) 0 (ZQ kj) ?_|refine Zu sp (fun _ _=>?_)|(refine ZC (fun hc=>?_) (fun hc=>?_)<;>(try simp at hc))|(refine ZL (fun hc=>?_) (fun hc=>?_)<;>(try simp at hc))|refine ZD 1 [] [(0,0),(1,0),(2,0),(3,0),(4,0),(5,0),(6,0),(7,0),(8,0),(9,4),(10,0)] [] ?_|(refine ZE (fun hc=>?_) (fun hc=>?_)<;>(try simp at hc)))
 ·exact ZS ⟨(j,i,_),.inr ⟨rfl,rfl⟩⟩ rfl trivial
 ·exact ZS ⟨(i,j,_),.inl ⟨rfl,rfl⟩⟩ rfl trivial
include hcmp in
theorem medN_ok (l:List Nm) (n:Nat) (hn:n=l.length) (hU:∀x ∈ l,U x) (i j k:Nat) (hi:i<n) (hj:j<n) (hk:k<n) (sb:Nat) (z:Int) :
  Enters 219∧Spec prog 219 #[.slice (some ⟨bk,0,none⟩) n cap,.int .i64 (i:Int),.int .i64 (j:Int),.int .i64 (k:Int),.pointer (some ⟨sb,0,none⟩),.func (.func fv) #[] #[]] [Fc] [Ax 46 nmf bk l q,Pt sb (.cells #[.int .i64 z] 3)]
   ⟨{t:Nat×Int // t.1=i∨t.1=j∨t.1=k},fun t=>.int .i64 (t.1.1:Int),fun _=>True,fun _=>[],fun t=>[Ax 46 nmf bk l q,Pt sb (.cells #[.int .i64 t.1.2] 3)]⟩:=by
 have s1:=ord2N_ok bk cap q fv Fc c U hcmp l n hn hU
 refine Zb [_,_,_,_,_,_] func219 ntmps219 fun G w hp=>?_
 repeat' (first|refine ZH ?_|refine ZG ?_|refine ZK ?_|refine ZI ?_|refine ZP ?_|refine ZJ ?_|refine ZM ?_|refine ZN (fun b=>?_)|refine ZO (fun b=>?_)|refine ZA ?_|refine ZB ?_|refine ZR ?_|refine ZF (s1 i j hi hj _ _) (fun _ _=>?_)|refine l_call0 (s1 i j hi hj _ _) (fun _ _=>?_)|(refine ZC (fun hc=>?_) (fun hc=>?_)<;>(try simp at hc))|(refine ZE (fun hc=>?_) (fun hc=>?_)<;>(try simp at hc)))
 rename_i t1 _
 obtain ⟨⟨i1,j1,z1⟩,h1⟩:=t1
 dsimp only at h1 ⊢
 have hi1:i1<n:=by omega
 have hj1:j1<n:=by omega
 repeat' (first|refine ZH ?_|refine ZG ?_|refine ZK ?_|refine ZI ?_|refine ZP ?_|refine ZJ ?_|refine ZM ?_|refine ZN (fun b=>?_)|refine ZO (fun b=>?_)|refine ZA ?_|refine ZB ?_|refine ZR ?_|refine ZF (s1 j1 k hj1 hk _ _) (fun _ _=>?_)|refine l_call0 (s1 j1 k hj1 hk _ _) (fun _ _=>?_)|(refine ZC (fun hc=>?_) (fun hc=>?_)<;>(try simp at hc))|(refine ZE (fun hc=>?_) (fun hc=>?_)<;>(try simp at hc)))
 rename_i t2 _
 obtain ⟨⟨j2,k2,z2⟩,h2⟩:=t2
 dsimp only at h2 ⊢
 have hj2:j2<n:=by omega
 repeat' (first|refine ZH ?_|refine ZG ?_|refine ZK ?_|refine ZI ?_|refine ZP ?_|refine ZJ ?_|refine ZM ?_|refine ZN (fun b=>?_)|refine ZO (fun b=>?_)|refine ZA ?_|refine ZB ?_|refine ZR ?_|refine ZF (s1 i1 j2 hi1 hj2 _ _) (fun _ _=>?_)|refine l_call0 (s1 i1 j2 hi1 hj2 _ _) (fun _ _=>?_)|(refine ZC (fun hc=>?_) (fun hc=>?_)<;>(try simp at hc))|(refine ZE (fun hc=>?_) (fun hc=>?_)<;>(try simp at hc)))
 rename_i t3 _
 obtain ⟨⟨i3,j3,z3⟩,h3⟩:=t3
 dsimp only at h3 ⊢
 repeat' (first|refine ZH ?_|refine ZG ?_|refine ZK ?_|refine ZI ?_|refine ZP ?_|refine ZJ ?_|refine ZM ?_|refine ZN (fun b=>?_)|refine ZO (fun b=>?_)|refine ZA ?_|refine ZB ?_|refine ZR ?_|(refine ZC (fun hc=>?_) (fun hc=>?_)<;>(try simp at hc))|(refine ZE (fun hc=>?_) (fun hc=>?_)<;>(try simp at hc)))
 exact ZS ⟨(j3,z3),by show j3=i∨j3=j∨j3=k;omega⟩ rfl trivial
include hcmp in
theorem medAN_ok (l:List Nm) (n:Nat) (hn:n=l.length) (hn2:n≤1000000) (hU:∀x ∈ l,U x) (j:Nat) (hj0:0<j) (hj:j+1<n) (sb:Nat) (z:Int) :
  Enters 218∧Spec prog 218 #[.slice (some ⟨bk,0,none⟩) n cap,.int .i64 (j:Int),.pointer (some ⟨sb,0,none⟩),.func (.func fv) #[] #[]] [Fc] [Ax 46 nmf bk l q,Pt sb (.cells #[.int .i64 z] 3)]
   ⟨{t:Nat×Int // t.1≤j+1∧j≤t.1+1},fun t=>.int .i64 (t.1.1:Int),fun _=>True,fun _=>[],fun t=>[Ax 46 nmf bk l q,Pt sb (.cells #[.int .i64 t.1.2] 3)]⟩:=by
 have s1:=medN_ok bk cap q fv Fc c U hcmp l n hn hU (j - 1) j (j+1) (by omega) (by omega) hj sb z
 have w1:IntKind.i64.wrap ((j:Int) - 1)=((j - 1:Nat):Int):=by rw [wrapi (by omega) (by omega)];omega
 have w2:IntKind.i64.wrap ((j:Int)+1)=((j+1:Nat):Int):=by rw [wrapi (by omega) (by omega)];omega
 refine Zb [_,_,_,_] func218 ntmps218 fun G w hp=>?_
 repeat' (first|refine ZH ?_|refine ZG ?_|refine ZK ?_|refine ZI ?_|refine ZP ?_|refine ZJ ?_|refine ZM ?_|refine ZN (fun b=>?_)|refine ZO (fun b=>?_)|refine ZA ?_|refine ZB ?_|refine ZR ?_|refine ZF (s1) (fun _ _=>?_)|refine l_call0 (s1) (fun _ _=>?_)|rw [w1]|rw [w2]|(refine ZC (fun hc=>?_) (fun hc=>?_)<;>(try simp at hc))|(refine ZE (fun hc=>?_) (fun hc=>?_)<;>(try simp at hc)))
 rename_i t _
 obtain ⟨⟨j1,z1⟩,h1⟩:=t
 exact ZS ⟨(j1,z1),by omega⟩ rfl trivial
include hcmp in
theorem chpN_ok (l:List Nm) (n:Nat) (hn:n=l.length) (hn2:n≤1000000) (hU:∀x ∈ l,U x) (a bb:Nat) (hab:a+12<bb) (hb:bb≤n) :
  Enters 189∧Spec prog 189 #[.slice (some ⟨bk,0,none⟩) n cap,.int .i64 (a:Int),.int .i64 (bb:Int),.func (.func fv) #[] #[]] [Fc] [Ax 46 nmf bk l q]
   ⟨{t:Nat×Int // a≤t.1∧t.1<bb∧(t.2=0∨t.2=1∨t.2=2)},fun t=>.tuple #[.int .i64 (t.1.1:Int),.int .i64 t.1.2],fun _=>True,fun _=>[],fun _=>[Ax 46 nmf bk l q]⟩:=by
 have s1:=medN_ok bk cap q fv Fc c U hcmp l n hn hU
 have s2:=medAN_ok bk cap q fv Fc c U hcmp l n hn hn2 hU
 obtain ⟨N,hN⟩:∃N,N=bb - a:=⟨_,rfl⟩
 obtain ⟨p,hp⟩:∃p,p=N / 4:=⟨_,rfl⟩
 have w0:IntKind.i64.wrap ((bb:Int) - (a:Int))=(N:Int):=by rw [wrapi (by omega) (by omega)];omega
 have w1:IntKind.i64.wrap ((N:Int).tdiv 4)=(p:Int):=by
  have:(N:Int).tdiv 4=(p:Int):=by rw [hp];exact (Int.ofNat_tdiv _ _).symm
  rw [this,wrapi (by omega) (by omega)]
 have v1:IntKind.i64.wrap ((a:Int)+IntKind.i64.wrap ((p:Int) * 1))=((a+p:Nat):Int):=by simp (disch:=omega) only [wrapi];omega
 have v2:IntKind.i64.wrap ((a:Int)+IntKind.i64.wrap ((p:Int) * 2))=((a+2 * p:Nat):Int):=by simp (disch:=omega) only [wrapi];omega
 have v3:IntKind.i64.wrap ((a:Int)+IntKind.i64.wrap ((p:Int) * 3))=((a+3 * p:Nat):Int):=by simp (disch:=omega) only [wrapi];omega
 have r1:=s1 (a+p) (a+2 * p) (a+3 * p) (by omega) (by omega) (by omega)
 have r2:=s2 (a+p) (by omega) (by omega)
 have r3:=s2 (a+2 * p) (by omega) (by omega)
 have r4:=s2 (a+3 * p) (by omega) (by omega)
 refine Zb [_,_,_,_] func189 ntmps189 fun G w hp=>?_
 refine k_cutd (Y:={t:Nat×Int×Nat // a≤t.1∧t.1<bb}) 7 (fun y=>[(0,.slice (some ⟨bk,0,none⟩) n cap),(3,.func (.func fv) #[] #[]),(13,.int .i64 (y.1.1:Int)),(11,.pointer (some ⟨y.1.2.2,0,none⟩))]) (fun _=>[Fc]) (fun y=>[Ax 46 nmf bk l q,Pt y.1.2.2 (.cells #[.int .i64 y.1.2.1] 3)]) ?_ ?_
 ·rintro ⟨⟨j,z,sb⟩,h1,h2⟩
  dsimp only at h1 h2 ⊢
  repeat' (first|refine ZH ?_|refine ZG ?_|refine ZK ?_|refine ZI ?_|refine ZP ?_|refine ZJ ?_|refine ZM ?_|refine ZN (fun b=>?_)|refine ZO (fun b=>?_)|refine ZA ?_|refine ZB ?_|refine ZR ?_|(refine ZC (fun hc=>?_) (fun hc=>?_)<;>(try simp at hc))|(refine ZE (fun hc=>?_) (fun hc=>?_)<;>(try simp at hc)))
  ·exact ZS ⟨(j,1),h1,h2,.inr (.inl rfl)⟩ rfl trivial
  ·exact ZS ⟨(j,2),h1,h2,.inr (.inr rfl)⟩ rfl trivial
  ·exact ZS ⟨(j,0),h1,h2,.inl rfl⟩ rfl trivial
 ·intro hx
  repeat' (first|refine Xh ?_|refine k_to hx ⟨(_,_,_),?_⟩ ⟨rfl,rfl,rfl,rfl,trivial⟩|refine ZH ?_|refine ZG ?_|refine ZK ?_|refine ZI ?_|refine ZP ?_|refine ZJ ?_|refine ZM ?_|refine ZN (fun b=>?_)|refine ZO (fun b=>?_)|refine ZA ?_|refine ZB ?_|refine ZR ?_|refine ZF (r1 _ _) (fun _ _=>?_)|refine l_call0 (r1 _ _) (fun _ _=>?_)|refine ZF (r2 _ _) (fun _ _=>?_)|refine l_call0 (r2 _ _) (fun _ _=>?_)|refine ZF (r3 _ _) (fun _ _=>?_)|refine l_call0 (r3 _ _) (fun _ _=>?_)|refine ZF (r4 _ _) (fun _ _=>?_)|refine l_call0 (r4 _ _) (fun _ _=>?_)|rw [w0]|rw [w1]|rw [v1]|rw [v2]|rw [v3]|(refine ZC (fun hc=>?_) (fun hc=>?_)<;>(try simp at hc)<;>(try omega))|(refine ZE (fun hc=>?_) (fun hc=>?_)<;>(try simp at hc)<;>(try omega)))
  ·rename_i t1 _ t2 _ t3 _
   obtain ⟨⟨i1,z1⟩,g1⟩:=t1
   obtain ⟨⟨i2,z2⟩,g2⟩:=t2
   obtain ⟨⟨i3,z3⟩,g3⟩:=t3
   dsimp only at g1 g2 g3 ⊢
   have r5:=s1 i1 i2 i3 (by omega) (by omega) (by omega)
   repeat' (first|refine Xh ?_|refine k_to hx ⟨(_,_,_),?_⟩ ⟨rfl,rfl,rfl,rfl,trivial⟩|refine ZH ?_|refine ZG ?_|refine ZK ?_|refine ZI ?_|refine ZP ?_|refine ZJ ?_|refine ZM ?_|refine ZN (fun b=>?_)|refine ZO (fun b=>?_)|refine ZA ?_|refine ZB ?_|refine ZR ?_|refine ZF (r5 _ _) (fun _ _=>?_)|refine l_call0 (r5 _ _) (fun _ _=>?_)|(refine ZC (fun hc=>?_) (fun hc=>?_)<;>(try simp at hc))|(refine ZE (fun hc=>?_) (fun hc=>?_)<;>(try simp at hc)))
   rename_i t4 _
   obtain ⟨⟨i4,z4⟩,g4⟩:=t4
   dsimp only at g4 ⊢
   omega
  ·rename_i t4 _
   obtain ⟨⟨i4,z4⟩,g4⟩:=t4
   dsimp only at g4 ⊢
   omega
end
section
variable (bk cap:Nat) (q:List Value×(Nat×Nat)) (fv:FuncId) (Fc:Pf) (c:Nm→Nm→Int) (W:Wk0 c) (U:Nm→Prop) (hcmp:∀x y,U x→U y→Enters fv∧Spec prog fv #[x.v,y.v] [Fc] [] (RetV (.int .i64 (c x y))))
theorem revN_ok (l:List Nm) (n:Nat) (hn:n=l.length) (hn2:n≤1000000) (hq:AxOK (n * 5) q) (a b:Nat) (hab:a<b) (hb:b≤n) :
  Enters 190∧Spec prog 190 #[.slice (some ⟨bk,0,none⟩) n cap,.int .i64 (a:Int),.int .i64 (b:Int),.func (.func fv) #[] #[]] [Fc] [Ax 46 nmf bk l q]
   ⟨{l':List Nm // Win a b l l'},fun _=>.tuple #[],fun _=>True,fun _=>[],fun l'=>[Ax 46 nmf bk l'.1 q]⟩:=by
 have w0:IntKind.i64.wrap ((b:Int) - 1)=((b - 1:Nat):Int):=by rw [wrapi (by omega) (by omega)];omega
 refine Zb [_,_,_,_] func190 ntmps190 fun G w hp=>?_
 repeat' (first|refine ZH ?_|refine ZG ?_|refine ZK ?_|refine ZI ?_|refine ZP ?_|refine ZJ ?_|refine ZM ?_|refine ZN (fun b=>?_)|refine ZO (fun b=>?_)|refine ZA ?_|refine ZB ?_|refine ZZ ?_|refine ZW ?_|refine Zf ?_|refine Za ?_|refine ZY ?_|refine Ze (fun b=>?_)|refine Zg (fun b=>?_)|refine Zd ?_|refine ZX ?_|rw [w0]|(refine ZC (fun hc=>?_) (fun hc=>?_)<;>(try simp at hc))|(refine ZL (fun hc=>?_) (fun hc=>?_)<;>(try simp at hc))|refine ZD 3 [] [(0,0),(1,0),(2,0),(3,0),(4,0),(5,0),(6,0),(7,0),(8,0),(9,0),(10,0),(11,0),(12,0),(13,4),(14,0)] [15] ?_|(refine ZE (fun hc=>?_) (fun hc=>?_)<;>(try simp at hc)))
 refine Z6 (X:={t:Nat×Nat×List Nm // a≤t.1∧t.2.1<b∧t.1≤t.2.1+1∧Win a b l t.2.2}) (fun t=>[(0,.slice (some ⟨bk,0,none⟩) n cap),(8,.int .i64 (t.1.1:Int)),(9,.int .i64 (t.1.2.1:Int))]) (fun _=>[Fc]) (fun t=>[Ax 46 nmf bk t.1.2.2 q]) (fun t=>t.1.2.1+1 - t.1.1)
  ⟨(a,b - 1,l),by omega,by show b - 1<b;omega,by show a≤b - 1+1;omega,Win.refl⟩ ⟨rfl,rfl,rfl,trivial⟩ ?_
 rintro ⟨⟨i,j,m⟩,h1,h2,h3,h4⟩
 dsimp only at h1 h2 h3 h4 ⊢
 have hl:=h4.len
 by_cases hij:i<j
 ·have hi:i<n:=by omega
  have hj:j<n:=by omega
  have ki:i<m.length:=by omega
  have kj:j<m.length:=by omega
  have kj2:j<(m.set i (gt m j)).length:=by rw [List.length_set];exact kj
  have hq1:AxOK (m.length * 5) q:=by rw [hl,←hn];exact hq
  have hq2:AxOK ((m.set i (gt m j)).length * 5) q:=by rw [List.length_set];exact hq1
  have w1:IntKind.i64.wrap ((i:Int)+1)=((i+1:Nat):Int):=by rw [wrapi (by omega) (by omega)];omega
  have w2:IntKind.i64.wrap ((j:Int) - 1)=((j - 1:Nat):Int):=by rw [wrapi (by omega) (by omega)];omega
  repeat' (first|refine ZH ?_|refine ZG ?_|refine ZK ?_|refine ZI ?_|refine ZP ?_|refine ZJ ?_|refine ZM ?_|refine ZN (fun b=>?_)|refine ZO (fun b=>?_)|refine ZA ?_|refine ZB ?_|refine ZR ?_|refine ZZ ?_|refine ZW ?_|refine Zf ?_|refine Za ?_|refine ZY ?_|refine Ze (fun b=>?_)|refine Zg (fun b=>?_)|refine Zd ?_|refine ZX ?_|refine Zj (m:=n) (i) hi ?_|refine l_ixW (m:=n) (i) hi ?_|refine Zj (m:=n) (j) hj ?_|refine l_ixW (m:=n) (j) hj ?_|refine Zq 5 (i) 0 (ZQ ki) ?_|refine Zq 5 (j) 0 (ZQ kj) ?_|refine Yl 5 (i) 0 (gt m (j)) (ZQ ki) hq1 ?_|refine Z0 5 (i) 0 (gt m (j)) (ZQ ki) hq1 ?_|refine Z0 5 (j) 0 (gt m (i)) (ZQ kj2) hq2 ?_|rw [w1]|rw [w2]|refine Y0 ?_|(refine ZC (fun hc=>?_) (fun hc=>?_)<;>(try simp at hc)<;>(try omega))|(refine ZL (fun hc=>?_) (fun hc=>?_)<;>(try simp at hc)<;>(try omega))|refine ZD 3 [Ax _ _ _ _ _] [(0,0),(1,0),(2,0),(3,0),(4,0),(5,0),(6,0),(8,0),(9,0),(10,0),(7,3),(11,3),(12,0),(13,4),(14,0)] [15] ?_|(refine ZE (fun hc=>?_) (fun hc=>?_)<;>(try simp at hc)<;>(try omega)))
  exact Zc ⟨(i+1,j - 1,sw m i j),by show a≤i+1;omega,by show j - 1<b;omega,by show i+1≤j - 1+1;omega,h4.trans (Win.sw h1 (by omega) (by omega) h2 (by omega))⟩ (by show j - 1+1 - (i+1)<j+1 - i;omega) ⟨rfl,rfl,rfl,trivial⟩
 ·repeat' (first|refine ZH ?_|refine ZG ?_|refine ZK ?_|refine ZI ?_|refine ZP ?_|refine ZJ ?_|refine ZM ?_|refine ZN (fun b=>?_)|refine ZO (fun b=>?_)|refine ZA ?_|refine ZB ?_|refine ZR ?_|(refine ZC (fun hc=>?_) (fun hc=>?_)<;>(try simp at hc)<;>(try omega))|(refine ZE (fun hc=>?_) (fun hc=>?_)<;>(try simp at hc)<;>(try omega)))
  exact XB ⟨m,h4⟩ rfl trivial
set_option maxHeartbeats 4000000 in
theorem brkN_ok (l:List Nm) (n:Nat) (hn:n=l.length) (hn2:n<256) (hq:AxOK (n * 5) q) (a bb:Nat) (hab:a+12<bb) (hb:bb≤n) :
  Enters 188∧Spec prog 188 #[.slice (some ⟨bk,0,none⟩) n cap,.int .i64 (a:Int),.int .i64 (bb:Int),.func (.func fv) #[] #[]] [Fc] [Ax 46 nmf bk l q]
   ⟨{l':List Nm // Win a bb l l'},fun _=>.tuple #[],fun _=>True,fun _=>[],fun l'=>[Ax 46 nmf bk l'.1 q]⟩:=by
 obtain ⟨N,hN⟩:∃N,N=bb - a:=⟨_,rfl⟩
 obtain ⟨p,hp⟩:∃p,p=N / 4:=⟨_,rfl⟩
 have w0:IntKind.i64.wrap ((bb:Int) - (a:Int))=(N:Int):=by rw [wrapi (by omega) (by omega)];omega
 have w1:IntKind.i64.wrap ((N:Int).tdiv 4)=(p:Int):=by
  have:(N:Int).tdiv 4=(p:Int):=by rw [hp];exact (Int.ofNat_tdiv _ _).symm
  rw [this,wrapi (by omega) (by omega)]
 have w2:IntKind.i64.wrap (IntKind.i64.wrap ((a:Int)+IntKind.i64.wrap ((p:Int) * 2)) - 1)=((a+2 * p - 1:Nat):Int):=by simp (disch:=omega) only [wrapi];omega
 have w3:IntKind.i64.wrap (IntKind.i64.wrap ((a:Int)+IntKind.i64.wrap ((p:Int) * 2))+1)=((a+2 * p+1:Nat):Int):=by simp (disch:=omega) only [wrapi];omega
 have w4:IntKind.u64.wrap (N:Int)=(N:Int):=Xs (by omega)
 have s1:=pow2_ok N (by omega)
 have s2:=xnext_ok
 refine Zb [_,_,_,_] func188 ntmps188 fun G w hp=>?_
 repeat' (first|refine ZH ?_|refine ZG ?_|refine ZK ?_|refine ZI ?_|refine ZP ?_|refine ZJ ?_|refine ZM ?_|refine ZN (fun b=>?_)|refine ZO (fun b=>?_)|refine ZA ?_|refine ZB ?_|refine ZF (s1) (fun _ _=>?_)|refine l_call0 (s1) (fun _ _=>?_)|rw [w0]|rw [w1]|rw [w2]|rw [w4]|(refine ZC (fun hc=>?_) (fun hc=>?_)<;>(try simp at hc)<;>(try omega))|(refine ZE (fun hc=>?_) (fun hc=>?_)<;>(try simp at hc)<;>(try omega)))
 rename_i cc _
 obtain ⟨cc,hcc⟩:=cc
 dsimp only
 unfold LenP at hcc
 rw [Bool.and_eq_true,Bool.and_eq_true,Bool.or_eq_true] at hcc
 have hc8:cc≤8:=Nat.le_of_ble_eq_true hcc.1
 have hcN:N<2 ^ cc:=by
  have:=hcc.2.1
  unfold Nat.blt at this
  exact Nat.le_of_ble_eq_true this
 have hcN2:2 ^ cc≤2 * N:=by
  rcases hcc.2.2 with h|h
  ·exact Nat.le_of_ble_eq_true h
  ·have:=Nat.eq_of_beq_eq_true h;omega
 clear hcc
 generalize hM:2 ^ cc=M at hcN hcN2
 refine Z6 (X:={t:Nat×Int×List Nm // a+2 * p - 1≤t.1∧t.1≤a+2 * p+2∧Win a bb l t.2.2}) (fun t=>[(0,.slice (some ⟨bk,0,none⟩) n cap),(1,.int .i64 (a:Int)),(8,.int .i64 (N:Int)),(9,.pointer (some ⟨b,0,none⟩)),(10,.int .u64 (M:Int)),(11,.int .i64 (t.1.1:Int))]) (fun _=>[Fc]) (fun t=>[Ax 46 nmf bk t.1.2.2 q,Pt b (.cells #[.int .u64 t.1.2.1] 330)]) (fun t=>a+2 * p+2 - t.1.1)
  ⟨(a+2 * p - 1,_,l),Nat.le_refl _,by show a+2 * p - 1≤_;omega,Win.refl⟩ ⟨rfl,rfl,rfl,rfl,rfl,rfl,trivial⟩ ?_
 rintro ⟨⟨i,z,m⟩,h1,h2,h3⟩
 dsimp only at h1 h2 h3 ⊢
 have hl:=h3.len
 by_cases hi0:i≤a+2 * p+1
 ·have w5:IntKind.i64.wrap ((i:Int)+1)=((i+1:Nat):Int):=by simp (disch:=omega) only [wrapi];omega
  have b0:decide ((i:Int)≤((a+2 * p+1:Nat):Int))=true:=decide_eq_true (by omega)
  repeat' (first|refine ZH ?_|refine ZG ?_|refine ZK ?_|refine ZI ?_|refine ZP ?_|refine ZJ ?_|refine ZM ?_|refine ZN (fun b=>?_)|refine ZO (fun b=>?_)|refine ZA ?_|refine ZB ?_|refine ZR ?_|refine ZF (s2 _ _) (fun _ _=>?_)|refine l_call0 (s2 _ _) (fun _ _=>?_)|rw [w1]|rw [w3]|rw [b0]|(refine ZC (fun hc=>?_) (fun hc=>?_)<;>(try simp at hc)))
  rename_i z2 _
  obtain ⟨o,ho,he⟩:=and_low z2 (M:Int) cc hc8 (by rw [hM])
  rw [hM] at ho
  dsimp only
  rw [he]
  have hi:i<n:=by omega
  have ki:i<m.length:=by omega
  have hq1:AxOK (m.length * 5) q:=by rw [hl,←hn];exact hq
  have hq2:∀y,AxOK ((m.set i y).length * 5) q:=fun y=>by rw [List.length_set];exact hq1
  by_cases hoN:N≤o
  ·have w6:IntKind.i64.wrap ((o:Int) - (N:Int))=((o - N:Nat):Int):=by simp (disch:=omega) only [wrapi];omega
   have hj:a+(o - N)<n:=by omega
   have kj:a+(o - N)<m.length:=by omega
   have kj2:a+(o - N)<(m.set i (gt m (a+(o - N)))).length:=by rw [List.length_set];exact kj
   repeat' (first|refine ZH ?_|refine ZG ?_|refine ZK ?_|refine ZI ?_|refine ZP ?_|refine ZJ ?_|refine ZM ?_|refine ZN (fun b=>?_)|refine ZO (fun b=>?_)|refine ZA ?_|refine ZB ?_|refine ZR ?_|refine ZZ ?_|refine ZW ?_|refine Zf ?_|refine Za ?_|refine ZY ?_|refine Ze (fun b=>?_)|refine Zg (fun b=>?_)|refine Zd ?_|refine ZX ?_|rw [w6]|rw [w5]|refine Zj (m:=n) (i) hi ?_|refine l_ixW (m:=n) (i) hi ?_|refine Zj (m:=n) (a+(o - N)) hj ?_|refine l_ixW (m:=n) (a+(o - N)) hj ?_|refine Zq 5 (i) 0 (ZQ ki) ?_|refine Zq 5 (a+(o - N)) 0 (ZQ kj) ?_|refine Yl 5 (i) 0 (gt m (a+(o - N))) (ZQ ki) hq1 ?_|refine Z0 5 (i) 0 (gt m (a+(o - N))) (ZQ ki) hq1 ?_|refine Z0 5 (a+(o - N)) 0 (gt m (i)) (ZQ kj2) (hq2 _) ?_|refine Y0 ?_|(refine ZC (fun hc=>?_) (fun hc=>?_)<;>(try simp at hc)<;>(try omega))|(refine ZL (fun hc=>?_) (fun hc=>?_)<;>(try simp at hc)<;>(try omega))|refine ZD 10 [Ax _ _ _ _ _] [(0,0),(1,0),(2,0),(3,0),(4,0),(5,0),(6,0),(7,0),(8,0),(9,0),(10,0),(12,0),(13,0),(14,0),(11,3),(15,3),(16,0),(17,4),(18,0)] [19] ?_|(refine ZE (fun hc=>?_) (fun hc=>?_)<;>(try simp at hc)<;>(try omega)))
   exact Zc ⟨(i+1,z2,sw m i (a+(o - N))),by show _≤i+1;omega,by show i+1≤_;omega,h3.trans (Win.sw (by omega) (by omega) (by omega) (by omega) (by omega))⟩ (by show a+2 * p+2 - (i+1)<a+2 * p+2 - i;omega) ⟨rfl,rfl,rfl,rfl,rfl,rfl,trivial⟩
  ·have hj:a+o<n:=by omega
   have kj:a+o<m.length:=by omega
   have kj2:a+o<(m.set i (gt m (a+o))).length:=by rw [List.length_set];exact kj
   repeat' (first|refine ZH ?_|refine ZG ?_|refine ZK ?_|refine ZI ?_|refine ZP ?_|refine ZJ ?_|refine ZM ?_|refine ZN (fun b=>?_)|refine ZO (fun b=>?_)|refine ZA ?_|refine ZB ?_|refine ZR ?_|refine ZZ ?_|refine ZW ?_|refine Zf ?_|refine Za ?_|refine ZY ?_|refine Ze (fun b=>?_)|refine Zg (fun b=>?_)|refine Zd ?_|refine ZX ?_|rw [w5]|refine Zj (m:=n) (i) hi ?_|refine l_ixW (m:=n) (i) hi ?_|refine Zj (m:=n) (a+o) hj ?_|refine l_ixW (m:=n) (a+o) hj ?_|refine Zq 5 (i) 0 (ZQ ki) ?_|refine Zq 5 (a+o) 0 (ZQ kj) ?_|refine Yl 5 (i) 0 (gt m (a+o)) (ZQ ki) hq1 ?_|refine Z0 5 (i) 0 (gt m (a+o)) (ZQ ki) hq1 ?_|refine Z0 5 (a+o) 0 (gt m (i)) (ZQ kj2) (hq2 _) ?_|refine Y0 ?_|(refine ZC (fun hc=>?_) (fun hc=>?_)<;>(try simp at hc)<;>(try omega))|(refine ZL (fun hc=>?_) (fun hc=>?_)<;>(try simp at hc)<;>(try omega))|refine ZD 10 [Ax _ _ _ _ _] [(0,0),(1,0),(2,0),(3,0),(4,0),(5,0),(6,0),(7,0),(8,0),(9,0),(10,0),(12,0),(13,0),(14,0),(11,3),(15,3),(16,0),(17,4),(18,0)] [19] ?_|(refine ZE (fun hc=>?_) (fun hc=>?_)<;>(try simp at hc)<;>(try omega)))
   exact Zc ⟨(i+1,z2,sw m i (a+o)),by show _≤i+1;omega,by show i+1≤_;omega,h3.trans (Win.sw (by omega) (by omega) (by omega) (by omega) (by omega))⟩ (by show a+2 * p+2 - (i+1)<a+2 * p+2 - i;omega) ⟨rfl,rfl,rfl,rfl,rfl,rfl,trivial⟩
 ·repeat' (first|refine ZH ?_|refine ZG ?_|refine ZK ?_|refine ZI ?_|refine ZP ?_|refine ZJ ?_|refine ZM ?_|refine ZN (fun b=>?_)|refine ZO (fun b=>?_)|refine ZA ?_|refine ZB ?_|refine ZR ?_|rw [w1]|rw [w3]|(refine ZC (fun hc=>?_) (fun hc=>?_)<;>(try simp at hc)<;>(try omega))|(refine ZE (fun hc=>?_) (fun hc=>?_)<;>(try simp at hc)<;>(try omega)))
  exact XB ⟨m,h3⟩ rfl trivial
include hcmp W in
set_option maxHeartbeats 4000000 in
theorem siftN_ok (l:List Nm) (n:Nat) (hn:n=l.length) (hn2:n≤1000000) (hq:AxOK (n * 5) q) (hU:∀x ∈ l,U x) (lo hi f:Nat) (hlo:lo≤1000000) (hf:f+hi≤n) (hpp:Hp c f lo hi lo l) :
  Enters 217∧Spec prog 217 #[.slice (some ⟨bk,0,none⟩) n cap,.int .i64 (lo:Int),.int .i64 (hi:Int),.int .i64 (f:Int),.func (.func fv) #[] #[]] [Fc] [Ax 46 nmf bk l q]
   ⟨{l':List Nm // Win f (f+hi) l l'∧He c f lo hi l'},fun _=>.tuple #[],fun _=>True,fun _=>[],fun l'=>[Ax 46 nmf bk l'.1 q]⟩:=by
 refine Zb [_,_,_,_,_] func217 ntmps217 fun G w hp=>?_
 repeat' (first|refine ZH ?_|refine ZG ?_|refine ZK ?_|refine ZI ?_|refine ZP ?_|refine ZJ ?_|refine ZM ?_|refine ZN (fun b=>?_)|refine ZO (fun b=>?_)|refine ZA ?_|refine ZB ?_|refine ZZ ?_|refine ZW ?_|refine Zf ?_|refine Za ?_|refine ZY ?_|refine Ze (fun b=>?_)|refine Zg (fun b=>?_)|refine Zd ?_|refine ZX ?_|(refine ZC (fun hc=>?_) (fun hc=>?_)<;>(try simp at hc))|(refine ZL (fun hc=>?_) (fun hc=>?_)<;>(try simp at hc))|refine ZD 3 [] [(0,0),(1,0),(2,0),(3,0),(4,0),(5,0),(6,0),(7,0),(8,0),(9,0),(10,0),(11,0),(12,0),(13,0),(14,0),(15,0),(16,0),(17,0),(18,0),(19,4),(20,0),(21,0)] [] ?_|refine ZD 5 [] [(0,0),(1,0),(2,0),(3,0),(4,0),(5,0),(6,0),(7,0),(8,0),(9,0),(10,0),(11,0),(12,0),(13,4),(14,0),(15,0)] [] ?_|refine ZD 6 [] [(0,0),(1,0),(2,0),(3,0),(4,0),(5,0),(6,0),(7,0),(8,0),(9,0),(10,0),(11,0),(12,0),(13,0),(14,0),(15,0),(16,0),(17,0),(18,0),(19,0),(20,0),(21,4),(22,0)] [23] ?_|(refine ZE (fun hc=>?_) (fun hc=>?_)<;>(try simp at hc)))
 refine Z6 (X:={t:Nat×List Nm // lo≤t.1∧t.1≤1000000∧Win f (f+hi) l t.2∧Hp c f lo hi t.1 t.2∧Hq c f lo hi t.1 t.2}) (fun t=>[(0,.slice (some ⟨bk,0,none⟩) n cap),(2,.int .i64 (hi:Int)),(3,.int .i64 (f:Int)),(4,.func (.func fv) #[] #[]),(10,.int .i64 (t.1.1:Int))]) (fun _=>[Fc]) (fun t=>[Ax 46 nmf bk t.1.2 q]) (fun t=>hi - t.1.1)
  ⟨(lo,l),Nat.le_refl _,hlo,Win.refl,hpp,fun i j h1 h2 h3 h4=>by omega⟩ ⟨rfl,rfl,rfl,rfl,rfl,trivial⟩ ?_
 rintro ⟨⟨x,m⟩,h1,h2,h3,h4,h5⟩
 dsimp only at h1 h2 h3 h4 h5 ⊢
 have hl:=h3.len
 have w1:IntKind.i64.wrap (IntKind.i64.wrap (2 * (x:Int))+1)=((2 * x+1:Nat):Int):=by simp (disch:=omega) only [wrapi];omega
 have w2:IntKind.i64.wrap (((2 * x+1:Nat):Int)+1)=((2 * x+2:Nat):Int):=by simp (disch:=omega) only [wrapi];omega
 by_cases h0:2 * x+1<hi
 ·have hi0:f+x<n:=by omega
  have hi1:f+(2 * x+1)<n:=by omega
  have ki0:f+x<m.length:=by omega
  have ki1:f+(2 * x+1)<m.length:=by omega
  have hq1:AxOK (m.length * 5) q:=by rw [hl,←hn];exact hq
  have hUm:=h3.sub hU
  have hq2:∀y,AxOK ((m.set (f+x) y).length * 5) q:=fun y=>by rw [List.length_set];exact hq1
  have kx1:∀y,f+(2 * x+1)<(m.set (f+x) y).length:=fun y=>by rw [List.length_set];exact ki1
  have sp1:=hcmp (gt m (f+x)) (gt m (f+(2 * x+1))) (hUm _ (Z3 ki0)) (hUm _ (Z3 ki1))
  have fin:∀y,(y=2 * x+1∨y=2 * x+2)→y<hi→(∀z,(z=2 * x+1∨z=2 * x+2)→z<hi→¬c (gt m (f+y)) (gt m (f+z))<0)→
    (¬c (gt m (f+x)) (gt m (f+y))<0→He c f lo hi m)∧(c (gt m (f+x)) (gt m (f+y))<0→Win f (f+hi) l (sw m (f+x) (f+y))∧Hp c f lo hi y (sw m (f+x) (f+y))∧Hq c f lo hi y (sw m (f+x) (f+y))):=fun y hy hyh hmax=>
   ⟨fun hn=>h4.stop fun z hz hzh=>W.t _ _ _ (hmax z hz hzh) hn,fun hlt=>⟨h3.trans (Win.sw (by omega) (by omega) (by omega) (by omega) (by omega)),Hp.step W h4 h5 h1 hy hyh (by omega) hlt hmax⟩⟩
  by_cases h6:2 * x+2<hi
  ·have hi2:f+(2 * x+2)<n:=by omega
   have ki2:f+(2 * x+2)<m.length:=by omega
   have kx2:∀y,f+(2 * x+2)<(m.set (f+x) y).length:=fun y=>by rw [List.length_set];exact ki2
   have sp2:=hcmp (gt m (f+x)) (gt m (f+(2 * x+2))) (hUm _ (Z3 ki0)) (hUm _ (Z3 ki2))
   have sp3:=hcmp (gt m (f+(2 * x+1))) (gt m (f+(2 * x+2))) (hUm _ (Z3 ki1)) (hUm _ (Z3 ki2))
   by_cases h7:c (gt m (f+(2 * x+1))) (gt m (f+(2 * x+2)))<0
   ·obtain ⟨f1,f2⟩:=fin (2 * x+2) (.inr rfl) h6 (fun z hz hzh=>by
     rcases hz with rfl|rfl
     ·exact W.a _ _ h7
     ·exact W.i _)
    repeat' (first|refine ZH ?_|refine ZG ?_|refine ZK ?_|refine ZI ?_|refine ZP ?_|refine ZJ ?_|refine ZM ?_|refine ZN (fun b=>?_)|refine ZO (fun b=>?_)|refine ZA ?_|refine ZB ?_|refine ZR ?_|refine ZZ ?_|refine ZW ?_|refine Zf ?_|refine Za ?_|refine ZY ?_|refine Ze (fun b=>?_)|refine Zg (fun b=>?_)|refine Zd ?_|refine ZX ?_|rw [w1]|rw [w2]|refine Zj (m:=n) (f+x) hi0 ?_|refine l_ixW (m:=n) (f+x) hi0 ?_|refine Zj (m:=n) (f+(2 * x+1)) hi1 ?_|refine l_ixW (m:=n) (f+(2 * x+1)) hi1 ?_|refine Zj (m:=n) (f+(2 * x+2)) hi2 ?_|refine l_ixW (m:=n) (f+(2 * x+2)) hi2 ?_|refine Zo 5 (f+x) 0 (ZQ ki0) ?_|refine l_ldE 5 (f+x) 0 (ZQ ki0) ?_|refine Zo 5 (f+(2 * x+1)) 0 (ZQ ki1) ?_|refine l_ldE 5 (f+(2 * x+1)) 0 (ZQ ki1) ?_|refine Zo 5 (f+(2 * x+2)) 0 (ZQ ki2) ?_|refine l_ldE 5 (f+(2 * x+2)) 0 (ZQ ki2) ?_|refine Zq 5 (f+x) 0 (ZQ ki0) ?_|refine Zq 5 (f+(2 * x+1)) 0 (ZQ ki1) ?_|refine Zq 5 (f+(2 * x+2)) 0 (ZQ ki2) ?_|refine Yl 5 (f+x) 0 (gt m (f+(2 * x+2))) (ZQ ki0) hq1 ?_|refine Z0 5 (f+x) 0 (gt m (f+(2 * x+2))) (ZQ ki0) hq1 ?_|refine Z0 5 (f+(2 * x+2)) 0 (gt m (f+x)) (ZQ (kx2 _)) (hq2 _) ?_|refine Zu sp3 (fun _ _=>?_)|refine Zu sp2 (fun _ _=>?_)|refine Y0 ?_|(refine ZC (fun hc=>?_) (fun hc=>?_)<;>(try simp at hc)<;>(try omega))|(refine ZL (fun hc=>?_) (fun hc=>?_)<;>(try simp at hc)<;>(try omega))|refine ZD 3 [] [(0,0),(1,0),(2,0),(3,0),(4,0),(5,0),(6,0),(7,0),(8,0),(9,0),(10,0),(11,0),(12,0),(13,0),(14,0),(15,0),(16,0),(17,0),(18,0),(19,4),(20,0),(21,0)] [] ?_|refine ZD 5 [] [(0,0),(1,0),(2,0),(3,0),(4,0),(5,0),(6,0),(7,0),(8,0),(9,0),(10,0),(11,0),(12,0),(13,4),(14,0),(15,0)] [] ?_|refine ZD 6 [Ax _ _ _ _ _] [(0,0),(1,0),(2,0),(3,0),(4,0),(5,0),(6,0),(7,0),(8,0),(9,0),(10,0),(11,0),(12,0),(14,0),(15,0),(16,0),(17,0),(18,0),(13,3),(19,3),(20,0),(21,4),(22,0)] [23] ?_|(refine ZE (fun hc=>?_) (fun hc=>?_)<;>(try simp at hc)<;>(try omega)))
    ·exact YR (YX (Z4 ⟨m,h3,f1 (by omega)⟩ rfl trivial))
    ·obtain ⟨g1,g2,g3⟩:=f2 (by omega)
     exact Zc ⟨(2 * x+2,sw m (f+x) (f+(2 * x+2))),by show lo≤2 * x+2;omega,by show 2 * x+2≤_;omega,g1,g2,g3⟩ (by show hi - (2 * x+2)<hi - x;omega) ⟨rfl,rfl,rfl,rfl,rfl,trivial⟩
   ·obtain ⟨f1,f2⟩:=fin (2 * x+1) (.inl rfl) h0 (fun z hz hzh=>by
     rcases hz with rfl|rfl
     ·exact W.i _
     ·exact h7)
    repeat' (first|refine ZH ?_|refine ZG ?_|refine ZK ?_|refine ZI ?_|refine ZP ?_|refine ZJ ?_|refine ZM ?_|refine ZN (fun b=>?_)|refine ZO (fun b=>?_)|refine ZA ?_|refine ZB ?_|refine ZR ?_|refine ZZ ?_|refine ZW ?_|refine Zf ?_|refine Za ?_|refine ZY ?_|refine Ze (fun b=>?_)|refine Zg (fun b=>?_)|refine Zd ?_|refine ZX ?_|rw [w1]|rw [w2]|refine Zj (m:=n) (f+x) hi0 ?_|refine l_ixW (m:=n) (f+x) hi0 ?_|refine Zj (m:=n) (f+(2 * x+1)) hi1 ?_|refine l_ixW (m:=n) (f+(2 * x+1)) hi1 ?_|refine Zj (m:=n) (f+(2 * x+2)) hi2 ?_|refine l_ixW (m:=n) (f+(2 * x+2)) hi2 ?_|refine Zo 5 (f+x) 0 (ZQ ki0) ?_|refine l_ldE 5 (f+x) 0 (ZQ ki0) ?_|refine Zo 5 (f+(2 * x+1)) 0 (ZQ ki1) ?_|refine l_ldE 5 (f+(2 * x+1)) 0 (ZQ ki1) ?_|refine Zo 5 (f+(2 * x+2)) 0 (ZQ ki2) ?_|refine l_ldE 5 (f+(2 * x+2)) 0 (ZQ ki2) ?_|refine Zq 5 (f+x) 0 (ZQ ki0) ?_|refine Zq 5 (f+(2 * x+1)) 0 (ZQ ki1) ?_|refine Zq 5 (f+(2 * x+2)) 0 (ZQ ki2) ?_|refine Yl 5 (f+x) 0 (gt m (f+(2 * x+1))) (ZQ ki0) hq1 ?_|refine Z0 5 (f+x) 0 (gt m (f+(2 * x+1))) (ZQ ki0) hq1 ?_|refine Z0 5 (f+(2 * x+1)) 0 (gt m (f+x)) (ZQ (kx1 _)) (hq2 _) ?_|refine Zu sp3 (fun _ _=>?_)|refine Zu sp1 (fun _ _=>?_)|refine Y0 ?_|(refine ZC (fun hc=>?_) (fun hc=>?_)<;>(try simp at hc)<;>(try omega))|(refine ZL (fun hc=>?_) (fun hc=>?_)<;>(try simp at hc)<;>(try omega))|refine ZD 3 [] [(0,0),(1,0),(2,0),(3,0),(4,0),(5,0),(6,0),(7,0),(8,0),(9,0),(10,0),(11,0),(12,0),(13,0),(14,0),(15,0),(16,0),(17,0),(18,0),(19,4),(20,0),(21,0)] [] ?_|refine ZD 5 [] [(0,0),(1,0),(2,0),(3,0),(4,0),(5,0),(6,0),(7,0),(8,0),(9,0),(10,0),(11,0),(12,0),(13,4),(14,0),(15,0)] [] ?_|refine ZD 6 [Ax _ _ _ _ _] [(0,0),(1,0),(2,0),(3,0),(4,0),(5,0),(6,0),(7,0),(8,0),(9,0),(10,0),(11,0),(12,0),(14,0),(15,0),(16,0),(17,0),(18,0),(13,3),(19,3),(20,0),(21,4),(22,0)] [23] ?_|(refine ZE (fun hc=>?_) (fun hc=>?_)<;>(try simp at hc)<;>(try omega)))
    ·exact YR (YX (Z4 ⟨m,h3,f1 (by omega)⟩ rfl trivial))
    ·obtain ⟨g1,g2,g3⟩:=f2 (by omega)
     exact Zc ⟨(2 * x+1,sw m (f+x) (f+(2 * x+1))),by show lo≤2 * x+1;omega,by show 2 * x+1≤_;omega,g1,g2,g3⟩ (by show hi - (2 * x+1)<hi - x;omega) ⟨rfl,rfl,rfl,rfl,rfl,trivial⟩
  ·obtain ⟨f1,f2⟩:=fin (2 * x+1) (.inl rfl) h0 (fun z hz hzh=>by
    rcases hz with rfl|rfl
    ·exact W.i _
    ·omega)
   repeat' (first|refine ZH ?_|refine ZG ?_|refine ZK ?_|refine ZI ?_|refine ZP ?_|refine ZJ ?_|refine ZM ?_|refine ZN (fun b=>?_)|refine ZO (fun b=>?_)|refine ZA ?_|refine ZB ?_|refine ZR ?_|refine ZZ ?_|refine ZW ?_|refine Zf ?_|refine Za ?_|refine ZY ?_|refine Ze (fun b=>?_)|refine Zg (fun b=>?_)|refine Zd ?_|refine ZX ?_|rw [w1]|rw [w2]|refine Zj (m:=n) (f+x) hi0 ?_|refine l_ixW (m:=n) (f+x) hi0 ?_|refine Zj (m:=n) (f+(2 * x+1)) hi1 ?_|refine l_ixW (m:=n) (f+(2 * x+1)) hi1 ?_|refine Zo 5 (f+x) 0 (ZQ ki0) ?_|refine l_ldE 5 (f+x) 0 (ZQ ki0) ?_|refine Zo 5 (f+(2 * x+1)) 0 (ZQ ki1) ?_|refine l_ldE 5 (f+(2 * x+1)) 0 (ZQ ki1) ?_|refine Zq 5 (f+x) 0 (ZQ ki0) ?_|refine Zq 5 (f+(2 * x+1)) 0 (ZQ ki1) ?_|refine Yl 5 (f+x) 0 (gt m (f+(2 * x+1))) (ZQ ki0) hq1 ?_|refine Z0 5 (f+x) 0 (gt m (f+(2 * x+1))) (ZQ ki0) hq1 ?_|refine Z0 5 (f+(2 * x+1)) 0 (gt m (f+x)) (ZQ (kx1 _)) (hq2 _) ?_|refine Zu sp1 (fun _ _=>?_)|refine Y0 ?_|(refine ZC (fun hc=>?_) (fun hc=>?_)<;>(try simp at hc)<;>(try omega))|(refine ZL (fun hc=>?_) (fun hc=>?_)<;>(try simp at hc)<;>(try omega))|refine ZD 3 [] [(0,0),(1,0),(2,0),(3,0),(4,0),(5,0),(6,0),(7,0),(8,0),(9,0),(10,0),(11,0),(12,0),(13,0),(14,0),(15,0),(16,0),(17,0),(18,0),(19,4),(20,0),(21,0)] [] ?_|refine ZD 5 [] [(0,0),(1,0),(2,0),(3,0),(4,0),(5,0),(6,0),(7,0),(8,0),(9,0),(10,0),(11,0),(12,0),(13,4),(14,0),(15,0)] [] ?_|refine ZD 6 [Ax _ _ _ _ _] [(0,0),(1,0),(2,0),(3,0),(4,0),(5,0),(6,0),(7,0),(8,0),(9,0),(10,0),(11,0),(12,0),(14,0),(15,0),(16,0),(17,0),(18,0),(13,3),(19,3),(20,0),(21,4),(22,0)] [23] ?_|(refine ZE (fun hc=>?_) (fun hc=>?_)<;>(try simp at hc)<;>(try omega)))
   ·exact YR (YX (Z4 ⟨m,h3,f1 (by omega)⟩ rfl trivial))
   ·obtain ⟨g1,g2,g3⟩:=f2 (by omega)
    exact Zc ⟨(2 * x+1,sw m (f+x) (f+(2 * x+1))),by show lo≤2 * x+1;omega,by show 2 * x+1≤_;omega,g1,g2,g3⟩ (by show hi - (2 * x+1)<hi - x;omega) ⟨rfl,rfl,rfl,rfl,rfl,trivial⟩
 ·repeat' (first|refine ZH ?_|refine ZG ?_|refine ZK ?_|refine ZI ?_|refine ZP ?_|refine ZJ ?_|refine ZM ?_|refine ZN (fun b=>?_)|refine ZO (fun b=>?_)|refine ZA ?_|refine ZB ?_|refine ZR ?_|rw [w1]|(refine ZC (fun hc=>?_) (fun hc=>?_)<;>(try simp at hc)<;>(try omega))|(refine ZE (fun hc=>?_) (fun hc=>?_)<;>(try simp at hc)<;>(try omega)))
  exact XB ⟨m,h3,h4.stop fun j h1 h2=>by omega⟩ rfl trivial
end
section
variable (bk cap:Nat) (q:List Value×(Nat×Nat)) (fv:FuncId) (Fc:Pf) (c:Nm→Nm→Int) (W:Wk0 c) (U:Nm→Prop) (hcmp:∀x y,U x→U y→Enters fv∧Spec prog fv #[x.v,y.v] [Fc] [] (RetV (.int .i64 (c x y))))
include hcmp W in
set_option maxHeartbeats 4000000 in
theorem heapN_ok (l:List Nm) (n:Nat) (hn:n=l.length) (hn2:n≤1000000) (hq:AxOK (n * 5) q) (hU:∀x ∈ l,U x) (a b:Nat) (hab:a<b) (hb:b≤n) :
  Enters 187∧Spec prog 187 #[.slice (some ⟨bk,0,none⟩) n cap,.int .i64 (a:Int),.int .i64 (b:Int),.func (.func fv) #[] #[]] [Fc] [Ax 46 nmf bk l q]
   ⟨{l':List Nm // Win a b l l'∧Sw c a b l'},fun _=>.tuple #[],fun _=>True,fun _=>[],fun l'=>[Ax 46 nmf bk l'.1 q]⟩:=by
 have w0:IntKind.i64.wrap ((b:Int) - (a:Int))=((b - a:Nat):Int):=by rw [wrapi (by omega) (by omega)];omega
 obtain ⟨N,hN⟩:∃N,N=b - a:=⟨_,rfl⟩
 rw [←hN] at w0
 have hbN:b=a+N:=by omega
 obtain ⟨p,hp⟩:∃p,p=(N - 1) / 2:=⟨_,rfl⟩
 have w1:IntKind.i64.wrap ((IntKind.i64.wrap ((N:Int) - 1)).tdiv 2)=(p:Int):=by
  rw [wrapi (z:=(N:Int) - 1) (by omega) (by omega)]
  have:((N:Int) - 1).tdiv 2=(p:Int):=by
   rw [show (N:Int) - 1=((N - 1:Nat):Int) by omega,hp];exact (Int.ofNat_tdiv _ _).symm
  rw [this,wrapi (by omega) (by omega)]
 refine Zb [_,_,_,_] func187 ntmps187 fun G w hp=>?_
 repeat' (first|refine ZH ?_|refine ZG ?_|refine ZK ?_|refine ZI ?_|refine ZP ?_|refine ZJ ?_|refine ZM ?_|refine ZN (fun b=>?_)|refine ZO (fun b=>?_)|refine ZA ?_|refine ZB ?_|rw [w0]|rw [w1]|(refine ZC (fun hc=>?_) (fun hc=>?_)<;>(try simp at hc))|(refine ZE (fun hc=>?_) (fun hc=>?_)<;>(try simp at hc)))
 refine Yz (Y:={m:List Nm // Win a b l m∧He c a 0 N m}) (X:={t:Nat×List Nm // t.1≤p+1∧Win a b l t.2∧He c a t.1 N t.2})
  (fun t=>[(0,.slice (some ⟨bk,0,none⟩) n cap),(3,.func (.func fv) #[] #[]),(8,.int .i64 (a:Int)),(9,.int .i64 0),(10,.int .i64 (N:Int)),(11,.int .i64 ((t.1.1:Int) - 1))]) (fun _=>[Fc]) (fun t=>[Ax 46 nmf bk t.1.2 q]) (fun t=>t.1.1)
  (fun _=>[(0,.slice (some ⟨bk,0,none⟩) n cap),(3,.func (.func fv) #[] #[]),(8,.int .i64 (a:Int)),(9,.int .i64 0),(10,.int .i64 (N:Int))]) (fun _=>[Fc]) (fun m=>[Ax 46 nmf bk m.1 q])
  ⟨(p+1,l),Nat.le_refl _,Win.refl,fun i j h1 h2 h3=>by omega⟩ ⟨rfl,rfl,rfl,rfl,rfl,(by show look _ _=some (Value.int .i64 (((p+1:Nat):Int) - 1));rw [show ((p+1:Nat):Int) - 1=(p:Int) by omega];rfl),trivial⟩ ?_ ?_
 rotate_left
 ·intro hx
  rintro ⟨⟨t,m⟩,h1,h2,h3⟩
  dsimp only at h1 h2 h3 ⊢
  have hl:=h2.len
  by_cases ht:t=0
  ·subst ht
   repeat' (first|refine ZH ?_|refine ZG ?_|refine ZK ?_|refine ZI ?_|refine ZP ?_|refine ZJ ?_|refine ZM ?_|refine ZN (fun b=>?_)|refine ZO (fun b=>?_)|refine ZA ?_|refine ZB ?_|(refine ZC (fun hc=>?_) (fun hc=>?_)<;>(try simp at hc)<;>(try omega))|(refine ZE (fun hc=>?_) (fun hc=>?_)<;>(try simp at hc)<;>(try omega)))
   exact YD hx ⟨m,h2,h3⟩ ⟨rfl,rfl,rfl,rfl,rfl,trivial⟩
  ·obtain ⟨i,rfl⟩:∃i,t=i+1:=⟨t - 1,by omega⟩
   have e1:((i+1:Nat):Int) - 1=(i:Int):=by omega
   have w2:IntKind.i64.wrap ((i:Int) - 1)=(i:Int) - 1:=wrapi (by omega) (by omega)
   have s1:=siftN_ok bk cap q fv Fc c W U hcmp m n (by omega) hn2 hq (h2.sub hU) i N a (by omega) (by omega) (fun i' j' g1 g2 g3 g4=>h3 i' j' (by omega) g2 g3)
   rw [e1]
   repeat' (first|refine ZH ?_|refine ZG ?_|refine ZK ?_|refine ZI ?_|refine ZP ?_|refine ZJ ?_|refine ZM ?_|refine ZN (fun b=>?_)|refine ZO (fun b=>?_)|refine ZA ?_|refine ZB ?_|refine ZR ?_|refine ZF (s1) (fun _ _=>?_)|refine l_call0 (s1) (fun _ _=>?_)|rw [w2]|(refine ZC (fun hc=>?_) (fun hc=>?_)<;>(try simp at hc)<;>(try omega))|(refine ZE (fun hc=>?_) (fun hc=>?_)<;>(try simp at hc)<;>(try omega)))
   rename_i l' _
   obtain ⟨l',g1,g2⟩:=l'
   exact Zc ⟨(i,l'),by show i≤p+1;omega,h2.trans (by rw [hbN];exact g1),g2⟩ (by show i<i+1;omega) ⟨rfl,rfl,rfl,rfl,rfl,rfl,trivial⟩
 rintro ⟨m,hm1,hm2⟩
 have w3:IntKind.i64.wrap ((N:Int) - 1)=(N:Int) - 1:=wrapi (by omega) (by omega)
 repeat' (first|refine ZH ?_|refine ZG ?_|refine ZK ?_|refine ZI ?_|refine ZP ?_|refine ZJ ?_|refine ZM ?_|refine ZN (fun b=>?_)|refine ZO (fun b=>?_)|refine ZA ?_|refine ZB ?_|rw [w3]|(refine ZC (fun hc=>?_) (fun hc=>?_)<;>(try simp at hc))|(refine ZE (fun hc=>?_) (fun hc=>?_)<;>(try simp at hc)))
 refine Z6 (X:={t:Nat×List Nm // t.1≤N∧Win a b l t.2∧Hs c a t.1 N t.2})
  (fun t=>[(0,.slice (some ⟨bk,0,none⟩) n cap),(3,.func (.func fv) #[] #[]),(8,.int .i64 (a:Int)),(9,.int .i64 0),(12,.int .i64 ((t.1.1:Int) - 1))]) (fun _=>[Fc]) (fun t=>[Ax 46 nmf bk t.1.2 q]) (fun t=>t.1.1)
  ⟨(N,m),Nat.le_refl _,hm1,Hs.init hm2 (Nat.le_refl _)⟩ ⟨rfl,rfl,rfl,rfl,rfl,trivial⟩ ?_
 rintro ⟨⟨t,m'⟩,h1,h2,h3⟩
 dsimp only at h1 h2 h3 ⊢
 have hl:=h2.len
 by_cases ht:t=0
 ·subst ht
  repeat' (first|refine ZH ?_|refine ZG ?_|refine ZK ?_|refine ZI ?_|refine ZP ?_|refine ZJ ?_|refine ZM ?_|refine ZN (fun b=>?_)|refine ZO (fun b=>?_)|refine ZA ?_|refine ZB ?_|refine ZR ?_|(refine ZC (fun hc=>?_) (fun hc=>?_)<;>(try simp at hc)<;>(try omega))|(refine ZE (fun hc=>?_) (fun hc=>?_)<;>(try simp at hc)<;>(try omega)))
  exact XB ⟨m',h2,by rw [hbN];exact h3.done⟩ rfl trivial
 ·obtain ⟨i,rfl⟩:∃i,t=i+1:=⟨t - 1,by omega⟩
  have e1:((i+1:Nat):Int) - 1=(i:Int):=by omega
  have w2:IntKind.i64.wrap ((i:Int) - 1)=(i:Int) - 1:=wrapi (by omega) (by omega)
  have hi:a<n:=by omega
  have hj:a+i<n:=by omega
  have ki:a<m'.length:=by omega
  have kj:a+i<m'.length:=by omega
  have kj2:a+i<(m'.set a (gt m' (a+i))).length:=by rw [List.length_set];exact kj
  have hq1:AxOK (m'.length * 5) q:=by rw [hl,←hn];exact hq
  have hq2:AxOK ((m'.set a (gt m' (a+i))).length * 5) q:=by rw [List.length_set];exact hq1
  have hsw:Win a b l (sw m' a (a+i)):=h2.trans (Win.sw (by omega) hab (by omega) (by omega) (by omega))
  have s1:=siftN_ok bk cap q fv Fc c W U hcmp (sw m' a (a+i)) n (by rw [sw_len];omega) hn2 hq (hsw.sub hU) 0 i a (by omega) (by omega) (fun i' j' g1 g2 g3 g4=>by
   rw [Xv ki kj,Xv ki kj,if_neg (by omega),if_neg (by omega),if_neg (by omega),if_neg (by omega)]
   exact h3.he i' j' g1 g2 (by omega))
  rw [e1]
  repeat' (first|refine ZH ?_|refine ZG ?_|refine ZK ?_|refine ZI ?_|refine ZP ?_|refine ZJ ?_|refine ZM ?_|refine ZN (fun b=>?_)|refine ZO (fun b=>?_)|refine ZA ?_|refine ZB ?_|refine ZR ?_|refine ZZ ?_|refine ZW ?_|refine Zf ?_|refine Za ?_|refine ZY ?_|refine Ze (fun b=>?_)|refine Zg (fun b=>?_)|refine Zd ?_|refine ZX ?_|refine ZF (s1) (fun _ _=>?_)|refine l_call0 (s1) (fun _ _=>?_)|refine ZT (s1) (fun _ _=>?_)|refine Zj (m:=n) (a) hi ?_|refine l_ixW (m:=n) (a) hi ?_|refine Zj (m:=n) (a+i) hj ?_|refine l_ixW (m:=n) (a+i) hj ?_|refine Zq 5 (a) 0 (ZQ ki) ?_|refine Zq 5 (a+i) 0 (ZQ kj) ?_|refine Yl 5 (a) 0 (gt m' (a+i)) (ZQ ki) hq1 ?_|refine Z0 5 (a) 0 (gt m' (a+i)) (ZQ ki) hq1 ?_|refine Z0 5 (a+i) 0 (gt m' (a)) (ZQ kj2) hq2 ?_|rw [w2]|refine Y0 ?_|(refine ZC (fun hc=>?_) (fun hc=>?_)<;>(try simp at hc)<;>(try omega))|(refine ZL (fun hc=>?_) (fun hc=>?_)<;>(try simp at hc)<;>(try omega))|refine ZD 10 [Ax _ _ _ _ _] [(0,0),(1,0),(2,0),(3,0),(4,0),(5,0),(6,0),(7,0),(8,0),(9,0),(10,0),(12,0),(13,0),(14,0),(11,3),(15,3),(16,0),(17,4),(18,0)] [19] ?_|(refine ZE (fun hc=>?_) (fun hc=>?_)<;>(try simp at hc)<;>(try omega)))
  rename_i l' _
  obtain ⟨l',g1,g2⟩:=l'
  exact Zc ⟨(i,l'),by show i≤N;omega,hsw.trans (g1.mono (Nat.le_refl _) (by omega)),h3.pop W (by omega) (by omega) g1 g2⟩ (by show i<i+1;omega) ⟨rfl,rfl,rfl,rfl,rfl,trivial⟩
end
section
variable {α:Type} [Inhabited α] {a b i j:Nat} {P:α} {A:α→Prop} {l m:List α}
structure Pin (A:α→Prop) (a b i j:Nat) (P:α) (l m:List α):Prop where
 w:Win a b l m
 h1:a<i
 h2:i≤j+1
 h3:j<b
 pa:gt m a=P
 lo:∀k,a<k→k<i→A (gt m k)
 hi:∀k,j<k→k<b→¬A (gt m k)
theorem Pin.init {p:Nat} (hp1:a≤p) (hp2:p<b) (hb:b≤l.length) (h:a+1<b):Pin A a b (a+1) (b - 1) (gt l p) l (sw l a p) where
 w:=Win.sw (Nat.le_refl _) (by omega) hp1 hp2 hb
 h1:=by omega
 h2:=by omega
 h3:=by omega
 pa:=by
  rw [Xv (by omega) (by omega)]
  split
  ·rename_i h;rw [h]
  ·rw [if_pos rfl]
 lo:=fun k h1 h2=>by omega
 hi:=fun k h1 h2=>by omega
theorem Pin.ii (h:Pin A a b i j P l m) (hij:i≤j) (hA:A (gt m i)):Pin A a b (i+1) j P l m:=
 ⟨h.w,by have:=h.h1;omega,by omega,h.h3,h.pa,fun k h1 h2=>by
  by_cases hk:k=i
  ·rw [hk];exact hA
  ·exact h.lo k h1 (by omega),h.hi⟩
theorem Pin.jj (h:Pin A a b i j P l m) (hij:i≤j) (hA:¬A (gt m j)):Pin A a b i (j - 1) P l m:=
 ⟨h.w,h.h1,by have:=h.h1;omega,by have:=h.h3;omega,h.pa,h.lo,fun k h1 h2=>by
  by_cases hk:k=j
  ·rw [hk];exact hA
  ·exact h.hi k (by have:=h.h1;omega) h2⟩
theorem Pin.sw (h:Pin A a b i j P l m) (hb:b≤l.length) (hij:i<j) (hi:¬A (gt m i)) (hj:A (gt m j)):Pin A a b (i+1) (j - 1) P l (sw m i j):=by
 have h1:=h.h1
 have h3:=h.h3
 have hl:=h.w.len
 have g:=fun k=>Xv (l:=m) (i:=i) (j:=j) (k:=k) (by omega) (by omega)
 refine ⟨h.w.trans (Win.sw (by omega) (by omega) (by omega) h3 (by omega)),by omega,by omega,by omega,?_,fun k k1 k2=>?_,fun k k1 k2=>?_⟩
 ·rw [g,if_neg (by omega),if_neg (by omega)];exact h.pa
 ·rw [g,if_neg (by omega)]
  by_cases hk:k=i
  ·rw [if_pos hk];exact hj
  ·rw [if_neg hk];exact h.lo k k1 (by omega)
 ·rw [g]
  by_cases hk:k=j
  ·rw [if_pos hk];exact hi
  ·rw [if_neg hk,if_neg (by omega)];exact h.hi k (by omega) k2
theorem Pin.ne (_h:Pin A a b i j P l m) (hij:i≤j) (hi:¬A (gt m i)) (hj:A (gt m j)):i<j:=by
 by_cases he:i=j
 ·rw [he] at hi;exact absurd hj hi
 ·omega
theorem Pin.part {c:α→α→Int} (h:Pin (fun x=>c x P<0) a b i j P l m) (hb:b≤l.length) (hij:j<i):Win a b l (Go.Proofs.YtdkndahndgkmnaaGreatDoor.sw m j a)∧Pt0 c a b j (Go.Proofs.YtdkndahndgkmnaaGreatDoor.sw m j a):=by
 have h1:=h.h1
 have h2:=h.h2
 have h3:=h.h3
 have hl:=h.w.len
 have g:=fun k=>Xv (l:=m) (i:=j) (j:=a) (k:=k) (by omega) (by omega)
 have gj:gt (Go.Proofs.YtdkndahndgkmnaaGreatDoor.sw m j a) j=P:=by
  rw [g]
  by_cases hja:j=a
  ·rw [if_pos hja,hja];exact h.pa
  ·rw [if_neg hja,if_pos rfl];exact h.pa
 refine ⟨h.w.trans (Win.sw (by omega) h3 (Nat.le_refl _) (by omega) (by omega)),by omega,h3,fun k k1 k2=>?_,fun k k1 k2=>?_⟩
 ·rw [gj,g]
  by_cases hka:k=a
  ·rw [if_pos hka];exact h.lo j (by omega) (by omega)
  ·rw [if_neg hka,if_neg (by omega)];exact h.lo k (by omega) (by omega)
 ·rw [gj,g,if_neg (by omega),if_neg (by omega)];exact h.hi k k1 k2
variable {c:α→α→Int} {l' m1 m2:List α}
theorem Lw.win (h:Lw c a b l) (hw:Win a b l l') (hb:b≤l.length):Lw c a b l':=fun h0 k h1 h2=>by
 rw [hw.out (a - 1) (by omega)]
 exact hw.all hb (P:=fun x=>¬c x (gt l (a - 1))<0) (fun k h3 h4=>h h0 k h3 h4) k h1 h2
theorem Sw.snoc (W:Wk0 c) (h:Sw c a i m) (hai:a<i) (hc:¬c (gt m i) (gt m (i - 1))<0):Sw c a (i+1) m:=fun p q h1 h2 h3=>by
 by_cases hq:q=i
 ·subst hq
  by_cases hp:p=q - 1
  ·rw [hp];exact hc
  ·exact W.t _ _ _ (h p (q - 1) h1 (by omega) (by omega)) hc
 ·exact h p q h1 h2 (by omega)
def Lsh (c:α→α→Int) (a i j:Nat) (m:List α):Prop:=∀p q,a≤p→p<q→q<i→q≠j→¬c (gt m q) (gt m p)<0
theorem Lsh.init (h:Sw c a i m) (hi:i<m.length) (_ha:a<i):Lsh c a i (i - 1) (Go.Proofs.YtdkndahndgkmnaaGreatDoor.sw m i (i - 1)):=fun p q h1 h2 h3 h4=>by
 rw [Xv hi (by omega),Xv hi (by omega),if_neg (by omega),if_neg (by omega),if_neg (by omega),if_neg (by omega)]
 exact h p q h1 h2 (by omega)
theorem Lsh.step (W:Wk0 c) (h:Lsh c a i j m) (ha:a<j) (hj:j<i) (hi:i≤m.length) (hc:c (gt m j) (gt m (j - 1))<0):Lsh c a i (j - 1) (Go.Proofs.YtdkndahndgkmnaaGreatDoor.sw m j (j - 1)):=fun p q h1 h2 h3 h4=>by
 have g:=fun k=>Xv (l:=m) (i:=j) (j:=j - 1) (k:=k) (by omega) (by omega)
 rw [g p,g q,if_neg h4]
 by_cases hq:q=j
 ·subst hq
  rw [if_pos rfl]
  by_cases hp:p=q - 1
  ·rw [if_pos hp];exact W.a _ _ hc
  ·rw [if_neg hp,if_neg (by omega)]
   exact h p (q - 1) h1 (by omega) (by omega) (by omega)
 ·rw [if_neg hq]
  by_cases hp:p=j - 1
  ·rw [if_pos hp]
   exact h j q (by omega) (by omega) h3 (by omega)
  ·rw [if_neg hp]
   by_cases hp2:p=j
   ·rw [if_pos hp2]
    exact h (j - 1) q (by omega) (by omega) h3 (by omega)
   ·rw [if_neg hp2]
    exact h p q h1 h2 h3 (by omega)
theorem Lsh.stop (W:Wk0 c) (h:Lsh c a i j m) (hc:a<j→¬c (gt m j) (gt m (j - 1))<0):Sw c a i m:=fun p q h1 h2 h3=>by
 by_cases hq:q=j
 ·subst hq
  have h5:=hc (by omega)
  by_cases hp:p=q - 1
  ·rw [hp];exact h5
  ·exact W.t _ _ _ (h p (q - 1) h1 (by omega) (by omega) (by omega)) h5
 ·exact h p q h1 h2 h3 hq
theorem Sw.out (h:Sw c a i m1) (hw:Win i b m1 m2):Sw c a i m2:=fun p q h1 h2 h3=>by
 rw [hw.out p (by omega),hw.out q (by omega)]
 exact h p q h1 h2 h3
theorem Sw.srdn {n:Nat} (hn:l.length=n) (h:Sw c 0 n l):Srd c l:=by
 subst hn;exact h.srd
end
section
variable (bk cap:Nat) (q:List Value×(Nat×Nat)) (fv:FuncId) (Fc:Pf) (c:Nm→Nm→Int) (W:Wk0 c) (U:Nm→Prop) (hcmp:∀x y,U x→U y→Enters fv∧Spec prog fv #[x.v,y.v] [Fc] [] (RetV (.int .i64 (c x y))))
include hcmp in
set_option maxHeartbeats 8000000 in
theorem partN_ok (l:List Nm) (n:Nat) (hn:n=l.length) (hn2:n≤1000000) (hq:AxOK (n * 5) q) (hU:∀x ∈ l,U x) (a bb p:Nat) (hab:a+12<bb) (hb:bb≤n) (hp1:a≤p) (hp2:p<bb) :
  Enters 193∧Spec prog 193 #[.slice (some ⟨bk,0,none⟩) n cap,.int .i64 (a:Int),.int .i64 (bb:Int),.int .i64 (p:Int),.func (.func fv) #[] #[]] [Fc] [Ax 46 nmf bk l q]
   ⟨{t:Nat×Bool×List Nm // Win a bb l t.2.2∧Pt0 c a bb t.1 t.2.2},fun t=>.tuple #[.int .i64 (t.1.1:Int),.bool t.1.2.1],fun _=>True,fun _=>[],fun t=>[Ax 46 nmf bk t.1.2.2 q]⟩:=by
 have w0:IntKind.i64.wrap ((a:Int)+1)=((a+1:Nat):Int):=by simp (disch:=omega) only [wrapi];omega
 have w1:IntKind.i64.wrap ((bb:Int) - 1)=((bb - 1:Nat):Int):=by simp (disch:=omega) only [wrapi];omega
 have wi:∀i,i<n→IntKind.i64.wrap ((i:Int)+1)=((i+1:Nat):Int):=fun i hi=>by simp (disch:=omega) only [wrapi];omega
 have wj:∀j,0<j→j<n→IntKind.i64.wrap ((j:Int) - 1)=((j - 1:Nat):Int):=fun j h0 hi=>by simp (disch:=omega) only [wrapi];omega
 have hia:a<n:=by omega
 have hip:p<n:=by omega
 have kia:a<l.length:=by omega
 have kip:p<l.length:=by omega
 have kip2:p<(l.set a (gt l p)).length:=by rw [List.length_set];exact kip
 have hql:AxOK (l.length * 5) q:=by rw [←hn];exact hq
 have hql2:AxOK ((l.set a (gt l p)).length * 5) q:=by rw [List.length_set];exact hql
 have hUP:U (gt l p):=hU _ (Z3 kip)
 have hin0:=fun A:Nm→Prop=>Pin.init (A:=A) (l:=l) (a:=a) (b:=bb) hp1 hp2 (by omega) (by omega)
 obtain ⟨P,hP⟩:∃P,P=gt l p:=⟨_,rfl⟩
 rw [←hP] at hUP hin0
 obtain ⟨m,hm0⟩:∃m,m=sw l a p:=⟨_,rfl⟩
 rw [←hm0] at hin0
 have hin:=hin0 (fun x=>c x P<0)
 clear hin0
 refine Zb [_,_,_,_,_] func193 ntmps193 fun G w hp=>?_
 repeat' (first|refine ZH ?_|refine ZG ?_|refine ZK ?_|refine ZI ?_|refine ZP ?_|refine ZJ ?_|refine ZM ?_|refine ZN (fun b=>?_)|refine ZO (fun b=>?_)|refine ZA ?_|refine ZB ?_|refine ZZ ?_|refine ZW ?_|refine Zf ?_|refine Za ?_|refine ZY ?_|refine Ze (fun b=>?_)|refine Zg (fun b=>?_)|refine Zd ?_|refine ZX ?_|refine Zj (m:=n) (a) hia ?_|refine l_ixW (m:=n) (a) hia ?_|refine Zj (m:=n) (p) hip ?_|refine l_ixW (m:=n) (p) hip ?_|refine Zq 5 (a) 0 (ZQ kia) ?_|refine Zq 5 (p) 0 (ZQ kip) ?_|refine Yl 5 (a) 0 (gt l (p)) (ZQ kia) hql ?_|refine Z0 5 (a) 0 (gt l (p)) (ZQ kia) hql ?_|refine Z0 5 (p) 0 (gt l (a)) (ZQ kip2) hql2 ?_|rw [w0]|rw [w1]|refine Y0 ?_|(refine ZC (fun hc=>?_) (fun hc=>?_)<;>(try simp at hc))|(refine ZL (fun hc=>?_) (fun hc=>?_)<;>(try simp at hc))|refine ZD 1 [Ax _ _ _ _ _] [(0,0),(1,0),(2,0),(3,0),(4,0),(5,0),(6,0),(8,0),(9,0),(10,0),(7,3),(11,3),(12,0),(13,4),(14,0)] [15] ?_|(refine ZE (fun hc=>?_) (fun hc=>?_)<;>(try simp at hc)))
 refine k_ax m hm0.symm ?_
 clear hm0 kip2 hql2
 obtain ⟨jz,hjz⟩:∃jz,jz=(bb - 1):=⟨_,rfl⟩
 rw [←hjz] at hin
 have hm:=hin.w.len
 have ga:m[a]? = some P:=by rw [←hin.pa];exact ZQ (by omega)
 have hUm:=hin.w.sub hU
 refine Yz (Y:={i:Nat // (a+1)≤i∧Pin (fun x=>c x P<0) a bb i jz P l m∧(i≤jz→¬(fun x=>c x P<0) (gt m i))}) (X:={i:Nat // (a+1)≤i∧Pin (fun x=>c x P<0) a bb i jz P l m}) (fun i=>[(0,.slice (some ⟨bk,0,none⟩) n cap),(1,.int .i64 (a:Int)),(4,.func (.func fv) #[] #[]),(12,.int .i64 ((i.1:Nat):Int)),(13,.int .i64 ((jz:Nat):Int))]) (fun _=>[Fc]) (fun _=>[Ax 46 nmf bk m q]) (fun i=>bb+1 - i.1) (fun i=>[(0,.slice (some ⟨bk,0,none⟩) n cap),(1,.int .i64 (a:Int)),(4,.func (.func fv) #[] #[]),(12,.int .i64 ((i.1:Nat):Int)),(13,.int .i64 ((jz:Nat):Int))]) (fun _=>[Fc]) (fun _=>[Ax 46 nmf bk m q]) ⟨(a+1),Nat.le_refl _,hin⟩ ⟨rfl,rfl,rfl,rfl,(by show look _ _=some (Value.int .i64 ((jz:Nat):Int));rw [hjz];rfl),trivial⟩ ?_ ?_
 rotate_left
 ·intro hx
  rintro ⟨i,hi0,hp⟩
  dsimp only at hi0 hp ⊢
  have k1:=hp.h1
  have k2:=hp.h2
  have k3:=hp.h3
  generalize jz=j at *
  by_cases hij:i≤j
  ·have hi:i<n:=by omega
   have hj:j<n:=by omega
   have ha:a<n:=by omega
   have gi:m[i]? = some (gt m i):=ZQ (by omega)
   have gj:m[j]? = some (gt m j):=ZQ (by omega)
   have sp:=hcmp (gt m i) P (hUm _ (Z3 (by omega))) hUP
   by_cases hA:c (gt m i) P<0
   ·repeat' (first|refine ZH ?_|refine ZG ?_|refine ZK ?_|refine ZI ?_|refine ZP ?_|refine ZJ ?_|refine ZM ?_|refine ZN (fun b=>?_)|refine ZO (fun b=>?_)|refine ZA ?_|refine ZB ?_|refine ZZ ?_|refine ZW ?_|refine Zf ?_|refine Za ?_|refine ZY ?_|refine Ze (fun b=>?_)|refine Zg (fun b=>?_)|refine Zd ?_|refine ZX ?_|rw [wi i hi]|rw [wj j (by omega) hj]|refine Zj (m:=n) (i) hi ?_|refine l_ixW (m:=n) (i) hi ?_|refine Zj (m:=n) (a) ha ?_|refine l_ixW (m:=n) (a) ha ?_|refine Zo 5 (i) 0 gi ?_|refine l_ldE 5 (i) 0 gi ?_|refine Zo 5 (a) 0 ga ?_|refine l_ldE 5 (a) 0 ga ?_|refine Zu sp (fun _ _=>?_)|(refine ZC (fun hc=>?_) (fun hc=>?_)<;>(try simp at hc)<;>(try omega))|(refine ZL (fun hc=>?_) (fun hc=>?_)<;>(try simp at hc)<;>(try omega))|refine ZD 1 [] [(0,0),(1,0),(2,0),(3,0),(4,0),(5,0),(6,0),(7,0),(8,0),(9,0),(10,0),(11,0),(12,0),(13,4),(14,0)] [15] ?_|refine ZD 3 [] [(0,0),(1,0),(2,0),(3,0),(4,0),(5,0),(6,0),(7,0),(8,0),(9,0),(10,0),(11,0),(12,0),(13,4),(14,0),(15,0)] [] ?_|refine ZD 5 [] [(0,0),(1,0),(2,0),(3,0),(4,0),(5,0),(6,0),(7,0),(8,0),(9,0),(10,0),(11,0),(12,0),(13,4),(14,0),(15,0),(16,0)] [] ?_|refine ZD 8 [] [(0,0),(1,0),(2,0),(3,0),(4,0),(5,0),(6,0),(7,0),(8,0),(9,0),(10,0),(11,0),(12,0),(13,4),(14,0)] [15] ?_|refine ZD 10 [] [(0,0),(1,0),(2,0),(3,0),(4,0),(5,0),(6,0),(7,0),(8,0),(9,0),(10,0),(11,0),(12,0),(13,4),(14,0)] [15] ?_|refine ZD 13 [] [(0,0),(1,0),(2,0),(3,0),(4,0),(5,0),(6,0),(7,0),(8,0),(9,0),(10,0),(11,0),(12,0),(13,4),(14,0),(15,0)] [] ?_|refine ZD 15 [] [(0,0),(1,0),(2,0),(3,0),(4,0),(5,0),(6,0),(7,0),(8,0),(9,0),(10,0),(11,0),(12,0),(13,4),(14,0),(15,0),(16,0)] [] ?_|refine ZD 18 [] [(0,0),(1,0),(2,0),(3,0),(4,0),(5,0),(6,0),(7,0),(8,0),(9,0),(10,0),(11,0),(12,0),(13,4),(14,0)] [15] ?_|refine ZD 21 [] [(0,0),(1,0),(2,0),(3,0),(4,0),(5,0),(6,0),(7,0),(8,0),(9,0),(10,0),(11,0),(12,0),(13,4),(14,0)] [15] ?_|(refine ZE (fun hc=>?_) (fun hc=>?_)<;>(try simp at hc)<;>(try omega)))
    exact Zc ⟨i+1,by omega,hp.ii hij (hA)⟩ (by show bb+1 - (i+1)<bb+1 - i;omega) ⟨rfl,rfl,rfl,rfl,rfl,trivial⟩
   ·repeat' (first|refine ZH ?_|refine ZG ?_|refine ZK ?_|refine ZI ?_|refine ZP ?_|refine ZJ ?_|refine ZM ?_|refine ZN (fun b=>?_)|refine ZO (fun b=>?_)|refine ZA ?_|refine ZB ?_|refine ZZ ?_|refine ZW ?_|refine Zf ?_|refine Za ?_|refine ZY ?_|refine Ze (fun b=>?_)|refine Zg (fun b=>?_)|refine Zd ?_|refine ZX ?_|rw [wi i hi]|rw [wj j (by omega) hj]|refine Zj (m:=n) (i) hi ?_|refine l_ixW (m:=n) (i) hi ?_|refine Zj (m:=n) (a) ha ?_|refine l_ixW (m:=n) (a) ha ?_|refine Zo 5 (i) 0 gi ?_|refine l_ldE 5 (i) 0 gi ?_|refine Zo 5 (a) 0 ga ?_|refine l_ldE 5 (a) 0 ga ?_|refine Zu sp (fun _ _=>?_)|(refine ZC (fun hc=>?_) (fun hc=>?_)<;>(try simp at hc)<;>(try omega))|(refine ZL (fun hc=>?_) (fun hc=>?_)<;>(try simp at hc)<;>(try omega))|refine ZD 1 [] [(0,0),(1,0),(2,0),(3,0),(4,0),(5,0),(6,0),(7,0),(8,0),(9,0),(10,0),(11,0),(12,0),(13,4),(14,0)] [15] ?_|refine ZD 3 [] [(0,0),(1,0),(2,0),(3,0),(4,0),(5,0),(6,0),(7,0),(8,0),(9,0),(10,0),(11,0),(12,0),(13,4),(14,0),(15,0)] [] ?_|refine ZD 5 [] [(0,0),(1,0),(2,0),(3,0),(4,0),(5,0),(6,0),(7,0),(8,0),(9,0),(10,0),(11,0),(12,0),(13,4),(14,0),(15,0),(16,0)] [] ?_|refine ZD 8 [] [(0,0),(1,0),(2,0),(3,0),(4,0),(5,0),(6,0),(7,0),(8,0),(9,0),(10,0),(11,0),(12,0),(13,4),(14,0)] [15] ?_|refine ZD 10 [] [(0,0),(1,0),(2,0),(3,0),(4,0),(5,0),(6,0),(7,0),(8,0),(9,0),(10,0),(11,0),(12,0),(13,4),(14,0)] [15] ?_|refine ZD 13 [] [(0,0),(1,0),(2,0),(3,0),(4,0),(5,0),(6,0),(7,0),(8,0),(9,0),(10,0),(11,0),(12,0),(13,4),(14,0),(15,0)] [] ?_|refine ZD 15 [] [(0,0),(1,0),(2,0),(3,0),(4,0),(5,0),(6,0),(7,0),(8,0),(9,0),(10,0),(11,0),(12,0),(13,4),(14,0),(15,0),(16,0)] [] ?_|refine ZD 18 [] [(0,0),(1,0),(2,0),(3,0),(4,0),(5,0),(6,0),(7,0),(8,0),(9,0),(10,0),(11,0),(12,0),(13,4),(14,0)] [15] ?_|refine ZD 21 [] [(0,0),(1,0),(2,0),(3,0),(4,0),(5,0),(6,0),(7,0),(8,0),(9,0),(10,0),(11,0),(12,0),(13,4),(14,0)] [15] ?_|(refine ZE (fun hc=>?_) (fun hc=>?_)<;>(try simp at hc)<;>(try omega)))
    exact YD hx ⟨i,by omega,hp,fun _=>(hA)⟩ ⟨rfl,rfl,rfl,rfl,rfl,trivial⟩
  ·repeat' (first|refine ZH ?_|refine ZG ?_|refine ZK ?_|refine ZI ?_|refine ZP ?_|refine ZJ ?_|refine ZM ?_|refine ZN (fun b=>?_)|refine ZO (fun b=>?_)|refine ZA ?_|refine ZB ?_|refine ZZ ?_|refine ZW ?_|refine Zf ?_|refine Za ?_|refine ZY ?_|refine Ze (fun b=>?_)|refine Zg (fun b=>?_)|refine Zd ?_|refine ZX ?_|(refine ZC (fun hc=>?_) (fun hc=>?_)<;>(try simp at hc)<;>(try omega))|(refine ZL (fun hc=>?_) (fun hc=>?_)<;>(try simp at hc)<;>(try omega))|refine ZD 1 [] [(0,0),(1,0),(2,0),(3,0),(4,0),(5,0),(6,0),(7,0),(8,0),(9,0),(10,0),(11,0),(12,0),(13,4),(14,0)] [15] ?_|refine ZD 3 [] [(0,0),(1,0),(2,0),(3,0),(4,0),(5,0),(6,0),(7,0),(8,0),(9,0),(10,0),(11,0),(12,0),(13,4),(14,0),(15,0)] [] ?_|refine ZD 5 [] [(0,0),(1,0),(2,0),(3,0),(4,0),(5,0),(6,0),(7,0),(8,0),(9,0),(10,0),(11,0),(12,0),(13,4),(14,0),(15,0),(16,0)] [] ?_|refine ZD 8 [] [(0,0),(1,0),(2,0),(3,0),(4,0),(5,0),(6,0),(7,0),(8,0),(9,0),(10,0),(11,0),(12,0),(13,4),(14,0)] [15] ?_|refine ZD 10 [] [(0,0),(1,0),(2,0),(3,0),(4,0),(5,0),(6,0),(7,0),(8,0),(9,0),(10,0),(11,0),(12,0),(13,4),(14,0)] [15] ?_|refine ZD 13 [] [(0,0),(1,0),(2,0),(3,0),(4,0),(5,0),(6,0),(7,0),(8,0),(9,0),(10,0),(11,0),(12,0),(13,4),(14,0),(15,0)] [] ?_|refine ZD 15 [] [(0,0),(1,0),(2,0),(3,0),(4,0),(5,0),(6,0),(7,0),(8,0),(9,0),(10,0),(11,0),(12,0),(13,4),(14,0),(15,0),(16,0)] [] ?_|refine ZD 18 [] [(0,0),(1,0),(2,0),(3,0),(4,0),(5,0),(6,0),(7,0),(8,0),(9,0),(10,0),(11,0),(12,0),(13,4),(14,0)] [15] ?_|refine ZD 21 [] [(0,0),(1,0),(2,0),(3,0),(4,0),(5,0),(6,0),(7,0),(8,0),(9,0),(10,0),(11,0),(12,0),(13,4),(14,0)] [15] ?_|(refine ZE (fun hc=>?_) (fun hc=>?_)<;>(try simp at hc)<;>(try omega)))
   exact YD hx ⟨i,by omega,hp,fun h=>absurd h hij⟩ ⟨rfl,rfl,rfl,rfl,rfl,trivial⟩
 rintro ⟨i,hi0,hp0,hAi⟩
 dsimp only at hi0 hp0 hAi ⊢
 refine Yz (Y:={j:Nat // j≤jz∧Pin (fun x=>c x P<0) a bb i j P l m∧(i≤j→(fun x=>c x P<0) (gt m j))}) (X:={j:Nat // j≤jz∧Pin (fun x=>c x P<0) a bb i j P l m}) (fun j=>[(0,.slice (some ⟨bk,0,none⟩) n cap),(1,.int .i64 (a:Int)),(4,.func (.func fv) #[] #[]),(12,.int .i64 ((i:Nat):Int)),(13,.int .i64 ((j.1:Nat):Int))]) (fun _=>[Fc]) (fun _=>[Ax 46 nmf bk m q]) (fun j=>j.1) (fun j=>[(0,.slice (some ⟨bk,0,none⟩) n cap),(1,.int .i64 (a:Int)),(4,.func (.func fv) #[] #[]),(12,.int .i64 ((i:Nat):Int)),(13,.int .i64 ((j.1:Nat):Int))]) (fun _=>[Fc]) (fun _=>[Ax 46 nmf bk m q]) ⟨jz,Nat.le_refl _,hp0⟩ ⟨rfl,rfl,rfl,rfl,rfl,trivial⟩ ?_ ?_
 rotate_left
 ·intro hx
  rintro ⟨j,hj0,hp⟩
  dsimp only at hj0 hp ⊢
  have k1:=hp.h1
  have k2:=hp.h2
  have k3:=hp.h3
  by_cases hij:i≤j
  ·have hi:i<n:=by omega
   have hj:j<n:=by omega
   have ha:a<n:=by omega
   have gi:m[i]? = some (gt m i):=ZQ (by omega)
   have gj:m[j]? = some (gt m j):=ZQ (by omega)
   have sp:=hcmp (gt m j) P (hUm _ (Z3 (by omega))) hUP
   by_cases hA:c (gt m j) P<0
   ·repeat' (first|refine ZH ?_|refine ZG ?_|refine ZK ?_|refine ZI ?_|refine ZP ?_|refine ZJ ?_|refine ZM ?_|refine ZN (fun b=>?_)|refine ZO (fun b=>?_)|refine ZA ?_|refine ZB ?_|refine ZZ ?_|refine ZW ?_|refine Zf ?_|refine Za ?_|refine ZY ?_|refine Ze (fun b=>?_)|refine Zg (fun b=>?_)|refine Zd ?_|refine ZX ?_|rw [wi i hi]|rw [wj j (by omega) hj]|refine Zj (m:=n) (j) hj ?_|refine l_ixW (m:=n) (j) hj ?_|refine Zj (m:=n) (a) ha ?_|refine l_ixW (m:=n) (a) ha ?_|refine Zo 5 (j) 0 gj ?_|refine l_ldE 5 (j) 0 gj ?_|refine Zo 5 (a) 0 ga ?_|refine l_ldE 5 (a) 0 ga ?_|refine Zu sp (fun _ _=>?_)|(refine ZC (fun hc=>?_) (fun hc=>?_)<;>(try simp at hc)<;>(try omega))|(refine ZL (fun hc=>?_) (fun hc=>?_)<;>(try simp at hc)<;>(try omega))|refine ZD 1 [] [(0,0),(1,0),(2,0),(3,0),(4,0),(5,0),(6,0),(7,0),(8,0),(9,0),(10,0),(11,0),(12,0),(13,4),(14,0)] [15] ?_|refine ZD 3 [] [(0,0),(1,0),(2,0),(3,0),(4,0),(5,0),(6,0),(7,0),(8,0),(9,0),(10,0),(11,0),(12,0),(13,4),(14,0),(15,0)] [] ?_|refine ZD 5 [] [(0,0),(1,0),(2,0),(3,0),(4,0),(5,0),(6,0),(7,0),(8,0),(9,0),(10,0),(11,0),(12,0),(13,4),(14,0),(15,0),(16,0)] [] ?_|refine ZD 8 [] [(0,0),(1,0),(2,0),(3,0),(4,0),(5,0),(6,0),(7,0),(8,0),(9,0),(10,0),(11,0),(12,0),(13,4),(14,0)] [15] ?_|refine ZD 10 [] [(0,0),(1,0),(2,0),(3,0),(4,0),(5,0),(6,0),(7,0),(8,0),(9,0),(10,0),(11,0),(12,0),(13,4),(14,0)] [15] ?_|refine ZD 13 [] [(0,0),(1,0),(2,0),(3,0),(4,0),(5,0),(6,0),(7,0),(8,0),(9,0),(10,0),(11,0),(12,0),(13,4),(14,0),(15,0)] [] ?_|refine ZD 15 [] [(0,0),(1,0),(2,0),(3,0),(4,0),(5,0),(6,0),(7,0),(8,0),(9,0),(10,0),(11,0),(12,0),(13,4),(14,0),(15,0),(16,0)] [] ?_|refine ZD 18 [] [(0,0),(1,0),(2,0),(3,0),(4,0),(5,0),(6,0),(7,0),(8,0),(9,0),(10,0),(11,0),(12,0),(13,4),(14,0)] [15] ?_|refine ZD 21 [] [(0,0),(1,0),(2,0),(3,0),(4,0),(5,0),(6,0),(7,0),(8,0),(9,0),(10,0),(11,0),(12,0),(13,4),(14,0)] [15] ?_|(refine ZE (fun hc=>?_) (fun hc=>?_)<;>(try simp at hc)<;>(try omega)))
    exact YD hx ⟨j,by omega,hp,fun _=>(hA)⟩ ⟨rfl,rfl,rfl,rfl,rfl,trivial⟩
   ·repeat' (first|refine ZH ?_|refine ZG ?_|refine ZK ?_|refine ZI ?_|refine ZP ?_|refine ZJ ?_|refine ZM ?_|refine ZN (fun b=>?_)|refine ZO (fun b=>?_)|refine ZA ?_|refine ZB ?_|refine ZZ ?_|refine ZW ?_|refine Zf ?_|refine Za ?_|refine ZY ?_|refine Ze (fun b=>?_)|refine Zg (fun b=>?_)|refine Zd ?_|refine ZX ?_|rw [wi i hi]|rw [wj j (by omega) hj]|refine Zj (m:=n) (j) hj ?_|refine l_ixW (m:=n) (j) hj ?_|refine Zj (m:=n) (a) ha ?_|refine l_ixW (m:=n) (a) ha ?_|refine Zo 5 (j) 0 gj ?_|refine l_ldE 5 (j) 0 gj ?_|refine Zo 5 (a) 0 ga ?_|refine l_ldE 5 (a) 0 ga ?_|refine Zu sp (fun _ _=>?_)|(refine ZC (fun hc=>?_) (fun hc=>?_)<;>(try simp at hc)<;>(try omega))|(refine ZL (fun hc=>?_) (fun hc=>?_)<;>(try simp at hc)<;>(try omega))|refine ZD 1 [] [(0,0),(1,0),(2,0),(3,0),(4,0),(5,0),(6,0),(7,0),(8,0),(9,0),(10,0),(11,0),(12,0),(13,4),(14,0)] [15] ?_|refine ZD 3 [] [(0,0),(1,0),(2,0),(3,0),(4,0),(5,0),(6,0),(7,0),(8,0),(9,0),(10,0),(11,0),(12,0),(13,4),(14,0),(15,0)] [] ?_|refine ZD 5 [] [(0,0),(1,0),(2,0),(3,0),(4,0),(5,0),(6,0),(7,0),(8,0),(9,0),(10,0),(11,0),(12,0),(13,4),(14,0),(15,0),(16,0)] [] ?_|refine ZD 8 [] [(0,0),(1,0),(2,0),(3,0),(4,0),(5,0),(6,0),(7,0),(8,0),(9,0),(10,0),(11,0),(12,0),(13,4),(14,0)] [15] ?_|refine ZD 10 [] [(0,0),(1,0),(2,0),(3,0),(4,0),(5,0),(6,0),(7,0),(8,0),(9,0),(10,0),(11,0),(12,0),(13,4),(14,0)] [15] ?_|refine ZD 13 [] [(0,0),(1,0),(2,0),(3,0),(4,0),(5,0),(6,0),(7,0),(8,0),(9,0),(10,0),(11,0),(12,0),(13,4),(14,0),(15,0)] [] ?_|refine ZD 15 [] [(0,0),(1,0),(2,0),(3,0),(4,0),(5,0),(6,0),(7,0),(8,0),(9,0),(10,0),(11,0),(12,0),(13,4),(14,0),(15,0),(16,0)] [] ?_|refine ZD 18 [] [(0,0),(1,0),(2,0),(3,0),(4,0),(5,0),(6,0),(7,0),(8,0),(9,0),(10,0),(11,0),(12,0),(13,4),(14,0)] [15] ?_|refine ZD 21 [] [(0,0),(1,0),(2,0),(3,0),(4,0),(5,0),(6,0),(7,0),(8,0),(9,0),(10,0),(11,0),(12,0),(13,4),(14,0)] [15] ?_|(refine ZE (fun hc=>?_) (fun hc=>?_)<;>(try simp at hc)<;>(try omega)))
    exact Zc ⟨j - 1,by omega,hp.jj hij (hA)⟩ (by show j - 1<j;omega) ⟨rfl,rfl,rfl,rfl,rfl,trivial⟩
  ·repeat' (first|refine ZH ?_|refine ZG ?_|refine ZK ?_|refine ZI ?_|refine ZP ?_|refine ZJ ?_|refine ZM ?_|refine ZN (fun b=>?_)|refine ZO (fun b=>?_)|refine ZA ?_|refine ZB ?_|refine ZZ ?_|refine ZW ?_|refine Zf ?_|refine Za ?_|refine ZY ?_|refine Ze (fun b=>?_)|refine Zg (fun b=>?_)|refine Zd ?_|refine ZX ?_|(refine ZC (fun hc=>?_) (fun hc=>?_)<;>(try simp at hc)<;>(try omega))|(refine ZL (fun hc=>?_) (fun hc=>?_)<;>(try simp at hc)<;>(try omega))|refine ZD 1 [] [(0,0),(1,0),(2,0),(3,0),(4,0),(5,0),(6,0),(7,0),(8,0),(9,0),(10,0),(11,0),(12,0),(13,4),(14,0)] [15] ?_|refine ZD 3 [] [(0,0),(1,0),(2,0),(3,0),(4,0),(5,0),(6,0),(7,0),(8,0),(9,0),(10,0),(11,0),(12,0),(13,4),(14,0),(15,0)] [] ?_|refine ZD 5 [] [(0,0),(1,0),(2,0),(3,0),(4,0),(5,0),(6,0),(7,0),(8,0),(9,0),(10,0),(11,0),(12,0),(13,4),(14,0),(15,0),(16,0)] [] ?_|refine ZD 8 [] [(0,0),(1,0),(2,0),(3,0),(4,0),(5,0),(6,0),(7,0),(8,0),(9,0),(10,0),(11,0),(12,0),(13,4),(14,0)] [15] ?_|refine ZD 10 [] [(0,0),(1,0),(2,0),(3,0),(4,0),(5,0),(6,0),(7,0),(8,0),(9,0),(10,0),(11,0),(12,0),(13,4),(14,0)] [15] ?_|refine ZD 13 [] [(0,0),(1,0),(2,0),(3,0),(4,0),(5,0),(6,0),(7,0),(8,0),(9,0),(10,0),(11,0),(12,0),(13,4),(14,0),(15,0)] [] ?_|refine ZD 15 [] [(0,0),(1,0),(2,0),(3,0),(4,0),(5,0),(6,0),(7,0),(8,0),(9,0),(10,0),(11,0),(12,0),(13,4),(14,0),(15,0),(16,0)] [] ?_|refine ZD 18 [] [(0,0),(1,0),(2,0),(3,0),(4,0),(5,0),(6,0),(7,0),(8,0),(9,0),(10,0),(11,0),(12,0),(13,4),(14,0)] [15] ?_|refine ZD 21 [] [(0,0),(1,0),(2,0),(3,0),(4,0),(5,0),(6,0),(7,0),(8,0),(9,0),(10,0),(11,0),(12,0),(13,4),(14,0)] [15] ?_|(refine ZE (fun hc=>?_) (fun hc=>?_)<;>(try simp at hc)<;>(try omega)))
   exact YD hx ⟨j,by omega,hp,fun h=>absurd h hij⟩ ⟨rfl,rfl,rfl,rfl,rfl,trivial⟩
 rintro ⟨j,hj0,hp,hAj⟩
 dsimp only at hj0 hp hAj ⊢
 have k1:=hp.h1
 have k2:=hp.h2
 have k3:=hp.h3
 have hj:j<n:=by omega
 have kj:j<m.length:=by omega
 have hqm:AxOK (m.length * 5) q:=by rw [hm,←hn];exact hq
 have hqm2:∀k y,AxOK ((m.set k y).length * 5) q:=fun k y=>by rw [List.length_set];exact hqm
 by_cases hij:i≤j
 ·have hij2:=hp.ne hij (hAi (by omega)) (hAj hij)
  have hi:i<n:=by omega
  have ki:i<m.length:=by omega
  have kj2:j<(m.set i (gt m j)).length:=by rw [List.length_set];exact kj
  repeat' (first|refine ZH ?_|refine ZG ?_|refine ZK ?_|refine ZI ?_|refine ZP ?_|refine ZJ ?_|refine ZM ?_|refine ZN (fun b=>?_)|refine ZO (fun b=>?_)|refine ZA ?_|refine ZB ?_|refine ZZ ?_|refine ZW ?_|refine Zf ?_|refine Za ?_|refine ZY ?_|refine Ze (fun b=>?_)|refine Zg (fun b=>?_)|refine Zd ?_|refine ZX ?_|rw [wi i hi]|rw [wj j (by omega) hj]|refine Zj (m:=n) (i) hi ?_|refine l_ixW (m:=n) (i) hi ?_|refine Zj (m:=n) (j) hj ?_|refine l_ixW (m:=n) (j) hj ?_|refine Zq 5 (i) 0 (ZQ ki) ?_|refine Zq 5 (j) 0 (ZQ kj) ?_|refine Yl 5 (i) 0 (gt m (j)) (ZQ ki) hqm ?_|refine Z0 5 (i) 0 (gt m (j)) (ZQ ki) hqm ?_|refine Z0 5 (j) 0 (gt m (i)) (ZQ kj2) (hqm2 _ _) ?_|refine Y0 ?_|(refine ZC (fun hc=>?_) (fun hc=>?_)<;>(try simp at hc)<;>(try omega))|(refine ZL (fun hc=>?_) (fun hc=>?_)<;>(try simp at hc)<;>(try omega))|refine ZD 1 [] [(0,0),(1,0),(2,0),(3,0),(4,0),(5,0),(6,0),(7,0),(8,0),(9,0),(10,0),(11,0),(12,0),(13,4),(14,0)] [15] ?_|refine ZD 3 [] [(0,0),(1,0),(2,0),(3,0),(4,0),(5,0),(6,0),(7,0),(8,0),(9,0),(10,0),(11,0),(12,0),(13,4),(14,0),(15,0)] [] ?_|refine ZD 5 [] [(0,0),(1,0),(2,0),(3,0),(4,0),(5,0),(6,0),(7,0),(8,0),(9,0),(10,0),(11,0),(12,0),(13,4),(14,0),(15,0),(16,0)] [] ?_|refine ZD 10 [Ax _ _ _ _ _] [(0,0),(1,0),(2,0),(3,0),(4,0),(5,0),(6,0),(8,0),(9,0),(10,0),(7,3),(11,3),(12,0),(13,4),(14,0)] [15] ?_|(refine ZE (fun hc=>?_) (fun hc=>?_)<;>(try simp at hc)<;>(try omega)))
  refine Z6 (X:={t:Nat×Nat×List Nm // Pin (fun x=>c x P<0) a bb t.1 t.2.1 P l t.2.2}) (fun t=>[(0,.slice (some ⟨bk,0,none⟩) n cap),(1,.int .i64 (a:Int)),(4,.func (.func fv) #[] #[]),(12,.int .i64 (t.1.1:Int)),(13,.int .i64 (t.1.2.1:Int))]) (fun _=>[Fc]) (fun t=>[Ax 46 nmf bk t.1.2.2 q]) (fun t=>t.1.2.1+1 - t.1.1) ⟨(i+1,j - 1,sw m i j),hp.sw (by omega) hij2 (hAi (by omega)) (hAj hij)⟩ ⟨rfl,rfl,rfl,rfl,rfl,trivial⟩ ?_
  clear hc hin ga hUm hi0 hp0 hAi hj0 hp hAj k1 k2 k3 hj kj hqm hqm2 hij hij2 hi ki kj2 hm hjz
  clear i j m jz
  rintro ⟨⟨i0,j0,m⟩,hin⟩
  dsimp only at hin ⊢
  have q1:=hin.h1
  have q2:=hin.h2
  have q3:=hin.h3
  repeat' (first|refine ZH ?_|refine ZG ?_|refine ZK ?_|refine ZI ?_|refine ZP ?_|refine ZJ ?_|refine ZM ?_|refine ZN (fun b=>?_)|refine ZO (fun b=>?_)|refine ZA ?_|refine ZB ?_|(refine ZC (fun hc=>?_) (fun hc=>?_)<;>(try simp at hc))|(refine ZE (fun hc=>?_) (fun hc=>?_)<;>(try simp at hc)))
  obtain ⟨jz,hjz⟩:∃jz,jz=j0:=⟨_,rfl⟩
  rw [←hjz] at hin
  have hm:=hin.w.len
  have ga:m[a]? = some P:=by rw [←hin.pa];exact ZQ (by omega)
  have hUm:=hin.w.sub hU
  refine Yz (Y:={i:Nat // i0≤i∧Pin (fun x=>c x P<0) a bb i jz P l m∧(i≤jz→¬(fun x=>c x P<0) (gt m i))}) (X:={i:Nat // i0≤i∧Pin (fun x=>c x P<0) a bb i jz P l m}) (fun i=>[(0,.slice (some ⟨bk,0,none⟩) n cap),(1,.int .i64 (a:Int)),(4,.func (.func fv) #[] #[]),(12,.int .i64 ((i.1:Nat):Int)),(13,.int .i64 ((jz:Nat):Int))]) (fun _=>[Fc]) (fun _=>[Ax 46 nmf bk m q]) (fun i=>bb+1 - i.1) (fun i=>[(0,.slice (some ⟨bk,0,none⟩) n cap),(1,.int .i64 (a:Int)),(4,.func (.func fv) #[] #[]),(12,.int .i64 ((i.1:Nat):Int)),(13,.int .i64 ((jz:Nat):Int))]) (fun _=>[Fc]) (fun _=>[Ax 46 nmf bk m q]) ⟨i0,Nat.le_refl _,hin⟩ ⟨rfl,rfl,rfl,rfl,(by show look _ _=some (Value.int .i64 ((jz:Nat):Int));rw [hjz];rfl),trivial⟩ ?_ ?_
  rotate_left
  ·intro hx
   rintro ⟨i,hi0,hp⟩
   dsimp only at hi0 hp ⊢
   have k1:=hp.h1
   have k2:=hp.h2
   have k3:=hp.h3
   generalize jz=j at *
   by_cases hij:i≤j
   ·have hi:i<n:=by omega
    have hj:j<n:=by omega
    have ha:a<n:=by omega
    have gi:m[i]? = some (gt m i):=ZQ (by omega)
    have gj:m[j]? = some (gt m j):=ZQ (by omega)
    have sp:=hcmp (gt m i) P (hUm _ (Z3 (by omega))) hUP
    by_cases hA:c (gt m i) P<0
    ·repeat' (first|refine ZH ?_|refine ZG ?_|refine ZK ?_|refine ZI ?_|refine ZP ?_|refine ZJ ?_|refine ZM ?_|refine ZN (fun b=>?_)|refine ZO (fun b=>?_)|refine ZA ?_|refine ZB ?_|refine ZZ ?_|refine ZW ?_|refine Zf ?_|refine Za ?_|refine ZY ?_|refine Ze (fun b=>?_)|refine Zg (fun b=>?_)|refine Zd ?_|refine ZX ?_|rw [wi i hi]|rw [wj j (by omega) hj]|refine Zj (m:=n) (i) hi ?_|refine l_ixW (m:=n) (i) hi ?_|refine Zj (m:=n) (a) ha ?_|refine l_ixW (m:=n) (a) ha ?_|refine Zo 5 (i) 0 gi ?_|refine l_ldE 5 (i) 0 gi ?_|refine Zo 5 (a) 0 ga ?_|refine l_ldE 5 (a) 0 ga ?_|refine Zu sp (fun _ _=>?_)|(refine ZC (fun hc=>?_) (fun hc=>?_)<;>(try simp at hc)<;>(try omega))|(refine ZL (fun hc=>?_) (fun hc=>?_)<;>(try simp at hc)<;>(try omega))|refine ZD 1 [] [(0,0),(1,0),(2,0),(3,0),(4,0),(5,0),(6,0),(7,0),(8,0),(9,0),(10,0),(11,0),(12,0),(13,4),(14,0)] [15] ?_|refine ZD 3 [] [(0,0),(1,0),(2,0),(3,0),(4,0),(5,0),(6,0),(7,0),(8,0),(9,0),(10,0),(11,0),(12,0),(13,4),(14,0),(15,0)] [] ?_|refine ZD 5 [] [(0,0),(1,0),(2,0),(3,0),(4,0),(5,0),(6,0),(7,0),(8,0),(9,0),(10,0),(11,0),(12,0),(13,4),(14,0),(15,0),(16,0)] [] ?_|refine ZD 8 [] [(0,0),(1,0),(2,0),(3,0),(4,0),(5,0),(6,0),(7,0),(8,0),(9,0),(10,0),(11,0),(12,0),(13,4),(14,0)] [15] ?_|refine ZD 10 [] [(0,0),(1,0),(2,0),(3,0),(4,0),(5,0),(6,0),(7,0),(8,0),(9,0),(10,0),(11,0),(12,0),(13,4),(14,0)] [15] ?_|refine ZD 13 [] [(0,0),(1,0),(2,0),(3,0),(4,0),(5,0),(6,0),(7,0),(8,0),(9,0),(10,0),(11,0),(12,0),(13,4),(14,0),(15,0)] [] ?_|refine ZD 15 [] [(0,0),(1,0),(2,0),(3,0),(4,0),(5,0),(6,0),(7,0),(8,0),(9,0),(10,0),(11,0),(12,0),(13,4),(14,0),(15,0),(16,0)] [] ?_|refine ZD 18 [] [(0,0),(1,0),(2,0),(3,0),(4,0),(5,0),(6,0),(7,0),(8,0),(9,0),(10,0),(11,0),(12,0),(13,4),(14,0)] [15] ?_|refine ZD 21 [] [(0,0),(1,0),(2,0),(3,0),(4,0),(5,0),(6,0),(7,0),(8,0),(9,0),(10,0),(11,0),(12,0),(13,4),(14,0)] [15] ?_|(refine ZE (fun hc=>?_) (fun hc=>?_)<;>(try simp at hc)<;>(try omega)))
     exact Zc ⟨i+1,by omega,hp.ii hij (hA)⟩ (by show bb+1 - (i+1)<bb+1 - i;omega) ⟨rfl,rfl,rfl,rfl,rfl,trivial⟩
    ·repeat' (first|refine ZH ?_|refine ZG ?_|refine ZK ?_|refine ZI ?_|refine ZP ?_|refine ZJ ?_|refine ZM ?_|refine ZN (fun b=>?_)|refine ZO (fun b=>?_)|refine ZA ?_|refine ZB ?_|refine ZZ ?_|refine ZW ?_|refine Zf ?_|refine Za ?_|refine ZY ?_|refine Ze (fun b=>?_)|refine Zg (fun b=>?_)|refine Zd ?_|refine ZX ?_|rw [wi i hi]|rw [wj j (by omega) hj]|refine Zj (m:=n) (i) hi ?_|refine l_ixW (m:=n) (i) hi ?_|refine Zj (m:=n) (a) ha ?_|refine l_ixW (m:=n) (a) ha ?_|refine Zo 5 (i) 0 gi ?_|refine l_ldE 5 (i) 0 gi ?_|refine Zo 5 (a) 0 ga ?_|refine l_ldE 5 (a) 0 ga ?_|refine Zu sp (fun _ _=>?_)|(refine ZC (fun hc=>?_) (fun hc=>?_)<;>(try simp at hc)<;>(try omega))|(refine ZL (fun hc=>?_) (fun hc=>?_)<;>(try simp at hc)<;>(try omega))|refine ZD 1 [] [(0,0),(1,0),(2,0),(3,0),(4,0),(5,0),(6,0),(7,0),(8,0),(9,0),(10,0),(11,0),(12,0),(13,4),(14,0)] [15] ?_|refine ZD 3 [] [(0,0),(1,0),(2,0),(3,0),(4,0),(5,0),(6,0),(7,0),(8,0),(9,0),(10,0),(11,0),(12,0),(13,4),(14,0),(15,0)] [] ?_|refine ZD 5 [] [(0,0),(1,0),(2,0),(3,0),(4,0),(5,0),(6,0),(7,0),(8,0),(9,0),(10,0),(11,0),(12,0),(13,4),(14,0),(15,0),(16,0)] [] ?_|refine ZD 8 [] [(0,0),(1,0),(2,0),(3,0),(4,0),(5,0),(6,0),(7,0),(8,0),(9,0),(10,0),(11,0),(12,0),(13,4),(14,0)] [15] ?_|refine ZD 10 [] [(0,0),(1,0),(2,0),(3,0),(4,0),(5,0),(6,0),(7,0),(8,0),(9,0),(10,0),(11,0),(12,0),(13,4),(14,0)] [15] ?_|refine ZD 13 [] [(0,0),(1,0),(2,0),(3,0),(4,0),(5,0),(6,0),(7,0),(8,0),(9,0),(10,0),(11,0),(12,0),(13,4),(14,0),(15,0)] [] ?_|refine ZD 15 [] [(0,0),(1,0),(2,0),(3,0),(4,0),(5,0),(6,0),(7,0),(8,0),(9,0),(10,0),(11,0),(12,0),(13,4),(14,0),(15,0),(16,0)] [] ?_|refine ZD 18 [] [(0,0),(1,0),(2,0),(3,0),(4,0),(5,0),(6,0),(7,0),(8,0),(9,0),(10,0),(11,0),(12,0),(13,4),(14,0)] [15] ?_|refine ZD 21 [] [(0,0),(1,0),(2,0),(3,0),(4,0),(5,0),(6,0),(7,0),(8,0),(9,0),(10,0),(11,0),(12,0),(13,4),(14,0)] [15] ?_|(refine ZE (fun hc=>?_) (fun hc=>?_)<;>(try simp at hc)<;>(try omega)))
     exact YD hx ⟨i,by omega,hp,fun _=>(hA)⟩ ⟨rfl,rfl,rfl,rfl,rfl,trivial⟩
   ·repeat' (first|refine ZH ?_|refine ZG ?_|refine ZK ?_|refine ZI ?_|refine ZP ?_|refine ZJ ?_|refine ZM ?_|refine ZN (fun b=>?_)|refine ZO (fun b=>?_)|refine ZA ?_|refine ZB ?_|refine ZZ ?_|refine ZW ?_|refine Zf ?_|refine Za ?_|refine ZY ?_|refine Ze (fun b=>?_)|refine Zg (fun b=>?_)|refine Zd ?_|refine ZX ?_|(refine ZC (fun hc=>?_) (fun hc=>?_)<;>(try simp at hc)<;>(try omega))|(refine ZL (fun hc=>?_) (fun hc=>?_)<;>(try simp at hc)<;>(try omega))|refine ZD 1 [] [(0,0),(1,0),(2,0),(3,0),(4,0),(5,0),(6,0),(7,0),(8,0),(9,0),(10,0),(11,0),(12,0),(13,4),(14,0)] [15] ?_|refine ZD 3 [] [(0,0),(1,0),(2,0),(3,0),(4,0),(5,0),(6,0),(7,0),(8,0),(9,0),(10,0),(11,0),(12,0),(13,4),(14,0),(15,0)] [] ?_|refine ZD 5 [] [(0,0),(1,0),(2,0),(3,0),(4,0),(5,0),(6,0),(7,0),(8,0),(9,0),(10,0),(11,0),(12,0),(13,4),(14,0),(15,0),(16,0)] [] ?_|refine ZD 8 [] [(0,0),(1,0),(2,0),(3,0),(4,0),(5,0),(6,0),(7,0),(8,0),(9,0),(10,0),(11,0),(12,0),(13,4),(14,0)] [15] ?_|refine ZD 10 [] [(0,0),(1,0),(2,0),(3,0),(4,0),(5,0),(6,0),(7,0),(8,0),(9,0),(10,0),(11,0),(12,0),(13,4),(14,0)] [15] ?_|refine ZD 13 [] [(0,0),(1,0),(2,0),(3,0),(4,0),(5,0),(6,0),(7,0),(8,0),(9,0),(10,0),(11,0),(12,0),(13,4),(14,0),(15,0)] [] ?_|refine ZD 15 [] [(0,0),(1,0),(2,0),(3,0),(4,0),(5,0),(6,0),(7,0),(8,0),(9,0),(10,0),(11,0),(12,0),(13,4),(14,0),(15,0),(16,0)] [] ?_|refine ZD 18 [] [(0,0),(1,0),(2,0),(3,0),(4,0),(5,0),(6,0),(7,0),(8,0),(9,0),(10,0),(11,0),(12,0),(13,4),(14,0)] [15] ?_|refine ZD 21 [] [(0,0),(1,0),(2,0),(3,0),(4,0),(5,0),(6,0),(7,0),(8,0),(9,0),(10,0),(11,0),(12,0),(13,4),(14,0)] [15] ?_|(refine ZE (fun hc=>?_) (fun hc=>?_)<;>(try simp at hc)<;>(try omega)))
    exact YD hx ⟨i,by omega,hp,fun h=>absurd h hij⟩ ⟨rfl,rfl,rfl,rfl,rfl,trivial⟩
  rintro ⟨i,hi0,hp0,hAi⟩
  dsimp only at hi0 hp0 hAi ⊢
  refine Yz (Y:={j:Nat // j≤jz∧Pin (fun x=>c x P<0) a bb i j P l m∧(i≤j→(fun x=>c x P<0) (gt m j))}) (X:={j:Nat // j≤jz∧Pin (fun x=>c x P<0) a bb i j P l m}) (fun j=>[(0,.slice (some ⟨bk,0,none⟩) n cap),(1,.int .i64 (a:Int)),(4,.func (.func fv) #[] #[]),(12,.int .i64 ((i:Nat):Int)),(13,.int .i64 ((j.1:Nat):Int))]) (fun _=>[Fc]) (fun _=>[Ax 46 nmf bk m q]) (fun j=>j.1) (fun j=>[(0,.slice (some ⟨bk,0,none⟩) n cap),(1,.int .i64 (a:Int)),(4,.func (.func fv) #[] #[]),(12,.int .i64 ((i:Nat):Int)),(13,.int .i64 ((j.1:Nat):Int))]) (fun _=>[Fc]) (fun _=>[Ax 46 nmf bk m q]) ⟨jz,Nat.le_refl _,hp0⟩ ⟨rfl,rfl,rfl,rfl,rfl,trivial⟩ ?_ ?_
  rotate_left
  ·intro hx
   rintro ⟨j,hj0,hp⟩
   dsimp only at hj0 hp ⊢
   have k1:=hp.h1
   have k2:=hp.h2
   have k3:=hp.h3
   by_cases hij:i≤j
   ·have hi:i<n:=by omega
    have hj:j<n:=by omega
    have ha:a<n:=by omega
    have gi:m[i]? = some (gt m i):=ZQ (by omega)
    have gj:m[j]? = some (gt m j):=ZQ (by omega)
    have sp:=hcmp (gt m j) P (hUm _ (Z3 (by omega))) hUP
    by_cases hA:c (gt m j) P<0
    ·repeat' (first|refine ZH ?_|refine ZG ?_|refine ZK ?_|refine ZI ?_|refine ZP ?_|refine ZJ ?_|refine ZM ?_|refine ZN (fun b=>?_)|refine ZO (fun b=>?_)|refine ZA ?_|refine ZB ?_|refine ZZ ?_|refine ZW ?_|refine Zf ?_|refine Za ?_|refine ZY ?_|refine Ze (fun b=>?_)|refine Zg (fun b=>?_)|refine Zd ?_|refine ZX ?_|rw [wi i hi]|rw [wj j (by omega) hj]|refine Zj (m:=n) (j) hj ?_|refine l_ixW (m:=n) (j) hj ?_|refine Zj (m:=n) (a) ha ?_|refine l_ixW (m:=n) (a) ha ?_|refine Zo 5 (j) 0 gj ?_|refine l_ldE 5 (j) 0 gj ?_|refine Zo 5 (a) 0 ga ?_|refine l_ldE 5 (a) 0 ga ?_|refine Zu sp (fun _ _=>?_)|(refine ZC (fun hc=>?_) (fun hc=>?_)<;>(try simp at hc)<;>(try omega))|(refine ZL (fun hc=>?_) (fun hc=>?_)<;>(try simp at hc)<;>(try omega))|refine ZD 1 [] [(0,0),(1,0),(2,0),(3,0),(4,0),(5,0),(6,0),(7,0),(8,0),(9,0),(10,0),(11,0),(12,0),(13,4),(14,0)] [15] ?_|refine ZD 3 [] [(0,0),(1,0),(2,0),(3,0),(4,0),(5,0),(6,0),(7,0),(8,0),(9,0),(10,0),(11,0),(12,0),(13,4),(14,0),(15,0)] [] ?_|refine ZD 5 [] [(0,0),(1,0),(2,0),(3,0),(4,0),(5,0),(6,0),(7,0),(8,0),(9,0),(10,0),(11,0),(12,0),(13,4),(14,0),(15,0),(16,0)] [] ?_|refine ZD 8 [] [(0,0),(1,0),(2,0),(3,0),(4,0),(5,0),(6,0),(7,0),(8,0),(9,0),(10,0),(11,0),(12,0),(13,4),(14,0)] [15] ?_|refine ZD 10 [] [(0,0),(1,0),(2,0),(3,0),(4,0),(5,0),(6,0),(7,0),(8,0),(9,0),(10,0),(11,0),(12,0),(13,4),(14,0)] [15] ?_|refine ZD 13 [] [(0,0),(1,0),(2,0),(3,0),(4,0),(5,0),(6,0),(7,0),(8,0),(9,0),(10,0),(11,0),(12,0),(13,4),(14,0),(15,0)] [] ?_|refine ZD 15 [] [(0,0),(1,0),(2,0),(3,0),(4,0),(5,0),(6,0),(7,0),(8,0),(9,0),(10,0),(11,0),(12,0),(13,4),(14,0),(15,0),(16,0)] [] ?_|refine ZD 18 [] [(0,0),(1,0),(2,0),(3,0),(4,0),(5,0),(6,0),(7,0),(8,0),(9,0),(10,0),(11,0),(12,0),(13,4),(14,0)] [15] ?_|refine ZD 21 [] [(0,0),(1,0),(2,0),(3,0),(4,0),(5,0),(6,0),(7,0),(8,0),(9,0),(10,0),(11,0),(12,0),(13,4),(14,0)] [15] ?_|(refine ZE (fun hc=>?_) (fun hc=>?_)<;>(try simp at hc)<;>(try omega)))
     exact YD hx ⟨j,by omega,hp,fun _=>(hA)⟩ ⟨rfl,rfl,rfl,rfl,rfl,trivial⟩
    ·repeat' (first|refine ZH ?_|refine ZG ?_|refine ZK ?_|refine ZI ?_|refine ZP ?_|refine ZJ ?_|refine ZM ?_|refine ZN (fun b=>?_)|refine ZO (fun b=>?_)|refine ZA ?_|refine ZB ?_|refine ZZ ?_|refine ZW ?_|refine Zf ?_|refine Za ?_|refine ZY ?_|refine Ze (fun b=>?_)|refine Zg (fun b=>?_)|refine Zd ?_|refine ZX ?_|rw [wi i hi]|rw [wj j (by omega) hj]|refine Zj (m:=n) (j) hj ?_|refine l_ixW (m:=n) (j) hj ?_|refine Zj (m:=n) (a) ha ?_|refine l_ixW (m:=n) (a) ha ?_|refine Zo 5 (j) 0 gj ?_|refine l_ldE 5 (j) 0 gj ?_|refine Zo 5 (a) 0 ga ?_|refine l_ldE 5 (a) 0 ga ?_|refine Zu sp (fun _ _=>?_)|(refine ZC (fun hc=>?_) (fun hc=>?_)<;>(try simp at hc)<;>(try omega))|(refine ZL (fun hc=>?_) (fun hc=>?_)<;>(try simp at hc)<;>(try omega))|refine ZD 1 [] [(0,0),(1,0),(2,0),(3,0),(4,0),(5,0),(6,0),(7,0),(8,0),(9,0),(10,0),(11,0),(12,0),(13,4),(14,0)] [15] ?_|refine ZD 3 [] [(0,0),(1,0),(2,0),(3,0),(4,0),(5,0),(6,0),(7,0),(8,0),(9,0),(10,0),(11,0),(12,0),(13,4),(14,0),(15,0)] [] ?_|refine ZD 5 [] [(0,0),(1,0),(2,0),(3,0),(4,0),(5,0),(6,0),(7,0),(8,0),(9,0),(10,0),(11,0),(12,0),(13,4),(14,0),(15,0),(16,0)] [] ?_|refine ZD 8 [] [(0,0),(1,0),(2,0),(3,0),(4,0),(5,0),(6,0),(7,0),(8,0),(9,0),(10,0),(11,0),(12,0),(13,4),(14,0)] [15] ?_|refine ZD 10 [] [(0,0),(1,0),(2,0),(3,0),(4,0),(5,0),(6,0),(7,0),(8,0),(9,0),(10,0),(11,0),(12,0),(13,4),(14,0)] [15] ?_|refine ZD 13 [] [(0,0),(1,0),(2,0),(3,0),(4,0),(5,0),(6,0),(7,0),(8,0),(9,0),(10,0),(11,0),(12,0),(13,4),(14,0),(15,0)] [] ?_|refine ZD 15 [] [(0,0),(1,0),(2,0),(3,0),(4,0),(5,0),(6,0),(7,0),(8,0),(9,0),(10,0),(11,0),(12,0),(13,4),(14,0),(15,0),(16,0)] [] ?_|refine ZD 18 [] [(0,0),(1,0),(2,0),(3,0),(4,0),(5,0),(6,0),(7,0),(8,0),(9,0),(10,0),(11,0),(12,0),(13,4),(14,0)] [15] ?_|refine ZD 21 [] [(0,0),(1,0),(2,0),(3,0),(4,0),(5,0),(6,0),(7,0),(8,0),(9,0),(10,0),(11,0),(12,0),(13,4),(14,0)] [15] ?_|(refine ZE (fun hc=>?_) (fun hc=>?_)<;>(try simp at hc)<;>(try omega)))
     exact Zc ⟨j - 1,by omega,hp.jj hij (hA)⟩ (by show j - 1<j;omega) ⟨rfl,rfl,rfl,rfl,rfl,trivial⟩
   ·repeat' (first|refine ZH ?_|refine ZG ?_|refine ZK ?_|refine ZI ?_|refine ZP ?_|refine ZJ ?_|refine ZM ?_|refine ZN (fun b=>?_)|refine ZO (fun b=>?_)|refine ZA ?_|refine ZB ?_|refine ZZ ?_|refine ZW ?_|refine Zf ?_|refine Za ?_|refine ZY ?_|refine Ze (fun b=>?_)|refine Zg (fun b=>?_)|refine Zd ?_|refine ZX ?_|(refine ZC (fun hc=>?_) (fun hc=>?_)<;>(try simp at hc)<;>(try omega))|(refine ZL (fun hc=>?_) (fun hc=>?_)<;>(try simp at hc)<;>(try omega))|refine ZD 1 [] [(0,0),(1,0),(2,0),(3,0),(4,0),(5,0),(6,0),(7,0),(8,0),(9,0),(10,0),(11,0),(12,0),(13,4),(14,0)] [15] ?_|refine ZD 3 [] [(0,0),(1,0),(2,0),(3,0),(4,0),(5,0),(6,0),(7,0),(8,0),(9,0),(10,0),(11,0),(12,0),(13,4),(14,0),(15,0)] [] ?_|refine ZD 5 [] [(0,0),(1,0),(2,0),(3,0),(4,0),(5,0),(6,0),(7,0),(8,0),(9,0),(10,0),(11,0),(12,0),(13,4),(14,0),(15,0),(16,0)] [] ?_|refine ZD 8 [] [(0,0),(1,0),(2,0),(3,0),(4,0),(5,0),(6,0),(7,0),(8,0),(9,0),(10,0),(11,0),(12,0),(13,4),(14,0)] [15] ?_|refine ZD 10 [] [(0,0),(1,0),(2,0),(3,0),(4,0),(5,0),(6,0),(7,0),(8,0),(9,0),(10,0),(11,0),(12,0),(13,4),(14,0)] [15] ?_|refine ZD 13 [] [(0,0),(1,0),(2,0),(3,0),(4,0),(5,0),(6,0),(7,0),(8,0),(9,0),(10,0),(11,0),(12,0),(13,4),(14,0),(15,0)] [] ?_|refine ZD 15 [] [(0,0),(1,0),(2,0),(3,0),(4,0),(5,0),(6,0),(7,0),(8,0),(9,0),(10,0),(11,0),(12,0),(13,4),(14,0),(15,0),(16,0)] [] ?_|refine ZD 18 [] [(0,0),(1,0),(2,0),(3,0),(4,0),(5,0),(6,0),(7,0),(8,0),(9,0),(10,0),(11,0),(12,0),(13,4),(14,0)] [15] ?_|refine ZD 21 [] [(0,0),(1,0),(2,0),(3,0),(4,0),(5,0),(6,0),(7,0),(8,0),(9,0),(10,0),(11,0),(12,0),(13,4),(14,0)] [15] ?_|(refine ZE (fun hc=>?_) (fun hc=>?_)<;>(try simp at hc)<;>(try omega)))
    exact YD hx ⟨j,by omega,hp,fun h=>absurd h hij⟩ ⟨rfl,rfl,rfl,rfl,rfl,trivial⟩
  rintro ⟨j,hj0,hp,hAj⟩
  dsimp only at hj0 hp hAj ⊢
  have k1:=hp.h1
  have k2:=hp.h2
  have k3:=hp.h3
  have hj:j<n:=by omega
  have kj:j<m.length:=by omega
  have hqm:AxOK (m.length * 5) q:=by rw [hm,←hn];exact hq
  have hqm2:∀k y,AxOK ((m.set k y).length * 5) q:=fun k y=>by rw [List.length_set];exact hqm
  by_cases hij:i≤j
  ·have hij2:=hp.ne hij (hAi (by omega)) (hAj hij)
   have hi:i<n:=by omega
   have ki:i<m.length:=by omega
   have kj2:j<(m.set i (gt m j)).length:=by rw [List.length_set];exact kj
   repeat' (first|refine ZH ?_|refine ZG ?_|refine ZK ?_|refine ZI ?_|refine ZP ?_|refine ZJ ?_|refine ZM ?_|refine ZN (fun b=>?_)|refine ZO (fun b=>?_)|refine ZA ?_|refine ZB ?_|refine ZZ ?_|refine ZW ?_|refine Zf ?_|refine Za ?_|refine ZY ?_|refine Ze (fun b=>?_)|refine Zg (fun b=>?_)|refine Zd ?_|refine ZX ?_|rw [wi i hi]|rw [wj j (by omega) hj]|refine Zj (m:=n) (i) hi ?_|refine l_ixW (m:=n) (i) hi ?_|refine Zj (m:=n) (j) hj ?_|refine l_ixW (m:=n) (j) hj ?_|refine Zq 5 (i) 0 (ZQ ki) ?_|refine Zq 5 (j) 0 (ZQ kj) ?_|refine Yl 5 (i) 0 (gt m (j)) (ZQ ki) hqm ?_|refine Z0 5 (i) 0 (gt m (j)) (ZQ ki) hqm ?_|refine Z0 5 (j) 0 (gt m (i)) (ZQ kj2) (hqm2 _ _) ?_|refine Y0 ?_|(refine ZC (fun hc=>?_) (fun hc=>?_)<;>(try simp at hc)<;>(try omega))|(refine ZL (fun hc=>?_) (fun hc=>?_)<;>(try simp at hc)<;>(try omega))|refine ZD 1 [] [(0,0),(1,0),(2,0),(3,0),(4,0),(5,0),(6,0),(7,0),(8,0),(9,0),(10,0),(11,0),(12,0),(13,4),(14,0)] [15] ?_|refine ZD 3 [] [(0,0),(1,0),(2,0),(3,0),(4,0),(5,0),(6,0),(7,0),(8,0),(9,0),(10,0),(11,0),(12,0),(13,4),(14,0),(15,0)] [] ?_|refine ZD 5 [] [(0,0),(1,0),(2,0),(3,0),(4,0),(5,0),(6,0),(7,0),(8,0),(9,0),(10,0),(11,0),(12,0),(13,4),(14,0),(15,0),(16,0)] [] ?_|refine ZD 8 [] [(0,0),(1,0),(2,0),(3,0),(4,0),(5,0),(6,0),(7,0),(8,0),(9,0),(10,0),(11,0),(12,0),(13,4),(14,0)] [15] ?_|refine ZD 10 [] [(0,0),(1,0),(2,0),(3,0),(4,0),(5,0),(6,0),(7,0),(8,0),(9,0),(10,0),(11,0),(12,0),(13,4),(14,0)] [15] ?_|refine ZD 13 [] [(0,0),(1,0),(2,0),(3,0),(4,0),(5,0),(6,0),(7,0),(8,0),(9,0),(10,0),(11,0),(12,0),(13,4),(14,0),(15,0)] [] ?_|refine ZD 15 [] [(0,0),(1,0),(2,0),(3,0),(4,0),(5,0),(6,0),(7,0),(8,0),(9,0),(10,0),(11,0),(12,0),(13,4),(14,0),(15,0),(16,0)] [] ?_|refine ZD 18 [Ax _ _ _ _ _] [(0,0),(1,0),(2,0),(3,0),(4,0),(5,0),(6,0),(8,0),(9,0),(10,0),(7,3),(11,3),(12,0),(13,4),(14,0)] [15] ?_|(refine ZE (fun hc=>?_) (fun hc=>?_)<;>(try simp at hc)<;>(try omega)))
   exact Zc ⟨(i+1,j - 1,sw m i j),hp.sw (by omega) hij2 (hAi (by omega)) (hAj hij)⟩ (by show j - 1+1 - (i+1)<j0+1 - i0;omega) ⟨rfl,rfl,rfl,rfl,rfl,trivial⟩
  ·obtain ⟨f1,f2⟩:=hp.part (by omega) (by omega)
   have ka:a<m.length:=by omega
   have ka2:a<(m.set j (gt m a)).length:=by rw [List.length_set];exact ka
   repeat' (first|refine ZH ?_|refine ZG ?_|refine ZK ?_|refine ZI ?_|refine ZP ?_|refine ZJ ?_|refine ZM ?_|refine ZN (fun b=>?_)|refine ZO (fun b=>?_)|refine ZA ?_|refine ZB ?_|refine ZR ?_|refine ZZ ?_|refine ZW ?_|refine Zf ?_|refine Za ?_|refine ZY ?_|refine Ze (fun b=>?_)|refine Zg (fun b=>?_)|refine Zd ?_|refine ZX ?_|refine Zj (m:=n) (j) hj ?_|refine l_ixW (m:=n) (j) hj ?_|refine Zj (m:=n) (a) hia ?_|refine l_ixW (m:=n) (a) hia ?_|refine Zq 5 (j) 0 (ZQ kj) ?_|refine Zq 5 (a) 0 (ZQ ka) ?_|refine Yl 5 (j) 0 (gt m (a)) (ZQ kj) hqm ?_|refine Z0 5 (j) 0 (gt m (a)) (ZQ kj) hqm ?_|refine Z0 5 (a) 0 (gt m (j)) (ZQ ka2) (hqm2 _ _) ?_|refine Y0 ?_|(refine ZC (fun hc=>?_) (fun hc=>?_)<;>(try simp at hc)<;>(try omega))|(refine ZL (fun hc=>?_) (fun hc=>?_)<;>(try simp at hc)<;>(try omega))|refine ZD 1 [] [(0,0),(1,0),(2,0),(3,0),(4,0),(5,0),(6,0),(7,0),(8,0),(9,0),(10,0),(11,0),(12,0),(13,4),(14,0)] [15] ?_|refine ZD 3 [] [(0,0),(1,0),(2,0),(3,0),(4,0),(5,0),(6,0),(7,0),(8,0),(9,0),(10,0),(11,0),(12,0),(13,4),(14,0),(15,0)] [] ?_|refine ZD 5 [] [(0,0),(1,0),(2,0),(3,0),(4,0),(5,0),(6,0),(7,0),(8,0),(9,0),(10,0),(11,0),(12,0),(13,4),(14,0),(15,0),(16,0)] [] ?_|refine ZD 8 [] [(0,0),(1,0),(2,0),(3,0),(4,0),(5,0),(6,0),(7,0),(8,0),(9,0),(10,0),(11,0),(12,0),(13,4),(14,0)] [15] ?_|refine ZD 10 [] [(0,0),(1,0),(2,0),(3,0),(4,0),(5,0),(6,0),(7,0),(8,0),(9,0),(10,0),(11,0),(12,0),(13,4),(14,0)] [15] ?_|refine ZD 13 [] [(0,0),(1,0),(2,0),(3,0),(4,0),(5,0),(6,0),(7,0),(8,0),(9,0),(10,0),(11,0),(12,0),(13,4),(14,0),(15,0)] [] ?_|refine ZD 15 [] [(0,0),(1,0),(2,0),(3,0),(4,0),(5,0),(6,0),(7,0),(8,0),(9,0),(10,0),(11,0),(12,0),(13,4),(14,0),(15,0),(16,0)] [] ?_|refine ZD 21 [Ax _ _ _ _ _] [(0,0),(1,0),(2,0),(3,0),(4,0),(5,0),(6,0),(8,0),(9,0),(10,0),(7,3),(11,3),(12,0),(13,4),(14,0)] [15] ?_|(refine ZE (fun hc=>?_) (fun hc=>?_)<;>(try simp at hc)<;>(try omega)))
   exact ZS ⟨(j,false,sw m j a),f1,f2⟩ rfl trivial
 ·obtain ⟨f1,f2⟩:=hp.part (by omega) (by omega)
  have ka:a<m.length:=by omega
  have ka2:a<(m.set j (gt m a)).length:=by rw [List.length_set];exact ka
  repeat' (first|refine ZH ?_|refine ZG ?_|refine ZK ?_|refine ZI ?_|refine ZP ?_|refine ZJ ?_|refine ZM ?_|refine ZN (fun b=>?_)|refine ZO (fun b=>?_)|refine ZA ?_|refine ZB ?_|refine ZR ?_|refine ZZ ?_|refine ZW ?_|refine Zf ?_|refine Za ?_|refine ZY ?_|refine Ze (fun b=>?_)|refine Zg (fun b=>?_)|refine Zd ?_|refine ZX ?_|refine Zj (m:=n) (j) hj ?_|refine l_ixW (m:=n) (j) hj ?_|refine Zj (m:=n) (a) hia ?_|refine l_ixW (m:=n) (a) hia ?_|refine Zq 5 (j) 0 (ZQ kj) ?_|refine Zq 5 (a) 0 (ZQ ka) ?_|refine Yl 5 (j) 0 (gt m (a)) (ZQ kj) hqm ?_|refine Z0 5 (j) 0 (gt m (a)) (ZQ kj) hqm ?_|refine Z0 5 (a) 0 (gt m (j)) (ZQ ka2) (hqm2 _ _) ?_|refine Y0 ?_|(refine ZC (fun hc=>?_) (fun hc=>?_)<;>(try simp at hc)<;>(try omega))|(refine ZL (fun hc=>?_) (fun hc=>?_)<;>(try simp at hc)<;>(try omega))|refine ZD 1 [] [(0,0),(1,0),(2,0),(3,0),(4,0),(5,0),(6,0),(7,0),(8,0),(9,0),(10,0),(11,0),(12,0),(13,4),(14,0)] [15] ?_|refine ZD 3 [] [(0,0),(1,0),(2,0),(3,0),(4,0),(5,0),(6,0),(7,0),(8,0),(9,0),(10,0),(11,0),(12,0),(13,4),(14,0),(15,0)] [] ?_|refine ZD 5 [] [(0,0),(1,0),(2,0),(3,0),(4,0),(5,0),(6,0),(7,0),(8,0),(9,0),(10,0),(11,0),(12,0),(13,4),(14,0),(15,0),(16,0)] [] ?_|refine ZD 8 [Ax _ _ _ _ _] [(0,0),(1,0),(2,0),(3,0),(4,0),(5,0),(6,0),(8,0),(9,0),(10,0),(7,3),(11,3),(12,0),(13,4),(14,0)] [15] ?_|(refine ZE (fun hc=>?_) (fun hc=>?_)<;>(try simp at hc)<;>(try omega)))
  exact ZS ⟨(j,true,sw m j a),f1,f2⟩ rfl trivial
include hcmp W in
set_option maxHeartbeats 8000000 in
theorem parEN_ok (l:List Nm) (n:Nat) (hn:n=l.length) (hn2:n≤1000000) (hq:AxOK (n * 5) q) (hU:∀x ∈ l,U x) (a bb p:Nat) (hab:a+12<bb) (hb:bb≤n) (hp1:a≤p) (hp2:p<bb) :
  Enters 192∧Spec prog 192 #[.slice (some ⟨bk,0,none⟩) n cap,.int .i64 (a:Int),.int .i64 (bb:Int),.int .i64 (p:Int),.func (.func fv) #[] #[]] [Fc] [Ax 46 nmf bk l q]
   ⟨{t:Nat×List Nm // Win a bb l t.2∧a<t.1∧t.1≤bb∧gt t.2 a=gt l p∧∀k,a≤k→k<t.1→¬c (gt t.2 a) (gt t.2 k)<0},fun t=>.int .i64 (t.1.1:Int),fun _=>True,fun _=>[],fun t=>[Ax 46 nmf bk t.1.2 q]⟩:=by
 have w0:IntKind.i64.wrap ((a:Int)+1)=((a+1:Nat):Int):=by simp (disch:=omega) only [wrapi];omega
 have w1:IntKind.i64.wrap ((bb:Int) - 1)=((bb - 1:Nat):Int):=by simp (disch:=omega) only [wrapi];omega
 have wi:∀i,i<n→IntKind.i64.wrap ((i:Int)+1)=((i+1:Nat):Int):=fun i hi=>by simp (disch:=omega) only [wrapi];omega
 have wj:∀j,0<j→j<n→IntKind.i64.wrap ((j:Int) - 1)=((j - 1:Nat):Int):=fun j h0 hi=>by simp (disch:=omega) only [wrapi];omega
 have hia:a<n:=by omega
 have hip:p<n:=by omega
 have kia:a<l.length:=by omega
 have kip:p<l.length:=by omega
 have kip2:p<(l.set a (gt l p)).length:=by rw [List.length_set];exact kip
 have hql:AxOK (l.length * 5) q:=by rw [←hn];exact hq
 have hql2:AxOK ((l.set a (gt l p)).length * 5) q:=by rw [List.length_set];exact hql
 have hUP:U (gt l p):=hU _ (Z3 kip)
 have hin0:=fun A:Nm→Prop=>Pin.init (A:=A) (l:=l) (a:=a) (b:=bb) hp1 hp2 (by omega) (by omega)
 obtain ⟨P,hP⟩:∃P,P=gt l p:=⟨_,rfl⟩
 rw [←hP] at hUP hin0
 obtain ⟨m,hm0⟩:∃m,m=sw l a p:=⟨_,rfl⟩
 rw [←hm0] at hin0
 have hin:=hin0 (fun x=>¬c P x<0)
 clear hin0
 refine Zb [_,_,_,_,_] func192 ntmps192 fun G w hp=>?_
 repeat' (first|refine ZH ?_|refine ZG ?_|refine ZK ?_|refine ZI ?_|refine ZP ?_|refine ZJ ?_|refine ZM ?_|refine ZN (fun b=>?_)|refine ZO (fun b=>?_)|refine ZA ?_|refine ZB ?_|refine ZZ ?_|refine ZW ?_|refine Zf ?_|refine Za ?_|refine ZY ?_|refine Ze (fun b=>?_)|refine Zg (fun b=>?_)|refine Zd ?_|refine ZX ?_|refine Zj (m:=n) (a) hia ?_|refine l_ixW (m:=n) (a) hia ?_|refine Zj (m:=n) (p) hip ?_|refine l_ixW (m:=n) (p) hip ?_|refine Zq 5 (a) 0 (ZQ kia) ?_|refine Zq 5 (p) 0 (ZQ kip) ?_|refine Yl 5 (a) 0 (gt l (p)) (ZQ kia) hql ?_|refine Z0 5 (a) 0 (gt l (p)) (ZQ kia) hql ?_|refine Z0 5 (p) 0 (gt l (a)) (ZQ kip2) hql2 ?_|rw [w0]|rw [w1]|refine Y0 ?_|(refine ZC (fun hc=>?_) (fun hc=>?_)<;>(try simp at hc))|(refine ZL (fun hc=>?_) (fun hc=>?_)<;>(try simp at hc))|refine ZD 1 [Ax _ _ _ _ _] [(0,0),(1,0),(2,0),(3,0),(4,0),(5,0),(6,0),(8,0),(9,0),(10,0),(7,3),(11,3),(12,0),(13,4),(14,0)] [15] ?_|(refine ZE (fun hc=>?_) (fun hc=>?_)<;>(try simp at hc)))
 refine k_ax m hm0.symm ?_
 clear hm0 kip2 hql2
 refine Z6 (X:={t:Nat×Nat×List Nm // Pin (fun x=>¬c P x<0) a bb t.1 t.2.1 P l t.2.2}) (fun t=>[(0,.slice (some ⟨bk,0,none⟩) n cap),(1,.int .i64 (a:Int)),(4,.func (.func fv) #[] #[]),(11,.int .i64 (t.1.1:Int)),(12,.int .i64 (t.1.2.1:Int))]) (fun _=>[Fc]) (fun t=>[Ax 46 nmf bk t.1.2.2 q]) (fun t=>t.1.2.1+1 - t.1.1) ⟨(a+1,bb - 1,m),hin⟩ ⟨rfl,rfl,rfl,rfl,rfl,trivial⟩ ?_
 clear hin
 clear m
 rintro ⟨⟨i0,j0,m⟩,hin⟩
 dsimp only at hin ⊢
 have q1:=hin.h1
 have q2:=hin.h2
 have q3:=hin.h3
 repeat' (first|refine ZH ?_|refine ZG ?_|refine ZK ?_|refine ZI ?_|refine ZP ?_|refine ZJ ?_|refine ZM ?_|refine ZN (fun b=>?_)|refine ZO (fun b=>?_)|refine ZA ?_|refine ZB ?_|(refine ZC (fun hc=>?_) (fun hc=>?_)<;>(try simp at hc))|(refine ZE (fun hc=>?_) (fun hc=>?_)<;>(try simp at hc)))
 obtain ⟨jz,hjz⟩:∃jz,jz=j0:=⟨_,rfl⟩
 rw [←hjz] at hin
 have hm:=hin.w.len
 have ga:m[a]? = some P:=by rw [←hin.pa];exact ZQ (by omega)
 have hUm:=hin.w.sub hU
 refine Yz (Y:={i:Nat // i0≤i∧Pin (fun x=>¬c P x<0) a bb i jz P l m∧(i≤jz→¬(fun x=>¬c P x<0) (gt m i))}) (X:={i:Nat // i0≤i∧Pin (fun x=>¬c P x<0) a bb i jz P l m}) (fun i=>[(0,.slice (some ⟨bk,0,none⟩) n cap),(1,.int .i64 (a:Int)),(4,.func (.func fv) #[] #[]),(11,.int .i64 ((i.1:Nat):Int)),(12,.int .i64 ((jz:Nat):Int))]) (fun _=>[Fc]) (fun _=>[Ax 46 nmf bk m q]) (fun i=>bb+1 - i.1) (fun i=>[(0,.slice (some ⟨bk,0,none⟩) n cap),(1,.int .i64 (a:Int)),(4,.func (.func fv) #[] #[]),(11,.int .i64 ((i.1:Nat):Int)),(12,.int .i64 ((jz:Nat):Int))]) (fun _=>[Fc]) (fun _=>[Ax 46 nmf bk m q]) ⟨i0,Nat.le_refl _,hin⟩ ⟨rfl,rfl,rfl,rfl,(by show look _ _=some (Value.int .i64 ((jz:Nat):Int));rw [hjz];rfl),trivial⟩ ?_ ?_
 rotate_left
 ·intro hx
  rintro ⟨i,hi0,hp⟩
  dsimp only at hi0 hp ⊢
  have k1:=hp.h1
  have k2:=hp.h2
  have k3:=hp.h3
  generalize jz=j at *
  by_cases hij:i≤j
  ·have hi:i<n:=by omega
   have hj:j<n:=by omega
   have ha:a<n:=by omega
   have gi:m[i]? = some (gt m i):=ZQ (by omega)
   have gj:m[j]? = some (gt m j):=ZQ (by omega)
   have sp:=hcmp P (gt m i) hUP (hUm _ (Z3 (by omega)))
   by_cases hA:c P (gt m i)<0
   ·repeat' (first|refine ZH ?_|refine ZG ?_|refine ZK ?_|refine ZI ?_|refine ZP ?_|refine ZJ ?_|refine ZM ?_|refine ZN (fun b=>?_)|refine ZO (fun b=>?_)|refine ZA ?_|refine ZB ?_|refine ZZ ?_|refine ZW ?_|refine Zf ?_|refine Za ?_|refine ZY ?_|refine Ze (fun b=>?_)|refine Zg (fun b=>?_)|refine Zd ?_|refine ZX ?_|rw [wi i hi]|rw [wj j (by omega) hj]|refine Zj (m:=n) (i) hi ?_|refine l_ixW (m:=n) (i) hi ?_|refine Zj (m:=n) (a) ha ?_|refine l_ixW (m:=n) (a) ha ?_|refine Zo 5 (i) 0 gi ?_|refine l_ldE 5 (i) 0 gi ?_|refine Zo 5 (a) 0 ga ?_|refine l_ldE 5 (a) 0 ga ?_|refine Zu sp (fun _ _=>?_)|(refine ZC (fun hc=>?_) (fun hc=>?_)<;>(try simp at hc)<;>(try omega))|(refine ZL (fun hc=>?_) (fun hc=>?_)<;>(try simp at hc)<;>(try omega))|refine ZD 1 [] [(0,0),(1,0),(2,0),(3,0),(4,0),(5,0),(6,0),(7,0),(8,0),(9,0),(10,0),(11,0),(12,0),(13,4),(14,0)] [15] ?_|refine ZD 3 [] [(0,0),(1,0),(2,0),(3,0),(4,0),(5,0),(6,0),(7,0),(8,0),(9,0),(10,0),(11,0),(12,0),(13,4),(14,0),(15,0),(16,0)] [] ?_|refine ZD 5 [] [(0,0),(1,0),(2,0),(3,0),(4,0),(5,0),(6,0),(7,0),(8,0),(9,0),(10,0),(11,0),(12,0),(13,4),(14,0),(15,0)] [] ?_|refine ZD 8 [] [(0,0),(1,0),(2,0),(3,0),(4,0),(5,0),(6,0),(7,0),(8,0),(9,0),(10,0),(11,0),(12,0),(13,4),(14,0)] [15] ?_|(refine ZE (fun hc=>?_) (fun hc=>?_)<;>(try simp at hc)<;>(try omega)))
    exact YD hx ⟨i,by omega,hp,fun _=>(fun h=>h hA)⟩ ⟨rfl,rfl,rfl,rfl,rfl,trivial⟩
   ·repeat' (first|refine ZH ?_|refine ZG ?_|refine ZK ?_|refine ZI ?_|refine ZP ?_|refine ZJ ?_|refine ZM ?_|refine ZN (fun b=>?_)|refine ZO (fun b=>?_)|refine ZA ?_|refine ZB ?_|refine ZZ ?_|refine ZW ?_|refine Zf ?_|refine Za ?_|refine ZY ?_|refine Ze (fun b=>?_)|refine Zg (fun b=>?_)|refine Zd ?_|refine ZX ?_|rw [wi i hi]|rw [wj j (by omega) hj]|refine Zj (m:=n) (i) hi ?_|refine l_ixW (m:=n) (i) hi ?_|refine Zj (m:=n) (a) ha ?_|refine l_ixW (m:=n) (a) ha ?_|refine Zo 5 (i) 0 gi ?_|refine l_ldE 5 (i) 0 gi ?_|refine Zo 5 (a) 0 ga ?_|refine l_ldE 5 (a) 0 ga ?_|refine Zu sp (fun _ _=>?_)|(refine ZC (fun hc=>?_) (fun hc=>?_)<;>(try simp at hc)<;>(try omega))|(refine ZL (fun hc=>?_) (fun hc=>?_)<;>(try simp at hc)<;>(try omega))|refine ZD 1 [] [(0,0),(1,0),(2,0),(3,0),(4,0),(5,0),(6,0),(7,0),(8,0),(9,0),(10,0),(11,0),(12,0),(13,4),(14,0)] [15] ?_|refine ZD 3 [] [(0,0),(1,0),(2,0),(3,0),(4,0),(5,0),(6,0),(7,0),(8,0),(9,0),(10,0),(11,0),(12,0),(13,4),(14,0),(15,0),(16,0)] [] ?_|refine ZD 5 [] [(0,0),(1,0),(2,0),(3,0),(4,0),(5,0),(6,0),(7,0),(8,0),(9,0),(10,0),(11,0),(12,0),(13,4),(14,0),(15,0)] [] ?_|refine ZD 8 [] [(0,0),(1,0),(2,0),(3,0),(4,0),(5,0),(6,0),(7,0),(8,0),(9,0),(10,0),(11,0),(12,0),(13,4),(14,0)] [15] ?_|(refine ZE (fun hc=>?_) (fun hc=>?_)<;>(try simp at hc)<;>(try omega)))
    exact Zc ⟨i+1,by omega,hp.ii hij (hA)⟩ (by show bb+1 - (i+1)<bb+1 - i;omega) ⟨rfl,rfl,rfl,rfl,rfl,trivial⟩
  ·repeat' (first|refine ZH ?_|refine ZG ?_|refine ZK ?_|refine ZI ?_|refine ZP ?_|refine ZJ ?_|refine ZM ?_|refine ZN (fun b=>?_)|refine ZO (fun b=>?_)|refine ZA ?_|refine ZB ?_|refine ZZ ?_|refine ZW ?_|refine Zf ?_|refine Za ?_|refine ZY ?_|refine Ze (fun b=>?_)|refine Zg (fun b=>?_)|refine Zd ?_|refine ZX ?_|(refine ZC (fun hc=>?_) (fun hc=>?_)<;>(try simp at hc)<;>(try omega))|(refine ZL (fun hc=>?_) (fun hc=>?_)<;>(try simp at hc)<;>(try omega))|refine ZD 1 [] [(0,0),(1,0),(2,0),(3,0),(4,0),(5,0),(6,0),(7,0),(8,0),(9,0),(10,0),(11,0),(12,0),(13,4),(14,0)] [15] ?_|refine ZD 3 [] [(0,0),(1,0),(2,0),(3,0),(4,0),(5,0),(6,0),(7,0),(8,0),(9,0),(10,0),(11,0),(12,0),(13,4),(14,0),(15,0),(16,0)] [] ?_|refine ZD 5 [] [(0,0),(1,0),(2,0),(3,0),(4,0),(5,0),(6,0),(7,0),(8,0),(9,0),(10,0),(11,0),(12,0),(13,4),(14,0),(15,0)] [] ?_|refine ZD 8 [] [(0,0),(1,0),(2,0),(3,0),(4,0),(5,0),(6,0),(7,0),(8,0),(9,0),(10,0),(11,0),(12,0),(13,4),(14,0)] [15] ?_|(refine ZE (fun hc=>?_) (fun hc=>?_)<;>(try simp at hc)<;>(try omega)))
   exact YD hx ⟨i,by omega,hp,fun h=>absurd h hij⟩ ⟨rfl,rfl,rfl,rfl,rfl,trivial⟩
 rintro ⟨i,hi0,hp0,hAi⟩
 dsimp only at hi0 hp0 hAi ⊢
 refine Yz (Y:={j:Nat // j≤jz∧Pin (fun x=>¬c P x<0) a bb i j P l m∧(i≤j→(fun x=>¬c P x<0) (gt m j))}) (X:={j:Nat // j≤jz∧Pin (fun x=>¬c P x<0) a bb i j P l m}) (fun j=>[(0,.slice (some ⟨bk,0,none⟩) n cap),(1,.int .i64 (a:Int)),(4,.func (.func fv) #[] #[]),(11,.int .i64 ((i:Nat):Int)),(12,.int .i64 ((j.1:Nat):Int))]) (fun _=>[Fc]) (fun _=>[Ax 46 nmf bk m q]) (fun j=>j.1) (fun j=>[(0,.slice (some ⟨bk,0,none⟩) n cap),(1,.int .i64 (a:Int)),(4,.func (.func fv) #[] #[]),(11,.int .i64 ((i:Nat):Int)),(12,.int .i64 ((j.1:Nat):Int))]) (fun _=>[Fc]) (fun _=>[Ax 46 nmf bk m q]) ⟨jz,Nat.le_refl _,hp0⟩ ⟨rfl,rfl,rfl,rfl,rfl,trivial⟩ ?_ ?_
 rotate_left
 ·intro hx
  rintro ⟨j,hj0,hp⟩
  dsimp only at hj0 hp ⊢
  have k1:=hp.h1
  have k2:=hp.h2
  have k3:=hp.h3
  by_cases hij:i≤j
  ·have hi:i<n:=by omega
   have hj:j<n:=by omega
   have ha:a<n:=by omega
   have gi:m[i]? = some (gt m i):=ZQ (by omega)
   have gj:m[j]? = some (gt m j):=ZQ (by omega)
   have sp:=hcmp P (gt m j) hUP (hUm _ (Z3 (by omega)))
   by_cases hA:c P (gt m j)<0
   ·repeat' (first|refine ZH ?_|refine ZG ?_|refine ZK ?_|refine ZI ?_|refine ZP ?_|refine ZJ ?_|refine ZM ?_|refine ZN (fun b=>?_)|refine ZO (fun b=>?_)|refine ZA ?_|refine ZB ?_|refine ZZ ?_|refine ZW ?_|refine Zf ?_|refine Za ?_|refine ZY ?_|refine Ze (fun b=>?_)|refine Zg (fun b=>?_)|refine Zd ?_|refine ZX ?_|rw [wi i hi]|rw [wj j (by omega) hj]|refine Zj (m:=n) (j) hj ?_|refine l_ixW (m:=n) (j) hj ?_|refine Zj (m:=n) (a) ha ?_|refine l_ixW (m:=n) (a) ha ?_|refine Zo 5 (j) 0 gj ?_|refine l_ldE 5 (j) 0 gj ?_|refine Zo 5 (a) 0 ga ?_|refine l_ldE 5 (a) 0 ga ?_|refine Zu sp (fun _ _=>?_)|(refine ZC (fun hc=>?_) (fun hc=>?_)<;>(try simp at hc)<;>(try omega))|(refine ZL (fun hc=>?_) (fun hc=>?_)<;>(try simp at hc)<;>(try omega))|refine ZD 1 [] [(0,0),(1,0),(2,0),(3,0),(4,0),(5,0),(6,0),(7,0),(8,0),(9,0),(10,0),(11,0),(12,0),(13,4),(14,0)] [15] ?_|refine ZD 3 [] [(0,0),(1,0),(2,0),(3,0),(4,0),(5,0),(6,0),(7,0),(8,0),(9,0),(10,0),(11,0),(12,0),(13,4),(14,0),(15,0),(16,0)] [] ?_|refine ZD 5 [] [(0,0),(1,0),(2,0),(3,0),(4,0),(5,0),(6,0),(7,0),(8,0),(9,0),(10,0),(11,0),(12,0),(13,4),(14,0),(15,0)] [] ?_|refine ZD 8 [] [(0,0),(1,0),(2,0),(3,0),(4,0),(5,0),(6,0),(7,0),(8,0),(9,0),(10,0),(11,0),(12,0),(13,4),(14,0)] [15] ?_|(refine ZE (fun hc=>?_) (fun hc=>?_)<;>(try simp at hc)<;>(try omega)))
    exact Zc ⟨j - 1,by omega,hp.jj hij (fun h=>h hA)⟩ (by show j - 1<j;omega) ⟨rfl,rfl,rfl,rfl,rfl,trivial⟩
   ·repeat' (first|refine ZH ?_|refine ZG ?_|refine ZK ?_|refine ZI ?_|refine ZP ?_|refine ZJ ?_|refine ZM ?_|refine ZN (fun b=>?_)|refine ZO (fun b=>?_)|refine ZA ?_|refine ZB ?_|refine ZZ ?_|refine ZW ?_|refine Zf ?_|refine Za ?_|refine ZY ?_|refine Ze (fun b=>?_)|refine Zg (fun b=>?_)|refine Zd ?_|refine ZX ?_|rw [wi i hi]|rw [wj j (by omega) hj]|refine Zj (m:=n) (j) hj ?_|refine l_ixW (m:=n) (j) hj ?_|refine Zj (m:=n) (a) ha ?_|refine l_ixW (m:=n) (a) ha ?_|refine Zo 5 (j) 0 gj ?_|refine l_ldE 5 (j) 0 gj ?_|refine Zo 5 (a) 0 ga ?_|refine l_ldE 5 (a) 0 ga ?_|refine Zu sp (fun _ _=>?_)|(refine ZC (fun hc=>?_) (fun hc=>?_)<;>(try simp at hc)<;>(try omega))|(refine ZL (fun hc=>?_) (fun hc=>?_)<;>(try simp at hc)<;>(try omega))|refine ZD 1 [] [(0,0),(1,0),(2,0),(3,0),(4,0),(5,0),(6,0),(7,0),(8,0),(9,0),(10,0),(11,0),(12,0),(13,4),(14,0)] [15] ?_|refine ZD 3 [] [(0,0),(1,0),(2,0),(3,0),(4,0),(5,0),(6,0),(7,0),(8,0),(9,0),(10,0),(11,0),(12,0),(13,4),(14,0),(15,0),(16,0)] [] ?_|refine ZD 5 [] [(0,0),(1,0),(2,0),(3,0),(4,0),(5,0),(6,0),(7,0),(8,0),(9,0),(10,0),(11,0),(12,0),(13,4),(14,0),(15,0)] [] ?_|refine ZD 8 [] [(0,0),(1,0),(2,0),(3,0),(4,0),(5,0),(6,0),(7,0),(8,0),(9,0),(10,0),(11,0),(12,0),(13,4),(14,0)] [15] ?_|(refine ZE (fun hc=>?_) (fun hc=>?_)<;>(try simp at hc)<;>(try omega)))
    exact YD hx ⟨j,by omega,hp,fun _=>(hA)⟩ ⟨rfl,rfl,rfl,rfl,rfl,trivial⟩
  ·repeat' (first|refine ZH ?_|refine ZG ?_|refine ZK ?_|refine ZI ?_|refine ZP ?_|refine ZJ ?_|refine ZM ?_|refine ZN (fun b=>?_)|refine ZO (fun b=>?_)|refine ZA ?_|refine ZB ?_|refine ZZ ?_|refine ZW ?_|refine Zf ?_|refine Za ?_|refine ZY ?_|refine Ze (fun b=>?_)|refine Zg (fun b=>?_)|refine Zd ?_|refine ZX ?_|(refine ZC (fun hc=>?_) (fun hc=>?_)<;>(try simp at hc)<;>(try omega))|(refine ZL (fun hc=>?_) (fun hc=>?_)<;>(try simp at hc)<;>(try omega))|refine ZD 1 [] [(0,0),(1,0),(2,0),(3,0),(4,0),(5,0),(6,0),(7,0),(8,0),(9,0),(10,0),(11,0),(12,0),(13,4),(14,0)] [15] ?_|refine ZD 3 [] [(0,0),(1,0),(2,0),(3,0),(4,0),(5,0),(6,0),(7,0),(8,0),(9,0),(10,0),(11,0),(12,0),(13,4),(14,0),(15,0),(16,0)] [] ?_|refine ZD 5 [] [(0,0),(1,0),(2,0),(3,0),(4,0),(5,0),(6,0),(7,0),(8,0),(9,0),(10,0),(11,0),(12,0),(13,4),(14,0),(15,0)] [] ?_|refine ZD 8 [] [(0,0),(1,0),(2,0),(3,0),(4,0),(5,0),(6,0),(7,0),(8,0),(9,0),(10,0),(11,0),(12,0),(13,4),(14,0)] [15] ?_|(refine ZE (fun hc=>?_) (fun hc=>?_)<;>(try simp at hc)<;>(try omega)))
   exact YD hx ⟨j,by omega,hp,fun h=>absurd h hij⟩ ⟨rfl,rfl,rfl,rfl,rfl,trivial⟩
 rintro ⟨j,hj0,hp,hAj⟩
 dsimp only at hj0 hp hAj ⊢
 have k1:=hp.h1
 have k2:=hp.h2
 have k3:=hp.h3
 have hj:j<n:=by omega
 have kj:j<m.length:=by omega
 have hqm:AxOK (m.length * 5) q:=by rw [hm,←hn];exact hq
 have hqm2:∀k y,AxOK ((m.set k y).length * 5) q:=fun k y=>by rw [List.length_set];exact hqm
 by_cases hij:i≤j
 ·have hij2:=hp.ne hij (hAi (by omega)) (hAj hij)
  have hi:i<n:=by omega
  have ki:i<m.length:=by omega
  have kj2:j<(m.set i (gt m j)).length:=by rw [List.length_set];exact kj
  repeat' (first|refine ZH ?_|refine ZG ?_|refine ZK ?_|refine ZI ?_|refine ZP ?_|refine ZJ ?_|refine ZM ?_|refine ZN (fun b=>?_)|refine ZO (fun b=>?_)|refine ZA ?_|refine ZB ?_|refine ZZ ?_|refine ZW ?_|refine Zf ?_|refine Za ?_|refine ZY ?_|refine Ze (fun b=>?_)|refine Zg (fun b=>?_)|refine Zd ?_|refine ZX ?_|rw [wi i hi]|rw [wj j (by omega) hj]|refine Zj (m:=n) (i) hi ?_|refine l_ixW (m:=n) (i) hi ?_|refine Zj (m:=n) (j) hj ?_|refine l_ixW (m:=n) (j) hj ?_|refine Zq 5 (i) 0 (ZQ ki) ?_|refine Zq 5 (j) 0 (ZQ kj) ?_|refine Yl 5 (i) 0 (gt m (j)) (ZQ ki) hqm ?_|refine Z0 5 (i) 0 (gt m (j)) (ZQ ki) hqm ?_|refine Z0 5 (j) 0 (gt m (i)) (ZQ kj2) (hqm2 _ _) ?_|refine Y0 ?_|(refine ZC (fun hc=>?_) (fun hc=>?_)<;>(try simp at hc)<;>(try omega))|(refine ZL (fun hc=>?_) (fun hc=>?_)<;>(try simp at hc)<;>(try omega))|refine ZD 1 [] [(0,0),(1,0),(2,0),(3,0),(4,0),(5,0),(6,0),(7,0),(8,0),(9,0),(10,0),(11,0),(12,0),(13,4),(14,0)] [15] ?_|refine ZD 8 [Ax _ _ _ _ _] [(0,0),(1,0),(2,0),(3,0),(4,0),(5,0),(6,0),(8,0),(9,0),(10,0),(7,3),(11,3),(12,0),(13,4),(14,0)] [15] ?_|(refine ZE (fun hc=>?_) (fun hc=>?_)<;>(try simp at hc)<;>(try omega)))
  exact Zc ⟨(i+1,j - 1,sw m i j),hp.sw (by omega) hij2 (hAi (by omega)) (hAj hij)⟩ (by show j - 1+1 - (i+1)<j0+1 - i0;omega) ⟨rfl,rfl,rfl,rfl,rfl,trivial⟩
 ·repeat' (first|refine ZH ?_|refine ZG ?_|refine ZK ?_|refine ZI ?_|refine ZP ?_|refine ZJ ?_|refine ZM ?_|refine ZN (fun b=>?_)|refine ZO (fun b=>?_)|refine ZA ?_|refine ZB ?_|refine ZR ?_|(refine ZC (fun hc=>?_) (fun hc=>?_)<;>(try simp at hc)<;>(try omega))|(refine ZE (fun hc=>?_) (fun hc=>?_)<;>(try simp at hc)<;>(try omega)))
  exact ZS ⟨(i,m),hp.w,by omega,by omega,by rw [←hP];exact hp.pa,fun k h1 h2=>by
   by_cases hk:k=a
   ·rw [hk,hp.pa];exact W.i _
   ·rw [hp.pa];exact hp.lo k (by omega) h2⟩ rfl trivial
end
section
variable (bk cap:Nat) (q:List Value×(Nat×Nat)) (fv:FuncId) (Fc:Pf) (c:Nm→Nm→Int) (W:Wk0 c) (U:Nm→Prop) (hcmp:∀x y,U x→U y→Enters fv∧Spec prog fv #[x.v,y.v] [Fc] [] (RetV (.int .i64 (c x y))))
include hcmp W in
set_option maxHeartbeats 8000000 in
theorem pinsN_ok (l:List Nm) (n:Nat) (hn:n=l.length) (hn2:n≤1000000) (hq:AxOK (n * 5) q) (hU:∀x ∈ l,U x) (a bb:Nat) (hab:a<bb) (hb:bb≤n) (hlw:Lw c a bb l) :
  Enters 191∧Spec prog 191 #[.slice (some ⟨bk,0,none⟩) n cap,.int .i64 (a:Int),.int .i64 (bb:Int),.func (.func fv) #[] #[]] [Fc] [Ax 46 nmf bk l q]
   ⟨{t:Bool×List Nm // Win a bb l t.2∧(t.1=true→Sw c a bb t.2)},fun t=>.bool t.1.1,fun _=>True,fun _=>[],fun t=>[Ax 46 nmf bk t.1.2 q]⟩:=by
 have w0:IntKind.i64.wrap ((a:Int)+1)=((a+1:Nat):Int):=by simp (disch:=omega) only [wrapi];omega
 have wi:∀i,i<n→IntKind.i64.wrap ((i:Int)+1)=((i+1:Nat):Int):=fun i hi=>by simp (disch:=omega) only [wrapi];omega
 have wj:∀j,0<j→j<n→IntKind.i64.wrap ((j:Int) - 1)=((j - 1:Nat):Int):=fun j h0 hi=>by simp (disch:=omega) only [wrapi];omega
 have wba:IntKind.i64.wrap ((bb:Int) - (a:Int))=((bb - a:Nat):Int):=by simp (disch:=omega) only [wrapi];omega
 refine Zb [_,_,_,_] func191 ntmps191 fun G w hp=>?_
 repeat' (first|refine ZH ?_|refine ZG ?_|refine ZK ?_|refine ZI ?_|refine ZP ?_|refine ZJ ?_|refine ZM ?_|refine ZN (fun b=>?_)|refine ZO (fun b=>?_)|refine ZA ?_|refine ZB ?_|rw [w0]|(refine ZC (fun hc=>?_) (fun hc=>?_)<;>(try simp at hc))|(refine ZE (fun hc=>?_) (fun hc=>?_)<;>(try simp at hc)))
 refine Z6 (X:={t:Nat×Nat×List Nm // t.1≤5∧a<t.2.1∧t.2.1≤bb∧Win a bb l t.2.2∧Sw c a t.2.1 t.2.2}) (fun t=>[(0,.slice (some ⟨bk,0,none⟩) n cap),(1,.int .i64 (a:Int)),(2,.int .i64 (bb:Int)),(3,.func (.func fv) #[] #[]),(9,.int .i64 (t.1.2.1:Int)),(10,.int .i64 (t.1.1:Int))]) (fun _=>[Fc]) (fun t=>[Ax 46 nmf bk t.1.2.2 q]) (fun t=>5 - t.1.1)
  ⟨(0,a+1,l),by omega,by show a<a+1;omega,by show a+1≤bb;omega,Win.refl,Sw.nil (Nat.le_refl _)⟩ ⟨rfl,rfl,rfl,rfl,rfl,rfl,trivial⟩ ?_
 rintro ⟨⟨r,i0,m⟩,hr,h1,h2,h3,h4⟩
 dsimp only at hr h1 h2 h3 h4 ⊢
 have hm:=h3.len
 have hUm:=h3.sub hU
 by_cases hr5:r<5
 rotate_left
 ·repeat' (first|refine ZH ?_|refine ZG ?_|refine ZK ?_|refine ZI ?_|refine ZP ?_|refine ZJ ?_|refine ZM ?_|refine ZN (fun b=>?_)|refine ZO (fun b=>?_)|refine ZA ?_|refine ZB ?_|refine ZR ?_|(refine ZC (fun hc=>?_) (fun hc=>?_)<;>(try simp at hc)<;>(try omega))|(refine ZE (fun hc=>?_) (fun hc=>?_)<;>(try simp at hc)<;>(try omega)))
  exact ZS ⟨(false,m),h3,fun h=>by cases h⟩ rfl trivial
 have wr:IntKind.i64.wrap ((r:Int)+1)=((r+1:Nat):Int):=by simp (disch:=omega) only [wrapi];omega
 repeat' (first|refine ZH ?_|refine ZG ?_|refine ZK ?_|refine ZI ?_|refine ZP ?_|refine ZJ ?_|refine ZM ?_|refine ZN (fun b=>?_)|refine ZO (fun b=>?_)|refine ZA ?_|refine ZB ?_|(refine ZC (fun hc=>?_) (fun hc=>?_)<;>(try simp at hc)<;>(try omega))|(refine ZE (fun hc=>?_) (fun hc=>?_)<;>(try simp at hc)<;>(try omega)))
 refine Yz (Y:={i:Nat // a<i∧i≤bb∧Sw c a i m∧(i<bb→c (gt m i) (gt m (i - 1))<0)}) (X:={i:Nat // a<i∧i≤bb∧Sw c a i m}) (fun i=>[(0,.slice (some ⟨bk,0,none⟩) n cap),(1,.int .i64 (a:Int)),(2,.int .i64 (bb:Int)),(3,.func (.func fv) #[] #[]),(9,.int .i64 (i.1:Int)),(10,.int .i64 (r:Int))]) (fun _=>[Fc]) (fun _=>[Ax 46 nmf bk m q]) (fun i=>bb - i.1)
  (fun i=>[(0,.slice (some ⟨bk,0,none⟩) n cap),(1,.int .i64 (a:Int)),(2,.int .i64 (bb:Int)),(3,.func (.func fv) #[] #[]),(9,.int .i64 (i.1:Int)),(10,.int .i64 (r:Int))]) (fun _=>[Fc]) (fun _=>[Ax 46 nmf bk m q]) ⟨i0,h1,h2,h4⟩ ⟨rfl,rfl,rfl,rfl,rfl,rfl,trivial⟩ ?_ ?_
 rotate_left
 ·intro hx
  rintro ⟨i,g1,g2,g3⟩
  dsimp only at g1 g2 g3 ⊢
  by_cases hib:i<bb
  ·have hi:i<n:=by omega
   have hj:i - 1<n:=by omega
   have ki:i<m.length:=by omega
   have kj:i - 1<m.length:=by omega
   have sp:=hcmp (gt m i) (gt m (i - 1)) (hUm _ (Z3 ki)) (hUm _ (Z3 kj))
   by_cases hc0:c (gt m i) (gt m (i - 1))<0
   ·repeat' (first|refine ZH ?_|refine ZG ?_|refine ZK ?_|refine ZI ?_|refine ZP ?_|refine ZJ ?_|refine ZM ?_|refine ZN (fun b=>?_)|refine ZO (fun b=>?_)|refine ZA ?_|refine ZB ?_|refine ZZ ?_|refine ZW ?_|refine Zf ?_|refine Za ?_|refine ZY ?_|refine Ze (fun b=>?_)|refine Zg (fun b=>?_)|refine Zd ?_|refine ZX ?_|refine Zj (m:=n) (i) hi ?_|refine l_ixW (m:=n) (i) hi ?_|refine Zj (m:=n) (i - 1) hj ?_|refine l_ixW (m:=n) (i - 1) hj ?_|refine Zo 5 (i) 0 (ZQ ki) ?_|refine l_ldE 5 (i) 0 (ZQ ki) ?_|refine Zo 5 (i - 1) 0 (ZQ kj) ?_|refine l_ldE 5 (i - 1) 0 (ZQ kj) ?_|refine Zu sp (fun _ _=>?_)|(refine ZC (fun hc=>?_) (fun hc=>?_)<;>(try simp at hc)<;>(try omega))|(refine ZL (fun hc=>?_) (fun hc=>?_)<;>(try simp at hc)<;>(try omega))|refine ZD 5 [] [(0,0),(1,0),(2,0),(3,0),(4,0),(5,0),(6,0),(7,0),(8,0),(9,0),(10,0),(11,0),(12,0),(13,0),(14,4),(15,0),(16,0),(17,0)] [] ?_|refine ZD 11 [] [(0,0),(1,0),(2,0),(3,0),(4,0),(5,0),(6,0),(7,0),(8,0),(9,0),(10,0),(11,0),(12,0),(13,0),(14,0),(15,4),(16,0)] [17] ?_|refine ZD 16 [] [(0,0),(1,0),(2,0),(3,0),(4,0),(5,0),(6,0),(7,0),(8,0),(9,0),(10,4),(11,0),(12,0)] [] ?_|refine ZD 17 [] [(0,0),(1,0),(2,0),(3,0),(4,0),(5,0),(6,0),(7,0),(8,0),(9,0),(10,0),(11,0),(12,0),(13,0),(14,0),(15,4),(16,0)] [17] ?_|refine ZD 22 [] [(0,0),(1,0),(2,0),(3,0),(4,0),(5,0),(6,0),(7,0),(8,0),(9,0),(10,4),(11,0),(12,0)] [] ?_|refine ZD 23 [] [(0,0),(1,0),(2,0),(3,0),(4,0),(5,0),(6,0),(7,0),(8,0),(9,0),(10,0),(11,0),(12,0),(13,0),(14,0),(15,4),(16,0)] [17] ?_|(refine ZE (fun hc=>?_) (fun hc=>?_)<;>(try simp at hc)<;>(try omega)))
    exact YD hx ⟨i,g1,g2,g3,fun _=>hc0⟩ ⟨rfl,rfl,rfl,rfl,rfl,rfl,trivial⟩
   ·repeat' (first|refine ZH ?_|refine ZG ?_|refine ZK ?_|refine ZI ?_|refine ZP ?_|refine ZJ ?_|refine ZM ?_|refine ZN (fun b=>?_)|refine ZO (fun b=>?_)|refine ZA ?_|refine ZB ?_|refine ZZ ?_|refine ZW ?_|refine Zf ?_|refine Za ?_|refine ZY ?_|refine Ze (fun b=>?_)|refine Zg (fun b=>?_)|refine Zd ?_|refine ZX ?_|refine Zj (m:=n) (i) hi ?_|refine l_ixW (m:=n) (i) hi ?_|refine Zj (m:=n) (i - 1) hj ?_|refine l_ixW (m:=n) (i - 1) hj ?_|refine Zo 5 (i) 0 (ZQ ki) ?_|refine l_ldE 5 (i) 0 (ZQ ki) ?_|refine Zo 5 (i - 1) 0 (ZQ kj) ?_|refine l_ldE 5 (i - 1) 0 (ZQ kj) ?_|refine Zu sp (fun _ _=>?_)|rw [wi i hi]|(refine ZC (fun hc=>?_) (fun hc=>?_)<;>(try simp at hc)<;>(try omega))|(refine ZL (fun hc=>?_) (fun hc=>?_)<;>(try simp at hc)<;>(try omega))|refine ZD 5 [] [(0,0),(1,0),(2,0),(3,0),(4,0),(5,0),(6,0),(7,0),(8,0),(9,0),(10,0),(11,0),(12,0),(13,0),(14,4),(15,0),(16,0),(17,0)] [] ?_|refine ZD 11 [] [(0,0),(1,0),(2,0),(3,0),(4,0),(5,0),(6,0),(7,0),(8,0),(9,0),(10,0),(11,0),(12,0),(13,0),(14,0),(15,4),(16,0)] [17] ?_|refine ZD 16 [] [(0,0),(1,0),(2,0),(3,0),(4,0),(5,0),(6,0),(7,0),(8,0),(9,0),(10,4),(11,0),(12,0)] [] ?_|refine ZD 17 [] [(0,0),(1,0),(2,0),(3,0),(4,0),(5,0),(6,0),(7,0),(8,0),(9,0),(10,0),(11,0),(12,0),(13,0),(14,0),(15,4),(16,0)] [17] ?_|refine ZD 22 [] [(0,0),(1,0),(2,0),(3,0),(4,0),(5,0),(6,0),(7,0),(8,0),(9,0),(10,4),(11,0),(12,0)] [] ?_|refine ZD 23 [] [(0,0),(1,0),(2,0),(3,0),(4,0),(5,0),(6,0),(7,0),(8,0),(9,0),(10,0),(11,0),(12,0),(13,0),(14,0),(15,4),(16,0)] [17] ?_|(refine ZE (fun hc=>?_) (fun hc=>?_)<;>(try simp at hc)<;>(try omega)))
    exact Zc ⟨i+1,by omega,by omega,g3.snoc W g1 hc0⟩ (by show bb - (i+1)<bb - i;omega) ⟨rfl,rfl,rfl,rfl,rfl,rfl,trivial⟩
  ·repeat' (first|refine ZH ?_|refine ZG ?_|refine ZK ?_|refine ZI ?_|refine ZP ?_|refine ZJ ?_|refine ZM ?_|refine ZN (fun b=>?_)|refine ZO (fun b=>?_)|refine ZA ?_|refine ZB ?_|refine ZZ ?_|refine ZW ?_|refine Zf ?_|refine Za ?_|refine ZY ?_|refine Ze (fun b=>?_)|refine Zg (fun b=>?_)|refine Zd ?_|refine ZX ?_|(refine ZC (fun hc=>?_) (fun hc=>?_)<;>(try simp at hc)<;>(try omega))|(refine ZL (fun hc=>?_) (fun hc=>?_)<;>(try simp at hc)<;>(try omega))|refine ZD 5 [] [(0,0),(1,0),(2,0),(3,0),(4,0),(5,0),(6,0),(7,0),(8,0),(9,0),(10,0),(11,0),(12,0),(13,0),(14,4),(15,0),(16,0),(17,0)] [] ?_|refine ZD 11 [] [(0,0),(1,0),(2,0),(3,0),(4,0),(5,0),(6,0),(7,0),(8,0),(9,0),(10,0),(11,0),(12,0),(13,0),(14,0),(15,4),(16,0)] [17] ?_|refine ZD 16 [] [(0,0),(1,0),(2,0),(3,0),(4,0),(5,0),(6,0),(7,0),(8,0),(9,0),(10,4),(11,0),(12,0)] [] ?_|refine ZD 17 [] [(0,0),(1,0),(2,0),(3,0),(4,0),(5,0),(6,0),(7,0),(8,0),(9,0),(10,0),(11,0),(12,0),(13,0),(14,0),(15,4),(16,0)] [17] ?_|refine ZD 22 [] [(0,0),(1,0),(2,0),(3,0),(4,0),(5,0),(6,0),(7,0),(8,0),(9,0),(10,4),(11,0),(12,0)] [] ?_|refine ZD 23 [] [(0,0),(1,0),(2,0),(3,0),(4,0),(5,0),(6,0),(7,0),(8,0),(9,0),(10,0),(11,0),(12,0),(13,0),(14,0),(15,4),(16,0)] [17] ?_|(refine ZE (fun hc=>?_) (fun hc=>?_)<;>(try simp at hc)<;>(try omega)))
   exact YD hx ⟨i,g1,g2,g3,fun h=>absurd h hib⟩ ⟨rfl,rfl,rfl,rfl,rfl,rfl,trivial⟩
 rintro ⟨i,g1,g2,g3,g4⟩
 dsimp only at g1 g2 g3 g4 ⊢
 by_cases hib:i=bb
 ·subst hib
  have e0:decide ((i:Int)=(i:Int))=true:=decide_eq_true rfl
  repeat' (first|refine ZH ?_|refine ZG ?_|refine ZK ?_|refine ZI ?_|refine ZP ?_|refine ZJ ?_|refine ZM ?_|refine ZN (fun b=>?_)|refine ZO (fun b=>?_)|refine ZA ?_|refine ZB ?_|(refine ZC (fun hc=>?_) (fun hc=>?_)<;>(try simp at hc)<;>(try omega))|(refine ZE (fun hc=>?_) (fun hc=>?_)<;>(try simp at hc)<;>(try omega)))
  exact YR (YX (Z4 ⟨(true,m),h3,fun _=>g3⟩ rfl trivial))
 by_cases h50:bb - a<50
 ·repeat' (first|refine ZH ?_|refine ZG ?_|refine ZK ?_|refine ZI ?_|refine ZP ?_|refine ZJ ?_|refine ZM ?_|refine ZN (fun b=>?_)|refine ZO (fun b=>?_)|refine ZA ?_|refine ZB ?_|rw [wba]|(refine ZC (fun hc=>?_) (fun hc=>?_)<;>(try simp at hc)<;>(try omega))|(refine ZE (fun hc=>?_) (fun hc=>?_)<;>(try simp at hc)<;>(try omega)))
  exact YR (YX (Z4 ⟨(false,m),h3,fun h=>by cases h⟩ rfl trivial))
 have hc0:=g4 (by omega)
 have hi:i<n:=by omega
 have hj:i - 1<n:=by omega
 have ki:i<m.length:=by omega
 have kj:i - 1<m.length:=by omega
 have kj2:i - 1<(m.set i (gt m (i - 1))).length:=by rw [List.length_set];exact kj
 have hqm:AxOK (m.length * 5) q:=by rw [hm,←hn];exact hq
 have hqm2:∀k y,AxOK ((m.set k y).length * 5) q:=fun k y=>by rw [List.length_set];exact hqm
 have wia:IntKind.i64.wrap ((i:Int) - (a:Int))=((i - a:Nat):Int):=by simp (disch:=omega) only [wrapi];omega
 have wbi:IntKind.i64.wrap ((bb:Int) - (i:Int))=((bb - i:Nat):Int):=by simp (disch:=omega) only [wrapi];omega
 have b1:((i:Int) == (bb:Int))=false:=by rw [beq_eq_false_iff_ne];omega
 have b2:decide (((bb - a:Nat):Int)<50)=false:=decide_eq_false (by omega)
 repeat' (first|refine ZH ?_|refine ZG ?_|refine ZK ?_|refine ZI ?_|refine ZP ?_|refine ZJ ?_|refine ZM ?_|refine ZN (fun b=>?_)|refine ZO (fun b=>?_)|refine ZA ?_|refine ZB ?_|refine ZZ ?_|refine ZW ?_|refine Zf ?_|refine Za ?_|refine ZY ?_|refine Ze (fun b=>?_)|refine Zg (fun b=>?_)|refine Zd ?_|refine ZX ?_|refine Zj (m:=n) (i) hi ?_|refine l_ixW (m:=n) (i) hi ?_|refine Zj (m:=n) (i - 1) hj ?_|refine l_ixW (m:=n) (i - 1) hj ?_|refine Zq 5 (i) 0 (ZQ ki) ?_|refine Zq 5 (i - 1) 0 (ZQ kj) ?_|refine Yl 5 (i) 0 (gt m (i - 1)) (ZQ ki) hqm ?_|refine Z0 5 (i) 0 (gt m (i - 1)) (ZQ ki) hqm ?_|refine Z0 5 (i - 1) 0 (gt m (i)) (ZQ kj2) (hqm2 _ _) ?_|rw [wba]|rw [wia]|rw [b1]|rw [b2]|refine Y0 ?_|(refine ZC (fun hc=>?_) (fun hc=>?_)<;>(try simp at hc))|(refine ZL (fun hc=>?_) (fun hc=>?_)<;>(try simp at hc))|refine ZD 5 [] [(0,0),(1,0),(2,0),(3,0),(4,0),(5,0),(6,0),(7,0),(8,0),(9,0),(10,0),(11,0),(12,0),(13,0),(14,4),(15,0),(16,0),(17,0)] [] ?_|refine ZD 11 [Ax _ _ _ _ _] [(0,0),(1,0),(2,0),(3,0),(4,0),(5,0),(6,0),(7,0),(8,0),(10,0),(11,0),(12,0),(9,3),(13,3),(14,0),(15,4),(16,0)] [17] ?_)
 obtain ⟨m1,hm1⟩:∃m1,m1=sw m i (i - 1):=⟨_,rfl⟩
 have hw1:Win a bb l m1:=by rw [hm1];exact h3.trans (Win.sw (by omega) (by omega) (by omega) (by omega) (by omega))
 have hl1:Lsh c a i (i - 1) m1:=by rw [hm1];exact Lsh.init g3 (by omega) g1
 have hm1l:=hw1.len
 refine k_ax m1 hm1.symm ?_
 refine k_cut (Y:={m2:List Nm // Win a bb l m2∧Sw c a i m2}) (fun _=>[(0,.slice (some ⟨bk,0,none⟩) n cap),(1,.int .i64 (a:Int)),(2,.int .i64 (bb:Int)),(3,.func (.func fv) #[] #[]),(9,.int .i64 (i:Int)),(10,.int .i64 (r:Int))]) (fun _=>[Fc]) (fun m2=>[Ax 46 nmf bk m2.1 q]) ?_ ?_
 ·rintro ⟨m2,hw2,hs2⟩
  dsimp only at hw2 hs2 ⊢
  have hm2l:=hw2.len
  by_cases hbi:bb - i<2
  ·repeat' (first|refine ZH ?_|refine ZG ?_|refine ZK ?_|refine ZI ?_|refine ZP ?_|refine ZJ ?_|refine ZM ?_|refine ZN (fun b=>?_)|refine ZO (fun b=>?_)|refine ZA ?_|refine ZB ?_|rw [wbi]|rw [wr]|(refine ZC (fun hc=>?_) (fun hc=>?_)<;>(try simp at hc)<;>(try omega))|(refine ZE (fun hc=>?_) (fun hc=>?_)<;>(try simp at hc)<;>(try omega)))
   exact Zc ⟨(r+1,i,m2),by show r+1≤5;omega,g1,g2,hw2,hs2⟩ (by show 5 - (r+1)<5 - r;omega) ⟨rfl,rfl,rfl,rfl,rfl,rfl,trivial⟩
  ·repeat' (first|refine ZH ?_|refine ZG ?_|refine ZK ?_|refine ZI ?_|refine ZP ?_|refine ZJ ?_|refine ZM ?_|refine ZN (fun b=>?_)|refine ZO (fun b=>?_)|refine ZA ?_|refine ZB ?_|rw [wbi]|rw [wi i hi]|(refine ZC (fun hc=>?_) (fun hc=>?_)<;>(try simp at hc)<;>(try omega))|(refine ZE (fun hc=>?_) (fun hc=>?_)<;>(try simp at hc)<;>(try omega)))
   refine Yz (Y:={m3:List Nm // Win i bb m2 m3}) (X:={t:Nat×List Nm // i<t.1∧t.1≤bb∧Win i bb m2 t.2}) (fun t=>[(0,.slice (some ⟨bk,0,none⟩) n cap),(1,.int .i64 (a:Int)),(2,.int .i64 (bb:Int)),(3,.func (.func fv) #[] #[]),(9,.int .i64 (i:Int)),(10,.int .i64 (r:Int)),(12,.int .i64 (t.1.1:Int))]) (fun _=>[Fc]) (fun t=>[Ax 46 nmf bk t.1.2 q]) (fun t=>bb - t.1.1)
    (fun _=>[(0,.slice (some ⟨bk,0,none⟩) n cap),(1,.int .i64 (a:Int)),(2,.int .i64 (bb:Int)),(3,.func (.func fv) #[] #[]),(9,.int .i64 (i:Int)),(10,.int .i64 (r:Int))]) (fun _=>[Fc]) (fun m3=>[Ax 46 nmf bk m3.1 q]) ⟨(i+1,m2),by show i<i+1;omega,by show i+1≤bb;omega,Win.refl⟩ ⟨rfl,rfl,rfl,rfl,rfl,rfl,rfl,trivial⟩ ?_ ?_
   rotate_left
   ·intro hx
    rintro ⟨⟨j,m3⟩,j1,j2,j3⟩
    dsimp only at j1 j2 j3 ⊢
    have hm3l:=j3.len
    by_cases hjb:j<bb
    ·have hja:j<n:=by omega
     have hjb2:j - 1<n:=by omega
     have kja:j<m3.length:=by omega
     have kjb:j - 1<m3.length:=by omega
     have kjb2:j - 1<(m3.set j (gt m3 (j - 1))).length:=by rw [List.length_set];exact kjb
     have hU3:=(hw2.trans (j3.mono (by omega) (Nat.le_refl _))).sub hU
     have hq3:AxOK (m3.length * 5) q:=by rw [hm3l,hm2l,←hn];exact hq
     have hq32:∀k y,AxOK ((m3.set k y).length * 5) q:=fun k y=>by rw [List.length_set];exact hq3
     have sp:=hcmp (gt m3 j) (gt m3 (j - 1)) (hU3 _ (Z3 kja)) (hU3 _ (Z3 kjb))
     by_cases hc1:c (gt m3 j) (gt m3 (j - 1))<0
     ·repeat' (first|refine ZH ?_|refine ZG ?_|refine ZK ?_|refine ZI ?_|refine ZP ?_|refine ZJ ?_|refine ZM ?_|refine ZN (fun b=>?_)|refine ZO (fun b=>?_)|refine ZA ?_|refine ZB ?_|refine ZZ ?_|refine ZW ?_|refine Zf ?_|refine Za ?_|refine ZY ?_|refine Ze (fun b=>?_)|refine Zg (fun b=>?_)|refine Zd ?_|refine ZX ?_|refine Zj (m:=n) (j) hja ?_|refine l_ixW (m:=n) (j) hja ?_|refine Zj (m:=n) (j - 1) hjb2 ?_|refine l_ixW (m:=n) (j - 1) hjb2 ?_|refine Zq 5 (j) 0 (ZQ kja) ?_|refine Zq 5 (j - 1) 0 (ZQ kjb) ?_|refine Yl 5 (j) 0 (gt m3 (j - 1)) (ZQ kja) hq3 ?_|refine Z0 5 (j) 0 (gt m3 (j - 1)) (ZQ kja) hq3 ?_|refine Z0 5 (j - 1) 0 (gt m3 (j)) (ZQ kjb2) (hq32 _ _) ?_|refine Zj (m:=n) (j) hja ?_|refine l_ixW (m:=n) (j) hja ?_|refine Zj (m:=n) (j - 1) hjb2 ?_|refine l_ixW (m:=n) (j - 1) hjb2 ?_|refine Zo 5 (j) 0 (ZQ kja) ?_|refine l_ldE 5 (j) 0 (ZQ kja) ?_|refine Zo 5 (j - 1) 0 (ZQ kjb) ?_|refine l_ldE 5 (j - 1) 0 (ZQ kjb) ?_|refine Zu sp (fun _ _=>?_)|rw [wi j hja]|refine Y0 ?_|(refine ZC (fun hc=>?_) (fun hc=>?_)<;>(try simp at hc)<;>(try omega))|(refine ZL (fun hc=>?_) (fun hc=>?_)<;>(try simp at hc)<;>(try omega))|refine ZD 5 [] [(0,0),(1,0),(2,0),(3,0),(4,0),(5,0),(6,0),(7,0),(8,0),(9,0),(10,0),(11,0),(12,0),(13,0),(14,4),(15,0),(16,0),(17,0)] [] ?_|refine ZD 11 [] [(0,0),(1,0),(2,0),(3,0),(4,0),(5,0),(6,0),(7,0),(8,0),(9,0),(10,0),(11,0),(12,0),(13,0),(14,0),(15,4),(16,0)] [17] ?_|refine ZD 16 [] [(0,0),(1,0),(2,0),(3,0),(4,0),(5,0),(6,0),(7,0),(8,0),(9,0),(10,4),(11,0),(12,0)] [] ?_|refine ZD 17 [] [(0,0),(1,0),(2,0),(3,0),(4,0),(5,0),(6,0),(7,0),(8,0),(9,0),(10,0),(11,0),(12,0),(13,0),(14,0),(15,4),(16,0)] [17] ?_|refine ZD 22 [] [(0,0),(1,0),(2,0),(3,0),(4,0),(5,0),(6,0),(7,0),(8,0),(9,0),(10,4),(11,0),(12,0)] [] ?_|refine ZD 23 [Ax _ _ _ _ _] [(0,0),(1,0),(2,0),(3,0),(4,0),(5,0),(6,0),(7,0),(8,0),(10,0),(11,0),(12,0),(9,3),(13,3),(14,0),(15,4),(16,0)] [17] ?_|(refine ZE (fun hc=>?_) (fun hc=>?_)<;>(try simp at hc)<;>(try omega)))
      exact Zc ⟨(j+1,sw m3 j (j - 1)),by show i<j+1;omega,by show j+1≤bb;omega,j3.trans (Win.sw (by omega) hjb (by omega) (by omega) (by omega))⟩ (by show bb - (j+1)<bb - j;omega) ⟨rfl,rfl,rfl,rfl,rfl,rfl,rfl,trivial⟩
     ·repeat' (first|refine ZH ?_|refine ZG ?_|refine ZK ?_|refine ZI ?_|refine ZP ?_|refine ZJ ?_|refine ZM ?_|refine ZN (fun b=>?_)|refine ZO (fun b=>?_)|refine ZA ?_|refine ZB ?_|refine ZZ ?_|refine ZW ?_|refine Zf ?_|refine Za ?_|refine ZY ?_|refine Ze (fun b=>?_)|refine Zg (fun b=>?_)|refine Zd ?_|refine ZX ?_|refine Zj (m:=n) (j) hja ?_|refine l_ixW (m:=n) (j) hja ?_|refine Zj (m:=n) (j - 1) hjb2 ?_|refine l_ixW (m:=n) (j - 1) hjb2 ?_|refine Zo 5 (j) 0 (ZQ kja) ?_|refine l_ldE 5 (j) 0 (ZQ kja) ?_|refine Zo 5 (j - 1) 0 (ZQ kjb) ?_|refine l_ldE 5 (j - 1) 0 (ZQ kjb) ?_|refine Zu sp (fun _ _=>?_)|(refine ZC (fun hc=>?_) (fun hc=>?_)<;>(try simp at hc)<;>(try omega))|(refine ZL (fun hc=>?_) (fun hc=>?_)<;>(try simp at hc)<;>(try omega))|refine ZD 5 [] [(0,0),(1,0),(2,0),(3,0),(4,0),(5,0),(6,0),(7,0),(8,0),(9,0),(10,0),(11,0),(12,0),(13,0),(14,4),(15,0),(16,0),(17,0)] [] ?_|refine ZD 11 [] [(0,0),(1,0),(2,0),(3,0),(4,0),(5,0),(6,0),(7,0),(8,0),(9,0),(10,0),(11,0),(12,0),(13,0),(14,0),(15,4),(16,0)] [17] ?_|refine ZD 16 [] [(0,0),(1,0),(2,0),(3,0),(4,0),(5,0),(6,0),(7,0),(8,0),(9,0),(10,4),(11,0),(12,0)] [] ?_|refine ZD 17 [] [(0,0),(1,0),(2,0),(3,0),(4,0),(5,0),(6,0),(7,0),(8,0),(9,0),(10,0),(11,0),(12,0),(13,0),(14,0),(15,4),(16,0)] [17] ?_|refine ZD 22 [] [(0,0),(1,0),(2,0),(3,0),(4,0),(5,0),(6,0),(7,0),(8,0),(9,0),(10,4),(11,0),(12,0)] [] ?_|refine ZD 23 [] [(0,0),(1,0),(2,0),(3,0),(4,0),(5,0),(6,0),(7,0),(8,0),(9,0),(10,0),(11,0),(12,0),(13,0),(14,0),(15,4),(16,0)] [17] ?_|(refine ZE (fun hc=>?_) (fun hc=>?_)<;>(try simp at hc)<;>(try omega)))
      exact YD hx ⟨m3,j3⟩ ⟨rfl,rfl,rfl,rfl,rfl,rfl,trivial⟩
    ·repeat' (first|refine ZH ?_|refine ZG ?_|refine ZK ?_|refine ZI ?_|refine ZP ?_|refine ZJ ?_|refine ZM ?_|refine ZN (fun b=>?_)|refine ZO (fun b=>?_)|refine ZA ?_|refine ZB ?_|(refine ZC (fun hc=>?_) (fun hc=>?_)<;>(try simp at hc)<;>(try omega))|(refine ZE (fun hc=>?_) (fun hc=>?_)<;>(try simp at hc)<;>(try omega)))
     exact YD hx ⟨m3,j3⟩ ⟨rfl,rfl,rfl,rfl,rfl,rfl,trivial⟩
   rintro ⟨m3,j3⟩
   repeat' (first|refine ZH ?_|refine ZG ?_|refine ZK ?_|refine ZI ?_|refine ZP ?_|refine ZJ ?_|refine ZM ?_|refine ZN (fun b=>?_)|refine ZO (fun b=>?_)|refine ZA ?_|refine ZB ?_|rw [wr]|(refine ZC (fun hc=>?_) (fun hc=>?_)<;>(try simp at hc)<;>(try omega))|(refine ZE (fun hc=>?_) (fun hc=>?_)<;>(try simp at hc)<;>(try omega)))
   exact Zc ⟨(r+1,i,m3),by show r+1≤5;omega,g1,g2,hw2.trans (j3.mono (by omega) (Nat.le_refl _)),hs2.out j3⟩ (by show 5 - (r+1)<5 - r;omega) ⟨rfl,rfl,rfl,rfl,rfl,rfl,trivial⟩
 ·intro hcut
  by_cases hia:i - a<2
  ·repeat' (first|refine Xh ?_|refine k_to hcut ⟨m1,hw1,Sw.nil (by omega)⟩ ⟨rfl,rfl,rfl,rfl,rfl,rfl,trivial⟩|refine ZH ?_|refine ZG ?_|refine ZK ?_|refine ZI ?_|refine ZP ?_|refine ZJ ?_|refine ZM ?_|refine ZN (fun b=>?_)|refine ZO (fun b=>?_)|refine ZA ?_|refine ZB ?_|(refine ZC (fun hc=>?_) (fun hc=>?_)<;>(try simp at hc)<;>(try omega))|(refine ZE (fun hc=>?_) (fun hc=>?_)<;>(try simp at hc)<;>(try omega)))
  ·repeat' (first|refine ZH ?_|refine ZG ?_|refine ZK ?_|refine ZI ?_|refine ZP ?_|refine ZJ ?_|refine ZM ?_|refine ZN (fun b=>?_)|refine ZO (fun b=>?_)|refine ZA ?_|refine ZB ?_|rw [wj i (by omega) hi]|(refine ZC (fun hc=>?_) (fun hc=>?_)<;>(try simp at hc)<;>(try omega))|(refine ZE (fun hc=>?_) (fun hc=>?_)<;>(try simp at hc)<;>(try omega)))
   refine Yz (Y:={m3:List Nm // Win a i m1 m3∧Sw c a i m3}) (X:={t:Nat×List Nm // a≤t.1∧t.1<i∧Win a i m1 t.2∧Lsh c a i t.1 t.2}) (fun t=>[(0,.slice (some ⟨bk,0,none⟩) n cap),(1,.int .i64 (a:Int)),(2,.int .i64 (bb:Int)),(3,.func (.func fv) #[] #[]),(9,.int .i64 (i:Int)),(10,.int .i64 (r:Int)),(11,.int .i64 (t.1.1:Int))]) (fun _=>[Fc]) (fun t=>[Ax 46 nmf bk t.1.2 q]) (fun t=>t.1.1)
    (fun _=>[(0,.slice (some ⟨bk,0,none⟩) n cap),(1,.int .i64 (a:Int)),(2,.int .i64 (bb:Int)),(3,.func (.func fv) #[] #[]),(9,.int .i64 (i:Int)),(10,.int .i64 (r:Int))]) (fun _=>[Fc]) (fun m3=>[Ax 46 nmf bk m3.1 q]) ⟨(i - 1,m1),by show a≤i - 1;omega,by show i - 1<i;omega,Win.refl,hl1⟩ ⟨rfl,rfl,rfl,rfl,rfl,rfl,rfl,trivial⟩ ?_ ?_
   rotate_left
   ·intro hx
    rintro ⟨⟨j,m3⟩,j1,j2,j3,j4⟩
    dsimp only at j1 j2 j3 j4 ⊢
    have hm3l:=j3.len
    have hw3:=hw1.trans (j3.mono (Nat.le_refl _) g2)
    by_cases hj0:1≤j
    ·have hja:j<n:=by omega
     have hjb2:j - 1<n:=by omega
     have kja:j<m3.length:=by omega
     have kjb:j - 1<m3.length:=by omega
     have kjb2:j - 1<(m3.set j (gt m3 (j - 1))).length:=by rw [List.length_set];exact kjb
     have hU3:=hw3.sub hU
     have hq3:AxOK (m3.length * 5) q:=by rw [hm3l,hm1l,←hn];exact hq
     have hq32:∀k y,AxOK ((m3.set k y).length * 5) q:=fun k y=>by rw [List.length_set];exact hq3
     have sp:=hcmp (gt m3 j) (gt m3 (j - 1)) (hU3 _ (Z3 kja)) (hU3 _ (Z3 kjb))
     by_cases hc1:c (gt m3 j) (gt m3 (j - 1))<0
     ·have haj:a<j:=by
       by_cases hj:j=a
       ·subst hj
        exact absurd hc1 (hlw.win hw3 (by omega) (by omega) j (Nat.le_refl _) hab)
       ·omega
      repeat' (first|refine ZH ?_|refine ZG ?_|refine ZK ?_|refine ZI ?_|refine ZP ?_|refine ZJ ?_|refine ZM ?_|refine ZN (fun b=>?_)|refine ZO (fun b=>?_)|refine ZA ?_|refine ZB ?_|refine ZZ ?_|refine ZW ?_|refine Zf ?_|refine Za ?_|refine ZY ?_|refine Ze (fun b=>?_)|refine Zg (fun b=>?_)|refine Zd ?_|refine ZX ?_|refine Zj (m:=n) (j) hja ?_|refine l_ixW (m:=n) (j) hja ?_|refine Zj (m:=n) (j - 1) hjb2 ?_|refine l_ixW (m:=n) (j - 1) hjb2 ?_|refine Zq 5 (j) 0 (ZQ kja) ?_|refine Zq 5 (j - 1) 0 (ZQ kjb) ?_|refine Yl 5 (j) 0 (gt m3 (j - 1)) (ZQ kja) hq3 ?_|refine Z0 5 (j) 0 (gt m3 (j - 1)) (ZQ kja) hq3 ?_|refine Z0 5 (j - 1) 0 (gt m3 (j)) (ZQ kjb2) (hq32 _ _) ?_|refine Zj (m:=n) (j) hja ?_|refine l_ixW (m:=n) (j) hja ?_|refine Zj (m:=n) (j - 1) hjb2 ?_|refine l_ixW (m:=n) (j - 1) hjb2 ?_|refine Zo 5 (j) 0 (ZQ kja) ?_|refine l_ldE 5 (j) 0 (ZQ kja) ?_|refine Zo 5 (j - 1) 0 (ZQ kjb) ?_|refine l_ldE 5 (j - 1) 0 (ZQ kjb) ?_|refine Zu sp (fun _ _=>?_)|rw [wj j hj0 hja]|refine Y0 ?_|(refine ZC (fun hc=>?_) (fun hc=>?_)<;>(try simp at hc)<;>(try omega))|(refine ZL (fun hc=>?_) (fun hc=>?_)<;>(try simp at hc)<;>(try omega))|refine ZD 5 [] [(0,0),(1,0),(2,0),(3,0),(4,0),(5,0),(6,0),(7,0),(8,0),(9,0),(10,0),(11,0),(12,0),(13,0),(14,4),(15,0),(16,0),(17,0)] [] ?_|refine ZD 11 [] [(0,0),(1,0),(2,0),(3,0),(4,0),(5,0),(6,0),(7,0),(8,0),(9,0),(10,0),(11,0),(12,0),(13,0),(14,0),(15,4),(16,0)] [17] ?_|refine ZD 16 [] [(0,0),(1,0),(2,0),(3,0),(4,0),(5,0),(6,0),(7,0),(8,0),(9,0),(10,4),(11,0),(12,0)] [] ?_|refine ZD 17 [Ax _ _ _ _ _] [(0,0),(1,0),(2,0),(3,0),(4,0),(5,0),(6,0),(7,0),(8,0),(10,0),(11,0),(12,0),(9,3),(13,3),(14,0),(15,4),(16,0)] [17] ?_|refine ZD 22 [] [(0,0),(1,0),(2,0),(3,0),(4,0),(5,0),(6,0),(7,0),(8,0),(9,0),(10,4),(11,0),(12,0)] [] ?_|refine ZD 23 [] [(0,0),(1,0),(2,0),(3,0),(4,0),(5,0),(6,0),(7,0),(8,0),(9,0),(10,0),(11,0),(12,0),(13,0),(14,0),(15,4),(16,0)] [17] ?_|(refine ZE (fun hc=>?_) (fun hc=>?_)<;>(try simp at hc)<;>(try omega)))
      exact Zc ⟨(j - 1,sw m3 j (j - 1)),by show a≤j - 1;omega,by show j - 1<i;omega,j3.trans (Win.sw j1 j2 (by omega) (by omega) (by omega)),j4.step W haj j2 (by omega) hc1⟩ (by show j - 1<j;omega) ⟨rfl,rfl,rfl,rfl,rfl,rfl,rfl,trivial⟩
     ·repeat' (first|refine ZH ?_|refine ZG ?_|refine ZK ?_|refine ZI ?_|refine ZP ?_|refine ZJ ?_|refine ZM ?_|refine ZN (fun b=>?_)|refine ZO (fun b=>?_)|refine ZA ?_|refine ZB ?_|refine ZZ ?_|refine ZW ?_|refine Zf ?_|refine Za ?_|refine ZY ?_|refine Ze (fun b=>?_)|refine Zg (fun b=>?_)|refine Zd ?_|refine ZX ?_|refine Zj (m:=n) (j) hja ?_|refine l_ixW (m:=n) (j) hja ?_|refine Zj (m:=n) (j - 1) hjb2 ?_|refine l_ixW (m:=n) (j - 1) hjb2 ?_|refine Zo 5 (j) 0 (ZQ kja) ?_|refine l_ldE 5 (j) 0 (ZQ kja) ?_|refine Zo 5 (j - 1) 0 (ZQ kjb) ?_|refine l_ldE 5 (j - 1) 0 (ZQ kjb) ?_|refine Zu sp (fun _ _=>?_)|(refine ZC (fun hc=>?_) (fun hc=>?_)<;>(try simp at hc)<;>(try omega))|(refine ZL (fun hc=>?_) (fun hc=>?_)<;>(try simp at hc)<;>(try omega))|refine ZD 5 [] [(0,0),(1,0),(2,0),(3,0),(4,0),(5,0),(6,0),(7,0),(8,0),(9,0),(10,0),(11,0),(12,0),(13,0),(14,4),(15,0),(16,0),(17,0)] [] ?_|refine ZD 11 [] [(0,0),(1,0),(2,0),(3,0),(4,0),(5,0),(6,0),(7,0),(8,0),(9,0),(10,0),(11,0),(12,0),(13,0),(14,0),(15,4),(16,0)] [17] ?_|refine ZD 16 [] [(0,0),(1,0),(2,0),(3,0),(4,0),(5,0),(6,0),(7,0),(8,0),(9,0),(10,4),(11,0),(12,0)] [] ?_|refine ZD 17 [] [(0,0),(1,0),(2,0),(3,0),(4,0),(5,0),(6,0),(7,0),(8,0),(9,0),(10,0),(11,0),(12,0),(13,0),(14,0),(15,4),(16,0)] [17] ?_|refine ZD 22 [] [(0,0),(1,0),(2,0),(3,0),(4,0),(5,0),(6,0),(7,0),(8,0),(9,0),(10,4),(11,0),(12,0)] [] ?_|refine ZD 23 [] [(0,0),(1,0),(2,0),(3,0),(4,0),(5,0),(6,0),(7,0),(8,0),(9,0),(10,0),(11,0),(12,0),(13,0),(14,0),(15,4),(16,0)] [17] ?_|(refine ZE (fun hc=>?_) (fun hc=>?_)<;>(try simp at hc)<;>(try omega)))
      exact YD hx ⟨m3,j3,j4.stop W fun _=>hc1⟩ ⟨rfl,rfl,rfl,rfl,rfl,rfl,trivial⟩
    ·repeat' (first|refine ZH ?_|refine ZG ?_|refine ZK ?_|refine ZI ?_|refine ZP ?_|refine ZJ ?_|refine ZM ?_|refine ZN (fun b=>?_)|refine ZO (fun b=>?_)|refine ZA ?_|refine ZB ?_|(refine ZC (fun hc=>?_) (fun hc=>?_)<;>(try simp at hc)<;>(try omega))|(refine ZE (fun hc=>?_) (fun hc=>?_)<;>(try simp at hc)<;>(try omega)))
     exact YD hx ⟨m3,j3,j4.stop W fun h=>by omega⟩ ⟨rfl,rfl,rfl,rfl,rfl,rfl,trivial⟩
   rintro ⟨m3,j3,j4⟩
   dsimp only at j3 j4 ⊢
   exact k_to hcut ⟨m3,hw1.trans (j3.mono (Nat.le_refl _) g2),j4⟩ ⟨rfl,rfl,rfl,rfl,rfl,rfl,trivial⟩
end
section
variable (bk cap:Nat) (q:List Value×(Nat×Nat)) (fv:FuncId) (Fc:Pf) (c:Nm→Nm→Int) (W:Wk0 c) (U:Nm→Prop) (hcmp:∀x y,U x→U y→Enters fv∧Spec prog fv #[x.v,y.v] [Fc] [] (RetV (.int .i64 (c x y))))
include hcmp W in
theorem insSN_ok (l:List Nm) (n:Nat) (hn:n=l.length) (hn2:n≤1000000) (hq:AxOK (n * 5) q) (hU:∀x ∈ l,U x) (a bb:Nat) (hab:a≤bb) (hb:bb≤n) :
  Enters 186∧Spec prog 186 #[.slice (some ⟨bk,0,none⟩) n cap,.int .i64 (a:Int),.int .i64 (bb:Int),.func (.func fv) #[] #[]] [Fc] [Ax 46 nmf bk l q]
   ⟨{l':List Nm // Win a bb l l'∧Sw c a bb l'},fun _=>.tuple #[],fun _=>True,fun _=>[],fun l'=>[Ax 46 nmf bk l'.1 q]⟩:=by
 obtain ⟨A,M,B,hl,hA,hM⟩:∃A M B,l=A++(M++B)∧A.length=a∧M.length=bb - a:=⟨l.take a,(l.drop a).take (bb - a),(l.drop a).drop (bb - a),by rw [List.take_append_drop,List.take_append_drop],by rw [List.length_take];omega,by rw [List.length_take,List.length_drop];omega⟩
 subst hl hA
 have e:bb=A.length+M.length:=by omega
 subst e
 have s:=insWN_ok bk cap q fv Fc c U hcmp A M B n (by rw [hn];simp) hn2 hq hU
 have h:=sw_of (A:=A) (B:=B) (isR_srd W M)
 rw [isR_len] at h
 exact ⟨s.1,s.2.imp fun G w hp x w' hx hs=>⟨⟨A++(isR c M++B),win_of (isR_perm M),h⟩,rfl,trivial,hs⟩⟩
include hcmp W in
set_option maxHeartbeats 8000000 in
theorem pdqWN_ok:∀(N:Nat) (l:List Nm) (n:Nat) (_:n=l.length) (_:n<256) (_:AxOK (n * 5) q) (_:∀x ∈ l,U x) (a bb:Nat) (_:a≤bb) (_:bb≤n) (_:bb - a≤N) (_:Lw c a bb l) (lim:Int),
  Enters 136∧Spec prog 136 #[.slice (some ⟨bk,0,none⟩) n cap,.int .i64 (a:Int),.int .i64 (bb:Int),.int .i64 lim,.func (.func fv) #[] #[]] [Fc] [Ax 46 nmf bk l q]
   ⟨{l':List Nm // Win a bb l l'∧Sw c a bb l'},fun _=>.tuple #[],fun _=>True,fun _=>[],fun l'=>[Ax 46 nmf bk l'.1 q]⟩:=by
 intro N
 induction N using Nat.strongRecOn with
 | ind N ih=>
 intro l n hn hn2 hq hU a bb hab hb hN hlw lim
 have ih2:=fun (m:List Nm) (hm:n=m.length) (hUm:∀x ∈ m,U x) (a' b':Nat) (h1:a'≤b') (h2:b'≤n) (h3:b' - a'<bb - a) (h4:Lw c a' b' m) lim=>ih (b' - a') (by omega) m n hm hn2 hq hUm a' b' h1 h2 (Nat.le_refl _) h4 lim
 clear ih
 refine Zb [_,_,_,_,_] func136 ntmps136 fun G w hp=>?_
 repeat' (first|refine ZH ?_|refine ZG ?_|refine ZK ?_|refine ZI ?_|refine ZP ?_|refine ZJ ?_|refine ZM ?_|refine ZN (fun b=>?_)|refine ZO (fun b=>?_)|refine ZA ?_|refine ZB ?_|(refine ZC (fun hc=>?_) (fun hc=>?_)<;>(try simp at hc))|(refine ZE (fun hc=>?_) (fun hc=>?_)<;>(try simp at hc)))
 refine Z6 (X:={t:Nat×Nat×Int×Bool×Bool×List Nm // t.1≤t.2.1∧Jw c a bb t.1 t.2.1 l t.2.2.2.2.2}) (fun t=>[(0,.slice (some ⟨bk,0,none⟩) n cap),(1,.int .i64 (t.1.1:Int)),(2,.int .i64 (t.1.2.1:Int)),(3,.int .i64 t.1.2.2.1),(4,.func (.func fv) #[] #[]),(10,.bool t.1.2.2.2.1),(11,.bool t.1.2.2.2.2.1)]) (fun _=>[Fc]) (fun t=>[Ax 46 nmf bk t.1.2.2.2.2.2 q]) (fun t=>t.1.2.1 - t.1.1)
  ⟨(a,bb,lim,true,true,l),hab,Jw.init⟩ ⟨rfl,rfl,rfl,rfl,rfl,rfl,rfl,trivial⟩ ?_
 rintro ⟨⟨a1,b1,li,wb,wp,m⟩,h1,hJ⟩
 dsimp only at h1 hJ ⊢
 have hm:=hJ.w.len
 have ha1:=hJ.h1
 have hb1:=hJ.h2
 have hUm:=hJ.w.sub hU
 have hbl:bb≤l.length:=by omega
 obtain ⟨L,hL⟩:∃L,L=b1 - a1:=⟨_,rfl⟩
 have w0:IntKind.i64.wrap ((b1:Int) - (a1:Int))=(L:Int):=by simp (disch:=omega) only [wrapi];omega
 by_cases h12:L≤12
 ·have s1:=insSN_ok bk cap q fv Fc c W U hcmp m n (by omega) (by omega) hq hUm a1 b1 h1 (by omega)
  repeat' (first|refine ZH ?_|refine ZG ?_|refine ZK ?_|refine ZI ?_|refine ZP ?_|refine ZJ ?_|refine ZM ?_|refine ZN (fun b=>?_)|refine ZO (fun b=>?_)|refine ZA ?_|refine ZB ?_|refine ZF (s1) (fun _ _=>?_)|refine l_call0 (s1) (fun _ _=>?_)|rw [w0]|(refine ZC (fun hc=>?_) (fun hc=>?_)<;>(try simp at hc)<;>(try omega))|(refine ZE (fun hc=>?_) (fun hc=>?_)<;>(try simp at hc)<;>(try omega)))
  rename_i l' _
  obtain ⟨l',g1,g2⟩:=l'
  exact YR (YX (Z4 ⟨l',(hJ.win hbl g1).done g2⟩ rfl trivial))
 by_cases hli:li=0
 ·have s1:=heapN_ok bk cap q fv Fc c W U hcmp m n (by omega) (by omega) hq hUm a1 b1 (by omega) (by omega)
  repeat' (first|refine ZH ?_|refine ZG ?_|refine ZK ?_|refine ZI ?_|refine ZP ?_|refine ZJ ?_|refine ZM ?_|refine ZN (fun b=>?_)|refine ZO (fun b=>?_)|refine ZA ?_|refine ZB ?_|refine ZF (s1) (fun _ _=>?_)|refine l_call0 (s1) (fun _ _=>?_)|rw [w0]|(refine ZC (fun hc=>?_) (fun hc=>?_)<;>(try simp at hc)<;>(try omega))|(refine ZE (fun hc=>?_) (fun hc=>?_)<;>(try simp at hc)<;>(try omega)))
  rename_i l' _
  obtain ⟨l',g1,g2⟩:=l'
  exact YR (YX (Z4 ⟨l',(hJ.win hbl g1).done g2⟩ rfl trivial))
 have e12:decide ((L:Int)≤12)=false:=decide_eq_false (by omega)
 have eli:(li == 0)=false:=by rw [beq_eq_false_iff_ne];exact hli
 repeat' (first|refine ZH ?_|refine ZG ?_|refine ZK ?_|refine ZI ?_|refine ZP ?_|refine ZJ ?_|refine ZM ?_|refine ZN (fun b=>?_)|refine ZO (fun b=>?_)|refine ZA ?_|refine ZB ?_|rw [w0]|rw [e12]|rw [eli]|(refine ZC (fun hc=>?_) (fun hc=>?_)<;>(try simp at hc)))
 refine k_cut (Y:={t:Int×List Nm // Win a1 b1 m t.2}) (fun t=>[(0,.slice (some ⟨bk,0,none⟩) n cap),(1,.int .i64 (a1:Int)),(2,.int .i64 (b1:Int)),(3,.int .i64 t.1.1),(4,.func (.func fv) #[] #[]),(10,.bool wb),(11,.bool wp),(12,.int .i64 (L:Int))]) (fun _=>[Fc]) (fun t=>[Ax 46 nmf bk t.1.2 q]) ?_ ?_
 rotate_left
 ·intro hcut
  cases wb with
  | true=>
   repeat' (first|refine Xh ?_|refine k_to hcut ⟨(li,m),Win.refl⟩ ⟨rfl,rfl,rfl,rfl,rfl,rfl,rfl,rfl,trivial⟩|refine ZH ?_|refine ZG ?_|refine ZK ?_|refine ZI ?_|refine ZP ?_|refine ZJ ?_|refine ZM ?_|refine ZN (fun b=>?_)|refine ZO (fun b=>?_)|refine ZA ?_|refine ZB ?_|(refine ZC (fun hc=>?_) (fun hc=>?_)<;>(try simp at hc))|(refine ZE (fun hc=>?_) (fun hc=>?_)<;>(try simp at hc)))
  | false=>
   have s1:=brkN_ok bk cap q fv Fc m n (by omega) hn2 hq a1 b1 (by omega) (by omega)
   repeat' (first|refine Xh ?_|refine k_to hcut ⟨(_,_),?_⟩ ⟨rfl,rfl,rfl,rfl,rfl,rfl,rfl,rfl,trivial⟩|refine ZH ?_|refine ZG ?_|refine ZK ?_|refine ZI ?_|refine ZP ?_|refine ZJ ?_|refine ZM ?_|refine ZN (fun b=>?_)|refine ZO (fun b=>?_)|refine ZA ?_|refine ZB ?_|refine ZF (s1) (fun _ _=>?_)|refine l_call0 (s1) (fun _ _=>?_)|(refine ZC (fun hc=>?_) (fun hc=>?_)<;>(try simp at hc))|(refine ZE (fun hc=>?_) (fun hc=>?_)<;>(try simp at hc)))
   rename_i l' _
   exact l'.2
 rintro ⟨⟨li1,m1⟩,hw1⟩
 dsimp only at hw1 ⊢
 have hm1:=hw1.len
 have hJ1:=hJ.win hbl hw1
 have sp:=chpN_ok bk cap q fv Fc c U hcmp m1 n (by omega) (by omega) (hJ1.w.sub hU) a1 b1 (by omega) (by omega)
 repeat' (first|refine ZH ?_|refine ZG ?_|refine ZK ?_|refine ZI ?_|refine ZP ?_|refine ZJ ?_|refine ZM ?_|refine ZN (fun b=>?_)|refine ZO (fun b=>?_)|refine ZA ?_|refine ZB ?_|refine ZF (sp) (fun _ _=>?_)|refine l_call0 (sp) (fun _ _=>?_)|(refine ZC (fun hc=>?_) (fun hc=>?_)<;>(try simp at hc)))
 rename_i p _
 obtain ⟨⟨p,z⟩,hp1,hp2,hz⟩:=p
 dsimp only at hp1 hp2 hz ⊢
 refine k_cut (Y:={t:Nat×Int×List Nm // a1≤t.1∧t.1<b1∧Win a1 b1 m1 t.2.2}) (fun t=>[(0,.slice (some ⟨bk,0,none⟩) n cap),(1,.int .i64 (a1:Int)),(2,.int .i64 (b1:Int)),(3,.int .i64 li1),(4,.func (.func fv) #[] #[]),(10,.bool wb),(11,.bool wp),(12,.int .i64 (L:Int)),(13,.int .i64 (t.1.1:Int)),(14,.int .i64 t.1.2.1)]) (fun _=>[Fc]) (fun t=>[Ax 46 nmf bk t.1.2.2 q]) ?_ ?_
 rotate_left
 ·intro hcut
  by_cases hz2:z=2
  ·subst hz2
   have s1:=revN_ok bk cap q fv Fc m1 n (by omega) (by omega) hq a1 b1 (by omega) (by omega)
   have w1:IntKind.i64.wrap (IntKind.i64.wrap ((b1:Int) - 1) - IntKind.i64.wrap ((p:Int) - (a1:Int)))=((b1 - 1 - (p - a1):Nat):Int):=by simp (disch:=omega) only [wrapi];omega
   refine ZA ?_
   refine ZI ?_
   repeat' (first|refine ZH ?_|refine l_call0 s1 (fun _ _=>?_)|refine ZF s1 (fun _ _=>?_))
   refine ZG ?_
   refine ZI ?_
   repeat' (first|refine ZH ?_)
   rw [w1]
   refine ZG ?_
   refine ZI ?_
   repeat' (first|refine ZH ?_)
   refine ZG ?_
   rename_i l' _
   refine k_to hcut ⟨(b1 - 1 - (p - a1),_,_),?_⟩ ⟨rfl,rfl,rfl,rfl,rfl,rfl,rfl,rfl,rfl,rfl,trivial⟩
   exact ⟨by show a1≤b1 - 1 - (p - a1);omega,by show b1 - 1 - (p - a1)<b1;omega,l'.2⟩
  ·have ez:(z == 2)=false:=by rw [beq_eq_false_iff_ne];exact hz2
   rw [ez]
   repeat' (first|refine Xh ?_|refine k_to hcut ⟨(p,z,m1),hp1,hp2,Win.refl⟩ ⟨rfl,rfl,rfl,rfl,rfl,rfl,rfl,rfl,rfl,rfl,trivial⟩|refine ZH ?_|refine ZG ?_|refine ZK ?_|refine ZI ?_|refine ZP ?_|refine ZJ ?_|refine ZM ?_|refine ZN (fun b=>?_)|refine ZO (fun b=>?_)|refine ZA ?_|refine ZB ?_|(refine ZC (fun hc=>?_) (fun hc=>?_)<;>(try simp at hc))|(refine ZE (fun hc=>?_) (fun hc=>?_)<;>(try simp at hc)))
 rintro ⟨⟨p,z,m2⟩,hp1,hp2,hw2⟩
 dsimp only at hp1 hp2 hw2 ⊢
 have hm2:=hw2.len
 have hJ2:=hJ1.win hbl hw2
 have hlw2:=hJ2.low hbl hlw
 have sp:=pinsN_ok bk cap q fv Fc c W U hcmp m2 n (by omega) (by omega) hq (hJ2.w.sub hU) a1 b1 (by omega) (by omega) hlw2
 refine k_cutd (Y:={m3:List Nm // Win a1 b1 m2 m3}) 1 (fun _=>[(0,.slice (some ⟨bk,0,none⟩) n cap),(1,.int .i64 (a1:Int)),(2,.int .i64 (b1:Int)),(3,.int .i64 li1),(4,.func (.func fv) #[] #[]),(10,.bool wb),(11,.bool wp),(12,.int .i64 (L:Int)),(13,.int .i64 (p:Int))]) (fun _=>[Fc]) (fun m3=>[Ax 46 nmf bk m3.1 q]) ?_ ?_
 rotate_left
 ·intro hcut
  repeat' (first|refine Xh ?_|refine k_to hcut ⟨_,?_⟩ ⟨rfl,rfl,rfl,rfl,rfl,rfl,rfl,rfl,rfl,trivial⟩|refine ZH ?_|refine ZG ?_|refine ZK ?_|refine ZI ?_|refine ZP ?_|refine ZJ ?_|refine ZM ?_|refine ZN (fun b=>?_)|refine ZO (fun b=>?_)|refine ZA ?_|refine ZB ?_|refine ZF (sp) (fun _ _=>?_)|refine l_call0 (sp) (fun _ _=>?_)|(refine ZC (fun hc=>?_) (fun hc=>?_)<;>(try simp at hc))|(refine ZE (fun hc=>?_) (fun hc=>?_)<;>(try simp at hc)))
  ·rename_i x _
   obtain ⟨⟨f,m3⟩,g1,g2⟩:=x
   obtain rfl:f=true:=hc
   exact YR (YX (Z4 ⟨m3,(hJ2.win hbl g1).done (g2 rfl)⟩ rfl trivial))
  ·rename_i x _
   exact x.2.1
  all_goals exact Win.refl
 rintro ⟨m3,hw3⟩
 dsimp only at hw3 ⊢
 have hm3:=hw3.len
 have hJ3:=hJ2.win hbl hw3
 have hlw3:=hJ3.low hbl hlw
 have hU3:=hJ3.w.sub hU
 have hn3:n=m3.length:=by omega
 have hp:p<n:=by omega
 have kp:p<m3.length:=by omega
 have ga:=fun (h:0<a1)=>ZQ (l:=m3) (i:=a1 - 1) (by omega)
 have wa1:0<a1→IntKind.i64.wrap ((a1:Int) - 1)=((a1 - 1:Nat):Int):=fun h=>by simp (disch:=omega) only [wrapi];omega
 by_cases h0:0<a1∧¬c (gt m3 (a1 - 1)) (gt m3 p)<0
 ·have g1:=ga h0.1
  have hh1:a1 - 1<n:=by omega
  have sp2:=hcmp (gt m3 (a1 - 1)) (gt m3 p) (hU3 _ (Z3 (by omega))) (hU3 _ (Z3 kp))
  have s1:=parEN_ok bk cap q fv Fc c W U hcmp m3 n hn3 (by omega) hq hU3 a1 b1 p (by omega) (by omega) hp1 hp2
  have h01:=h0.1
  have h02:=h0.2
  repeat' (first|refine ZH ?_|refine ZG ?_|refine ZK ?_|refine ZI ?_|refine ZP ?_|refine ZJ ?_|refine ZM ?_|refine ZN (fun b=>?_)|refine ZO (fun b=>?_)|refine ZA ?_|refine ZB ?_|refine ZZ ?_|refine ZW ?_|refine Zf ?_|refine Za ?_|refine ZY ?_|refine Ze (fun b=>?_)|refine Zg (fun b=>?_)|refine Zd ?_|refine ZX ?_|refine ZF (s1) (fun _ _=>?_)|refine l_call0 (s1) (fun _ _=>?_)|refine ZT (s1) (fun _ _=>?_)|rw [wa1 h01]|refine Zj (m:=n) (a1 - 1) hh1 ?_|refine Zj (m:=n) p hp ?_|refine Zo 5 (a1 - 1) 0 g1 ?_|refine Zo 5 p 0 (ZQ kp) ?_|refine Zu sp2 (fun _ _=>?_)|(refine ZC (fun hc=>?_) (fun hc=>?_)<;>(try simp at hc)<;>(try omega))|(refine ZL (fun hc=>?_) (fun hc=>?_)<;>(try simp at hc)<;>(try omega))|refine ZD 17 [] [(0,0),(1,0),(2,0),(3,0),(4,0),(5,0),(6,0),(7,0),(8,0),(9,0),(10,0),(11,0),(12,0),(13,4),(14,0),(15,0),(16,0)] [] ?_|(refine ZE (fun hc=>?_) (fun hc=>?_)<;>(try simp at hc)<;>(try omega)))
  rename_i x _
  obtain ⟨⟨mid,m4⟩,f1,f2,f3,f4,f5⟩:=x
  dsimp only at f1 f2 f3 f4 f5 ⊢
  have hlow:∀k,a1≤k→k<b1→¬c (gt m4 k) (gt m4 a1)<0:=fun k k1 k2=>by
   rw [f4]
   exact f1.all (by omega) (P:=fun x=>¬c x (gt m3 p)<0) (fun k k1 k2=>W.t _ _ _ h02 (hlw3 h01 k k1 k2)) k k1 k2
  exact Zc ⟨(mid,b1,li1,wb,wp,m4),f3,(hJ3.win hbl f1).shrink (by omega) (Nat.le_refl _) (eq_shrink W hlow f5)⟩ (by show b1 - mid<b1 - a1;omega) ⟨rfl,rfl,rfl,rfl,rfl,rfl,rfl,trivial⟩
 ·have s1:=partN_ok bk cap q fv Fc c U hcmp m3 n hn3 (by omega) hq hU3 a1 b1 p (by omega) (by omega) hp1 hp2
  have w8:IntKind.i64.wrap ((L:Int).tdiv 8)=((L / 8:Nat):Int):=by
   have:(L:Int).tdiv 8=((L / 8:Nat):Int):=(Int.ofNat_tdiv _ _).symm
   rw [this,wrapi (by omega) (by omega)]
  have key:∀(mid:Nat) (ap:Bool) (m4:List Nm),Win a1 b1 m3 m4→Pt0 c a1 b1 mid m4→True:=fun _ _ _ _ _=>trivial
  clear key
  refine k_cutd (Y:={t:Nat×Bool×List Nm // Win a1 b1 m3 t.2.2∧Pt0 c a1 b1 t.1 t.2.2}) 2 (fun t=>[(0,.slice (some ⟨bk,0,none⟩) n cap),(1,.int .i64 (a1:Int)),(2,.int .i64 (b1:Int)),(3,.int .i64 li1),(4,.func (.func fv) #[] #[]),(12,.int .i64 (L:Int)),(16,.int .i64 (t.1.1:Int)),(17,.bool t.1.2.1)]) (fun _=>[Fc]) (fun t=>[Ax 46 nmf bk t.1.2.2 q]) ?_ ?_
  rotate_left
  ·intro hcut
   by_cases h01:0<a1
   ·have g1:=ga h01
    have hh1:a1 - 1<n:=by omega
    have sp2:=hcmp (gt m3 (a1 - 1)) (gt m3 p) (hU3 _ (Z3 (by omega))) (hU3 _ (Z3 kp))
    have h02:c (gt m3 (a1 - 1)) (gt m3 p)<0:=Classical.byContradiction fun h=>h0 ⟨h01,h⟩
    repeat' (first|refine Xh ?_|refine k_to hcut ⟨(_,_,_),?_⟩ ⟨rfl,rfl,rfl,rfl,rfl,rfl,rfl,rfl,trivial⟩|refine ZH ?_|refine ZG ?_|refine ZK ?_|refine ZI ?_|refine ZP ?_|refine ZJ ?_|refine ZM ?_|refine ZN (fun b=>?_)|refine ZO (fun b=>?_)|refine ZA ?_|refine ZB ?_|refine ZZ ?_|refine ZW ?_|refine Zf ?_|refine Za ?_|refine ZY ?_|refine Ze (fun b=>?_)|refine Zg (fun b=>?_)|refine Zd ?_|refine ZX ?_|refine ZF (s1) (fun _ _=>?_)|refine l_call0 (s1) (fun _ _=>?_)|refine ZT (s1) (fun _ _=>?_)|rw [wa1 h01]|refine Zj (m:=n) (a1 - 1) hh1 ?_|refine Zj (m:=n) p hp ?_|refine Zo 5 (a1 - 1) 0 g1 ?_|refine Zo 5 p 0 (ZQ kp) ?_|refine Zu sp2 (fun _ _=>?_)|(refine ZC (fun hc=>?_) (fun hc=>?_)<;>(try simp at hc)<;>(try omega))|(refine ZL (fun hc=>?_) (fun hc=>?_)<;>(try simp at hc)<;>(try omega))|refine ZD 17 [] [(0,0),(1,0),(2,0),(3,0),(4,0),(5,0),(6,0),(7,0),(8,0),(9,0),(10,0),(11,0),(12,0),(13,4),(14,0),(15,0),(16,0)] [] ?_|(refine ZE (fun hc=>?_) (fun hc=>?_)<;>(try simp at hc)<;>(try omega)))
   ·repeat' (first|refine Xh ?_|refine k_to hcut ⟨(_,_,_),?_⟩ ⟨rfl,rfl,rfl,rfl,rfl,rfl,rfl,rfl,trivial⟩|refine ZH ?_|refine ZG ?_|refine ZK ?_|refine ZI ?_|refine ZP ?_|refine ZJ ?_|refine ZM ?_|refine ZN (fun b=>?_)|refine ZO (fun b=>?_)|refine ZA ?_|refine ZB ?_|refine ZZ ?_|refine ZW ?_|refine Zf ?_|refine Za ?_|refine ZY ?_|refine Ze (fun b=>?_)|refine Zg (fun b=>?_)|refine Zd ?_|refine ZX ?_|refine ZF (s1) (fun _ _=>?_)|refine l_call0 (s1) (fun _ _=>?_)|refine ZT (s1) (fun _ _=>?_)|(refine ZC (fun hc=>?_) (fun hc=>?_)<;>(try simp at hc)<;>(try omega))|(refine ZL (fun hc=>?_) (fun hc=>?_)<;>(try simp at hc)<;>(try omega))|refine ZD 17 [] [(0,0),(1,0),(2,0),(3,0),(4,0),(5,0),(6,0),(7,0),(8,0),(9,0),(10,0),(11,0),(12,0),(13,4),(14,0),(15,0),(16,0)] [] ?_|(refine ZE (fun hc=>?_) (fun hc=>?_)<;>(try simp at hc)<;>(try omega)))
  clear s1
  rintro ⟨⟨mid,ap,m4⟩,f1,f2⟩
  dsimp only at f1 f2 ⊢
  have f3:=f2.h1
  have f4:=f2.h2
  have hJ4:=hJ3.win hbl f1
  have hlw4:=hJ4.low hbl hlw
  have hm4:=f1.len
  have hU4:=hJ4.w.sub hU
  have w1:IntKind.i64.wrap ((mid:Int) - (a1:Int))=((mid - a1:Nat):Int):=by simp (disch:=omega) only [wrapi];omega
  have w2:IntKind.i64.wrap ((b1:Int) - (mid:Int))=((b1 - mid:Nat):Int):=by simp (disch:=omega) only [wrapi];omega
  have w3:IntKind.i64.wrap ((mid:Int)+1)=((mid+1:Nat):Int):=by simp (disch:=omega) only [wrapi];omega
  by_cases hlr:mid - a1<b1 - mid
  ·have s1:=ih2 m4 (by omega) hU4 a1 mid f3 (by omega) (by omega) (hlw4.sub (by omega)) li1
   repeat' (first|refine ZH ?_|refine ZG ?_|refine ZK ?_|refine ZI ?_|refine ZP ?_|refine ZJ ?_|refine ZM ?_|refine ZN (fun b=>?_)|refine ZO (fun b=>?_)|refine ZA ?_|refine ZB ?_|refine ZF (s1) (fun _ _=>?_)|refine l_call0 (s1) (fun _ _=>?_)|rw [w1]|rw [w2]|rw [w3]|rw [w8]|(refine ZC (fun hc=>?_) (fun hc=>?_)<;>(try simp at hc)<;>(try omega))|(refine ZE (fun hc=>?_) (fun hc=>?_)<;>(try simp at hc)<;>(try omega)))
   rename_i x _
   obtain ⟨m5,k1,k2⟩:=x
   exact Zc ⟨(mid+1,b1,li1,_,ap,m5),by show mid+1≤b1;omega,(hJ4.win hbl (k1.mono (Nat.le_refl _) (by omega))).shrink (by omega) (Nat.le_refl _) (f2.left W (by omega) k1 k2)⟩ (by show b1 - (mid+1)<b1 - a1;omega) ⟨rfl,rfl,rfl,rfl,rfl,rfl,rfl,trivial⟩
  ·have s1:=ih2 m4 (by omega) hU4 (mid+1) b1 (by omega) (by omega) (by omega) f2.lw li1
   repeat' (first|refine ZH ?_|refine ZG ?_|refine ZK ?_|refine ZI ?_|refine ZP ?_|refine ZJ ?_|refine ZM ?_|refine ZN (fun b=>?_)|refine ZO (fun b=>?_)|refine ZA ?_|refine ZB ?_|refine ZF (s1) (fun _ _=>?_)|refine l_call0 (s1) (fun _ _=>?_)|rw [w1]|rw [w2]|rw [w3]|rw [w8]|(refine ZC (fun hc=>?_) (fun hc=>?_)<;>(try simp at hc)<;>(try omega))|(refine ZE (fun hc=>?_) (fun hc=>?_)<;>(try simp at hc)<;>(try omega)))
   rename_i x _
   obtain ⟨m5,k1,k2⟩:=x
   exact Zc ⟨(a1,mid,li1,_,ap,m5),f3,(hJ4.win hbl (k1.mono (by omega) (Nat.le_refl _))).shrink (Nat.le_refl _) (by show mid≤b1;omega) (f2.right W (by omega) k1 k2)⟩ (by show mid - a1<b1 - a1;omega) ⟨rfl,rfl,rfl,rfl,rfl,rfl,rfl,trivial⟩
end
theorem insN0_ok (o:Option Addr) (cap:Nat) (fv:FuncId) :
  Enters 186∧Spec prog 186 #[.slice o 0 cap,.int .i64 0,.int .i64 0,.func (.func fv) #[] #[]] [] [] ⟨Unit,fun _=>.tuple #[],fun _=>True,fun _=>[],fun _=>[]⟩:=by
 refine Zb [_,_,_,_] func186 ntmps186 fun G w hp=>?_
 repeat' (first|refine ZH ?_|refine ZG ?_|refine ZK ?_|refine ZI ?_|refine ZP ?_|refine ZJ ?_|refine ZM ?_|refine ZN (fun b=>?_)|refine ZO (fun b=>?_)|refine ZA ?_|refine ZB ?_|refine ZR ?_|refine ZZ ?_|refine ZW ?_|refine Zf ?_|refine Za ?_|refine ZY ?_|refine Ze (fun b=>?_)|refine Zg (fun b=>?_)|refine Zd ?_|refine ZX ?_|refine ZC (fun hc=>?_) (fun hc=>?_)|refine ZL (fun hc=>?_) (fun hc=>?_)|refine ZD 4 [] [(0,0),(1,0),(2,0),(3,0),(4,0),(5,0),(6,0),(7,0),(8,0),(9,0),(10,0),(11,0),(12,0),(13,0),(14,4),(15,0),(16,0)] [] ?_|refine ZD 6 [] [(0,0),(1,0),(2,0),(3,0),(4,0),(5,0),(6,0),(7,0),(8,0),(9,0),(10,0),(11,0),(12,0),(13,0),(14,0),(15,4),(16,0)] [17] ?_|refine ZE (fun hc=>?_) (fun hc=>?_))
 refine Z6 (X:=Unit) (fun _=>[(2,.int .i64 0),(8,.int .i64 1)]) (fun _=>[]) (fun _=>[]) (fun _=>0) () ⟨rfl,rfl,trivial⟩ ?_
 rintro ⟨⟩
 repeat' (first|refine ZH ?_|refine ZG ?_|refine ZK ?_|refine ZI ?_|refine ZP ?_|refine ZJ ?_|refine ZM ?_|refine ZN (fun b=>?_)|refine ZO (fun b=>?_)|refine ZA ?_|refine ZB ?_|refine ZR ?_|(refine ZC (fun hc=>?_) (fun hc=>?_)<;>(try simp at hc)<;>(try omega))|(refine ZE (fun hc=>?_) (fun hc=>?_)<;>(try simp at hc)<;>(try omega)))
 exact XB () rfl trivial
theorem pdqN0_ok (o:Option Addr) (cap:Nat) (lim:Int) (fv:FuncId) :
  Enters 136∧Spec prog 136 #[.slice o 0 cap,.int .i64 0,.int .i64 0,.int .i64 lim,.func (.func fv) #[] #[]] [] [] ⟨Unit,fun _=>.tuple #[],fun _=>True,fun _=>[],fun _=>[]⟩:=by
 have s1:=insN0_ok o cap fv
 refine Zb [_,_,_,_,_] func136 ntmps136 fun G w hp=>?_
 repeat' (first|refine ZH ?_|refine ZG ?_|refine ZK ?_|refine ZI ?_|refine ZP ?_|refine ZJ ?_|refine ZM ?_|refine ZN (fun b=>?_)|refine ZO (fun b=>?_)|refine ZA ?_|refine ZB ?_|refine ZR ?_|refine ZC (fun hc=>?_) (fun hc=>?_)|refine ZE (fun hc=>?_) (fun hc=>?_))
 refine Z6 (X:=Unit) (fun _=>[(0,.slice o 0 cap),(1,.int .i64 0),(2,.int .i64 0),(3,.int .i64 lim),(4,.func (.func fv) #[] #[])]) (fun _=>[]) (fun _=>[]) (fun _=>0) () ⟨rfl,rfl,rfl,rfl,rfl,trivial⟩ ?_
 rintro ⟨⟩
 repeat' (first|refine ZH ?_|refine ZG ?_|refine ZK ?_|refine ZI ?_|refine ZP ?_|refine ZJ ?_|refine ZM ?_|refine ZN (fun b=>?_)|refine ZO (fun b=>?_)|refine ZA ?_|refine ZB ?_|refine ZR ?_|refine ZF (s1) (fun _ _=>?_)|refine l_call0 (s1) (fun _ _=>?_)|(refine ZC (fun hc=>?_) (fun hc=>?_)<;>(try simp at hc)<;>(try omega))|(refine ZE (fun hc=>?_) (fun hc=>?_)<;>(try simp at hc)<;>(try omega)))
 exact YR (YX (Z4 () rfl trivial))
theorem sortN_ok (o:Option Addr) (cap:Nat) (es:List Nm) (fv:FuncId) (Fc:Pf) (c:Nm→Nm→Int) (hn:es.length≤200)
  (ha:∀a b,c a b<0→¬c b a<0) (ht:∀a b d,¬c b a<0→¬c d b<0→¬c d a<0) (hcmp:∀x y,x ∈ es→y ∈ es→Enters fv∧Spec prog fv #[x.v,y.v] [Fc] [] (RetV (.int .i64 (c x y)))) :
  Enters 81∧Spec prog 81 #[.slice o es.length cap,.func (.func fv) #[] #[]] [Fc] [Row 46 5 o es.length cap (es.flatMap nmf)]
   ⟨List Nm,fun _=>.tuple #[],fun l=>l.Perm es∧Srd c l,fun _=>[],fun l=>[Row 46 5 o es.length cap (l.flatMap nmf)]⟩:=by
 have hu:IntKind.u64.wrap ((es.length:Nat):Int)=(es.length:Int):=Xs (by omega)
 have s2:=bitsLen_ok es.length (by omega)
 by_cases h0:es=[]
 ·subst h0
  refine Zb [_,_] func81 ntmps81 fun G w hp=>?_
  have s3:=fun lim=>pdqN0_ok o cap lim fv
  repeat' (first|refine ZH ?_|refine ZG ?_|refine ZK ?_|refine ZI ?_|refine ZP ?_|refine ZJ ?_|refine ZM ?_|refine ZN (fun b=>?_)|refine ZO (fun b=>?_)|refine ZA ?_|refine ZB ?_|refine ZR ?_|refine ZF (s2) (fun _ _=>?_)|refine l_call0 (s2) (fun _ _=>?_)|refine ZF (s3 _) (fun _ _=>?_)|refine l_call0 (s3 _) (fun _ _=>?_)|rw [hu]|(refine ZC (fun hc=>?_) (fun hc=>?_)<;>(try simp at hc))|(refine ZE (fun hc=>?_) (fun hc=>?_)<;>(try simp at hc)))
  exact XB [] rfl ⟨List.Perm.refl _,List.Pairwise.nil⟩
 ·have hlen:0<es.length:=List.length_pos_iff.2 h0
  refine Zb [_,_] func81 ntmps81 fun G w hp=>?_
  refine k_row hlen fun p hp=>?_
  have hq:AxOK (es.length * 5) p.2:=by
   rcases hp.f with h|h
   ·exact .inl h
   ·exact .inr (by rw [List.length_append,hp.l] at h;exact h)
  have ho:=hp.o
  subst ho
  have s4:=fun lim=>pdqWN_ok p.1 cap p.2 fv Fc c ⟨ha,fun x y z=>ht x y z⟩ (fun x=>x ∈ es) (fun x y hx hy=>hcmp x y hx hy) es.length es es.length rfl (by omega) hq (fun x hx=>hx) 0 es.length (Nat.zero_le _) (Nat.le_refl _) (Nat.le_refl _) (fun h=>absurd h (Nat.lt_irrefl _)) lim
  have s3:∀lim,Enters 136∧Spec prog 136 #[.slice (some ⟨p.1,0,none⟩) es.length cap,.int .i64 0,.int .i64 (es.length:Int),.int .i64 lim,.func (.func fv) #[] #[]] [Fc] [Ax 46 nmf p.1 es p.2]
    ⟨List Nm,fun _=>.tuple #[],fun l=>l.Perm es∧Srd c l,fun _=>[],fun l=>[Ax 46 nmf p.1 l p.2]⟩:=fun lim=>⟨(s4 lim).1,(s4 lim).2.imp fun G w hp x w' hx hs=>⟨x.1,rfl,⟨x.2.1.perm,Sw.srdn x.2.1.len x.2.2⟩,hs⟩⟩
  repeat' (first|refine ZH ?_|refine ZG ?_|refine ZK ?_|refine ZI ?_|refine ZP ?_|refine ZJ ?_|refine ZM ?_|refine ZN (fun b=>?_)|refine ZO (fun b=>?_)|refine ZA ?_|refine ZB ?_|refine ZR ?_|refine ZF (s2) (fun _ _=>?_)|refine l_call0 (s2) (fun _ _=>?_)|refine ZF (s3 _) (fun _ _=>?_)|refine l_call0 (s3 _) (fun _ _=>?_)|rw [hu]|(refine ZC (fun hc=>?_) (fun hc=>?_)<;>(try simp at hc))|(refine ZE (fun hc=>?_) (fun hc=>?_)<;>(try simp at hc)))
  rename_i l hl
  have hll:=hl.1.length_eq
  refine Zs (r:=Row 46 5 (some ⟨p.1,0,none⟩) es.length cap (l.flatMap nmf)) (Lx:=[Ax 46 nmf p.1 l p.2]) (fun h hh=>row_shut (q:=p) ⟨rfl,by rw [Zw (f:=nmf) (sz:=5) (fun _=>rfl),hll],by rw [←hp.c,List.length_append,List.length_append,Zw (f:=nmf) (sz:=5) (fun _=>rfl),Zw (f:=nmf) (sz:=5) (fun _=>rfl),hll],hp.m,by rw [List.length_append,Zw (f:=nmf) (sz:=5) (fun _=>rfl),hll];rcases hp.f with h|h;exact .inl h;exact .inr (by rw [List.length_append,hp.l] at h;exact h)⟩ h hh) ?_
  exact XB l rfl hl
section
theorem src_sl {α:Type} {T sz:Nat} {f:α→List Value} {o:Option Addr} {cap:Nat} {es:List α} (hf:∀e,(f e).length=sz) (hs:Sel (Sl T f o cap es) F F0):Src F R sz (.slice o es.length cap) es.length (es.flatMap f):=
 ⟨rfl,fun G w0 hp0 w hsat=>by
  obtain ⟨hp,hr,st⟩:=hsat
  obtain ⟨hc,rfl|⟨b,cs,fz,pre,post,rfl,hb,hcs⟩⟩:=st.f _ hs.mem
  ·cases o with
   | none=>rfl
   | some a=>
    show (loadCells a (0 * sz)).run prog w=_
    rw [Nat.zero_mul]
    unfold loadCells
    rfl
  ·have h:=st.inp _ _ hb
   show (loadCells ⟨b,pre.length,none⟩ (es.length * sz)).run prog w=_
   have hfl:(es.flatMap f).length=es.length * sz:=Zw hf es
   have hsz:cs.size=pre.length+(es.length * sz+post.length):=by
    have:=congrArg List.length hcs
    simp only [Array.length_toList,List.length_append,hfl] at this
    exact this
   unfold loadCells
   rw [run_loadCells h pre.length (es.length * sz) 0 #[] (by omega)]
   have:((cs.toList.drop (pre.length+0)).take (es.length * sz))=es.flatMap f:=by
    rw [hcs,Nat.add_zero,List.drop_append_of_le_length (Nat.le_refl _),List.drop_length,List.nil_append,←hfl,List.take_append_of_le_length (Nat.le_refl _),List.take_length]
   rw [this];simp⟩
theorem flat_one {α:Type} {f:α→List Value} (h:∀e,(f e).all one1=true) (es:List α):(es.flatMap f).all one1=true:=by
 induction es with
 | nil=>rfl
 | cons a l ih=>rw [List.flatMap_cons,List.all_append,h a,ih];rfl
theorem l_appF {α:Type} {T sz bytes:Nat} {f:α→List Value} {o o2:Option Addr} {m cap m2 c:Nat} {xs:List Value} {es:List α} {ts tx:TypeId} {rs tr rx:TRow}
  (nx:∀o' cap',Wl n C ops.toArray k Q l ((d,.slice o' (m+es.length) cap')::E) F (Row T sz o' (m+es.length) cap' (xs++es.flatMap f)::R0))
  (hw:wantL ops E ⟨some d,.call ⟨.builtin .append,#[x,y],#[ts,tx]⟩,ty0,pos,aft,gd⟩=some true:=by rfl) (hn:Nat.blt d n=true:=by rfl) (hx:ev E x=some (.slice o m cap):=by rfl) (hy:ev E y=some (.slice o2 m2 c):=by rfl)
  (hts:lookT tab ts=some rs:=by rfl) (hrs:rs.k = .slice T:=by rfl) (hT:lookT tab T=some tr:=by rfl) (hsz:tr.size=sz:=by rfl) (hby:tr.bytes=bytes:=by rfl) (htx:lookT tab tx=some rx:=by rfl) (hnx:rx.k = .slice T:=by rfl)
  (hs:Sel (Sl T f o2 c es) F F0:=by (repeat (first|exact Sel.here|apply Sel.there));first|done|fail) (hrow:Sel (Row T sz o m cap xs) R R0:=by (repeat (first|exact Sel.here|apply Sel.there));first|done|fail) (hm2:m2=es.length:=by rfl)
  (hf:∀e,(f e).length=sz:=by intro;rfl) (hone:∀e,(f e).all one1=true:=by intro;rfl) (hb0:bytes≠0:=by decide) (hroom:(2 * (m+es.length)+200) * bytes≤281474976710656:=by simp<;>omega):Wl n C ops.toArray k Q (⟨some d,.call ⟨.builtin .append,#[x,y],#[ts,tx]⟩,ty0,pos,aft,gd⟩::l) E F R:=
 Z8 (fun t ht=>by cases ht;exact Nat.le_of_ble_eq_true hn) (fun c hc=>by cases hc) hw fun a w ha hsat=>by
  subst hm2
  exact (Wo ha hx hy hts hrs hT hsz hby htx (.inl hnx) (src_sl (R:=R) hf hs) (Zw hf es) (flat_one hone es) hroom hrow hsat hb0).mono fun v w' ⟨o',cap',hv,hs'⟩ a' ha'=>by
   subst hv;exact nx o' cap' a' w' ha' hs'
end
theorem blkSl {α:Type} {b:Nat} {cs:Array Value} {T U:Nat} {f:α→List Value} {es:List α} {cap:Nat} {h:H} (hb:(Blk b (.cells cs U)).p h) (e:cs.toList=es.flatMap f) (hc:es.length≤cap):(Sl T f (some ⟨b,0,none⟩) cap es).p h:=
 ⟨hc,.inr ⟨b,cs,(U,0,0),[],[],rfl,hb,by rw [e];simp⟩⟩
theorem specF0 {P:Program} {f:FuncId} {args:Array Value} {F:List Pf} {R:List HP} {post:Post} (s:Spec P f args [] R post):Spec P f args F R post:=fun G w hp hs=>s G w hp (hs.facts fun _ _ x hx=>by cases hx)
theorem cloneNm_ok (a:Addr) (cap:Nat) (us:List Nm) (hl:us.length≤1000000):Enters 80∧Spec prog 80 #[.slice (some a) us.length cap] [Sl 46 nmf (some a) cap us] []
  ⟨Option Addr×Nat,fun q=>.slice q.1 us.length q.2,fun _=>True,fun _=>[],fun q=>[Row 46 5 q.1 us.length q.2 (us.flatMap nmf)]⟩:=by
 refine Zb [_] func80 ntmps80 fun G w hp=>?_
 repeat' (first|refine ZH ?_|refine ZG ?_|refine ZK ?_|refine ZI ?_|refine ZP ?_|refine ZJ ?_|refine ZM ?_|refine ZN (fun b=>?_)|refine ZO (fun b=>?_)|refine ZA ?_|refine ZB ?_|refine ZR ?_|refine l_shut (row_zero (sz:=5)) ?_|refine l_appF (es:=us) (fun o' cap'=>?_)|(refine ZC (fun hc=>?_) (fun hc=>?_)<;>(try simp at hc))|(refine ZE (fun hc=>?_) (fun hc=>?_)<;>(try simp at hc)))
 rw [Nat.zero_add]
 exact ZS (o',cap') rfl trivial
theorem eqNm (a b:Nm):eqC eqS 20 46 a.v b.v=some (decide (a=b)):=by
 rw [show eqC eqS 20 46 a.v b.v=some ((a.kind == b.kind) && ((a.owner.toList == b.owner.toList) && ((a.number == b.number) && ((a.index == b.index) && ((a.text.toList == b.text.toList) && true))))) from rfl]
 congr 1
 obtain ⟨a1,a2,a3,a4,a5⟩:=a
 obtain ⟨b1,b2,b3,b4,b5⟩:=b
 have hs:∀x y:ByteArray,(x.toList == y.toList)=decide (x=y):=beqSv
 have hi:∀x y:Int,(x == y)=decide (x=y):=fun x y=>by rw [Bool.eq_iff_iff];simp
 simp only [hs,hi,Nm.mk.injEq]
 rw [Bool.eq_iff_iff];simp
theorem compactN_ok (o:Option Addr) (cap:Nat) (x y:Nm) (hne:x≠y):Enters 83∧Spec prog 83 #[.slice o 2 cap] [Sl 46 nmf o cap [x,y]] [] (RetV (.slice o 2 cap)):=by
 have hx:[x,y][0]? = some x:=rfl
 have hy:[x,y][1]? = some y:=rfl
 refine Zb [_] func83 ntmps83 fun G w hp=>?_
 repeat' (first|refine ZH ?_|refine ZG ?_|refine ZK ?_|refine ZI ?_|refine ZP ?_|refine ZJ ?_|refine ZM ?_|refine ZN (fun b=>?_)|refine ZO (fun b=>?_)|refine ZA ?_|refine ZB ?_|refine ZZ ?_|refine ZW ?_|refine Zf ?_|refine Za ?_|refine ZY ?_|refine Ze (fun b=>?_)|refine Zg (fun b=>?_)|refine Zd ?_|refine ZX ?_|(refine ZC (fun hc=>?_) (fun hc=>?_)<;>(try simp at hc)<;>(try omega))|(refine ZL (fun hc=>?_) (fun hc=>?_)<;>(try simp at hc)<;>(try omega))|refine ZD 6 [] [(0,0),(1,0),(2,0),(3,0),(4,0),(5,0),(6,0),(7,0),(8,0),(9,0)] [] ?_|refine ZD 11 [] [(0,0),(1,0),(2,0),(3,0),(4,0),(5,0),(6,0),(7,0),(8,0),(9,0)] [] ?_|(refine ZE (fun hc=>?_) (fun hc=>?_)<;>(try simp at hc)<;>(try omega)))
 refine Z6 (X:=Bool) (fun p=>[(0,.slice o 2 cap),(3,.int .i64 (if p then 2 else 1))]) (fun _=>[Sl 46 nmf o cap [x,y]]) (fun _=>[]) (fun p=>if p then 0 else 1) false ⟨rfl,rfl,trivial⟩ ?_
 rintro (_|_)
 ·have he:eqC eqS 20 46 y.v x.v=some false:=by rw [eqNm,decide_eq_false (Ne.symm hne)]
  repeat' (first|refine ZH ?_|refine ZG ?_|refine ZK ?_|refine ZI ?_|refine ZP ?_|refine ZJ ?_|refine ZM ?_|refine ZN (fun b=>?_)|refine ZO (fun b=>?_)|refine ZA ?_|refine ZB ?_|refine ZZ ?_|refine ZW ?_|refine Zf ?_|refine Za ?_|refine ZY ?_|refine Ze (fun b=>?_)|refine Zg (fun b=>?_)|refine Zd ?_|refine ZX ?_|refine YG (es:=[x,y]) (f:=nmf) 1 y hy (fun b off=>?_)|refine Yf ?_|refine YG (es:=[x,y]) (f:=nmf) 0 x hx (fun b off=>?_)|refine r_seq ?_ (he:=he)|(refine ZC (fun hc=>?_) (fun hc=>?_)<;>(try simp at hc)<;>(try omega))|(refine ZL (fun hc=>?_) (fun hc=>?_)<;>(try simp at hc)<;>(try omega))|refine ZD 6 [] [(0,0),(1,0),(2,0),(3,0),(4,0),(5,0),(6,0),(7,0),(8,0),(9,0)] [] ?_|refine ZD 11 [] [(0,0),(1,0),(2,0),(3,0),(4,0),(5,0),(6,0),(7,0),(8,0),(9,0)] [] ?_|(refine ZE (fun hc=>?_) (fun hc=>?_)<;>(try simp at hc)<;>(try omega)))
  exact Zc true (by decide) ⟨rfl,rfl,trivial⟩
 ·repeat' (first|refine ZH ?_|refine ZG ?_|refine ZK ?_|refine ZI ?_|refine ZP ?_|refine ZJ ?_|refine ZM ?_|refine ZN (fun b=>?_)|refine ZO (fun b=>?_)|refine ZA ?_|refine ZB ?_|refine ZR ?_|refine ZZ ?_|refine ZW ?_|refine Zf ?_|refine Za ?_|refine ZY ?_|refine Ze (fun b=>?_)|refine Zg (fun b=>?_)|refine Zd ?_|refine ZX ?_|(refine ZC (fun hc=>?_) (fun hc=>?_)<;>(try simp at hc)<;>(try omega))|(refine ZL (fun hc=>?_) (fun hc=>?_)<;>(try simp at hc)<;>(try omega))|refine ZD 6 [] [(0,0),(1,0),(2,0),(3,0),(4,0),(5,0),(6,0),(7,0),(8,0),(9,0)] [] ?_|refine ZD 11 [] [(0,0),(1,0),(2,0),(3,0),(4,0),(5,0),(6,0),(7,0),(8,0),(9,0)] [] ?_|(refine ZE (fun hc=>?_) (fun hc=>?_)<;>(try simp at hc)<;>(try omega)))
  exact ZS () rfl trivial
theorem sortTwo_ok (b:Nat) (x y:Nm) (hne:x≠y) (hx:x.owner.size≤1000) (hy:y.owner.size≤1000):Enters 30∧Spec prog 30 #[.slice (some ⟨b,0,none⟩) 2 2] [Usg] [Pt b (.cells (nmf x++nmf y).toArray 46)]
  ⟨(Nm×Nm)×Option Addr×Nat,fun q=>.slice q.2.1 2 q.2.2,fun q=>[q.1.1,q.1.2].Perm [x,y],fun q=>[Sl 46 nmf q.2.1 q.2.2 [q.1.1,q.1.2]],fun _=>[]⟩:=by
 have n1:=cloneNm_ok ⟨b,0,none⟩ 2 [x,y] (by simp)
 have n2:=fun o cap=>sortN_ok o cap [x,y] 82 Usg cmpO (by show 2≤200;omega) (fun a b h=>by have:=(YU.anti a b).1 h;omega) (fun a b d h1 h2=>by
  have e1:=YU.anti b a
  have e2:=YU.anti d b
  intro h3
  rcases Int.lt_or_le 0 (cmpO b a) with g1|g1
  ·rcases Int.lt_or_le 0 (cmpO d b) with g2|g2
   ·have k1:=(YU.anti a b).2 g1
    have k2:=(YU.anti b d).2 g2
    have k3:=YU.trans a b d k1 k2
    have:=(YU.anti a d).1 k3
    omega
   ·have:cmpO d b=0:=by omega
    rw [(YU.eq d b).1 this] at h3
    exact h1 h3
  ·have:cmpO b a=0:=by omega
   rw [(YU.eq b a).1 this] at h2
   exact h2 h3) (fun u v hu hv=>by
  have hz:∀w ∈ [x,y],w.owner.size≤1099511627770:=fun w hw=>by
   simp only [List.mem_cons,List.not_mem_nil,or_false] at hw
   rcases hw with rfl|rfl<;>omega
  have:=YA u v (hz u hu) (hz v hv)
  exact ⟨this.1,specF0 this.2⟩)
 refine Zb [_] func30 ntmps30 fun G w hp=>?_
 refine YZ (b:=b) (o:=.cells (nmf x++nmf y).toArray 46) ?_
 refine k_mk (F1:=[Blk b (.cells (nmf x++nmf y).toArray 46)]) (f:=Sl 46 nmf (some ⟨b,0,none⟩) 2 [x,y]) (fun hp hF=>blkSl (hF _ (.head _)) (by simp) (Nat.le_refl _)) ?_
 repeat' (first|refine ZH ?_|refine ZG ?_|refine ZK ?_|refine ZI ?_|refine ZP ?_|refine ZJ ?_|refine ZM ?_|refine ZN (fun b=>?_)|refine ZO (fun b=>?_)|refine ZA ?_|refine ZB ?_|refine ZR ?_|refine ZF (n1) (fun _ _=>?_)|refine l_call0 (n1) (fun _ _=>?_)|refine ZF (n2 _ _) (fun _ _=>?_)|refine l_call0 (n2 _ _) (fun _ _=>?_)|(refine ZC (fun hc=>?_) (fun hc=>?_)<;>(try simp at hc))|(refine ZE (fun hc=>?_) (fun hc=>?_)<;>(try simp at hc)))
 rename_i q _ l hl
 obtain ⟨o,cap⟩:=q
 obtain ⟨u,v,rfl⟩:∃u v,l=[u,v]:=by
  have:=hl.1.length_eq
  match l,this with
  | [u,v],_=>exact ⟨u,v,rfl⟩
 have hne2:u≠v:=by
  have h:=(hl.1.nodup_iff).2 (by simpa using hne)
  simpa using h
 refine l_frz (T:=46) (sz:=5) (f:=nmf) (o:=o) (cap:=cap) [u,v] ?_ rfl rfl
 have n3:=compactN_ok o cap u v hne2
 repeat' (first|refine ZH ?_|refine ZG ?_|refine ZK ?_|refine ZI ?_|refine ZP ?_|refine ZJ ?_|refine ZM ?_|refine ZN (fun b=>?_)|refine ZO (fun b=>?_)|refine ZA ?_|refine ZB ?_|refine ZR ?_|refine ZF (n3) (fun _ _=>?_)|refine l_call0 (n3) (fun _ _=>?_)|(refine ZC (fun hc=>?_) (fun hc=>?_)<;>(try simp at hc))|(refine ZE (fun hc=>?_) (fun hc=>?_)<;>(try simp at hc)))
 exact ZS ((u,v),o,cap) rfl hl.1
end Go.Proofs.YtdkndahndgkmnaaGreatDoor
