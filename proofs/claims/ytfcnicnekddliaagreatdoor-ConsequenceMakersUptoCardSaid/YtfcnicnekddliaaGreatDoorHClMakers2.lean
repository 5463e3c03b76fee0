/-
  The statements' actions: a run of actions.
  The makers of outputs: the program's and the statements'.
  Texts cut as far as they go.
  The law ConsequenceMakers.
  The statements' arguments, opened: acts, two small numbers.
  Conditions: those that each theorem states.
-/
import Derived.Test.YtfcnicnekddliaaGreatDoorHClMakers1
import Derived.Test.YtfcnicnekddliaaGreatDoorK2
import Derived.Test.YtfcnicnekddliaaGreatDoorK3
set_option maxRecDepth 10000
namespace Go.Proofs.YtfcnicnekddliaaGreatDoor
open Go.RowKit Go.Proofs.Tryz
def nmClk:Nm:=⟨15,⟨#[]⟩,0,0,⟨#[]⟩⟩
def nmBox:Nm:=⟨17,⟨#[]⟩,0,0,⟨#[97]⟩⟩
theorem Xo:Enters 24∧Spec prog 24 #[] [] [] (RetV nmClk.v):=by
 refine Zb [] func24 ntmps24 fun G w hp=>?_
 repeat' (first|refine ZG ?_|refine ZH ?_|refine ZJ ?_|refine ZF ?_|refine ZP ?_|refine ZK ?_|refine ZN ?_|refine ZQ (fun b=>?_)|refine ZO (fun b=>?_)|refine ZB ?_|refine ZD ?_|refine ZR ?_|(refine ZC (fun hc=>?_) (fun hc=>?_)<;>(try simp at hc))|(refine ZE (fun hc=>?_) (fun hc=>?_)<;>(try simp at hc)))
 exact ZV () rfl trivial
theorem ofBox_ok:Enters 25∧Spec prog 25 #[.string ⟨#[97]⟩] [] [] (RetV nmBox.v):=by
 refine Zb [_] func25 ntmps25 fun G w hp=>?_
 repeat' (first|refine ZG ?_|refine ZH ?_|refine ZJ ?_|refine ZF ?_|refine ZP ?_|refine ZK ?_|refine ZN ?_|refine ZQ (fun b=>?_)|refine ZO (fun b=>?_)|refine ZB ?_|refine ZD ?_|refine ZR ?_|(refine ZC (fun hc=>?_) (fun hc=>?_)<;>(try simp at hc))|(refine ZE (fun hc=>?_) (fun hc=>?_)<;>(try simp at hc)))
 exact ZV () rfl trivial
theorem outputOf_ok (x:It) (hx:x.tx.size≤1099511627776):Enters 27∧Spec prog 27 #[x.v] [] [] (RetV (ito x).v):=by
 have n1:=out_ok x hx
 refine Zb [_] func27 ntmps27 fun G w hp=>?_
 repeat' (first|refine ZG ?_|refine ZH ?_|refine ZJ ?_|refine ZF ?_|refine ZP ?_|refine ZK ?_|refine ZN ?_|refine ZQ (fun b=>?_)|refine ZO (fun b=>?_)|refine ZB ?_|refine ZD ?_|refine ZR ?_|refine ZI (n1) (fun _ _=>?_)|refine l_call0 (n1) (fun _ _=>?_)|(refine ZC (fun hc=>?_) (fun hc=>?_)<;>(try simp at hc))|(refine ZE (fun hc=>?_) (fun hc=>?_)<;>(try simp at hc)))
 exact ZV () rfl trivial
abbrev pvA (b:Nat):Value:=.pointer (some ⟨b,0,none⟩)
def vS (s:ByteArray):Value:=.string s
abbrev AcP:Post:=⟨List Ak×List Akc×Option Addr×Nat,fun q=>.slice q.2.2.1 q.2.1.length q.2.2.2,fun q=>q.2.1.length=q.1.length∧q.1.length≤20∧∀a ∈ q.1,AkOK a,fun q=>[AkS q.2.2.1 q.2.2.2 q.2.1,AksF q.1 q.2.1],fun _=>[]⟩
structure AcI where
 i:Nat
 tk:Nat
 inp:Nat
 m:List (Nm×ByteArray)
 l:List Ak
 vs:List Akc
 o:Option Addr
 c:Nat
def AcI.ok (n:Nat) (x:AcI):Prop:=(x.i≤n∧x.i≤20)∧x.tk≤2 * x.i∧x.inp≤x.i+1∧(∀e ∈ x.m,e.2.size≤11)∧x.vs.length=x.l.length∧x.l.length≤x.i∧∀a ∈ x.l,AkOK a
abbrev ActS (o:Option Addr) (cap:Nat) (es:List Aq):Pf:=Sl 71 aqf o cap es
abbrev NmS (o:Option Addr) (cap:Nat) (es:List Nm):Pf:=Sl 50 nmf o cap es
abbrev ChR (o:Option Addr) (cap:Nat) (es:List Ch):HP:=Row 78 7 o es.length cap (es.flatMap chf)
abbrev AkR (o:Option Addr) (cap:Nat) (vs:List Akc):HP:=Row 48 6 o vs.length cap (vs.flatMap akf)
theorem mset_sz {n:Nm} {v:ByteArray} {m:List (Nm×ByteArray)} {k:Nat} (h:∀e ∈ m,e.2.size≤k) (hv:v.size≤k):∀e ∈ mset n v m,e.2.size≤k:=by
 induction m with
 | nil=>
  intro e he
  unfold mset at he
  rw [List.mem_singleton.1 he];exact hv
 | cons a m ih=>
  intro e he
  obtain ⟨b,w⟩:=a
  unfold mset at he
  split at he
  ·rcases List.mem_cons.1 he with rfl|he
   ·exact hv
   ·exact h e (.tail _ he)
  ·rcases List.mem_cons.1 he with rfl|he
   ·exact h _ (.head _)
   ·exact ih (fun e he=>h e (.tail _ he)) e he
theorem mget_sz {n:Nm} {m:List (Nm×ByteArray)} {k:Nat} (h:∀e ∈ m,e.2.size≤k):∃(s:ByteArray) (b:Bool),((mget n m).map vS).getD (.string ⟨#[]⟩) = .string s∧(mget n m).isSome=b∧s.size≤k:=by
 cases hg:mget n m with
 | none=>exact ⟨⟨#[]⟩,false,rfl,rfl,Nat.zero_le _⟩
 | some v=>
  obtain ⟨pre,post,hm⟩:∃pre post,m=pre++(n,v)::post:=by
   clear h
   induction m with
   | nil=>cases hg
   | cons a m ih=>
    obtain ⟨b,w⟩:=a
    unfold mget at hg
    split at hg
    ·rename_i hb
     cases hg
     subst hb
     exact ⟨[],m,rfl⟩
    ·obtain ⟨pre,post,h⟩:=ih hg
     exact ⟨(b,w)::pre,post,by rw [h];rfl⟩
  exact ⟨v,true,rfl,rfl,h (n,v) (by rw [hm];simp)⟩
theorem WE {u v:Nm} {j:Nat} (h:j<2):∃x,[u,v][j]? = some x∧(x=u∨x=v):=by
 match j,h with
 | 0,_=>exact ⟨u,rfl,.inl rfl⟩
 | 1,_=>exact ⟨v,rfl,.inr rfl⟩
set_option maxHeartbeats 16000000 in
theorem actions_ok (o:Option Addr) (cap:Nat) (es:List Aq) (ch:UInt8):Enters 9∧Spec prog 9 #[.slice o es.length cap,.int .u8 ch.toNat] [ActS o cap es,Usg] [] AcP:=by
 refine Zb [_,_] func9 ntmps9 fun G w hp=>?_
 repeat' (first|refine ZG ?_|refine ZH ?_|refine ZJ ?_|refine ZF ?_|refine ZP ?_|refine ZK ?_|refine ZN ?_|refine ZQ (fun b=>?_)|refine ZO (fun b=>?_)|refine ZB ?_|refine ZD ?_|refine l_mkm key_nm vS (fun r=>?_)|(refine ZC (fun hc=>?_) (fun hc=>?_)<;>(try simp at hc)<;>(try omega))|(refine ZE (fun hc=>?_) (fun hc=>?_)<;>(try simp at hc)<;>(try omega)))
 refine Zu (Lx:=[]) (r:=AkR none 0 []) (fun h _=>YG _ _ h) ?_
 refine k_add (f:=AksF [] []) (fun _=>rfl) ?_
 refine YO (X:={x:AcI // x.ok es.length}) (fun x=>[(0,.slice o es.length cap),(1,.int .u8 ch.toNat),(5,.slice x.1.o x.1.vs.length x.1.c),(6,.int .i64 (x.1.tk:Int)),(7,.int .i64 (x.1.inp:Int)),(8,.map (some r)),(9,.int .i64 (x.1.i:Int))]) (fun x=>[ActS o cap es,Usg,AksF x.1.l x.1.vs]) (fun x=>[Mp Nm.v vS r x.1.m,AkR x.1.o x.1.c x.1.vs]) (fun x=>es.length - x.1.i)
  ⟨⟨0,0,1,[],[],[],none,0⟩,⟨Nat.zero_le _,by decide⟩,by decide,by decide,(fun e he=>by cases he),rfl,Nat.le_refl _,(fun a ha=>by cases ha)⟩ ⟨rfl,rfl,rfl,rfl,rfl,rfl,rfl,trivial⟩ ?_
 rintro ⟨⟨i,tk,inp,m,l,vs,o1,c1⟩,⟨hi1,hi2⟩,htk,hinp,hm,hvl,hll,hok⟩
 dsimp only at hi1 hi2 htk hinp hm hvl hll hok ⊢
 by_cases hlt:i<es.length∧i<20
 ·have hxi:=List.getElem?_eq_getElem hlt.1
  generalize es[i]=x at *
  have hlt1:=hlt.1
  have hlt2:=hlt.2
  have w1:=wrapi (z:=(i:Int)+1) (by omega) (by omega)
  have t1:(x.wt.toNat:Int).tmod 2=((x.wt.toNat % 2:Nat):Int):=tmodN _ 2
  have t2:(x.who.toNat:Int).tmod 3=((x.who.toNat % 3:Nat):Int):=tmodN _ 3
  have t3:(x.who.toNat:Int).tmod 4=((x.who.toNat % 4:Nat):Int):=tmodN _ 4
  have w2:=Zs (z:=((x.wt.toNat % 2:Nat):Int)) (by omega) (by omega)
  have w3:IntKind.i64.wrap ((tk:Int)+1)=((tk+1:Nat):Int):=by rw [Zs (by omega) (by omega)];omega
  have w4:IntKind.i64.wrap (((tk+1:Nat):Int)+((x.wt.toNat % 2:Nat):Int))=((tk+1+x.wt.toNat % 2:Nat):Int):=by rw [Zs (by omega) (by omega)];omega
  have w5:IntKind.i64.wrap ((inp:Int)+1)=((inp+1:Nat):Int):=by rw [Zs (by omega) (by omega)];omega
  have htk2:tk+1+x.wt.toNat % 2≤2 * (i+1):=by omega
  have hwz:=WT (x.who.toNat % 3)
  repeat' (first|refine Zy ?_|refine Z2 (es:=es) (f:=aqf) i x hxi (fun b off=>?_)|refine ZG ?_|refine ZH ?_|refine ZJ ?_|refine ZF ?_|refine ZP ?_|refine ZK ?_|refine ZN ?_|refine ZQ (fun b=>?_)|refine ZO (fun b=>?_)|refine ZB ?_|refine ZD ?_|rw [t1]|rw [w2]|rw [w3]|rw [w4]|(refine ZC (fun hc=>?_) (fun hc=>?_)<;>(try simp at hc)<;>(try omega))|(refine ZE (fun hc=>?_) (fun hc=>?_)<;>(try simp at hc)<;>(try omega)))
  generalize b=bA at *
  generalize htke:tk+1+x.wt.toNat % 2=tk2 at *
  refine k_cutd 2 (Y:={p:Nat×Ky×Nat // p.2.1.l.size≤1000∧p.2.2≤i+2}) (fun p=>[(0,.slice o es.length cap),(1,.int .u8 ch.toNat),(5,.slice o1 vs.length c1),(6,.int .i64 (tk2:Int)),(7,.int .i64 (p.1.2.2:Int)),(8,.map (some r)),(9,.int .i64 (i:Int)),(10,pvA bA),(11,pvA p.1.1)]) (fun _=>[ActS o cap es,Usg,AksF l vs]) (fun p=>[Mp Nm.v vS r m,AkR o1 c1 vs,Pt bA (.cells (aqf x).toArray 71),Pt p.1.1 (.cells (kyf p.1.2.1).toArray 45)]) ?_ ?_
  ·rintro ⟨⟨bK,ky,inp2⟩,hkl,hinp2⟩
   dsimp only at hkl hinp2 ⊢
   refine k_cutd 1 (Y:=Unit) (fun _=>[(0,.slice o es.length cap),(1,.int .u8 ch.toNat),(5,.slice o1 vs.length c1),(6,.int .i64 (tk2:Int)),(7,.int .i64 (inp2:Int)),(8,.map (some r)),(9,.int .i64 (i:Int)),(10,pvA bA),(11,pvA bK)]) (fun _=>[ActS o cap es,Usg,AksF l vs]) (fun _=>[Mp Nm.v vS r m,AkR o1 c1 vs,Pt bA (.cells (aqf x).toArray 71),Pt bK (.cells (kyf ky).toArray 45)]) ?_ ?_
   ·rintro ⟨⟩
    have n2:=fun b=>sortTwo_ok b nmClk nmBox (by decide) (by decide) (by decide)
    repeat' (first|refine ZG ?_|refine ZH ?_|refine ZJ ?_|refine ZF ?_|refine ZP ?_|refine ZK ?_|refine ZN ?_|refine ZQ (fun b=>?_)|refine ZO (fun b=>?_)|refine ZB ?_|refine ZD ?_|refine ZW ?_|refine ZZ ?_|refine Zg ?_|refine Za ?_|refine ZX ?_|refine Ze (fun b=>?_)|refine Zd (fun b=>?_)|refine Zf ?_|refine ZY ?_|refine ZI (Xo) (fun _ _=>?_)|refine l_call0 (Xo) (fun _ _=>?_)|refine ZU (Xo) (fun _ _=>?_)|refine ZI (ofBox_ok) (fun _ _=>?_)|refine l_call0 (ofBox_ok) (fun _ _=>?_)|refine ZU (ofBox_ok) (fun _ _=>?_)|refine ZI (n2 _) (fun _ _=>?_)|refine l_call0 (n2 _) (fun _ _=>?_)|refine ZU (n2 _) (fun _ _=>?_)|(refine ZC (fun hc=>?_) (fun hc=>?_)<;>(try simp at hc)<;>(try omega))|(refine ZM (fun hc=>?_) (fun hc=>?_)<;>(try simp at hc)<;>(try omega))|refine ZA 9 [] [(0,0),(2,0),(3,0),(4,0),(1,4),(5,0),(6,0),(7,1)] [8] ?_|(refine ZE (fun hc=>?_) (fun hc=>?_)<;>(try simp at hc)<;>(try omega)))
    rename_i bX _ _ _ _ q hq
    obtain ⟨⟨u,v⟩,o2,c2⟩:=q
    have hnm:∀y,y=u∨y=v→y.owner.size≤1000∧y.text.size≤1000:=fun y hy=>by
     have h1:y ∈ [u,v]:=by rcases hy with rfl|rfl<;>simp
     have h2:=(List.Perm.mem_iff hq).1 h1
     simp only [List.mem_cons,List.not_mem_nil,or_false] at h2
     rcases h2 with rfl|rfl
     ·exact ⟨by decide,by decide⟩
     ·exact ⟨by decide,by decide⟩
    refine Zu (Lx:=[]) (r:=ChR none 0 []) (fun h _=>YG _ _ h) ?_
    refine YO (X:={q:Nat×List Ch×(Option Addr×Nat)×ByteArray // q.1≤2∧q.2.1.length≤q.1∧(∀c ∈ q.2.1,ChOK c)∧q.2.2.2.size≤11 * q.1}) (fun q=>[(0,.slice o es.length cap),(1,.int .u8 ch.toNat),(5,.slice o1 vs.length c1),(6,.int .i64 (tk2:Int)),(7,.int .i64 (inp2:Int)),(8,.map (some r)),(9,.int .i64 (i:Int)),(10,pvA bA),(12,pvA bX),(13,.string q.1.2.2.2),(14,.slice o2 2 c2),(15,.int .i64 (q.1.1:Int))]) (fun _=>[ActS o cap es,Usg,AksF l vs,NmS o2 c2 [u,v]]) (fun q=>[Mp Nm.v vS r m,AkR o1 c1 vs,Pt bA (.cells (aqf x).toArray 71),Pt bX (.cells (akf ⟨ky,q.1.2.2.1.1,q.1.2.1.length,q.1.2.2.1.2,none,0,0⟩).toArray 48),ChR q.1.2.2.1.1 q.1.2.2.1.2 q.1.2.1]) (fun q=>2 - q.1.1) ⟨(0,[],(none,0),⟨#[]⟩),Nat.zero_le _,Nat.le_refl _,(fun c hc=>by cases hc),Nat.le_refl _⟩ ⟨rfl,rfl,rfl,rfl,rfl,rfl,rfl,rfl,rfl,rfl,rfl,rfl,trivial⟩ ?_
    rintro ⟨⟨j,rds,⟨ro,rc⟩,seen⟩,hj,hrl,hrok,hsz⟩
    dsimp only at hj hrl hrok hsz ⊢
    rcases Nat.eq_or_lt_of_le (show 0≤j by omega) with hjn|hjn
    ·subst hjn
     obtain ⟨y,hy,hyu⟩:=WE (u:=u) (v:=v) (j:=0) (by decide)
     have hys:=hnm y hyu
     obtain ⟨sv,is,g1,g2,g3⟩:=mget_sz (n:=y) hm
     have hroom:(2 * (rds.length+1)+200) * 80≤281474976710656:=by omega
     have w6:IntKind.i64.wrap (((0:Nat):Int)+1)=((1:Nat):Int):=by rfl
     repeat' (first|refine Zy ?_|refine Z2 (es:=[u,v]) (f:=nmf) 0 y hy (fun b off=>?_)|refine ZG ?_|refine ZH ?_|refine ZJ ?_|refine ZF ?_|refine ZP ?_|refine ZK ?_|refine ZN ?_|refine ZQ (fun b=>?_)|refine ZO (fun b=>?_)|refine ZB ?_|refine ZD ?_|refine ZW ?_|refine ZZ ?_|refine Zg ?_|refine Za ?_|refine ZX ?_|refine Ze (fun b=>?_)|refine Zd (fun b=>?_)|refine Zf ?_|refine ZY ?_|refine l_mget2 key_nm y ?_|rw [g1]|rw [g2]|rw [w6]|refine r_ixe (es:=[u,v]) (f:=nmf) 0 y hy (fun b off=>?_)|refine r_ldC ?_|refine XP (m:=rds.length) (m2:=1) (fun o3 cap3=>?_) (hroom:=hroom)|refine l_cat (a:=seen) (b:=sv) ?_ (h:=by omega)|refine Yg ?_|(refine ZC (fun hc=>?_) (fun hc=>?_)<;>(try simp at hc)<;>(try omega))|(refine ZM (fun hc=>?_) (fun hc=>?_)<;>(try simp at hc)<;>(try omega))|refine ZA 9 [] [(0,0),(2,0),(3,0),(4,0),(1,4),(5,0),(6,0),(7,1)] [8] ?_|refine ZA 22 [Pt _ (.cells _ 48 _),Row 78 _ _ _ _ _] [(0,0),(2,0),(3,0),(4,0),(6,0),(7,0),(8,0),(1,3),(5,3),(9,0),(10,1),(11,4),(12,0)] [13] ?_|(refine ZE (fun hc=>?_) (fun hc=>?_)<;>(try simp at hc)<;>(try omega)))
     ·exact Zc ⟨(1,rds,(ro,rc),seen),by show 1≤2;omega,by show rds.length≤1;omega,hrok,by show seen.size≤11 * 1;omega⟩ (by show 2 - 1<2 - 0;omega) ⟨rfl,rfl,rfl,rfl,rfl,rfl,rfl,rfl,rfl,rfl,rfl,rfl,trivial⟩
     ·have e1:rds.length+1=(rds++[(⟨y,sv,!is⟩:Ch)]).length:=by simp
      refine YY (T:=78) (sz:=7) (o:=o3) (cap:=cap3) (m:=rds.length+1) _ ((rds++[(⟨y,sv,!is⟩:Ch)]).flatMap chf) e1 (by rw [List.flatMap_append]) ?_
      rw [e1]
      exact Zc ⟨(1,rds++[⟨y,sv,!is⟩],(o3,cap3),seen++sv),by show 1≤2;omega,by show (rds++[_]).length≤1;rw [List.length_append,List.length_singleton];omega,fun c hc=>by
       rcases List.mem_append.1 hc with hc|hc
       ·exact hrok c hc
       ·rw [List.mem_singleton.1 hc];exact hys,by show (seen++sv).size≤11 * 1;rw [ByteArray.size_append];omega⟩ (by show 2 - 1<2 - 0;omega) ⟨rfl,rfl,rfl,rfl,rfl,rfl,rfl,rfl,rfl,rfl,rfl,rfl,trivial⟩
    rcases Nat.eq_or_lt_of_le (show 1≤j by omega) with hjn|hjn
    ·subst hjn
     obtain ⟨y,hy,hyu⟩:=WE (u:=u) (v:=v) (j:=1) (by decide)
     have hys:=hnm y hyu
     obtain ⟨sv,is,g1,g2,g3⟩:=mget_sz (n:=y) hm
     have hroom:(2 * (rds.length+1)+200) * 80≤281474976710656:=by omega
     have w6:IntKind.i64.wrap (((1:Nat):Int)+1)=((2:Nat):Int):=by rfl
     repeat' (first|refine Zy ?_|refine Z2 (es:=[u,v]) (f:=nmf) 1 y hy (fun b off=>?_)|refine ZG ?_|refine ZH ?_|refine ZJ ?_|refine ZF ?_|refine ZP ?_|refine ZK ?_|refine ZN ?_|refine ZQ (fun b=>?_)|refine ZO (fun b=>?_)|refine ZB ?_|refine ZD ?_|refine ZW ?_|refine ZZ ?_|refine Zg ?_|refine Za ?_|refine ZX ?_|refine Ze (fun b=>?_)|refine Zd (fun b=>?_)|refine Zf ?_|refine ZY ?_|refine l_mget2 key_nm y ?_|rw [g1]|rw [g2]|rw [w6]|refine r_ixe (es:=[u,v]) (f:=nmf) 1 y hy (fun b off=>?_)|refine r_ldC ?_|refine XP (m:=rds.length) (m2:=1) (fun o3 cap3=>?_) (hroom:=hroom)|refine l_cat (a:=seen) (b:=sv) ?_ (h:=by omega)|refine Yg ?_|(refine ZC (fun hc=>?_) (fun hc=>?_)<;>(try simp at hc)<;>(try omega))|(refine ZM (fun hc=>?_) (fun hc=>?_)<;>(try simp at hc)<;>(try omega))|refine ZA 9 [] [(0,0),(2,0),(3,0),(4,0),(1,4),(5,0),(6,0),(7,1)] [8] ?_|refine ZA 22 [Pt _ (.cells _ 48 _),Row 78 _ _ _ _ _] [(0,0),(2,0),(3,0),(4,0),(6,0),(7,0),(8,0),(1,3),(5,3),(9,0),(10,1),(11,4),(12,0)] [13] ?_|(refine ZE (fun hc=>?_) (fun hc=>?_)<;>(try simp at hc)<;>(try omega)))
     ·exact Zc ⟨(2,rds,(ro,rc),seen),by show 2≤2;omega,by show rds.length≤2;omega,hrok,by show seen.size≤11 * 2;omega⟩ (by show 2 - 2<2 - 1;omega) ⟨rfl,rfl,rfl,rfl,rfl,rfl,rfl,rfl,rfl,rfl,rfl,rfl,trivial⟩
     ·have e1:rds.length+1=(rds++[(⟨y,sv,!is⟩:Ch)]).length:=by simp
      refine YY (T:=78) (sz:=7) (o:=o3) (cap:=cap3) (m:=rds.length+1) _ ((rds++[(⟨y,sv,!is⟩:Ch)]).flatMap chf) e1 (by rw [List.flatMap_append]) ?_
      rw [e1]
      exact Zc ⟨(2,rds++[⟨y,sv,!is⟩],(o3,cap3),seen++sv),by show 2≤2;omega,by show (rds++[_]).length≤2;rw [List.length_append,List.length_singleton];omega,fun c hc=>by
       rcases List.mem_append.1 hc with hc|hc
       ·exact hrok c hc
       ·rw [List.mem_singleton.1 hc];exact hys,by show (seen++sv).size≤11 * 2;rw [ByteArray.size_append];omega⟩ (by show 2 - 2<2 - 1;omega) ⟨rfl,rfl,rfl,rfl,rfl,rfl,rfl,rfl,rfl,rfl,rfl,rfl,trivial⟩
    obtain rfl:j=2:=by omega
    refine k_frz (T:=78) (sz:=7) (f:=chf) (o:=ro) (cap:=rc) rds ?_ rfl rfl
    repeat' (first|refine ZG ?_|refine ZH ?_|refine ZJ ?_|refine ZF ?_|refine ZP ?_|refine ZK ?_|refine ZN ?_|refine ZQ (fun b=>?_)|refine ZO (fun b=>?_)|refine ZB ?_|refine ZD ?_|refine ZR ?_|refine ZW ?_|refine ZZ ?_|refine Zg ?_|refine Za ?_|refine ZX ?_|refine Ze (fun b=>?_)|refine Zd (fun b=>?_)|refine Zf ?_|refine ZY ?_|(refine ZC (fun hc=>?_) (fun hc=>?_)<;>(try simp at hc)<;>(try omega))|(refine ZM (fun hc=>?_) (fun hc=>?_)<;>(try simp at hc)<;>(try omega))|refine ZA 9 [] [(0,0),(2,0),(3,0),(4,0),(1,4),(5,0),(6,0),(7,1)] [8] ?_|(refine ZE (fun hc=>?_) (fun hc=>?_)<;>(try simp at hc)<;>(try omega)))
    refine Zu (Lx:=[]) (r:=ChR none 0 []) (fun h _=>YG _ _ h) ?_
    refine YO (X:={q:Nat×List Ch×(Option Addr×Nat)×List (Nm×ByteArray) // q.1≤2∧q.2.1.length≤q.1∧(∀c ∈ q.2.1,ChOK c)∧∀e ∈ q.2.2.2,e.2.size≤11}) (fun q=>[(0,.slice o es.length cap),(1,.int .u8 ch.toNat),(5,.slice o1 vs.length c1),(6,.int .i64 (tk2:Int)),(7,.int .i64 (inp2:Int)),(8,.map (some r)),(9,.int .i64 (i:Int)),(10,pvA bA),(12,pvA bX),(13,.string seen),(14,.slice o2 2 c2),(18,.int .i64 (q.1.1:Int))]) (fun _=>[ActS o cap es,Usg,AksF l vs,NmS o2 c2 [u,v],ChS ro rc rds]) (fun q=>[Mp Nm.v vS r q.1.2.2.2,AkR o1 c1 vs,Pt bA (.cells (aqf x).toArray 71),Pt bX (.cells (akf ⟨ky,ro,rds.length,rc,q.1.2.2.1.1,q.1.2.1.length,q.1.2.2.1.2⟩).toArray 48),ChR q.1.2.2.1.1 q.1.2.2.1.2 q.1.2.1]) (fun q=>2 - q.1.1) ⟨(0,[],(none,0),m),Nat.zero_le _,Nat.le_refl _,(fun c hc=>by cases hc),hm⟩ ⟨rfl,rfl,rfl,rfl,rfl,rfl,rfl,rfl,rfl,rfl,rfl,rfl,trivial⟩ ?_
    rintro ⟨⟨j,wrs,⟨wo,wc⟩,m⟩,hj,hwl,hwok,hm⟩
    dsimp only at hj hwl hwok hm ⊢
    have hmin:(if (10:Int)<(seen.size:Int) then (10:Int) else (seen.size:Int))=((min seen.size 10:Nat):Int):=by split<;>omega
    have w7:IntKind.u8.wrap (i:Int)=(i:Int):=by simp [IntKind.wrap,IntKind.bits,IntKind.signed];omega
    have w8:IntKind.u8.wrap (97+(i:Int))=((97+i:Nat):Int):=by simp [IntKind.wrap,IntKind.bits,IntKind.signed];omega
    obtain ⟨nv,hnv⟩:∃nv:ByteArray,seen.extract 0 (min seen.size 10)++⟨#[UInt8.ofNat (((97+i:Nat):Int)).toNat]⟩=nv:=⟨_,rfl⟩
    have hez:(seen.extract 0 (min seen.size 10)).size≤10:=by rw [ByteArray.size_extract];omega
    have hnz:nv.size≤11:=by rw [←hnv,ByteArray.size_append];have:(ByteArray.mk #[UInt8.ofNat (((97+i:Nat):Int)).toNat]).size=1:=rfl;omega
    rcases Nat.eq_or_lt_of_le (show 0≤j by omega) with hjn|hjn
    ·subst hjn
     obtain ⟨y,hy,hyu⟩:=WE (u:=u) (v:=v) (j:=0) (by decide)
     have hys:=hnm y hyu
     have hroom:(2 * (wrs.length+1)+200) * 80≤281474976710656:=by omega
     have w6:IntKind.i64.wrap (((0:Nat):Int)+1)=((1:Nat):Int):=by rfl
     repeat' (first|refine Zy ?_|refine Z2 (es:=[u,v]) (f:=nmf) 0 y hy (fun b off=>?_)|refine ZG ?_|refine ZH ?_|refine ZJ ?_|refine ZF ?_|refine ZP ?_|refine ZK ?_|refine ZN ?_|refine ZQ (fun b=>?_)|refine ZO (fun b=>?_)|refine ZB ?_|refine ZD ?_|refine ZW ?_|refine ZZ ?_|refine Zg ?_|refine Za ?_|refine ZX ?_|refine Ze (fun b=>?_)|refine Zd (fun b=>?_)|refine Zf ?_|refine ZY ?_|rw [w6]|rw [w7]|rw [w8]|rw [hmin]|refine r_ssl (s:=seen) (min seen.size 10) (by omega) ?_|refine r_b2s1 (fun b=>?_)|refine r_cat (a:=seen.extract 0 (min seen.size 10)) (b:=⟨#[UInt8.ofNat (((97+i:Nat):Int)).toNat]⟩) ?_|rw [hnv]|refine XD (V:=vS) key_nm y nv ?_|refine r_ixe (es:=[u,v]) (f:=nmf) 0 y hy (fun b off=>?_)|refine r_ldC ?_|refine XP (m:=wrs.length) (m2:=1) (fun o3 cap3=>?_) (hroom:=hroom)|refine Yg ?_|(refine ZC (fun hc=>?_) (fun hc=>?_)<;>(try simp at hc)<;>(try omega))|(refine ZM (fun hc=>?_) (fun hc=>?_)<;>(try simp at hc)<;>(try omega))|refine ZA 9 [] [(0,0),(2,0),(3,0),(4,0),(1,4),(5,0),(6,0),(7,1)] [8] ?_|refine ZA 28 [] [(0,0),(1,0),(2,0),(3,0),(4,0),(5,0),(6,0),(7,0),(8,2),(9,0),(10,0),(11,0)] [] ?_|refine ZA 30 [Pt _ (.cells _ 48 _),Row 78 _ _ _ _ _] [(0,0),(2,0),(3,0),(4,0),(6,0),(1,3),(5,3),(7,0),(8,1),(9,4),(10,0)] [11] ?_|(refine ZE (fun hc=>?_) (fun hc=>?_)<;>(try simp at hc)<;>(try omega)))
     ·exact Zc ⟨(1,wrs,(wo,wc),m),by show 1≤2;omega,by show wrs.length≤1;omega,hwok,hm⟩ (by show 2 - 1<2 - 0;omega) ⟨rfl,rfl,rfl,rfl,rfl,rfl,rfl,rfl,rfl,rfl,rfl,rfl,trivial⟩
     ·have e1:wrs.length+1=(wrs++[(⟨y,nv,false⟩:Ch)]).length:=by simp
      refine YY (T:=78) (sz:=7) (o:=o3) (cap:=cap3) (m:=wrs.length+1) _ ((wrs++[(⟨y,nv,false⟩:Ch)]).flatMap chf) e1 (by rw [List.flatMap_append]) ?_
      rw [e1]
      exact Zc ⟨(1,wrs++[⟨y,nv,false⟩],(o3,cap3),mset y nv m),by show 1≤2;omega,by show (wrs++[_]).length≤1;rw [List.length_append,List.length_singleton];omega,fun c hc=>by
       rcases List.mem_append.1 hc with hc|hc
       ·exact hwok c hc
       ·rw [List.mem_singleton.1 hc];exact hys,mset_sz hm hnz⟩ (by show 2 - 1<2 - 0;omega) ⟨rfl,rfl,rfl,rfl,rfl,rfl,rfl,rfl,rfl,rfl,rfl,rfl,trivial⟩
    rcases Nat.eq_or_lt_of_le (show 1≤j by omega) with hjn|hjn
    ·subst hjn
     obtain ⟨y,hy,hyu⟩:=WE (u:=u) (v:=v) (j:=1) (by decide)
     have hys:=hnm y hyu
     have hroom:(2 * (wrs.length+1)+200) * 80≤281474976710656:=by omega
     have w6:IntKind.i64.wrap (((1:Nat):Int)+1)=((2:Nat):Int):=by rfl
     repeat' (first|refine Zy ?_|refine Z2 (es:=[u,v]) (f:=nmf) 1 y hy (fun b off=>?_)|refine ZG ?_|refine ZH ?_|refine ZJ ?_|refine ZF ?_|refine ZP ?_|refine ZK ?_|refine ZN ?_|refine ZQ (fun b=>?_)|refine ZO (fun b=>?_)|refine ZB ?_|refine ZD ?_|refine ZW ?_|refine ZZ ?_|refine Zg ?_|refine Za ?_|refine ZX ?_|refine Ze (fun b=>?_)|refine Zd (fun b=>?_)|refine Zf ?_|refine ZY ?_|rw [w6]|rw [w7]|rw [w8]|rw [hmin]|refine r_ssl (s:=seen) (min seen.size 10) (by omega) ?_|refine r_b2s1 (fun b=>?_)|refine r_cat (a:=seen.extract 0 (min seen.size 10)) (b:=⟨#[UInt8.ofNat (((97+i:Nat):Int)).toNat]⟩) ?_|rw [hnv]|refine XD (V:=vS) key_nm y nv ?_|refine r_ixe (es:=[u,v]) (f:=nmf) 1 y hy (fun b off=>?_)|refine r_ldC ?_|refine XP (m:=wrs.length) (m2:=1) (fun o3 cap3=>?_) (hroom:=hroom)|refine Yg ?_|(refine ZC (fun hc=>?_) (fun hc=>?_)<;>(try simp at hc)<;>(try omega))|(refine ZM (fun hc=>?_) (fun hc=>?_)<;>(try simp at hc)<;>(try omega))|refine ZA 9 [] [(0,0),(2,0),(3,0),(4,0),(1,4),(5,0),(6,0),(7,1)] [8] ?_|refine ZA 28 [] [(0,0),(1,0),(2,0),(3,0),(4,0),(5,0),(6,0),(7,0),(8,2),(9,0),(10,0),(11,0)] [] ?_|refine ZA 30 [Pt _ (.cells _ 48 _),Row 78 _ _ _ _ _] [(0,0),(2,0),(3,0),(4,0),(6,0),(1,3),(5,3),(7,0),(8,1),(9,4),(10,0)] [11] ?_|(refine ZE (fun hc=>?_) (fun hc=>?_)<;>(try simp at hc)<;>(try omega)))
     ·exact Zc ⟨(2,wrs,(wo,wc),m),by show 2≤2;omega,by show wrs.length≤2;omega,hwok,hm⟩ (by show 2 - 2<2 - 1;omega) ⟨rfl,rfl,rfl,rfl,rfl,rfl,rfl,rfl,rfl,rfl,rfl,rfl,trivial⟩
     ·have e1:wrs.length+1=(wrs++[(⟨y,nv,false⟩:Ch)]).length:=by simp
      refine YY (T:=78) (sz:=7) (o:=o3) (cap:=cap3) (m:=wrs.length+1) _ ((wrs++[(⟨y,nv,false⟩:Ch)]).flatMap chf) e1 (by rw [List.flatMap_append]) ?_
      rw [e1]
      exact Zc ⟨(2,wrs++[⟨y,nv,false⟩],(o3,cap3),mset y nv m),by show 2≤2;omega,by show (wrs++[_]).length≤2;rw [List.length_append,List.length_singleton];omega,fun c hc=>by
       rcases List.mem_append.1 hc with hc|hc
       ·exact hwok c hc
       ·rw [List.mem_singleton.1 hc];exact hys,mset_sz hm hnz⟩ (by show 2 - 2<2 - 1;omega) ⟨rfl,rfl,rfl,rfl,rfl,rfl,rfl,rfl,rfl,rfl,rfl,rfl,trivial⟩
    obtain rfl:j=2:=by omega
    repeat' (first|refine ZG ?_|refine ZH ?_|refine ZJ ?_|refine ZF ?_|refine ZP ?_|refine ZK ?_|refine ZN ?_|refine ZQ (fun b=>?_)|refine ZO (fun b=>?_)|refine ZB ?_|refine ZD ?_|refine ZW ?_|refine ZZ ?_|refine Zg ?_|refine Za ?_|refine ZX ?_|refine Ze (fun b=>?_)|refine Zd (fun b=>?_)|refine Zf ?_|refine ZY ?_|(refine ZC (fun hc=>?_) (fun hc=>?_)<;>(try simp at hc)<;>(try omega))|(refine ZM (fun hc=>?_) (fun hc=>?_)<;>(try simp at hc)<;>(try omega))|refine ZA 9 [] [(0,0),(2,0),(3,0),(4,0),(1,4),(5,0),(6,0),(7,1)] [8] ?_|(refine ZE (fun hc=>?_) (fun hc=>?_)<;>(try simp at hc)<;>(try omega)))
    refine ZR ?_
    have hIt:seen.size≤1099511627776:=by omega
    have n3:=outputOf_ok ⟨x.it.who,x.it.nu,x.it.tk,x.it.ch,seen⟩ hIt
    have n4:=X8 (ito ⟨x.it.who,x.it.nu,x.it.tk,x.it.ch,seen⟩)
    generalize ito ⟨x.it.who,x.it.nu,x.it.tk,x.it.ch,seen⟩=ou at *
    generalize oencS ou=oe at *
    have s4:(x.it.who.toNat:Int).tmod 3=((x.it.who.toNat % 3:Nat):Int):=tmodN _ 3
    have s5:(x.it.nu.toNat:Int).tmod 4=((x.it.nu.toNat % 4:Nat):Int):=tmodN _ 4
    have s6:(x.it.tk.toNat:Int).tmod 8=((x.it.tk.toNat % 8:Nat):Int):=tmodN _ 8
    have s7:=Zs (z:=((x.it.nu.toNat % 4:Nat):Int)) (by omega) (by omega)
    have s8:=Zs (z:=((x.it.tk.toNat % 8:Nat):Int)) (by omega) (by omega)
    have n6:=XJ (who3 (x.it.who.toNat % 3)) ((x.it.nu.toNat % 4:Nat):Int) ((x.it.tk.toNat % 8:Nat):Int)
    have hw4:(who3 (x.it.who.toNat % 3)).size≤3:=WT _
    have g4:=WB (j:=x.it.who.toNat % 3) (by omega)
    obtain ⟨cN,hcN⟩:∃c:Ch,(⟨⟨18,who3 (x.it.who.toNat % 3),((x.it.nu.toNat % 4:Nat):Int),((x.it.tk.toNat % 8:Nat):Int),⟨#[]⟩⟩,oe,false⟩:Ch)=c:=⟨_,rfl⟩
    have hcO:ChOK cN:=by rw [←hcN];exact ⟨by show (who3 _).size≤1000;omega,by show (ByteArray.mk #[]).size≤1000;decide⟩
    have hroomW:(2 * (wrs.length+1)+200) * 80≤281474976710656:=by omega
    refine k_cutd 1 (Y:={q:List Ch×Option Addr×Nat // q.1.length≤3∧∀c ∈ q.1,ChOK c}) (fun q=>[(0,.slice o es.length cap),(1,.int .u8 ch.toNat),(5,.slice o1 vs.length c1),(6,.int .i64 (tk2:Int)),(7,.int .i64 (inp2:Int)),(8,.map (some r)),(9,.int .i64 (i:Int)),(12,pvA bX)]) (fun q=>[ActS o cap es,Usg,AksF l vs,ChS ro rc rds]) (fun q=>[Mp Nm.v vS r m,AkR o1 c1 vs,Pt bX (.cells (akf ⟨ky,ro,rds.length,rc,q.1.2.1,q.1.1.length,q.1.2.2⟩).toArray 48),ChR q.1.2.1 q.1.2.2 q.1.1]) ?_ ?_
    ·rintro ⟨⟨ws,wo,wc⟩,hws,hwo⟩
     dsimp only at hws hwo ⊢
     refine k_frz (T:=78) (sz:=7) (f:=chf) (o:=wo) (cap:=wc) ws ?_ rfl rfl
     have n5:=sortedL_ok wo wc ws (by omega) hwo
     have hroom:(2 * (vs.length+1)+200) * 88≤281474976710656:=by omega
     repeat' (first|refine XC (m:=vs.length) (m2:=1) (fun o3 cap3=>?_) (hroom:=hroom)|refine ZG ?_|refine ZH ?_|refine ZJ ?_|refine ZF ?_|refine ZP ?_|refine ZK ?_|refine ZN ?_|refine ZQ (fun b=>?_)|refine ZO (fun b=>?_)|refine ZB ?_|refine ZD ?_|refine ZI (n5) (fun _ _=>?_)|refine l_call0 (n5) (fun _ _=>?_)|rw [w1]|(refine ZC (fun hc=>?_) (fun hc=>?_)<;>(try simp at hc)<;>(try omega))|(refine ZE (fun hc=>?_) (fun hc=>?_)<;>(try simp at hc)<;>(try omega)))
     rename_i q hq
     obtain ⟨ss,so,sc⟩:=q
     have hq:ss.Perm ws:=hq
     have hsl:=hq.length_eq
     have e1:vs.length+1=(vs++[(⟨ky,ro,rds.length,rc,so,ss.length,sc⟩:Akc)]).length:=by simp
     refine YY (T:=48) (sz:=6) (o:=o3) (cap:=cap3) (m:=vs.length+1) _ ((vs++[(⟨ky,ro,rds.length,rc,so,ss.length,sc⟩:Akc)]).flatMap akf) e1 (by rw [List.flatMap_append]) ?_
     rw [e1]
     refine k_mk (F1:=[AksF l vs,ChS ro rc rds,ChS so sc ss]) (f:=AksF (l++[(⟨ky,rds,ss⟩:Ak)]) (vs++[(⟨ky,ro,rds.length,rc,so,ss.length,sc⟩:Akc)])) (fun hp hF=>aksP_app (hF _ (.head _)) ⟨⟨rfl,rfl,rfl⟩,hF _ (.tail _ (.head _)),hF _ (.tail _ (.tail _ (.head _)))⟩) ?_
     exact Zc ⟨⟨i+1,tk2,inp2,m,l++[⟨ky,rds,ss⟩],vs++[⟨ky,ro,rds.length,rc,so,ss.length,sc⟩],o3,cap3⟩,⟨hlt1,hlt2⟩,htk2,by show inp2≤i+1+1;omega,hm,by show (vs++[_]).length=(l++[_]).length;simp [hvl],by show (l++[_]).length≤i+1;rw [List.length_append,List.length_singleton];omega,fun a ha=>by
      rcases List.mem_append.1 ha with ha|ha
      ·exact hok a ha
      ·rw [List.mem_singleton.1 ha]
       exact ⟨hkl,by show rds.length≤100;omega,by show ss.length≤100;omega,hrok,fun c hc=>hwo c (hq.mem_iff.1 hc)⟩⟩ (by show es.length - (i+1)<es.length - i;omega) ⟨rfl,rfl,rfl,rfl,rfl,rfl,rfl,trivial⟩
    ·intro hx3
     repeat' (first|refine XL ?_|refine k_to hx3 ⟨(wrs,wo,wc),⟨Nat.le_succ_of_le hwl,hwok⟩⟩ ⟨rfl,rfl,rfl,rfl,rfl,rfl,rfl,rfl,trivial⟩|refine ZG ?_|refine ZH ?_|refine ZJ ?_|refine ZF ?_|refine ZP ?_|refine ZK ?_|refine ZN ?_|refine ZQ (fun b=>?_)|refine ZO (fun b=>?_)|refine ZB ?_|refine ZD ?_|refine ZW ?_|refine ZZ ?_|refine Zg ?_|refine Za ?_|refine ZX ?_|refine Ze (fun b=>?_)|refine Zd (fun b=>?_)|refine Zf ?_|refine ZY ?_|refine ZI (n3) (fun _ _=>?_)|refine l_call0 (n3) (fun _ _=>?_)|refine ZU (n3) (fun _ _=>?_)|refine ZI (n4) (fun _ _=>?_)|refine l_call0 (n4) (fun _ _=>?_)|refine ZU (n4) (fun _ _=>?_)|(refine ZC (fun hc=>?_) (fun hc=>?_)<;>(try simp at hc)<;>(try omega))|(refine ZM (fun hc=>?_) (fun hc=>?_)<;>(try simp at hc)<;>(try omega))|refine ZA 9 [] [(0,0),(2,0),(3,0),(4,0),(1,4),(5,0),(6,0),(7,1)] [8] ?_|(refine ZE (fun hc=>?_) (fun hc=>?_)<;>(try simp at hc)<;>(try omega)))
     generalize b=bI at *
     refine k_cut (Y:=Option Addr×Nat) (fun p=>[(0,.slice o es.length cap),(1,.int .u8 ch.toNat),(5,.slice o1 vs.length c1),(6,.int .i64 (tk2:Int)),(7,.int .i64 (inp2:Int)),(8,.map (some r)),(9,.int .i64 (i:Int)),(12,pvA bX),(195,.slice p.1 (wrs.length+1) p.2)]) (fun _=>[ActS o cap es,Usg,AksF l vs,ChS ro rc rds]) (fun p=>[Mp Nm.v vS r m,AkR o1 c1 vs,Pt bX (.cells (akf ⟨ky,ro,rds.length,rc,p.1,wrs.length+1,p.2⟩).toArray 48),Row 78 7 p.1 (wrs.length+1) p.2 (wrs.flatMap chf++chf cN)]) ?_ ?_
     ·rintro ⟨o3,c3⟩
      dsimp only
      have e1:wrs.length+1=(wrs++[cN]).length:=by simp
      refine YY (T:=78) (sz:=7) (o:=o3) (cap:=c3) (m:=wrs.length+1) _ ((wrs++[cN]).flatMap chf) e1 (by rw [List.flatMap_append]) ?_
      rw [e1]
      exact k_to hx3 ⟨(wrs++[cN],o3,c3),by show (wrs++[_]).length≤3;rw [List.length_append,List.length_singleton];omega,fun c hc=>by
       rcases List.mem_append.1 hc with hc|hc
       ·exact hwok c hc
       ·rw [List.mem_singleton.1 hc];exact hcO⟩ ⟨rfl,rfl,rfl,rfl,rfl,rfl,rfl,rfl,trivial⟩
     ·intro hx4
      rw [←hcN] at hx4
      repeat' (first|refine k_to hx4 (_,_) ⟨rfl,rfl,rfl,rfl,rfl,rfl,rfl,rfl,rfl,trivial⟩|refine ZG ?_|refine ZH ?_|refine ZJ ?_|refine ZF ?_|refine ZP ?_|refine ZK ?_|refine ZN ?_|refine ZQ (fun b=>?_)|refine ZO (fun b=>?_)|refine ZB ?_|refine ZD ?_|refine ZW ?_|refine ZZ ?_|refine Zg ?_|refine Za ?_|refine ZX ?_|refine Ze (fun b=>?_)|refine Zd (fun b=>?_)|refine Zf ?_|refine ZY ?_|refine ZI (Z3) (fun _ _=>?_)|refine l_call0 (Z3) (fun _ _=>?_)|refine ZU (Z3) (fun _ _=>?_)|refine r_callP (Z3) (fun _ _=>?_)|refine ZI (n6) (fun _ _=>?_)|refine l_call0 (n6) (fun _ _=>?_)|refine ZU (n6) (fun _ _=>?_)|refine r_callP (n6) (fun _ _=>?_)|rw [s4]|rw [s5]|rw [s6]|rw [s7]|rw [s8]|refine r_aix (x.it.who.toNat % 3) _ g4 ?_|refine XP (m:=wrs.length) (m2:=1) (fun o3 cap3=>?_) (hroom:=hroomW)|refine Yg ?_|(refine ZC (fun hc=>?_) (fun hc=>?_)<;>(try simp at hc)<;>(try omega))|(refine ZM (fun hc=>?_) (fun hc=>?_)<;>(try simp at hc)<;>(try omega))|refine ZA 9 [] [(0,0),(2,0),(3,0),(4,0),(1,4),(5,0),(6,0),(7,1)] [8] ?_|refine ZA 35 [Pt _ (.cells _ 48 _),Row 78 _ _ _ _ _] [(0,0),(3,0),(4,0),(5,0),(7,0),(8,0),(9,0),(10,0),(11,0),(12,0),(13,0),(14,0),(16,0),(1,3),(2,5),(6,0),(15,5),(17,0),(18,1),(19,4),(20,0)] [21] ?_|(refine ZE (fun hc=>?_) (fun hc=>?_)<;>(try simp at hc)<;>(try omega)))
   ·intro hx2
    repeat' (first|refine XL ?_|refine k_to hx2 () ⟨rfl,rfl,rfl,rfl,rfl,rfl,rfl,rfl,rfl,trivial⟩|refine ZG ?_|refine ZH ?_|refine ZJ ?_|refine ZF ?_|refine ZP ?_|refine ZK ?_|refine ZN ?_|refine ZQ (fun b=>?_)|refine ZO (fun b=>?_)|refine ZB ?_|refine ZD ?_|refine ZW ?_|refine ZZ ?_|refine Zg ?_|refine Za ?_|refine ZX ?_|refine Ze (fun b=>?_)|refine Zd (fun b=>?_)|refine Zf ?_|refine ZY ?_|rw [w1]|(refine ZC (fun hc=>?_) (fun hc=>?_)<;>(try simp at hc)<;>(try omega))|(refine ZM (fun hc=>?_) (fun hc=>?_)<;>(try simp at hc)<;>(try omega))|refine ZA 9 [] [(0,0),(2,0),(3,0),(4,0),(1,4),(5,0),(6,0),(7,1)] [8] ?_|refine ZA 22 [] [(0,0),(1,0),(2,0),(3,0),(4,0),(5,0),(6,0),(7,0),(8,0),(9,0),(10,1),(11,4),(12,0)] [13] ?_|refine ZA 28 [] [(0,0),(1,0),(2,0),(3,0),(4,0),(5,0),(6,0),(7,0),(8,2),(9,0),(10,0),(11,0)] [] ?_|refine ZA 30 [] [(0,0),(1,0),(2,0),(3,0),(4,0),(5,0),(6,0),(7,0),(8,1),(9,4),(10,0)] [11] ?_|refine ZA 35 [] [(0,0),(1,0),(3,0),(4,0),(5,0),(7,0),(8,0),(9,0),(10,0),(11,0),(12,0),(13,0),(14,0),(16,0),(2,4),(6,0),(15,4),(17,0),(18,1),(19,4),(20,0)] [21] ?_|(refine ZE (fun hc=>?_) (fun hc=>?_)<;>(try simp at hc)<;>(try omega)))
    exact Zc ⟨⟨i+1,tk2,inp2,m,l,vs,o1,c1⟩,⟨hlt1,hlt2⟩,htk2,by show inp2≤i+1+1;omega,hm,hvl,by show l.length≤i+1;omega,hok⟩ (by show es.length - (i+1)<es.length - i;omega) ⟨rfl,rfl,rfl,rfl,rfl,rfl,rfl,trivial⟩
  ·intro hx
   repeat' (first|rw [w5]|refine XL ?_|refine k_to hx ⟨(_,⟨(tk2:Int),2,0,who3 (x.who.toNat % 3)⟩,_),?_⟩ ⟨rfl,rfl,rfl,rfl,rfl,rfl,rfl,rfl,rfl,trivial⟩|refine k_to hx ⟨(_,⟨(tk2:Int),0,(inp:Int),⟨#[]⟩⟩,_),?_⟩ ⟨rfl,rfl,rfl,rfl,rfl,rfl,rfl,rfl,rfl,trivial⟩|refine ZG ?_|refine ZH ?_|refine ZJ ?_|refine ZF ?_|refine ZP ?_|refine ZK ?_|refine ZN ?_|refine ZQ (fun b=>?_)|refine ZO (fun b=>?_)|refine ZB ?_|refine ZD ?_|refine ZW ?_|refine ZZ ?_|refine Zg ?_|refine Za ?_|refine ZX ?_|refine Ze (fun b=>?_)|refine Zd (fun b=>?_)|refine Zf ?_|refine ZY ?_|refine ZI (Z3) (fun _ _=>?_)|refine l_call0 (Z3) (fun _ _=>?_)|refine ZU (Z3) (fun _ _=>?_)|rw [t2]|rw [t3]|refine r_aix (x.who.toNat % 3) _ (WB (by omega)) ?_|(refine ZC (fun hc=>?_) (fun hc=>?_)<;>(try simp at hc)<;>(try omega))|(refine ZM (fun hc=>?_) (fun hc=>?_)<;>(try simp at hc)<;>(try omega))|refine ZA 9 [] [(0,0),(2,0),(3,0),(4,0),(1,4),(5,0),(6,0),(7,1)] [8] ?_|refine ZA 22 [] [(0,0),(1,0),(2,0),(3,0),(4,0),(5,0),(6,0),(7,0),(8,0),(9,0),(10,1),(11,4),(12,0)] [13] ?_|refine ZA 28 [] [(0,0),(1,0),(2,0),(3,0),(4,0),(5,0),(6,0),(7,0),(8,2),(9,0),(10,0),(11,0)] [] ?_|refine ZA 30 [] [(0,0),(1,0),(2,0),(3,0),(4,0),(5,0),(6,0),(7,0),(8,1),(9,4),(10,0)] [11] ?_|refine ZA 35 [] [(0,0),(1,0),(3,0),(4,0),(5,0),(7,0),(8,0),(9,0),(10,0),(11,0),(12,0),(13,0),(14,0),(16,0),(2,4),(6,0),(15,4),(17,0),(18,1),(19,4),(20,0)] [21] ?_|(refine ZE (fun hc=>?_) (fun hc=>?_)<;>(try simp at hc)<;>(try omega)))
   ·exact ⟨by show (ByteArray.mk #[]).size≤1000;decide,by show inp+1≤i+2;omega⟩
   ·exact ⟨by show (who3 _).size≤1000;omega,by show inp≤i+2;omega⟩
 ·repeat' (first|refine ZG ?_|refine ZH ?_|refine ZJ ?_|refine ZF ?_|refine ZP ?_|refine ZK ?_|refine ZN ?_|refine ZQ (fun b=>?_)|refine ZO (fun b=>?_)|refine ZB ?_|refine ZD ?_|refine ZR ?_|(refine ZC (fun hc=>?_) (fun hc=>?_)<;>(try simp at hc)<;>(try omega))|(refine ZE (fun hc=>?_) (fun hc=>?_)<;>(try simp at hc)<;>(try omega)))
  all_goals refine k_frz (T:=48) (sz:=6) (f:=akf) (o:=o1) (cap:=c1) vs ?_ rfl rfl
  all_goals exact ZV (l,vs,o1,c1) rfl ⟨hvl,by show l.length≤20;omega,hok⟩
def nmOut (by_:ByteArray) (n t:Int):Nm:=⟨18,by_,n,t,⟨#[]⟩⟩
abbrev mkV (r:Option Nat):Value:=match r with
 | some i=>.tuple #[.int .i64 (i:Int),.bool true]
 | none=>.tuple #[.int .i64 0,.bool false]
def anyW (n:Nm) (l:List Ch):Bool:=l.any fun c=>decide (c.nm=n) && !c.abs
theorem lst_succ {l:List Ak} {n:Nm} {i:Nat} {a:Ak} (h:l[i]? = some a):lstF l n (i+1)=if anyW n a.wr then some i else lstF l n i:=by
 rw [lstF,h];rfl
set_option maxHeartbeats 4000000 in
theorem maker_ok (l:List Ak) (vs:List Akc) (o:Option Addr) (cap:Nat) (hlen:vs.length=l.length) (hb:l.length≤1000) (hw:∀a ∈ l,AkOK a) (by_:ByteArray) (n t:Int) :
  Enters 11∧Spec prog 11 #[.slice o vs.length cap,.string by_,.int .i64 n,.int .i64 t] [AkS o cap vs,AksF l vs] [] (RetV (mkV (lstF l (nmOut by_ n t) l.length))):=by
 have n0:=XJ by_ n t
 obtain ⟨R,hR⟩:∃R,lstF l (nmOut by_ n t) l.length=R:=⟨_,rfl⟩
 rw [hR]
 rw [←hlen] at hR
 have w0:=wrapi (z:=(vs.length:Int) - 1) (by omega) (by omega)
 refine Zb [_,_,_,_] func11 ntmps11 fun G w hp=>?_
 repeat' (first|refine ZG ?_|refine ZH ?_|refine ZJ ?_|refine ZF ?_|refine ZP ?_|refine ZK ?_|refine ZN ?_|refine ZQ (fun b=>?_)|refine ZO (fun b=>?_)|refine ZB ?_|refine ZD ?_|refine ZI (n0) (fun _ _=>?_)|refine l_call0 (n0) (fun _ _=>?_)|rw [w0]|(refine ZC (fun hc=>?_) (fun hc=>?_)<;>(try simp at hc)<;>(try omega))|(refine ZE (fun hc=>?_) (fun hc=>?_)<;>(try simp at hc)<;>(try omega)))
 generalize b=bn at *
 obtain ⟨N,hN⟩:∃N,nmOut by_ n t=N:=⟨_,rfl⟩
 rw [hN] at hR
 have hv:(Value.agg #[.int .i64 18,.string by_,.int .i64 n,.int .i64 t,.string ⟨#[]⟩])=N.v:=by rw [←hN];rfl
 refine YO (X:={p:Nat×Int // p.2=(p.1:Int) - 1∧p.1≤vs.length∧lstF l N p.1=R}) (fun p=>[(0,.slice o vs.length cap),(10,.pointer (some ⟨bn,0,none⟩)),(11,.int .i64 p.1.2)]) (fun _=>[AkS o cap vs,AksF l vs]) (fun _=>[Pt bn (.cells (nmf (nmOut by_ n t)).toArray 50)]) (fun p=>p.1.1) ⟨(vs.length,(vs.length:Int) - 1),rfl,Nat.le_refl _,hR⟩ ⟨rfl,rfl,rfl,trivial⟩ ?_
 rintro ⟨⟨j,z⟩,hz,hj,hRj⟩
 dsimp only at hz hj hRj ⊢
 cases j with
 | zero=>
  have hz0:¬0≤z:=by omega
  rw [lstF] at hRj
  subst hRj
  repeat' (first|refine ZG ?_|refine ZH ?_|refine ZJ ?_|refine ZF ?_|refine ZP ?_|refine ZK ?_|refine ZN ?_|refine ZQ (fun b=>?_)|refine ZO (fun b=>?_)|refine ZB ?_|refine ZD ?_|refine ZR ?_|(refine ZC (fun hc=>?_) (fun hc=>?_)<;>(try simp at hc)<;>(try omega))|(refine ZE (fun hc=>?_) (fun hc=>?_)<;>(try simp at hc)<;>(try omega)))
  exact ZV () rfl trivial
 | succ i=>
  obtain rfl:z=(i:Int):=by omega
  have hli:i<l.length:=by omega
  have hxj:=List.getElem?_eq_getElem hli
  have hyj:=List.getElem?_eq_getElem (show i<vs.length by omega)
  have hao:=hw _ (List.getElem_mem hli)
  generalize l[i]=a at *
  generalize vs[i]=v at *
  rw [lst_succ hxj] at hRj
  refine YK (f:=AksF l vs) (.there .here) (fun h hh=>ak_open hxj hyj h hh) (fun q hq=>?_)
  obtain ⟨⟨ro,rc⟩,wo,wc⟩:=q
  dsimp only at hq ⊢
  subst hq
  have w1:=wrapi (z:=(i:Int) - 1) (by omega) (by omega)
  have hwl:=hao.2.2.1
  repeat' (first|refine Zy ?_|refine Z2 (es:=vs) (f:=akf) i _ hyj (fun b off=>?_)|refine ZG ?_|refine ZH ?_|refine ZJ ?_|refine ZF ?_|refine ZP ?_|refine ZK ?_|refine ZN ?_|refine ZQ (fun b=>?_)|refine ZO (fun b=>?_)|refine ZB ?_|refine ZD ?_|rw [w1]|(refine ZC (fun hc=>?_) (fun hc=>?_)<;>(try simp at hc)<;>(try omega))|(refine ZE (fun hc=>?_) (fun hc=>?_)<;>(try simp at hc)<;>(try omega)))
  refine YO (X:={k:Nat // k≤a.wr.length∧anyW N (a.wr.drop k)=anyW N a.wr}) (fun k=>[(0,.slice o vs.length cap),(10,.pointer (some ⟨bn,0,none⟩)),(11,.int .i64 (i:Int)),(29,.slice wo a.wr.length wc),(30,.int .i64 (a.wr.length:Nat)),(31,.int .i64 (k.1:Int))]) (fun _=>[AkS o cap vs,AksF l vs,ChS wo wc a.wr]) (fun _=>[Pt bn (.cells (nmf (nmOut by_ n t)).toArray 50)]) (fun k=>a.wr.length - k.1) ⟨0,Nat.zero_le _,rfl⟩ ⟨rfl,rfl,rfl,rfl,rfl,rfl,trivial⟩ ?_
  rintro ⟨k,hk,hRk⟩
  dsimp only at hk hRk ⊢
  by_cases hlt:k<a.wr.length
  ·have hck:=List.getElem?_eq_getElem hlt
   rw [List.drop_eq_getElem_cons hlt] at hRk
   generalize a.wr[k]=c at *
   have w2:=wrapi (z:=(k:Int)+1) (by omega) (by omega)
   have he:eqC eqS 20 50 c.nm.v (nmOut by_ n t).v=some (decide (c.nm=N)):=by rw [hN];exact eqNm _ _
   by_cases hcn:c.nm=N
   ·rw [decide_eq_true hcn] at he
    cases hab:c.abs with
    | false=>
     have ht:anyW N a.wr=true:=by
      rw [←hRk]
      unfold anyW
      rw [List.any_cons,decide_eq_true hcn,hab];rfl
     rw [ht,if_pos rfl] at hRj
     subst hRj
     repeat' (first|refine Zy ?_|refine Z2 (es:=a.wr) (f:=chf) k c hck (fun b off=>?_)|refine ZG ?_|refine ZH ?_|refine ZJ ?_|refine ZF ?_|refine ZP ?_|refine ZK ?_|refine ZN ?_|refine ZQ (fun b=>?_)|refine ZO (fun b=>?_)|refine ZB ?_|refine ZD ?_|refine l_seq ?_ (he:=he)|rw [hab]|rw [w2]|(refine ZC (fun hc=>?_) (fun hc=>?_)<;>(try simp at hc)<;>(try omega))|(refine ZE (fun hc=>?_) (fun hc=>?_)<;>(try simp at hc)<;>(try omega)))
     exact Yk (w_lq (YJ () rfl trivial))
    | true=>
     have hn:anyW N (a.wr.drop (k+1))=anyW N a.wr:=by
      rw [←hRk]
      unfold anyW
      rw [List.any_cons,hab,Bool.not_true,Bool.and_false,Bool.false_or]
     repeat' (first|refine Zy ?_|refine Z2 (es:=a.wr) (f:=chf) k c hck (fun b off=>?_)|refine ZG ?_|refine ZH ?_|refine ZJ ?_|refine ZF ?_|refine ZP ?_|refine ZK ?_|refine ZN ?_|refine ZQ (fun b=>?_)|refine ZO (fun b=>?_)|refine ZB ?_|refine ZD ?_|refine l_seq ?_ (he:=he)|rw [hab]|rw [w2]|(refine ZC (fun hc=>?_) (fun hc=>?_)<;>(try simp at hc)<;>(try omega))|(refine ZE (fun hc=>?_) (fun hc=>?_)<;>(try simp at hc)<;>(try omega)))
     exact Zc ⟨k+1,by omega,hn⟩ (by show a.wr.length - (k+1)<a.wr.length - k;omega) ⟨rfl,rfl,rfl,rfl,rfl,rfl,trivial⟩
   ·rw [decide_eq_false hcn] at he
    have hn:anyW N (a.wr.drop (k+1))=anyW N a.wr:=by
     rw [←hRk]
     unfold anyW
     rw [List.any_cons,decide_eq_false hcn,Bool.false_and,Bool.false_or]
    repeat' (first|refine Zy ?_|refine Z2 (es:=a.wr) (f:=chf) k c hck (fun b off=>?_)|refine ZG ?_|refine ZH ?_|refine ZJ ?_|refine ZF ?_|refine ZP ?_|refine ZK ?_|refine ZN ?_|refine ZQ (fun b=>?_)|refine ZO (fun b=>?_)|refine ZB ?_|refine ZD ?_|refine l_seq ?_ (he:=he)|rw [w2]|(refine ZC (fun hc=>?_) (fun hc=>?_)<;>(try simp at hc)<;>(try omega))|(refine ZE (fun hc=>?_) (fun hc=>?_)<;>(try simp at hc)<;>(try omega)))
    exact Zc ⟨k+1,by omega,hn⟩ (by show a.wr.length - (k+1)<a.wr.length - k;omega) ⟨rfl,rfl,rfl,rfl,rfl,rfl,trivial⟩
  ·rw [List.drop_eq_nil_of_le (by omega)] at hRk
   have hf:anyW N a.wr=false:=hRk.symm
   rw [hf,if_neg (by decide)] at hRj
   repeat' (first|refine ZG ?_|refine ZH ?_|refine ZJ ?_|refine ZF ?_|refine ZP ?_|refine ZK ?_|refine ZN ?_|refine ZQ (fun b=>?_)|refine ZO (fun b=>?_)|refine ZB ?_|refine ZD ?_|refine ZR ?_|rw [w1]|(refine ZC (fun hc=>?_) (fun hc=>?_)<;>(try simp at hc)<;>(try omega))|(refine ZE (fun hc=>?_) (fun hc=>?_)<;>(try simp at hc)<;>(try omega)))
   exact Zc ⟨(i,(i:Int) - 1),rfl,by show i≤vs.length;omega,hRj⟩ (Nat.lt_succ_self i) ⟨rfl,rfl,rfl,trivial⟩
def curW (n:Nm) (l:List Ak) (i:Nat) (w:List Ch):Option Nat:=if anyW n w then some i else lstF l n i
set_option maxHeartbeats 4000000 in
theorem makerM_ok (l:List Ak) (vs:List Akc) (o:Option Addr) (cap:Nat) (hlen:vs.length=l.length) (hb:l.length≤1000) (hw:∀a ∈ l,AkOK a) (by_:ByteArray) (n t:Int) :
  Enters 12∧Spec prog 12 #[.slice o vs.length cap,.string by_,.int .i64 n,.int .i64 t] [AkS o cap vs,AksF l vs] [] (RetV (mkV (lstF l (nmOut by_ n t) l.length))):=by
 have n0:=XJ by_ n t
 obtain ⟨N,hN⟩:∃N,nmOut by_ n t=N:=⟨_,rfl⟩
 rw [hN]
 refine Zb [_,_,_,_] func12 ntmps12 fun G w hp=>?_
 repeat' (first|refine ZG ?_|refine ZH ?_|refine ZJ ?_|refine ZF ?_|refine ZP ?_|refine ZK ?_|refine ZN ?_|refine ZQ (fun b=>?_)|refine ZO (fun b=>?_)|refine ZB ?_|refine ZD ?_|(refine ZC (fun hc=>?_) (fun hc=>?_)<;>(try simp at hc)<;>(try omega))|(refine ZE (fun hc=>?_) (fun hc=>?_)<;>(try simp at hc)<;>(try omega)))
 refine YO (X:={j:Nat // j≤vs.length}) (fun j=>[(0,.slice o vs.length cap),(1,.string by_),(2,.int .i64 n),(3,.int .i64 t),(10,.int .i64 (((lstF l N j.1).getD 0:Nat):Int)),(11,.bool (lstF l N j.1).isSome),(12,.int .i64 (j.1:Int))]) (fun _=>[AkS o cap vs,AksF l vs]) (fun _=>[]) (fun j=>vs.length - j.1) ⟨0,Nat.zero_le _⟩ ⟨rfl,rfl,rfl,rfl,rfl,rfl,rfl,trivial⟩ ?_
 rintro ⟨j,hj⟩
 dsimp only
 by_cases hlt:j<vs.length
 ·have hli:j<l.length:=by omega
  have hxj:=List.getElem?_eq_getElem hli
  have hyj:=List.getElem?_eq_getElem hlt
  have hao:=hw _ (List.getElem_mem hli)
  generalize l[j]=a at *
  generalize vs[j]=v at *
  have hwl:=hao.2.2.1
  have hst:=lst_succ (n:=N) hxj
  refine YK (f:=AksF l vs) (.there .here) (fun h hh=>ak_open hxj hyj h hh) (fun q hq=>?_)
  obtain ⟨⟨ro,rc⟩,wo,wc⟩:=q
  dsimp only at hq ⊢
  subst hq
  have w1:=wrapi (z:=(j:Int)+1) (by omega) (by omega)
  have hc0:curW N l j (a.wr.take 0)=lstF l N j:=rfl
  rw [←hc0]
  repeat' (first|refine ZG ?_|refine ZH ?_|refine ZJ ?_|refine ZF ?_|refine ZP ?_|refine ZK ?_|refine ZN ?_|refine ZQ (fun b=>?_)|refine ZO (fun b=>?_)|refine ZB ?_|refine ZD ?_|(refine ZC (fun hc=>?_) (fun hc=>?_)<;>(try simp at hc)<;>(try omega))|(refine ZE (fun hc=>?_) (fun hc=>?_)<;>(try simp at hc)<;>(try omega)))
  refine YO (X:={k:Nat // k≤a.wr.length}) (fun k=>[(0,.slice o vs.length cap),(1,.string by_),(2,.int .i64 n),(3,.int .i64 t),(10,.int .i64 (((curW N l j (a.wr.take k.1)).getD 0:Nat):Int)),(11,.bool (curW N l j (a.wr.take k.1)).isSome),(12,.int .i64 (j:Int)),(13,.int .i64 (k.1:Int))]) (fun _=>[AkS o cap vs,AksF l vs,ChS wo wc a.wr]) (fun _=>[]) (fun k=>a.wr.length - k.1) ⟨0,Nat.zero_le _⟩ ⟨rfl,rfl,rfl,rfl,rfl,rfl,rfl,rfl,trivial⟩ ?_
  rintro ⟨k,hk⟩
  dsimp only
  by_cases hltk:k<a.wr.length
  ·have hck:=List.getElem?_eq_getElem hltk
   have htk:=List.take_succ_eq_append_getElem hltk
   generalize a.wr[k]=c at *
   have w2:=wrapi (z:=(k:Int)+1) (by omega) (by omega)
   have he:eqC eqS 20 50 c.nm.v (nmOut by_ n t).v=some (decide (c.nm=N)):=by rw [hN];exact eqNm _ _
   have hany:anyW N (a.wr.take (k+1))=(anyW N (a.wr.take k) || (decide (c.nm=N) && !c.abs)):=by
    unfold anyW
    rw [htk,List.any_append,List.any_cons,List.any_nil,Bool.or_false]
   by_cases hcn:c.nm=N
   ·rw [decide_eq_true hcn] at he hany
    cases hab:c.abs with
    | false=>
     have hcur:curW N l j (a.wr.take (k+1))=some j:=by
      unfold curW
      rw [hany,hab]
      simp
     repeat' (first|refine Zy ?_|refine Z2 (es:=a.wr) (f:=chf) k c hck (fun b off=>?_)|refine Z2 (es:=vs) (f:=akf) j _ hyj (fun b off=>?_)|refine ZG ?_|refine ZH ?_|refine ZJ ?_|refine ZF ?_|refine ZP ?_|refine ZK ?_|refine ZN ?_|refine ZQ (fun b=>?_)|refine ZO (fun b=>?_)|refine ZB ?_|refine ZD ?_|refine ZW ?_|refine ZZ ?_|refine Zg ?_|refine Za ?_|refine ZX ?_|refine Ze (fun b=>?_)|refine Zd (fun b=>?_)|refine Zf ?_|refine ZY ?_|refine ZI (n0) (fun _ _=>?_)|refine l_call0 (n0) (fun _ _=>?_)|refine ZU (n0) (fun _ _=>?_)|refine r_seq ?_ (he:=he)|rw [hab]|rw [w2]|(refine ZC (fun hc=>?_) (fun hc=>?_)<;>(try simp at hc)<;>(try omega))|(refine ZM (fun hc=>?_) (fun hc=>?_)<;>(try simp at hc)<;>(try omega))|refine ZA 9 [] [(0,0),(1,0),(2,0),(3,0),(4,0),(5,4),(6,0),(7,0),(8,0),(9,0),(10,0),(11,0)] [] ?_|(refine ZE (fun hc=>?_) (fun hc=>?_)<;>(try simp at hc)<;>(try omega)))
     exact Zc ⟨k+1,by omega⟩ (by show a.wr.length - (k+1)<a.wr.length - k;omega) (by dsimp only;rw [hcur];exact ⟨rfl,rfl,rfl,rfl,rfl,rfl,rfl,rfl,trivial⟩)
    | true=>
     have hcur:curW N l j (a.wr.take (k+1))=curW N l j (a.wr.take k):=by
      unfold curW
      rw [hany,hab]
      simp
     repeat' (first|refine Zy ?_|refine Z2 (es:=a.wr) (f:=chf) k c hck (fun b off=>?_)|refine Z2 (es:=vs) (f:=akf) j _ hyj (fun b off=>?_)|refine ZG ?_|refine ZH ?_|refine ZJ ?_|refine ZF ?_|refine ZP ?_|refine ZK ?_|refine ZN ?_|refine ZQ (fun b=>?_)|refine ZO (fun b=>?_)|refine ZB ?_|refine ZD ?_|refine ZW ?_|refine ZZ ?_|refine Zg ?_|refine Za ?_|refine ZX ?_|refine Ze (fun b=>?_)|refine Zd (fun b=>?_)|refine Zf ?_|refine ZY ?_|refine ZI (n0) (fun _ _=>?_)|refine l_call0 (n0) (fun _ _=>?_)|refine ZU (n0) (fun _ _=>?_)|refine r_seq ?_ (he:=he)|rw [hab]|rw [w2]|(refine ZC (fun hc=>?_) (fun hc=>?_)<;>(try simp at hc)<;>(try omega))|(refine ZM (fun hc=>?_) (fun hc=>?_)<;>(try simp at hc)<;>(try omega))|refine ZA 9 [] [(0,0),(1,0),(2,0),(3,0),(4,0),(5,4),(6,0),(7,0),(8,0),(9,0),(10,0),(11,0)] [] ?_|(refine ZE (fun hc=>?_) (fun hc=>?_)<;>(try simp at hc)<;>(try omega)))
     exact Zc ⟨k+1,by omega⟩ (by show a.wr.length - (k+1)<a.wr.length - k;omega) (by dsimp only;rw [hcur];exact ⟨rfl,rfl,rfl,rfl,rfl,rfl,rfl,rfl,trivial⟩)
   ·rw [decide_eq_false hcn] at he hany
    have hcur:curW N l j (a.wr.take (k+1))=curW N l j (a.wr.take k):=by
     unfold curW
     rw [hany]
     simp
    repeat' (first|refine Zy ?_|refine Z2 (es:=a.wr) (f:=chf) k c hck (fun b off=>?_)|refine Z2 (es:=vs) (f:=akf) j _ hyj (fun b off=>?_)|refine ZG ?_|refine ZH ?_|refine ZJ ?_|refine ZF ?_|refine ZP ?_|refine ZK ?_|refine ZN ?_|refine ZQ (fun b=>?_)|refine ZO (fun b=>?_)|refine ZB ?_|refine ZD ?_|refine ZW ?_|refine ZZ ?_|refine Zg ?_|refine Za ?_|refine ZX ?_|refine Ze (fun b=>?_)|refine Zd (fun b=>?_)|refine Zf ?_|refine ZY ?_|refine ZI (n0) (fun _ _=>?_)|refine l_call0 (n0) (fun _ _=>?_)|refine ZU (n0) (fun _ _=>?_)|refine r_seq ?_ (he:=he)|rw [w2]|(refine ZC (fun hc=>?_) (fun hc=>?_)<;>(try simp at hc)<;>(try omega))|(refine ZM (fun hc=>?_) (fun hc=>?_)<;>(try simp at hc)<;>(try omega))|refine ZA 9 [] [(0,0),(1,0),(2,0),(3,0),(4,0),(5,4),(6,0),(7,0),(8,0),(9,0),(10,0),(11,0)] [] ?_|(refine ZE (fun hc=>?_) (fun hc=>?_)<;>(try simp at hc)<;>(try omega)))
    exact Zc ⟨k+1,by omega⟩ (by show a.wr.length - (k+1)<a.wr.length - k;omega) (by dsimp only;rw [hcur];exact ⟨rfl,rfl,rfl,rfl,rfl,rfl,rfl,rfl,trivial⟩)
  ·have hcur:curW N l j (a.wr.take k)=lstF l N (j+1):=by
    rw [List.take_of_length_le (by omega),hst];rfl
   rw [hcur]
   repeat' (first|refine Zy ?_|refine Z2 (es:=vs) (f:=akf) j _ hyj (fun b off=>?_)|refine ZG ?_|refine ZH ?_|refine ZJ ?_|refine ZF ?_|refine ZP ?_|refine ZK ?_|refine ZN ?_|refine ZQ (fun b=>?_)|refine ZO (fun b=>?_)|refine ZB ?_|refine ZD ?_|refine ZR ?_|rw [w1]|(refine ZC (fun hc=>?_) (fun hc=>?_)<;>(try simp at hc)<;>(try omega))|(refine ZE (fun hc=>?_) (fun hc=>?_)<;>(try simp at hc)<;>(try omega)))
   exact Zc ⟨j+1,by omega⟩ (by show vs.length - (j+1)<vs.length - j;omega) ⟨rfl,rfl,rfl,rfl,rfl,rfl,rfl,trivial⟩
 ·obtain rfl:j=l.length:=by omega
  cases hL:lstF l N l.length with
  | none=>
   repeat' (first|refine ZG ?_|refine ZH ?_|refine ZJ ?_|refine ZF ?_|refine ZP ?_|refine ZK ?_|refine ZN ?_|refine ZQ (fun b=>?_)|refine ZO (fun b=>?_)|refine ZB ?_|refine ZD ?_|refine ZR ?_|(refine ZC (fun hc=>?_) (fun hc=>?_)<;>(try simp at hc)<;>(try omega))|(refine ZE (fun hc=>?_) (fun hc=>?_)<;>(try simp at hc)<;>(try omega)))
   exact ZV () rfl trivial
  | some i=>
   repeat' (first|refine ZG ?_|refine ZH ?_|refine ZJ ?_|refine ZF ?_|refine ZP ?_|refine ZK ?_|refine ZN ?_|refine ZQ (fun b=>?_)|refine ZO (fun b=>?_)|refine ZB ?_|refine ZD ?_|refine ZR ?_|(refine ZC (fun hc=>?_) (fun hc=>?_)<;>(try simp at hc)<;>(try omega))|(refine ZE (fun hc=>?_) (fun hc=>?_)<;>(try simp at hc)<;>(try omega)))
   exact ZV () rfl trivial
section
variable {n:Nat} {C:Cx} {Q:Exit→Act→World→Prop} {E E':List (Nat×Value)} {F F' F1 Fs F0:List Pf} {R R' R0 Rs N N' A:List HP} {k k':List Fr} {ops l:List Oper} {L L':List (Nat×Nat)} {Tl:List Nat} {i d:Nat} {t t2 ty0:TypeId} {x y:Operand} {pos:String} {aft:Array Edge} {gd:Option (Nat×Bool)}
def cutS (s:ByteArray) (m:Nat):ByteArray:=s.extract 0 (min s.size m)
theorem r_ixA {T sz m b off:Nat} {z:Int} {kd:IntKind} {rs tr:TRow} (j:Nat) (hlt:j<m) (nx:Wr n C ops k Q Tl Fs R L ((d,.pointer (some ⟨b,off+j * sz,none⟩))::E) F N)
  (ho:nth ops i=some ⟨some d,.indexAddr t x y,ty0,pos,aft,gd⟩:=by rfl) (hw:wantL ops E ⟨some d,.indexAddr t x y,ty0,pos,aft,gd⟩=some true:=by rfl) (hx:ev E x=some (.pointer (some ⟨b,off,none⟩)):=by rfl) (hy:ev E y=some (.int kd z):=by rfl)
  (hts:lookT tab t=some rs:=by rfl) (hrs:rs.k = .arr m T:=by rfl) (hT:lookT tab T=some tr:=by rfl) (hsz:tr.size=sz:=by rfl) (hz:z=(j:Int):=by first|rfl|omega):Wr n C ops k Q Tl Fs R ((i,0)::L) E F N:=
 r_q (fun a w ha=>by
  simp only [execOp,ha.ev (x:=x) (by rw [ZT];exact hx),ha.ev (x:=y) (by rw [ZT];exact hy),Sem.run_bind,Result.andThen,run_ixArr (w:=w) hts hrs hT hsz hz hlt,Sem.run_pure]) nx ho hw
end
section
variable {n:Nat} {C:Cx} {Q:Exit→Act→World→Prop} {E E':List (Nat×Value)} {F F' F1 Fs F0:List Pf} {R R' R0 Rs N N' A:List HP} {k k':List Fr} {ops l:List Oper} {L L':List (Nat×Nat)} {Tl:List Nat} {i d b off:Nat} {t ty0:TypeId} {x y:Operand} {pos:String} {aft:Array Edge} {gd:Option (Nat×Bool)} {v:Value}
theorem l_aixM {cs:Array Value} {kd:IntKind} {m T:Nat} {z:Int} {rs tr:TRow} (j:Nat) (v:Value) (hv:cs[j]? = some v) (nx:Wl n C ops.toArray k Q l ((d,v)::E) F R) (hw:wantL ops E ⟨some d,.index t x y,ty0,pos,aft,gd⟩=some true:=by rfl) (hn:Nat.blt d n=true:=by rfl) (hx:ev E x=some (.agg cs):=by rfl) (hy:ev E y=some (.int kd z):=by rfl)
  (hts:lookT tab t=some rs:=by rfl) (hrs:rs.k = .arr m T:=by rfl) (hT:lookT tab T=some tr:=by rfl) (hsz:tr.size=1:=by rfl) (hag:tr.k.isAgg=false:=by rfl) (hot:tr.k≠.other:=by simp) (hm:cs.size=m:=by rfl) (hz:z=(j:Int):=by first|rfl|omega):Wl n C ops.toArray k Q (⟨some d,.index t x y,ty0,pos,aft,gd⟩::l) E F R:=
 l_q (fun a w ha=>by
  subst hz
  have hlt:j<m:=by rw [←hm];exact (Array.getElem?_eq_some_iff.1 hv).1
  obtain ⟨d1,hd1,hk1⟩:=Zl.und hts
  rw [hrs] at hk1
  have hu1:(underlying t).run prog w = .ok (.array m T) w:=by
   cases d1<;>simp [chkKind] at hk1
   obtain ⟨rfl,rfl⟩:=hk1
   simp [underlying,hd1,go_sem]
  have hs1:=Zl.sizeOf hT w
  rw [hsz] at hs1
  have hia:=Zl.isAgg hT hot w
  rw [hag] at hia
  have hp:(part T cs j).run prog w = .ok v w:=by
   unfold part
   simp only [Sem.run_bind,hia,Result.andThen,Bool.false_eq_true,if_false,hv,Sem.run_pure]
  have hr:(Instr.index t (.agg cs) (.int kd (j:Int))).run prog w = .ok v w:=by
   unfold Instr.index
   simp only [asIntOf,Sem.run_bind,Sem.run_pure,Result.andThen,hu1]
   have hc:(0:Int)≤(j:Int)∧(j:Int)<((m:Nat):Int):=⟨by omega,by omega⟩
   rw [if_pos hc]
   simp only [Sem.run_bind,hs1,Result.andThen,Int.toNat_natCast,Nat.mul_one]
   exact hp
  simp only [execOp,ha.ev (x:=x) (by rw [ZT];exact hx),ha.ev (x:=y) (by rw [ZT];exact hy),Sem.run_bind,hr,Result.andThen,Sem.run_pure]) nx (by intro c h;cases h) hw hn
end
set_option maxHeartbeats 4000000 in
theorem lawMakers_ok (o:Option Addr) (cap:Nat) (es:List Aq) (who x y:UInt8):Enters 4∧Spec prog 4 #[.slice o es.length cap,.int .u8 who.toNat,.agg #[.int .u8 x.toNat,.int .u8 y.toNat]] [ActS o cap es,Usg] [] (RetV (.bool true)):=by
 have n1:=actions_ok o cap es 0
 have n2:=Z3
 have n3:=X7
 have t1:(who.toNat:Int).tmod 3=((who.toNat % 3:Nat):Int):=tmodN _ 3
 have t2:(x.toNat:Int).tmod 4=((x.toNat % 4:Nat):Int):=tmodN _ 4
 have t3:(y.toNat:Int).tmod 8=((y.toNat % 8:Nat):Int):=tmodN _ 8
 have w2:=Zs (z:=((x.toNat % 4:Nat):Int)) (by omega) (by omega)
 have w3:=Zs (z:=((y.toNat % 8:Nat):Int)) (by omega) (by omega)
 have g1:=WB (j:=who.toNat % 3) (by omega)
 refine Zb [_,_,_] func4 ntmps4 fun G w hp=>?_
 repeat' (first|refine ZG ?_|refine ZH ?_|refine ZJ ?_|refine ZF ?_|refine ZP ?_|refine ZK ?_|refine ZN ?_|refine ZQ (fun b=>?_)|refine ZO (fun b=>?_)|refine ZB ?_|refine ZD ?_|refine ZR ?_|refine ZW ?_|refine ZZ ?_|refine Zg ?_|refine Za ?_|refine ZX ?_|refine Ze (fun b=>?_)|refine Zd (fun b=>?_)|refine Zf ?_|refine ZY ?_|refine ZI (n1) (fun _ _=>?_)|refine l_call0 (n1) (fun _ _=>?_)|refine ZU (n1) (fun _ _=>?_)|refine ZI (n2) (fun _ _=>?_)|refine l_call0 (n2) (fun _ _=>?_)|refine ZU (n2) (fun _ _=>?_)|rw [t1]|refine l_aixM (who.toNat % 3) _ g1 ?_|refine r_ixA (m:=2) 0 (by decide) ?_|refine r_ixA (m:=2) 1 (by decide) ?_|(refine ZC (fun hc=>?_) (fun hc=>?_)<;>(try simp at hc)<;>(try omega))|(refine ZM (fun hc=>?_) (fun hc=>?_)<;>(try simp at hc)<;>(try omega))|refine ZA 1 [] [(0,0),(2,0),(3,0),(4,0),(5,0),(1,4),(6,0),(7,0),(8,0)] [] ?_|(refine ZE (fun hc=>?_) (fun hc=>?_)<;>(try simp at hc)<;>(try omega)))
 rename_i q hq _ _
 obtain ⟨l,vs,o1,c1⟩:=q
 obtain ⟨hq1,hq2,hq3⟩:=hq
 have m1:=maker_ok l vs o1 c1 hq1 (by have:l.length≤20:=hq2;omega) hq3 (who3 (who.toNat % 3)) ((x.toNat % 4:Nat):Int) ((y.toNat % 8:Nat):Int)
 have m2:=makerM_ok l vs o1 c1 hq1 (by have:l.length≤20:=hq2;omega) hq3 (who3 (who.toNat % 3)) ((x.toNat % 4:Nat):Int) ((y.toNat % 8:Nat):Int)
 generalize lstF l (nmOut (who3 (who.toNat % 3)) ((x.toNat % 4:Nat):Int) ((y.toNat % 8:Nat):Int)) l.length=R at *
 cases R with
 | none=>
  repeat' (first|refine ZG ?_|refine ZH ?_|refine ZJ ?_|refine ZF ?_|refine ZP ?_|refine ZK ?_|refine ZN ?_|refine ZQ (fun b=>?_)|refine ZO (fun b=>?_)|refine ZB ?_|refine ZD ?_|refine ZR ?_|refine ZW ?_|refine ZZ ?_|refine Zg ?_|refine Za ?_|refine ZX ?_|refine Ze (fun b=>?_)|refine Zd (fun b=>?_)|refine Zf ?_|refine ZY ?_|refine ZI (m1) (fun _ _=>?_)|refine l_call0 (m1) (fun _ _=>?_)|refine ZU (m1) (fun _ _=>?_)|refine ZI (m2) (fun _ _=>?_)|refine l_call0 (m2) (fun _ _=>?_)|refine ZU (m2) (fun _ _=>?_)|refine ZI (n3) (fun _ _=>?_)|refine l_call0 (n3) (fun _ _=>?_)|refine ZU (n3) (fun _ _=>?_)|rw [t2]|rw [t3]|rw [w2]|rw [w3]|(refine ZC (fun hc=>?_) (fun hc=>?_)<;>(try simp at hc)<;>(try omega))|(refine ZM (fun hc=>?_) (fun hc=>?_)<;>(try simp at hc)<;>(try omega))|refine ZA 1 [] [(0,0),(2,0),(3,0),(4,0),(5,0),(1,4),(6,0),(7,0),(8,0)] [] ?_|(refine ZE (fun hc=>?_) (fun hc=>?_)<;>(try simp at hc)<;>(try omega)))
  exact ZV () rfl trivial
 | some i=>
  have b1:((i:Int) == (i:Int))=true:=beq_self_eq_true _
  repeat' (first|refine ZG ?_|refine ZH ?_|refine ZJ ?_|refine ZF ?_|refine ZP ?_|refine ZK ?_|refine ZN ?_|refine ZQ (fun b=>?_)|refine ZO (fun b=>?_)|refine ZB ?_|refine ZD ?_|refine ZR ?_|refine ZW ?_|refine ZZ ?_|refine Zg ?_|refine Za ?_|refine ZX ?_|refine Ze (fun b=>?_)|refine Zd (fun b=>?_)|refine Zf ?_|refine ZY ?_|refine ZI (m1) (fun _ _=>?_)|refine l_call0 (m1) (fun _ _=>?_)|refine ZU (m1) (fun _ _=>?_)|refine ZI (m2) (fun _ _=>?_)|refine l_call0 (m2) (fun _ _=>?_)|refine ZU (m2) (fun _ _=>?_)|refine ZI (n3) (fun _ _=>?_)|refine l_call0 (n3) (fun _ _=>?_)|refine ZU (n3) (fun _ _=>?_)|rw [t2]|rw [t3]|rw [w2]|rw [w3]|rw [b1]|(refine ZC (fun hc=>?_) (fun hc=>?_)<;>(try simp at hc)<;>(try omega))|(refine ZM (fun hc=>?_) (fun hc=>?_)<;>(try simp at hc)<;>(try omega))|refine ZA 1 [] [(0,0),(2,0),(3,0),(4,0),(5,0),(1,4),(6,0),(7,0),(8,0)] [] ?_|(refine ZE (fun hc=>?_) (fun hc=>?_)<;>(try simp at hc)<;>(try omega)))
  exact ZV () rfl trivial
section
open Go.ChangeShapes Go.WideShapes Go.ChangeAt
section
variable {H:Type} {enc:TypeId×Value→H} {W:World} {base:Nat} {v:Value} {d:DataW H} {p:List MemPlace}
theorem plAct:plainT prog 5 71=true:=by decide +kernel
theorem skAct:sks prog 5 71=some [.i .u8,.i .u8,.i .u8,.i .u8,.i .u8,.i .u8,.i .u8,.i .u8,.s]:=by kernel_rfl
theorem open_act {M:Nat} {cs:List Value} (h:CellsOK M [.i .u8,.i .u8,.i .u8,.i .u8,.i .u8,.i .u8,.i .u8,.i .u8,.s] cs):∃c:Aq,cs=aqf c∧c.it.tx.size≤M:=by
 obtain ⟨z1,cs,rfl,h1,h⟩:=Yd h
 obtain ⟨z2,cs,rfl,h2,h⟩:=Yd h
 obtain ⟨z3,cs,rfl,h3,h⟩:=Yd h
 obtain ⟨z4,cs,rfl,h4,h⟩:=Yd h
 obtain ⟨z5,cs,rfl,h5,h⟩:=Yd h
 obtain ⟨z6,cs,rfl,h6,h⟩:=Yd h
 obtain ⟨z7,cs,rfl,h7,h⟩:=Yd h
 obtain ⟨z8,cs,rfl,h8,h⟩:=Yd h
 obtain ⟨s9,cs,rfl,h9,h⟩:=cells_s h
 obtain rfl:=cells_nil h
 obtain ⟨c1,rfl⟩:=Xb h1
 obtain ⟨c2,rfl⟩:=Xb h2
 obtain ⟨c3,rfl⟩:=Xb h3
 obtain ⟨c4,rfl⟩:=Xb h4
 obtain ⟨c5,rfl⟩:=Xb h5
 obtain ⟨c6,rfl⟩:=Xb h6
 obtain ⟨c7,rfl⟩:=Xb h7
 obtain ⟨c8,rfl⟩:=Xb h8
 exact ⟨⟨c1,c2,c3,c4,⟨c5,c6,c7,c8,s9⟩⟩,rfl,h9⟩
theorem open_acts (hv:Value.okWide prog W .any base 30 v) (h:DataW.Trod enc prog W 0 (fun _=>true) true 30 v d p) :
  ∃(o:Option Addr) (cap:Nat) (es:List Aq),v = .slice o es.length cap∧(Sl 71 aqf o cap es).p (fun b=>W.heap[b]?)∧es.length≤Rows.uptoBulk d∧(∀y ∈ es,y.it.tx.size≤Rows.uptoBulk d)∧
   ∀(W':World) (sp:Nat→Bool),Kept W W'→(∀b<W.heap.size,sp b=true)→DataW.Trod enc prog W' 0 sp true 30 v d p:=
 open_sl (fa:=aqf) (Q:=fun y M=>y.it.tx.size≤M) _ underlying30 plAct (by decide +kernel) (fun _=>show 9=_ by decide +kernel) (fun n cs x hx=>open_act (Yq n 5 _ W 0 _ _ _ _ _ plAct skAct hx)) (fun _ _ _ h1 h2=>Nat.le_trans h1 h2) hv h
theorem pl2u:plainT prog 5 31=true:=by decide +kernel
theorem sk2u:sks prog 5 31=some [.i .u8,.i .u8]:=by kernel_rfl
theorem open_2u (hv:Value.okWide prog W .any base 31 v) (h:DataW.Trod enc prog W 0 (fun _=>true) true 31 v d p) :
  ∃x y:UInt8,v = .agg #[.int .u8 x.toNat,.int .u8 y.toNat]∧p=[]∧∀w' base' sp' hd',DataW.Trod enc prog w' base' sp' hd' 31 v d []:=by
 obtain ⟨cs,rfl,h,hp,hr⟩:=open_agg pl2u sk2u (aggA underlying31 hv) h
 obtain ⟨x,cs,rfl,h1,h⟩:=Yd h
 obtain ⟨y,cs,rfl,h2,h⟩:=Yd h
 obtain rfl:=cells_nil h
 obtain ⟨c1,rfl⟩:=Xb h1
 obtain ⟨c2,rfl⟩:=Xb h2
 exact ⟨c1,c2,rfl,hp,hr⟩
end
end
end Go.Proofs.YtfcnicnekddliaaGreatDoor
