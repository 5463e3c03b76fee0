/-
  Names of processes: the ordinals of a text, and that the order of names is one; no program in sight.
  Contracts of the package codec: writing.
  Contracts of the package codec: reading.
  Contracts of the package codec: the reader.
  Contracts of the package lineage.
  Contracts of the package lineage: Parse, Valid, Ordinals, Compare.
  Search trees of names and values, and the sorted lists that they hold; no program in sight.
  Contracts of cmp.Or and of the package object: Compare, Word, Check.
  The contract of object.Name.Check.
  Contracts of the package state: the search tree.
  Contracts of the package state: with, find.
  More rules for regions that draw their order: what is owned may be set fast, facts may be drawn from facts.
  Contracts of the package state: With.
  Contracts of the package state: the nodes in order, Kind.
  Contracts of the package output: Check, write, Encode, read, Decode.
  Contracts of the package output: ledgers, All.
  The contract of output.All.
  Equality of structs, evaluated; that this is what the model does; rules for it.
  Rules for maps that the program makes.
  Rules for a range over an owned map.
  What a view holds: changes, the last of each name.
  Rules for rows of elements that are owned: made, read and written by index; arrays.
  Rules for owned slices that are changed in place; calls of function values where the order is drawn.
  The contracts of package view: New, Get, Set, Delete.
  Lists that are changed in a window by exchanges: what sorting algorithms do, without a program.
  The contracts of pdqsort at replevin/state.Change, for windows of less than 50 elements.
  A cut behind the first statements of a function: the rest is walked once.
  Numbers that pdqsort reckons with: the length in bits, the next power of two, xorshift.
  Pivots: median of three, choosePivot. (replevin/state.Change)
  Conditions: those that each theorem states.
-/
import Derived.Test.YtdkndahndgkmnaaGreatDoorT1
import Derived.Laws.StructEq
import Derived.ChangeKeysEq
import Derived.Deep.OwnRows
namespace Go.Proofs.YtdkndahndgkmnaaGreatDoor
open Go.RowKit Go.Proofs.Tryz
def isDig (c:UInt8):Bool:=decide (48≤c.toNat) && decide (c.toNat≤57)
def digs (l:List UInt8):List UInt8:=(l.take 7).takeWhile isDig
def dnum (l:List UInt8):Nat:=l.foldl (fun n c=>n * 10+(c.toNat - 48)) 0
structure Prt where
 ord:Nat
 pos:Nat
 e:Int
def ferr (l:List UInt8) (count:Nat):Int:=
 if count=8 then 9 else if l=[] then 4 else if digs l=[] then 6 else if l.head? = some 48 then 3 else if 6<(digs l).length then 2 else 0
theorem W3 (l:List UInt8):(digs l).length≤7∧(digs l).length≤l.length:=by
 have h1:(digs l).length≤(l.take 7).length:=(List.takeWhile_prefix isDig).length_le
 simp at h1
 omega
theorem digs_pre (l:List UInt8):digs l=l.take (digs l).length:=by
 have h1:digs l <+: l.take 7:=List.takeWhile_prefix isDig
 have h2:=List.prefix_iff_eq_take.1 h1
 rw [List.take_take,Nat.min_eq_left (W3 l).1] at h2
 exact h2
theorem digs_all (l:List UInt8):∀c ∈ digs l,isDig c=true:=fun c hc=>by
 have:=List.all_takeWhile (p:=isDig) (l:=l.take 7)
 exact List.all_eq_true.1 this c hc
def prts (l:List UInt8) (pos count:Nat):List Prt:=
 if ferr l count≠0 then [⟨0,pos,ferr l count⟩]
 else match h:l.drop (digs l).length with
  | []=>[⟨dnum (digs l),pos,0⟩]
  | c::rest=>if c≠46 then [⟨dnum (digs l),pos,0⟩,⟨0,pos+(digs l).length,6⟩] else ⟨dnum (digs l),pos,0⟩::prts rest (pos+(digs l).length+1) (count+1)
termination_by l.length
decreasing_by
 have:=congrArg List.length h
 simp at this;omega
def lparts (s:List UInt8):List Prt:=if s=[] then [] else prts s 0 0
def lvalid (s:List UInt8):Bool:=(lparts s).all fun p=>p.e == 0
def lords (s:List UInt8):List Int:=if lvalid s then (lparts s).map fun p=>(p.ord:Int) else []
theorem UI (l:List UInt8) (c:UInt8):dnum (l++[c])=dnum l * 10+(c.toNat - 48):=by simp [dnum]
theorem dig_inj {a b:UInt8} (ha:isDig a=true) (hb:isDig b=true) (h:a.toNat - 48=b.toNat - 48):a=b:=by
 simp [isDig] at ha hb
 exact UInt8.toNat_inj.1 (by omega)
theorem dig_lt {a:UInt8} (ha:isDig a=true):a.toNat - 48<10:=by simp [isDig] at ha;omega
theorem foldl_pos (l:List UInt8):∀n,0<n→0<l.foldl (fun n c=>n * 10+(c.toNat - 48)) n:=by
 induction l with
 | nil=>intro n h;exact h
 | cons c l ih=>intro n h;exact ih _ (show 0<n * 10+(c.toNat - 48) by omega)
theorem dnum_pos {c:UInt8} {l:List UInt8} (hc:isDig c=true) (h0:c≠48):0<dnum (c::l):=by
 unfold dnum
 simp only [List.foldl_cons]
 refine foldl_pos l _ ?_
 have:c.toNat≠48:=fun e=>h0 (UInt8.toNat_inj.1 e)
 simp [isDig] at hc
 omega
theorem dnum_inj:∀(n:Nat) (a b:List UInt8),a.length=n→(∀c ∈ a,isDig c=true)→(∀c ∈ b,isDig c=true)→a.head?≠some 48→b.head?≠some 48→dnum a=dnum b→a=b:=by
 intro n
 induction n with
 | zero=>
  intro a b hn ha hb h0 h1 h
  cases a with
  | cons=>simp at hn
  | nil=>
   cases b with
   | nil=>rfl
   | cons c b=>
    have:=dnum_pos (l:=b) (hb c (by simp)) (fun e=>h1 (by simp [e]))
    rw [←h] at this
    simp [dnum] at this
 | succ n ih=>
  intro a b hn ha hb h0 h1 h
  have hane:a≠[]:=fun e=>by subst e;simp at hn
  have hbne:b≠[]:=fun e=>by
   subst e
   cases a with
   | nil=>exact hane rfl
   | cons c a=>
    have:=dnum_pos (l:=a) (ha c (by simp)) (fun e=>h0 (by simp [e]))
    rw [h] at this
    simp [dnum] at this
  have ea:=List.dropLast_concat_getLast hane
  have eb:=List.dropLast_concat_getLast hbne
  rw [←ea,←eb] at h ⊢
  rw [UI,UI] at h
  have ka:=ha _ (List.getLast_mem hane)
  have kb:=hb _ (List.getLast_mem hbne)
  have la:=dig_lt ka
  have lb:=dig_lt kb
  have hh:∀l:List UInt8,l.head?≠some 48→l.dropLast.head?≠some 48:=fun l hl=>by
   cases l with
   | nil=>simp
   | cons c l=>
    cases l with
    | nil=>simp
    | cons d l=>simpa using hl
  have e1:a.dropLast=b.dropLast:=ih _ _ (by simp [hn]) (fun c hc=>ha c (List.dropLast_subset _ hc)) (fun c hc=>hb c (List.dropLast_subset _ hc)) (hh _ h0) (hh _ h1) (by omega)
  rw [e1,dig_inj ka kb (by omega)]
theorem prts_ne (l:List UInt8) (pos count:Nat):prts l pos count≠[]:=by
 unfold prts
 split
 ·simp
 ·split
  ·simp
  ·split<;>simp
theorem prts_ok {l:List UInt8} {pos count:Nat} (h:∀p ∈ prts l pos count,p.e=0) :
  digs l≠[]∧l.head?≠some 48∧((l=digs l∧prts l pos count=[⟨dnum (digs l),pos,0⟩])∨
   ∃rest,l=digs l++46::rest∧prts l pos count=⟨dnum (digs l),pos,0⟩::prts rest (pos+(digs l).length+1) (count+1)):=by
 have hp:=digs_pre l
 have hl:=W3 l
 have key:ferr l count=0→digs l≠[]∧l.head?≠some 48:=fun e=>by
  unfold ferr at e
  split at e
  ·cases e
  ·split at e
   ·cases e
   ·split at e
    ·cases e
    ·split at e
     ·cases e
     ·rename_i h1 h2;exact ⟨h1,h2⟩
 unfold prts at h ⊢
 split at h
 ·rename_i h1
  exact absurd (h _ (List.mem_singleton.2 rfl)) h1
 ·rename_i h1
  rw [if_neg h1]
  have h1:ferr l count=0:=Decidable.not_not.1 h1
  refine ⟨(key h1).1,(key h1).2,?_⟩
  split at h
  ·rename_i h2
   left
   have h3:l.length≤(digs l).length:=by simpa using h2
   refine ⟨?_,?_⟩
   ·rw [hp]
    exact (List.take_of_length_le h3).symm
   ·rfl
  ·rename_i c rest h2
   right
   split at h
   ·have:=h ⟨0,pos+(digs l).length,6⟩ (by simp)
    cases this
   ·rename_i hc
    have hc:c=46:=Decidable.not_not.1 hc
    subst hc
    refine ⟨rest,?_,?_⟩
    ·rw [←h2]
     conv=>lhs;rw [←List.take_append_drop (digs l).length l]
     rw [←hp]
    ·rw [if_neg hc]
     congr 1
     rw [prts]
theorem digs_head (l:List UInt8):digs l≠[]→(digs l).head? = l.head?:=by
 intro h
 cases l with
 | nil=>simp [digs] at h
 | cons c l=>
  have h2:digs (c::l)=(c::l.take 6).takeWhile isDig:=rfl
  rw [h2] at h ⊢
  rw [List.takeWhile_cons] at h ⊢
  split at h
  ·rename_i hc;simp [hc]
  ·exact absurd rfl h
theorem prts_inj:∀(n:Nat) (a b:List UInt8) (p q c d:Nat),a.length≤n→(∀x ∈ prts a p c,x.e=0)→(∀x ∈ prts b q d,x.e=0)→(prts a p c).map (fun x=>(x.ord:Int))=(prts b q d).map (fun x=>(x.ord:Int))→a=b:=by
 intro n
 induction n with
 | zero=>
  intro a b p q c d hn ha
  obtain ⟨h1,_,_⟩:=prts_ok ha
  have:a=[]:=List.length_eq_zero_iff.1 (by omega)
  subst this
  simp [digs] at h1
 | succ n ih=>
  intro a b p q c d hn ha hb h
  obtain ⟨a1,a2,a3⟩:=prts_ok ha
  obtain ⟨b1,b2,b3⟩:=prts_ok hb
  have key:dnum (digs a)=dnum (digs b)→digs a=digs b:=fun e=>
   dnum_inj _ _ _ rfl (digs_all a) (digs_all b) (by rw [digs_head a a1];exact a2) (by rw [digs_head b b1];exact b2) e
  rcases a3 with ⟨e1,e2⟩|⟨ra,e1,e2⟩<;>rcases b3 with ⟨f1,f2⟩|⟨rb,f1,f2⟩
  ·rw [e2,f2] at h
   simp at h
   rw [e1,f1];exact key (by omega)
  ·rw [e2,f2] at h
   simp only [List.map_cons,List.map_nil,List.cons.injEq] at h
   have:=h.2.symm
   rw [List.map_eq_nil_iff] at this
   exact absurd this (prts_ne _ _ _)
  ·rw [e2,f2] at h
   simp only [List.map_cons,List.map_nil,List.cons.injEq] at h
   have:=h.2
   rw [List.map_eq_nil_iff] at this
   exact absurd this (prts_ne _ _ _)
  ·rw [e2] at ha h
   rw [f2] at hb h
   simp only [List.map_cons,List.cons.injEq] at h
   have hlen:=congrArg List.length e1
   simp at hlen
   have e3:=ih ra rb _ _ _ _ (by omega) (fun x hx=>ha x (by simp [hx])) (fun x hx=>hb x (by simp [hx])) h.2
   rw [e1,f1,key (by omega),e3]
theorem lords_inj {a b:List UInt8} (ha:lvalid a=true) (hb:lvalid b=true) (h:lords a=lords b):a=b:=by
 unfold lords at h
 rw [if_pos ha,if_pos hb] at h
 unfold lvalid at ha hb
 rw [List.all_eq_true] at ha hb
 simp only [beq_iff_eq] at ha hb
 unfold lparts at *
 by_cases h1:a=[]<;>by_cases h2:b=[]
 ·rw [h1,h2]
 ·rw [if_pos h1,if_neg h2] at h
  have:=h.symm
  simp only [List.map_nil,List.map_eq_nil_iff] at this
  exact absurd this (prts_ne _ _ _)
 ·rw [if_neg h1,if_pos h2] at h
  simp only [List.map_nil,List.map_eq_nil_iff] at h
  exact absurd h (prts_ne _ _ _)
 ·rw [if_neg h1,if_neg h2] at h
  rw [if_neg h1] at ha
  rw [if_neg h2] at hb
  exact prts_inj _ a b _ _ _ _ (Nat.le_refl _) ha hb h
def cmpN (a b:ByteArray):Int:=
 if a=b then 0 else match lvalid a.data.toList,lvalid b.data.toList with
  | true,true=>cmpL (lords a.data.toList) (lords b.data.toList)
  | true,false=>-1
  | false,true=>1
  | false,false=>cmpS a b
def keyN (a:ByteArray):Int×List Int×ByteArray:=if lvalid a.data.toList then (0,lords a.data.toList,⟨#[]⟩) else (1,[],a)
theorem keyN_inj (a b:ByteArray) (h:keyN a=keyN b):a=b:=by
 unfold keyN at h
 split at h<;>split at h
 ·rename_i h1 h2
  simp only [Prod.mk.injEq,and_true,true_and] at h
  exact Wj (lords_inj h1 h2 h)
 ·simp at h
 ·simp at h
 ·simp only [Prod.mk.injEq,true_and] at h
  exact h
theorem cmpN_key (a b:ByteArray):cmpN a b=lex cmpI (lex cmpL cmpS) (keyN a) (keyN b):=by
 have ho:=X0 Yr (X0 ord_list ord_str)
 unfold cmpN
 by_cases h:a=b
 ·subst h;rw [if_pos rfl];exact (ho.self _).symm
 ·rw [if_neg h]
  unfold keyN
  cases h1:lvalid a.data.toList<;>cases h2:lvalid b.data.toList
  ·simp [lex,cmpI,cmpL]
  ·simp [lex,cmpI]
  ·simp [lex,cmpI]
  ·have h3:cmpS ⟨#[]⟩ ⟨#[]⟩=0:=ord_str.self _
   simp only [lex,cmpI,if_true,h3]
   by_cases h4:cmpL (lords a.data.toList) (lords b.data.toList)=0<;>simp [h4]
theorem ord_lin:Ord3 cmpN:=by
 have h:=ord_map (X0 Yr (X0 ord_list ord_str)) keyN keyN_inj
 have e:cmpN=fun a b=>lex cmpI (lex cmpL cmpS) (keyN a) (keyN b):=by funext a b;exact cmpN_key a b
 rw [e];exact h
def cmpO (a b:Nm):Int:=
 if cmpI a.kind b.kind≠0 then cmpI a.kind b.kind
 else if cmpN a.owner b.owner≠0 then cmpN a.owner b.owner
 else if cmpI a.number b.number≠0 then cmpI a.number b.number
 else if cmpI a.index b.index≠0 then cmpI a.index b.index
 else cmpS a.text b.text
theorem Y7:Ord3 cmpO:=by
 have h:=ord_map (X0 Yr (X0 ord_lin (X0 Yr (X0 Yr ord_str)))) (fun a:Nm=>(a.kind,a.owner,a.number,a.index,a.text)) (by
  rintro ⟨a,b,c,d,e⟩ ⟨a',b',c',d',e'⟩ h
  simp only [Prod.mk.injEq] at h
  obtain ⟨rfl,rfl,rfl,rfl,rfl⟩:=h
  rfl)
 exact h
set_option maxRecDepth 10000
variable {n:Nat} {C:Cx} {Q:Exit→Act→World→Prop} {E:List (Nat×Value)} {F:List Pf} {R R0:List HP} {k:List Fr}
section
def venc (u:Nat):List UInt8:=if u<128 then [UInt8.ofNat u] else UInt8.ofNat (u % 128+128)::venc (u / 128)
termination_by u
decreasing_by omega
theorem venc_len (k:Nat):∀u,u<128 ^ (k+1)→(venc u).length≤k+1:=by
 induction k with
 | zero=>intro u hu;unfold venc;rw [if_pos (by simpa using hu)];simp
 | succ k ih=>
  intro u hu
  unfold venc
  split
  ·simp
  ·have:=ih (u / 128) (by rw [Nat.div_lt_iff_lt_mul (by omega)];rw [Nat.pow_succ] at hu;exact hu)
   simp;omega
theorem XA (u:Nat) (hu:u<18446744073709551616):(venc u).length≤10:=venc_len 9 u (by simp only [Nat.reducePow,Nat.reduceAdd];omega)
theorem wrap_u8 (u:Nat):IntKind.u8.wrap (u:Int)=((u % 256:Nat):Int):=by
 simp [IntKind.wrap,IntKind.bits,IntKind.signed]
theorem or_128:∀x:Fin 256,x.val ||| 128=x.val % 128+128:=by decide +kernel
theorem or128 (u:Nat):IntKind.u8.wrap ((BitVec.ofInt IntKind.u8.bits (IntKind.u8.wrap (u:Int)) ||| BitVec.ofInt IntKind.u8.bits 128).toNat:Int)=((u % 128+128:Nat):Int):=by
 have h:=or_128 ⟨u % 256,by omega⟩
 simp only at h
 have hx:u % 256 % 2 ^ 8=u % 256:=by omega
 have e:(BitVec.ofInt IntKind.u8.bits (IntKind.u8.wrap (u:Int)) ||| BitVec.ofInt IntKind.u8.bits 128).toNat=u % 256 ||| 128:=by
  rw [wrap_u8]
  show (BitVec.ofInt 8 ((u % 256:Nat):Int) ||| BitVec.ofInt 8 128).toNat=_
  rw [BitVec.toNat_or,BitVec.ofInt_natCast,BitVec.toNat_ofNat,hx]
  rfl
 rw [e,h,wrap_u8]
 congr 1;omega
theorem shr7 (u:Nat):Int.fdiv (u:Int) (2 ^ (min (7:Int).toNat IntKind.u64.bits))=((u / 128:Nat):Int):=by
 show Int.fdiv (u:Int) (2 ^ 7)=_
 rw [Int.fdiv_eq_ediv_of_nonneg _ (by decide)]
 omega
structure VX (m:Nat) (xs:List Value) (u0:Nat) where
 o:Option Addr
 m1:Nat
 cap:Nat
 ys:List Value
 u:Nat
 hk:∃pre,ys=xs++byt pre∧pre++venc u=venc u0∧m1=m+pre.length
 hu:u<18446744073709551616
theorem WR (o:Option Addr) (m cap:Nat) (xs:List Value) (u:Nat) (hu:u<18446744073709551616) (hm:m≤1099511627776) :
  Enters 196∧Spec prog 196 #[.slice o m cap,.int .u64 (u:Int)] [] [Row 5 1 o m cap xs]
   ⟨Option Addr×Nat,fun q=>.slice q.1 (m+(venc u).length) q.2,fun _=>True,fun _=>[],fun q=>[Row 5 1 q.1 (m+(venc u).length) q.2 (xs++byt (venc u))]⟩:=by
 have hl0:=XA u hu
 refine ZM [_,_] func196 ntmps196 fun G w hp=>?_
 repeat' (first|refine ZE ?_|refine ZD ?_|refine ZF ?_|fail)
 refine Z8 (X:=VX m xs u) (fun q=>[(0,.slice q.o q.m1 q.cap),(1,.int .u64 (q.u:Int))]) (fun _=>[]) (fun q=>[Row 5 1 q.o q.m1 q.cap q.ys]) (fun q=>q.u) ⟨o,m,cap,xs,u,⟨[],by simp [byt],rfl,rfl⟩,hu⟩ ⟨rfl,rfl,trivial⟩ ?_
 rintro ⟨o,m1,cap,ys,v,⟨pre,rfl,hv,rfl⟩,hvu⟩
 dsimp only
 have hl:pre.length+(venc v).length≤10:=by rw [←List.length_append,hv];exact hl0
 repeat' (first|refine ZE ?_|refine ZD ?_|refine ZF ?_|refine ZX (fun b=>?_)|refine ZW ?_|refine l_app1 (fun o' cap'=>?_)|rw [or128]|rw [shr7]|refine ZG (fun hc=>?_) (fun hc=>?_)|fail)
 ·have hv1:128≤v:=by simp at hc;omega
  have hv2:venc v=UInt8.ofNat (v % 128+128)::venc (v / 128):=by rw [venc,if_neg (by omega)]
  refine Zb ⟨o',m+pre.length+1,cap',_,v / 128,⟨pre++[UInt8.ofNat (v % 128+128)],?_,by simp [←hv,hv2],by simp;omega⟩,by omega⟩ (by show v / 128<v;omega) ⟨rfl,rfl,trivial⟩
  simp [byt]
  omega
 ·have hv1:v<128:=by simp at hc;omega
  have hv2:venc v=[UInt8.ofNat v]:=by rw [venc,if_pos hv1]
  rw [hv2] at hv
  have e1:xs++byt pre++#[Value.int .u8 (IntKind.u8.wrap (v:Int))].toList=xs++byt (venc u):=by
   rw [←hv,wrap_u8];simp [byt]
  have e2:m+pre.length+1=m+(venc u).length:=by simp [←hv,Nat.add_assoc]
  rw [e1,e2]
  exact ZK (o',cap') rfl trivial
def Wtr (b:Nat) (bs:List UInt8):HP:=fun h=>∃q:Option Addr×Nat,Sep [Pt b (.cells #[.slice q.1 bs.length q.2,.int .i64 0] 254),Row 5 1 q.1 bs.length q.2 (byt bs)] h
theorem k_wtr {b:Nat} {bs:List UInt8} (t:∀o cap,Wk n C k Q E F (Pt b (.cells #[.slice o bs.length cap,.int .i64 0] 254)::Row 5 1 o bs.length cap (byt bs)::R0)) (hs:Sel (Wtr b bs) R R0:=by (repeat (first|exact Sel.here|apply Sel.there));first|done|fail):Wk n C k Q E F R:=
 Z6 (X:=Option Addr×Nat) (p:=fun _=>True) hs (fun _ ⟨q,h⟩=>⟨q,trivial,h⟩) fun q _=>t q.1 q.2
theorem l_wtr {b:Nat} {bs:List UInt8} {ops l:List Oper} (t:∀o cap,Wl n C ops.toArray k Q l E F (Pt b (.cells #[.slice o bs.length cap,.int .i64 0] 254)::Row 5 1 o bs.length cap (byt bs)::R0)) (hs:Sel (Wtr b bs) R R0:=by (repeat (first|exact Sel.here|apply Sel.there));first|done|fail):Wl n C ops.toArray k Q l E F R:=
 l_open (X:=Option Addr×Nat) (p:=fun _=>True) hs (fun _ ⟨q,h⟩=>⟨q,trivial,h⟩) fun q _=>t q.1 q.2
theorem k_wtr' {b:Nat} {bs:List UInt8} {o:Option Addr} {cap:Nat} (t:Wk n C k Q E F (Wtr b bs::R0)) (hs:Sels [Pt b (.cells #[.slice o bs.length cap,.int .i64 0] 254),Row 5 1 o bs.length cap (byt bs)] R R0:=by (repeat (first|exact Sels.nil|exact Sel.here|apply Sel.there|apply Sels.cons));first|done|fail):Wk n C k Q E F R:=
 Zs (fun _ h=>⟨(o,cap),h⟩) t hs
theorem newWriter_ok:Enters 85∧Spec prog 85 #[] [] [] ⟨Nat,fun b=>.pointer (some ⟨b,0,none⟩),fun _=>True,fun _=>[],fun b=>[Wtr b []]⟩:=by
 refine ZM [] func85 ntmps85 fun G w hp=>?_
 repeat' (first|refine ZE ?_|refine ZD ?_|refine ZF ?_|refine ZR (fun b=>?_)|fail)
 refine Zs (Lx:=[]) (r:=Row 5 1 none 0 0 []) (fun h _=>Yj _ _ h) ?_
 refine k_wtr' (bs:=[]) (o:=none) (cap:=0) (b:=b) ?_
 exact ZK b rfl trivial
theorem Uc (b:Nat) (bs:List UInt8):Enters 195∧Spec prog 195 #[.pointer (some ⟨b,0,none⟩)] [] [Wtr b bs] ⟨Unit,fun _=>.bool true,fun _=>True,fun _=>[],fun _=>[Wtr b bs]⟩:=by
 refine ZM [_] func195 ntmps195 fun G w hp=>?_
 refine k_wtr fun o cap=>?_
 repeat' (first|refine ZE ?_|refine ZD ?_|refine ZL ?_|refine ZF ?_|refine ZS ?_|fail)
 refine k_wtr' ?_
 exact ZK () rfl trivial
theorem Wc {u:Nat} (hu:u<18446744073709551616):IntKind.u64.wrap (u:Int)=(u:Int):=by
 simp [IntKind.wrap,IntKind.bits,IntKind.signed];omega
theorem wtrNumber_ok (b:Nat) (bs:List UInt8) (u:Nat) (hu:u<9223372036854775808) (hl:bs.length≤1099511627776):Enters 138∧Spec prog 138 #[.pointer (some ⟨b,0,none⟩),.int .i64 (u:Int)] [] [Wtr b bs] ⟨Unit,fun _=>.tuple #[],fun _=>True,fun _=>[],fun _=>[Wtr b (bs++venc u)]⟩:=by
 have hu':u<18446744073709551616:=by omega
 refine ZM [_,_] func138 ntmps138 fun G w hp=>?_
 repeat' (first|refine ZE ?_|refine ZD ?_|refine ZF ?_|refine ZS ?_|refine ZV ?_|refine ZB ?_|refine ZC (Uc _ _) (fun _ _=>?_)|refine ZC (WR _ _ _ _ _ (by omega) (by omega)) (fun _ _=>?_)|refine l_wtr (fun o cap=>?_)|rw [Wc hu']|fail)
 rename_i q _
 rw [←List.length_append,←XB]
 refine k_wtr' (o:=q.1) (cap:=q.2) ?_
 exact Yc () rfl trivial
theorem wtrText_ok (b:Nat) (bs:List UInt8) (s:ByteArray) (hs:s.size≤16777216) (hl:bs.length≤1000000000000):Enters 139∧Spec prog 139 #[.pointer (some ⟨b,0,none⟩),.string s] [] [Wtr b bs] ⟨Unit,fun _=>.tuple #[],fun _=>True,fun _=>[],fun _=>[Wtr b (bs++venc s.size++s.data.toList)]⟩:=by
 have hu':s.size<18446744073709551616:=by omega
 have hl0:=XA s.size hu'
 have hc:decide ((16777216:Int)<(s.size:Int))=false:=by simp;omega
 refine ZM [_,_] func139 ntmps139 fun G w hp=>?_
 repeat' (first|refine ZE ?_|refine ZD ?_|refine ZF ?_|refine ZS ?_|refine ZV ?_|refine ZB ?_|refine ZC (Uc _ _) (fun _ _=>?_)|refine ZC (WR _ bs.length _ _ s.size hu' (by omega)) (fun _ _=>?_)|refine l_wtr (fun o cap=>?_)|rw [Wc hu']|rw [hc]|refine l_appS (fun o' cap'=>?_)|fail)
 have e1:bs.length+(venc s.size).length+s.size=(bs++venc s.size++s.data.toList).length:=by simp;omega
 have e2:(byt bs++byt (venc s.size)++s.data.toList.map fun b=>.int .u8 b.toNat)=byt (bs++venc s.size++s.data.toList):=by simp [byt]
 rw [e1,e2]
 refine k_wtr' (o:=o') (cap:=cap') ?_
 exact Yc () rfl trivial
theorem clone_ok (o:Option Addr) (bs:List UInt8) (cap:Nat) (hl:bs.length≤1099511627776):Enters 140∧Spec prog 140 #[.slice o bs.length cap] [] [Row 5 1 o bs.length cap (byt bs)]
  ⟨Option Addr×Nat,fun q=>.slice q.1 bs.length q.2,fun _=>True,fun _=>[],fun q=>[Row 5 1 q.1 bs.length q.2 (byt bs),Row 5 1 o bs.length cap (byt bs)]⟩:=by
 refine ZM [_] func140 ntmps140 fun G w hp=>?_
 cases o with
 | none=>
  refine Z6 (X:=Unit) (p:=fun _=>bs=[]∧cap=0) (Lx:=fun _=>[]) Sel.here (fun h hr=>⟨(),?_,trivial⟩) (fun _ hb=>?_)
  ·rcases hr with ⟨_,_,h3,h4⟩|⟨_,_,_,h1,_⟩
   ·exact ⟨by simpa [byt] using h4,h3⟩
   ·cases h1
  obtain ⟨rfl,rfl⟩:=hb
  repeat' (first|refine ZE ?_|refine ZD ?_|refine ZF ?_|refine ZH ?_|fail)
  refine Zs (Lx:=[]) (r:=Row 5 1 none 0 0 []) (fun h _=>Yj _ _ h) ?_
  refine Zs (Lx:=[]) (r:=Row 5 1 none 0 0 []) (fun h _=>Yj _ _ h) ?_
  exact ZK (none,0) rfl trivial
 | some a=>
  repeat' (first|refine ZE ?_|refine ZD ?_|refine ZF ?_|refine ZX (fun b=>?_)|refine ZB ?_|refine l_shut (row_zero (sz:=1)) ?_|refine l_appR (fun o' cap'=>?_)|fail)
  rw [Nat.zero_add]
  exact ZK (o',cap') rfl trivial
theorem wtrBytes_ok (b:Nat) (bs:List UInt8) (hl:bs.length≤1099511627776):Enters 87∧Spec prog 87 #[.pointer (some ⟨b,0,none⟩)] [] [Wtr b bs]
  ⟨Option Addr×Nat,fun q=>.tuple #[.slice q.1 bs.length q.2,.int .i64 0],fun _=>True,fun _=>[],fun q=>[Row 5 1 q.1 bs.length q.2 (byt bs),Wtr b bs]⟩:=by
 refine ZM [_] func87 ntmps87 fun G w hp=>?_
 refine k_wtr fun o cap=>?_
 repeat' (first|refine ZE ?_|refine ZD ?_|refine ZF ?_|refine ZS ?_|refine ZB ?_|refine ZC (clone_ok _ _ _ (by omega)) (fun _ _=>?_)|fail)
 rename_i q _
 refine k_wtr' (bs:=bs) (o:=o) (cap:=cap) (b:=b) ?_
 exact ZK q rfl trivial
end
def lastN (bs:List UInt8) (most:Nat):Nat:=((bs.take most).takeWhile fun b=>decide (128≤b.toNat)).length
def dval:List UInt8→Nat
 | []=>0
 | b::l=>b.toNat % 128+128 * dval l
def pnat (bs:List UInt8) (most:Nat):Nat×Nat×Int:=
 let m:=lastN bs most
 if m=most then (0,0,3) else match bs[m]? with
  | none=>(0,0,28)
  | some b=>if 0<m∧b.toNat=0 then (0,0,3) else if m=9∧1<b.toNat then (0,0,3) else (dval (bs.take (m+1)) % 18446744073709551616,m+1,0)
theorem lastN_le (bs:List UInt8) (most:Nat):lastN bs most≤bs.length∧lastN bs most≤most:=by
 have h:=(List.takeWhile_sublist (p:=fun b:UInt8=>decide (128≤b.toNat)) (l:=bs.take most)).length_le
 rw [List.length_take] at h
 unfold lastN
 omega
theorem Ws:∀{bs:List UInt8} {most j:Nat},j≤bs.length→j≤most→(∀i<j,∃b,bs[i]? = some b∧128≤b.toNat)→(j=bs.length∨j=most∨∃b,bs[j]? = some b∧b.toNat<128)→lastN bs most=j
 | [],most,j,h1,_,_,_=>by
  have:j=0:=by simpa using h1
  subst this;simp [lastN]
 | b::bs,0,j,_,h2,_,_=>by
  have:j=0:=by omega
  subst this;simp [lastN]
 | b::bs,most+1,0,_,_,_,h4=>by
  rcases h4 with h|h|⟨c,hc,hl⟩
  ·simp at h
  ·omega
  ·simp at hc;subst hc
   have:¬(128≤b.toNat):=by omega
   simp [lastN,this]
 | b::bs,most+1,j+1,h1,h2,h3,h4=>by
  obtain ⟨c,hc,hb⟩:=h3 0 (by omega)
  simp at hc;subst hc
  have ih:=Ws (bs:=bs) (most:=most) (j:=j) (by simpa using h1) (by omega) (fun i hi=>by simpa using h3 (i+1) (by omega)) (by
   rcases h4 with h|h|h
   ·left;simpa using h
   ·right;left;omega
   ·right;right;simpa using h)
  unfold lastN at ih ⊢
  simp [hb,ih]
theorem wrapi {z:Int} (h1 : -9223372036854775808≤z) (h2:z<9223372036854775808):IntKind.i64.wrap z=z:=by
 simp [IntKind.wrap,IntKind.bits,IntKind.signed];omega
theorem and_127:∀x:Fin 256,x.val &&& 127=x.val % 128:=by decide +kernel
theorem step7 (u x:Nat) (hx:x<256):IntKind.u64.wrap ((BitVec.ofInt IntKind.u64.bits (IntKind.u64.wrap ((u:Int) * 2 ^ min (Int.toNat 7) IntKind.u64.bits)) ||| BitVec.ofInt IntKind.u64.bits (IntKind.u64.wrap (IntKind.u8.wrap ((BitVec.ofInt IntKind.u8.bits (x:Int) &&& BitVec.ofInt IntKind.u8.bits 127).toNat:Int)))).toNat:Int)
  = (((x % 128+128 * u) % 18446744073709551616:Nat):Int):=by
 have h1:(BitVec.ofInt IntKind.u8.bits (x:Int) &&& BitVec.ofInt IntKind.u8.bits 127).toNat=x % 128:=by
  show (BitVec.ofInt 8 (x:Int) &&& BitVec.ofInt 8 127).toNat=_
  rw [BitVec.toNat_and,BitVec.ofInt_natCast,BitVec.toNat_ofNat,Nat.mod_eq_of_lt (show x<2 ^ 8 by omega)]
  exact and_127 ⟨x,hx⟩
 have h2:IntKind.u64.wrap (IntKind.u8.wrap ((x % 128:Nat):Int))=((x % 128:Nat):Int):=by
  simp [IntKind.wrap,IntKind.bits,IntKind.signed];omega
 have h3:IntKind.u64.wrap ((u:Int) * 2 ^ min (Int.toNat 7) IntKind.u64.bits)=((128 * (u % 144115188075855872):Nat):Int):=by
  have:(2:Int) ^ min (Int.toNat 7) IntKind.u64.bits=128:=by decide
  rw [this]
  simp [IntKind.wrap,IntKind.bits,IntKind.signed];omega
 rw [h1,h2,h3]
 have h4:(BitVec.ofInt IntKind.u64.bits ((128 * (u % 144115188075855872):Nat):Int) ||| BitVec.ofInt IntKind.u64.bits ((x % 128:Nat):Int)).toNat=128 * (u % 144115188075855872)+x % 128:=by
  show (BitVec.ofInt 64 ((128 * (u % 144115188075855872):Nat):Int) ||| BitVec.ofInt 64 ((x % 128:Nat):Int)).toNat=_
  rw [BitVec.toNat_or,BitVec.ofInt_natCast,BitVec.ofInt_natCast,BitVec.toNat_ofNat,BitVec.toNat_ofNat,Nat.mod_eq_of_lt (show 128 * (u % 144115188075855872)<2 ^ 64 by omega),Nat.mod_eq_of_lt (show x % 128<2 ^ 64 by omega)]
  exact (Nat.two_pow_add_eq_or_of_lt (i:=7) (show x % 128<2 ^ 7 by omega) _).symm
 rw [h4]
 simp [IntKind.wrap,IntKind.bits,IntKind.signed];omega
structure DX (bs:List UInt8) (m:Nat) where
 c:Nat
 u:Nat
 z:Int
 hc:c≤m+1
 hz:z=(c:Int) - 1
 hu:u=dval ((bs.take (m+1)).drop c) % 18446744073709551616
theorem Ul (o:Option Addr) (cap:Nat) (bs:List UInt8) (most:Nat) (hlen:bs.length≤1099511627776) :
  Enters 206∧Spec prog 206 #[.slice o bs.length cap,.int .i64 (most:Int)] [Sl 5 bf o cap bs] []
   (RetV (.tuple #[.int .u64 ((pnat bs most).1:Int),.int .i64 ((pnat bs most).2.1:Int),.int .i64 (pnat bs most).2.2])):=by
 refine ZM [_,_] func206 ntmps206 fun G w hp=>?_
 repeat' (first|refine ZE ?_|refine ZD ?_|refine ZF ?_|fail)
 refine Yw (X:={j:Nat // j≤bs.length∧j≤most∧∀i<j,∃b,bs[i]? = some b∧128≤b.toNat}) (Y:={j:Nat // lastN bs most=j}) (fun j=>[(0,.slice o bs.length cap),(1,.int .i64 (most:Int)),(7,.int .i64 (j.1:Int))]) (fun _=>[Sl 5 bf o cap bs]) (fun q=>[]) (fun j=>bs.length - j.1)
  (fun j=>[(0,.slice o bs.length cap),(1,.int .i64 (most:Int)),(7,.int .i64 (j.1:Int))]) (fun _=>[Sl 5 bf o cap bs]) (fun q=>[]) ⟨0,by omega,by omega,by omega⟩ ⟨rfl,rfl,rfl,trivial⟩ ?_ ?_
 ·rintro ⟨m,hm⟩
  obtain ⟨hm1,hm2⟩:=lastN_le bs most
  generalize hpn:pnat bs most=p
  unfold pnat at hpn
  rw [hm] at hm1 hm2 hpn
  dsimp only at hpn ⊢
  repeat' (first|refine ZE ?_|refine ZD ?_|refine ZL ?_|refine ZF ?_|refine ZB ?_|refine l_ix bs m (by omega) (fun b off=>?_)|refine XV ?_|(refine ZJ (fun hc=>?_) (fun hc=>?_)<;>(try simp at hc))|(refine ZG (fun hc=>?_) (fun hc=>?_)<;>(try simp at hc))|fail)
  all_goals try (refine ZK () ?_ trivial;have e1:m=most:=(by omega);rw [if_pos e1] at hpn;rw [←hpn];rfl)
  all_goals have e1:m≠most:=(by omega)
  all_goals rw [if_neg e1] at hpn
  all_goals try (refine ZK () ?_ trivial;have e2:bs[m]? = none:=List.getElem?_eq_none (by omega);rw [e2] at hpn;rw [←hpn];rfl)
  all_goals have e2:bs[m]? = some bs[m]:=List.getElem?_eq_getElem (by omega)
  all_goals rw [e2] at hpn
  all_goals dsimp only at hpn
  all_goals try (refine ZK () ?_ trivial;rw [if_pos (by omega)] at hpn;rw [←hpn];rfl)
  all_goals rw [if_neg (by omega)] at hpn
  all_goals try (refine ZK () ?_ trivial;rw [if_pos (by omega)] at hpn;rw [←hpn];rfl)
  all_goals rw [if_neg (by omega)] at hpn
  all_goals
   refine Z8 (X:=DX bs m) (fun q=>[(0,.slice o bs.length cap),(7,.int .i64 (m:Int)),(8,.int .u64 (q.u:Int)),(9,.int .i64 q.z)]) (fun _=>[Sl 5 bf o cap bs]) (fun q=>[]) (fun q=>q.c) ⟨m+1,0,m,by omega,by omega,by simp [dval]⟩ ⟨rfl,rfl,rfl,rfl,trivial⟩ ?_
   rintro ⟨c,u,z,hc1,hc2,hc3⟩
   dsimp only
   repeat' (first|refine ZE ?_|refine ZD ?_|refine ZF ?_|refine ZW ?_|refine l_ix bs (c - 1) (by omega) (fun b off=>?_)|refine XV ?_|(refine ZG (fun hc=>?_) (fun hc=>?_)<;>(try simp at hc))|fail)
   ·have hlt:c - 1<bs.length:=by omega
    rw [step7 u _ (UInt8.toNat_lt _),wrapi (z:=z - 1) (by omega) (by omega)]
    refine Zb ⟨c - 1,_,_,by omega,?_,?_⟩ (by show c - 1<c;omega) ⟨rfl,rfl,rfl,rfl,trivial⟩
    ·omega
    ·have hd:(bs.take (m+1)).drop (c - 1)=bs[c - 1]::(bs.take (m+1)).drop c:=by
      rw [List.drop_eq_getElem_cons (by simp;omega)]
      simp;congr 1;omega
     rw [hd,dval,hc3]
     omega
   ·refine ZK () ?_ trivial
    have hc0:c=0:=by omega
    subst hc0
    rw [←hpn,hc3]
    have e:IntKind.i64.wrap ((m:Int)+1)=((m+1:Nat):Int):=by simp [IntKind.wrap,IntKind.bits,IntKind.signed];omega
    rw [e]
    rfl
 rintro hx ⟨j,hj1,hj2,hj3⟩
 dsimp only
 repeat' (first|refine ZE ?_|refine ZD ?_|refine ZL ?_|refine ZF ?_|refine ZB ?_|refine l_ix bs j (by omega) (fun b off=>?_)|refine XV ?_|(refine ZJ (fun hc=>?_) (fun hc=>?_)<;>(try simp at hc))|(refine ZG (fun hc=>?_) (fun hc=>?_)<;>(try simp at hc))|fail)
 ·have hlt:j<bs.length:=by omega
  have e:IntKind.i64.wrap ((j:Int)+1)=((j+1:Nat):Int):=by simp [IntKind.wrap,IntKind.bits,IntKind.signed];omega
  rw [e]
  refine Zb ⟨j+1,by omega,by omega,fun i hi=>?_⟩ (by show bs.length - (j+1)<bs.length - j;omega) ⟨rfl,rfl,rfl,trivial⟩
  by_cases hij:i=j
  ·subst hij;exact ⟨bs[i],List.getElem?_eq_getElem hlt,by omega⟩
  ·exact hj3 i (by omega)
 ·have e:lastN bs most=j:=Ws hj1 hj2 hj3 (by right;right;exact ⟨bs[j],List.getElem?_eq_getElem (by omega),by omega⟩)
  exact Z2 hx ⟨j,e⟩ ⟨rfl,rfl,rfl,trivial⟩
 ·have e:lastN bs most=j:=Ws hj1 hj2 hj3 (by omega)
  exact Z2 hx ⟨j,e⟩ ⟨rfl,rfl,rfl,trivial⟩
 ·have e:lastN bs most=j:=Ws hj1 hj2 hj3 (by omega)
  exact Z2 hx ⟨j,e⟩ ⟨rfl,rfl,rfl,trivial⟩
variable {E':List (Nat×Value)} {F' F1 Fs F0:List Pf} {R' Rs N N' A:List HP} {k':List Fr} {ops:List Oper} {L L':List (Nat×Nat)} {Tl:List Nat} {d:Nat} {t ty0:TypeId} {x y:Operand} {pos:String} {aft:Array Edge} {gd:Option (Nat×Bool)}
section
variable {l:List Oper} {i:Nat}
theorem run_callF {f:FuncId} {fs cs:Array Value} (hf:Enters f) {args:Array Operand} {tys:Array TypeId} {vs:List Value} (hx:ev E x=some (.func (.func f) fs cs)) (hargs:evs (ev E) args.toList some=some vs) {a:Act} {ds:List Deferred} (ha:Agree n ds (look E) a) (w:World) (dst:Option Tmp) :
  (execOp a.eval ⟨dst,.call ⟨.value x,args,tys⟩,ty0,pos,aft,gd⟩).run prog w = .ok (.enter f (fs++vs.toArray++cs)) w:=by
 obtain ⟨us,_,h2,h3⟩:=Ve _ _ _ hargs
 obtain rfl:=Option.some.inj h2
 have e1:=h3 a.eval fun x _ u hu=>ha.ev (by rw [ZQ];exact hu)
 have e3:args.map a.eval=us.toArray:=by rw [←Array.toList_inj];simpa using e1
 have e0:=ha.ev (x:=x) (by rw [ZQ];exact hx)
 simp only [execOp,resolve,e0,Deferred.ofValue,Sem.run_bind,Sem.run_pure,Result.andThen,invoke]
 have e4:(args.map fun x=>a.eval x)=us.toArray:=e3
 rw [e4]
 exact hf _ w
theorem l_callF {f:FuncId} {fs cs:Array Value} {args:Array Operand} {tys:Array TypeId} {vs us:List Value} {post:Post} (spec:Enters f∧Spec prog f us.toArray F1 A post)
  (nx:∀x,post.pure x→Wl n C ops.toArray k Q l ((d,post.val x)::E) (post.F x++F) (post.R x++R')) (hw:wantL ops E ⟨some d,.call ⟨.value x,args,tys⟩,ty0,pos,aft,gd⟩=some true:=by rfl) (hn:Nat.blt d n=true:=by rfl)
  (hx:ev E x=some (.func (.func f) fs cs):=by rfl) (hargs:evs (ev E) args.toList some=some vs:=by rfl) (has:fs.toList++vs++cs.toList=us:=by rfl) (sel:Sels A R R':=by (repeat (first|exact Sels.nil|exact Sel.here|apply Sel.there|apply Sels.cons));first|done|fail)
  (hF:EntF F F1:=by (repeat (first|exact trivial|exact Sel.here|apply Sel.there|apply EntF.cons));first|done|fail) :
  Wl n C ops.toArray k Q (⟨some d,.call ⟨.value x,args,tys⟩,ty0,pos,aft,gd⟩::l) E F R:=
 YB (fun t ht=>by cases ht;exact Nat.le_of_ble_eq_true hn) (fun c hc=>by cases hc) hw fun a w ha hsat=>by
  unfold OpRes
  rw [run_callF spec.1 hx hargs ha w]
  have e:fs++vs.toArray++cs=us.toArray:=by rw [←has,←Array.toList_inj];simp
  rw [e]
  refine Yn spec.2 hsat sel hF.all fun x w' hx hs'=>?_
  exact fun a' ha'=>nx x hx a' w' ha' hs'
end
theorem dval_lt:∀l:List UInt8,dval l<128 ^ l.length
 | []=>by simp [dval]
 | b::l=>by
  have:=dval_lt l
  rw [dval,List.length_cons,Nat.pow_succ]
  omega
theorem V3 (bs:List UInt8):(pnat bs 9).1<9223372036854775808∧(pnat bs 9).2.1≤bs.length:=by
 have hl:=lastN_le bs 9
 have hd:=dval_lt (bs.take (lastN bs 9+1))
 unfold pnat
 dsimp only
 split
 ·simp
 ·rename_i hne
  split
  ·simp
  ·rename_i b hb
   have hlt:=(List.getElem?_eq_some_iff.1 hb).1
   split
   ·simp
   ·split
    ·simp
    ·refine ⟨?_,by dsimp only;omega⟩
     have h1:(bs.take (lastN bs 9+1)).length≤9:=by simp;omega
     have h2:128 ^ (bs.take (lastN bs 9+1)).length≤128 ^ 9:=Nat.pow_le_pow_right (by omega) h1
     have h3:(128:Nat) ^ 9=9223372036854775808:=by decide
     have:=Nat.mod_le (dval (bs.take (lastN bs 9+1))) 18446744073709551616
     dsimp only;omega
theorem parse_ok (o:Option Addr) (cap:Nat) (bs:List UInt8) (hlen:bs.length≤1099511627776) :
  Enters 164∧Spec prog 164 #[.slice o bs.length cap] [Sl 5 bf o cap bs] []
   (RetV (.tuple #[.int .i64 ((pnat bs 9).1:Int),.int .i64 ((pnat bs 9).2.1:Int),.int .i64 (pnat bs 9).2.2])):=by
 have h1:=V3 bs
 refine ZM [_] func164 ntmps164 fun G w hp=>?_
 repeat' (first|refine ZE ?_|refine ZD ?_|refine ZF ?_|refine ZC (Ul _ _ _ 9 hlen) (fun _ _=>?_)|fail)
 rw [wrapi (z:=((pnat bs 9).1:Int)) (by omega) (by omega)]
 exact ZK () rfl trivial
def pnum (bs:List UInt8) (most:Int):Int×Nat×Int:=
 ((pnat bs 9).1,(pnat bs 9).2.1,if (pnat bs 9).2.2=0∧most<(pnat bs 9).1 then 2 else (pnat bs 9).2.2)
theorem numberF_ok (o:Option Addr) (cap:Nat) (bs:List UInt8) (b:Nat) (most:Int) (hlen:bs.length≤1099511627776) :
  Enters 163∧Spec prog 163 #[.slice o bs.length cap,.pointer (some ⟨b,0,none⟩)] [Sl 5 bf o cap bs] [Pt b (.cells #[.int .i64 most] 3)]
   ⟨Unit,fun _=>.tuple #[.int .i64 (pnum bs most).1,.int .i64 ((pnum bs most).2.1:Int),.int .i64 (pnum bs most).2.2],fun _=>True,fun _=>[],fun _=>[Pt b (.cells #[.int .i64 most] 3)]⟩:=by
 refine ZM [_,_] func163 ntmps163 fun G w hp=>?_
 repeat' (first|refine ZE ?_|refine ZD ?_|refine ZL ?_|refine ZF ?_|refine ZS ?_|refine ZB ?_|refine ZC (parse_ok _ _ _ hlen) (fun _ _=>?_)|(refine ZJ (fun hc=>?_) (fun hc=>?_)<;>(try simp at hc))|(refine ZG (fun hc=>?_) (fun hc=>?_)<;>(try simp at hc))|fail)
 all_goals (refine ZK () ?_ trivial;simp_all [pnum,resV]<;>omega)
def ptext (bs:List UInt8) (most:Int):ByteArray×Nat×Int:=
 if (pnat bs 9).2.2≠0 then (⟨#[]⟩,0,(pnat bs 9).2.2)
 else if most<(pnat bs 9).1∨16777216<(pnat bs 9).1 then (⟨#[]⟩,0,5)
 else if bs.length<(pnat bs 9).2.1+(pnat bs 9).1 then (⟨#[]⟩,0,28)
 else (⟨((bs.take ((pnat bs 9).2.1+(pnat bs 9).1)).drop (pnat bs 9).2.1).toArray⟩,(pnat bs 9).2.1+(pnat bs 9).1,0)
theorem textF_ok (o:Option Addr) (cap:Nat) (bs:List UInt8) (b:Nat) (most:Int) (hlen:bs.length≤1099511627776) :
  Enters 166∧Spec prog 166 #[.slice o bs.length cap,.pointer (some ⟨b,0,none⟩)] [Sl 5 bf o cap bs] [Pt b (.cells #[.int .i64 most] 3)]
   ⟨Unit,fun _=>.tuple #[.string (ptext bs most).1,.int .i64 ((ptext bs most).2.1:Int),.int .i64 (ptext bs most).2.2],fun _=>True,fun _=>[],fun _=>[Pt b (.cells #[.int .i64 most] 3)]⟩:=by
 obtain ⟨h1,h2⟩:=V3 bs
 refine ZM [_,_] func166 ntmps166 fun G w hp=>?_
 generalize hp:ptext bs most=p
 unfold ptext at hp
 generalize hq:pnat bs 9=q at *
 have hpar:=parse_ok o cap bs hlen
 rw [hq] at hpar
 obtain ⟨u,sz,e⟩:=q
 dsimp only at *
 repeat' (first|refine ZE ?_|refine ZD ?_|refine ZL ?_|refine ZF ?_|refine ZS ?_|refine ZH ?_|refine ZC (hpar) (fun _ _=>?_)|rw [wrapi (z:=(bs.length:Int) - (sz:Int)) (by omega) (by omega)]|rw [wrapi (z:=(sz:Int)+(u:Int)) (by omega) (by omega)]|refine l_slLH (es:=bs) sz (sz+u) (by omega) (by omega) (fun o'=>?_)|refine l_b2s ?_|(refine ZJ (fun hc=>?_) (fun hc=>?_)<;>(try simp at hc))|(refine ZG (fun hc=>?_) (fun hc=>?_)<;>(try simp at hc))|fail)
 all_goals refine ZK () ?_ trivial
 all_goals rw [←hp]
 all_goals repeat (first|rw [if_pos (by omega)]|rw [if_neg (by omega)])
 all_goals simp [resV]
structure RS where
 rest:List UInt8
 pos:Nat
 err:Int
def Rdr (b:Nat) (o:Option Addr) (cap:Nat) (s:RS):HP:=Pt b (.cells #[.slice o s.rest.length cap,.int .i64 (s.pos:Int),.int .i64 s.err] 282)
def rstep {α:Type} (zero:α) (s:RS) (p:α×Nat×Int):α×RS:=
 if s.err≠0 then (zero,s) else if p.2.2≠0 then (zero,⟨s.rest,s.pos,p.2.2⟩) else (p.1,⟨s.rest.drop p.2.1,s.pos+p.2.1,0⟩)
theorem readInt_ok (b g:Nat) (o:Option Addr) (cap:Nat) (s:RS) (c:Value) (bx:Nat) (obj:Obj) (p:Int×Nat×Int) (hb:s.pos+s.rest.length≤1099511627776) (hpl:p.2.1≤s.rest.length)
  (hg:Enters g∧Spec prog g #[.slice o s.rest.length cap,c] [Sl 5 bf o cap s.rest] [Pt bx obj] ⟨Unit,fun _=>.tuple #[.int .i64 p.1,.int .i64 (p.2.1:Int),.int .i64 p.2.2],fun _=>True,fun _=>[],fun _=>[Pt bx obj]⟩) :
  Enters 162∧Spec prog 162 #[.pointer (some ⟨b,0,none⟩),.func (.func g) #[] #[c]] [Sl 5 bf o cap s.rest] [Rdr b o cap s,Pt bx obj]
   ⟨Option Addr×Nat,fun _=>.int .i64 (rstep 0 s p).1,fun _=>True,fun q=>[Sl 5 bf q.1 q.2 (rstep 0 s p).2.rest],fun q=>[Rdr b q.1 q.2 (rstep 0 s p).2]⟩:=by
 obtain ⟨bs,at0,er⟩:=s
 obtain ⟨v,sz,e⟩:=p
 generalize hr:rstep 0 (RS.mk bs at0 er) (v,sz,e)=r
 unfold rstep at hr
 unfold Rdr
 dsimp only at *
 refine ZM [_,_] func162 ntmps162 fun G w hp=>?_
 repeat' (first|refine ZE ?_|refine ZD ?_|refine ZL ?_|refine ZF ?_|refine ZS ?_|refine ZV ?_|refine l_callF hg (fun _ _=>?_)|refine l_slL (es:=bs) sz hpl (fun o'=>?_)|rw [wrapi (z:=(at0:Int)+(sz:Int)) (by omega) (by omega),←Int.natCast_add]|(refine ZG (fun hc=>?_) (fun hc=>?_)<;>(try simp at hc))|fail)
 ·rw [if_pos hc] at hr
  subst hr
  exact ZK (o,cap) rfl trivial
 ·rw [if_neg (by omega),if_pos hc] at hr
  subst hr
  exact ZK (o,cap) rfl trivial
 ·rename_i h0 _ _
  subst h0
  rw [if_neg (by omega),if_neg (by omega)] at hr
  subst hr
  exact ZK (o',cap - sz) rfl trivial
theorem readStr_ok (b g:Nat) (o:Option Addr) (cap:Nat) (s:RS) (c:Value) (bx:Nat) (obj:Obj) (p:ByteArray×Nat×Int) (hb:s.pos+s.rest.length≤1099511627776) (hpl:p.2.1≤s.rest.length)
  (hg:Enters g∧Spec prog g #[.slice o s.rest.length cap,c] [Sl 5 bf o cap s.rest] [Pt bx obj] ⟨Unit,fun _=>.tuple #[.string p.1,.int .i64 (p.2.1:Int),.int .i64 p.2.2],fun _=>True,fun _=>[],fun _=>[Pt bx obj]⟩) :
  Enters 165∧Spec prog 165 #[.pointer (some ⟨b,0,none⟩),.func (.func g) #[] #[c]] [Sl 5 bf o cap s.rest] [Rdr b o cap s,Pt bx obj]
   ⟨Option Addr×Nat,fun _=>.string (rstep ⟨#[]⟩ s p).1,fun _=>True,fun q=>[Sl 5 bf q.1 q.2 (rstep ⟨#[]⟩ s p).2.rest],fun q=>[Rdr b q.1 q.2 (rstep ⟨#[]⟩ s p).2]⟩:=by
 obtain ⟨bs,at0,er⟩:=s
 obtain ⟨v,sz,e⟩:=p
 generalize hr:rstep ⟨#[]⟩ (RS.mk bs at0 er) (v,sz,e)=r
 unfold rstep at hr
 unfold Rdr
 dsimp only at *
 refine ZM [_,_] func165 ntmps165 fun G w hp=>?_
 repeat' (first|refine ZE ?_|refine ZD ?_|refine ZL ?_|refine ZF ?_|refine ZS ?_|refine ZV ?_|refine l_callF hg (fun _ _=>?_)|refine l_slL (es:=bs) sz hpl (fun o'=>?_)|rw [wrapi (z:=(at0:Int)+(sz:Int)) (by omega) (by omega),←Int.natCast_add]|(refine ZG (fun hc=>?_) (fun hc=>?_)<;>(try simp at hc))|fail)
 ·rw [if_pos hc] at hr
  subst hr
  exact ZK (o,cap) rfl trivial
 ·rw [if_neg (by omega),if_pos hc] at hr
  subst hr
  exact ZK (o,cap) rfl trivial
 ·rename_i h0 _ _
  subst h0
  rw [if_neg (by omega),if_neg (by omega)] at hr
  subst hr
  exact ZK (o',cap - sz) rfl trivial
def rnum (s:RS) (most:Int):Int×RS:=rstep 0 s (pnum s.rest most)
def rtext (s:RS) (most:Int):ByteArray×RS:=rstep ⟨#[]⟩ s (ptext s.rest most)
theorem pnum_le (bs:List UInt8) (most:Int):(pnum bs most).2.1≤bs.length:=(V3 bs).2
theorem ptext_le (bs:List UInt8) (most:Int):(ptext bs most).2.1≤bs.length:=by
 have:=(V3 bs).2
 unfold ptext
 split
 ·simp
 ·split
  ·simp
  ·split
   ·simp
   ·dsimp only;omega
theorem rstep_le {α:Type} (z:α) (s:RS) (p:α×Nat×Int) (hp:p.2.1≤s.rest.length):(rstep z s p).2.pos+(rstep z s p).2.rest.length≤s.pos+s.rest.length:=by
 unfold rstep
 split
 ·simp
 ·split
  ·simp
  ·simp;omega
theorem YG (b:Nat) (o:Option Addr) (cap:Nat) (s:RS) (most:Int) (hb:s.pos+s.rest.length≤1099511627776) :
  Enters 118∧Spec prog 118 #[.pointer (some ⟨b,0,none⟩),.int .i64 most] [Sl 5 bf o cap s.rest] [Rdr b o cap s]
   ⟨Option Addr×Nat,fun _=>.int .i64 (rnum s most).1,fun _=>True,fun q=>[Sl 5 bf q.1 q.2 (rnum s most).2.rest],fun q=>[Rdr b q.1 q.2 (rnum s most).2]⟩:=by
 refine ZM [_,_] func118 ntmps118 fun G w hp=>?_
 repeat' (first|refine ZE ?_|refine ZD ?_|refine ZF ?_|refine ZR (fun b=>?_)|refine ZC (readInt_ok _ _ _ _ s _ _ _ (pnum s.rest most) hb (pnum_le _ _) (numberF_ok _ _ _ _ most (by omega))) (fun _ _=>?_)|fail)
 rename_i q _
 exact ZK q rfl trivial
theorem rdrText_ok (b:Nat) (o:Option Addr) (cap:Nat) (s:RS) (most:Int) (hb:s.pos+s.rest.length≤1099511627776) :
  Enters 119∧Spec prog 119 #[.pointer (some ⟨b,0,none⟩),.int .i64 most] [Sl 5 bf o cap s.rest] [Rdr b o cap s]
   ⟨Option Addr×Nat,fun _=>.string (rtext s most).1,fun _=>True,fun q=>[Sl 5 bf q.1 q.2 (rtext s most).2.rest],fun q=>[Rdr b q.1 q.2 (rtext s most).2]⟩:=by
 refine ZM [_,_] func119 ntmps119 fun G w hp=>?_
 repeat' (first|refine ZE ?_|refine ZD ?_|refine ZF ?_|refine ZR (fun b=>?_)|refine ZC (readStr_ok _ _ _ _ s _ _ _ (ptext s.rest most) hb (ptext_le _ _) (textF_ok _ _ _ _ most (by omega))) (fun _ _=>?_)|fail)
 rename_i q _
 exact ZK q rfl trivial
theorem Vz (o:Option Addr) (cap:Nat) (bs:List UInt8) (hlen:bs.length≤1099511627776) :
  Enters 117∧Spec prog 117 #[.slice o bs.length cap] [] [Row 5 1 o bs.length cap (byt bs)]
   ⟨Nat×Option Addr×Nat,fun q=>.pointer (some ⟨q.1,0,none⟩),fun _=>True,fun q=>[Sl 5 bf q.2.1 q.2.2 bs],fun q=>[Rdr q.1 q.2.1 q.2.2 ⟨bs,0,0⟩,Row 5 1 o bs.length cap (byt bs)]⟩:=by
 refine ZM [_] func117 ntmps117 fun G w hp=>?_
 repeat' (first|refine ZE ?_|refine ZD ?_|refine ZF ?_|refine ZR (fun b=>?_)|refine ZC (clone_ok _ _ _ hlen) (fun _ _=>?_)|fail)
 rename_i q _
 refine k_frz (sz:=1) (f:=bf) (o:=q.1) (cap:=q.2) bs ?_ (Xw bs) rfl
 exact ZK (b,q.1,q.2) rfl trivial
theorem UW (b:Nat) (o:Option Addr) (cap:Nat) (s:RS) :
  Enters 120∧Spec prog 120 #[.pointer (some ⟨b,0,none⟩)] [] [Rdr b o cap s]
   ⟨Unit,fun _=>.int .i64 (if s.err≠0 then s.err else if s.rest=[] then 0 else 5),fun _=>True,fun _=>[],fun _=>[Rdr b o cap s]⟩:=by
 refine ZM [_] func120 ntmps120 fun G w hp=>?_
 unfold Rdr
 repeat' (first|refine ZE ?_|refine ZD ?_|refine ZF ?_|refine ZS ?_|refine ZB ?_|(refine ZG (fun hc=>?_) (fun hc=>?_)<;>(try simp at hc))|fail)
 all_goals (refine ZK () ?_ trivial;simp_all [resV,List.length_pos_iff])
section
variable {l:List Oper}
theorem l_sx {s:ByteArray} {z:Int} {rs:TRow} (i:Nat) (hlt:i<s.data.toList.length)
  (nx:Wl n C ops.toArray k Q l ((d,.int .u8 (s.data.toList[i]).toNat)::E) F R)
  (hw:wantL ops E ⟨some d,.index t x y,ty0,pos,aft,gd⟩=some true:=by rfl) (hn:Nat.blt d n=true:=by rfl) (hx:ev E x=some (.string s):=by rfl) (hy:ev E y=some (.int .i64 z):=by rfl)
  (hts:lookT tab t=some rs:=by rfl) (hrs:rs.k = .str:=by rfl) (hz:z=(i:Int):=by first|rfl|omega):Wl n C ops.toArray k Q (⟨some d,.index t x y,ty0,pos,aft,gd⟩::l) E F R:=
 l_six i _ (List.getElem?_eq_getElem hlt) nx hw hn hx hy hts hrs hz
end
theorem Vm {p:UInt8→Bool}:∀(l:List UInt8) (i:Nat),i≤(l.takeWhile p).length→(i<(l.takeWhile p).length↔∃c,l[i]? = some c∧p c=true)
 | [],i,h=>by simp
 | a::l,0,_=>by
  rw [List.takeWhile_cons]
  split
  ·rename_i h;simp [h]
  ·rename_i h;simp [h]
 | a::l,i+1,h=>by
  rw [List.takeWhile_cons] at h ⊢
  split at h
  ·rename_i hp
   simp only [hp,if_true,List.length_cons,List.getElem?_cons_succ] at h ⊢
   have:=Vm (p:=p) l i (by omega)
   rw [←this];omega
  ·simp at h
theorem digs_lt {l:List UInt8} {i:Nat} (h:i≤(digs l).length):i<(digs l).length↔i<7∧∃c,l[i]? = some c∧isDig c=true:=by
 have h1:=Vm (p:=isDig) (l.take 7) i h
 unfold digs
 rw [h1,List.getElem?_take]
 by_cases h7:i<7<;>simp [h7]
theorem digs_get {l:List UInt8} {i:Nat} (h:i<(digs l).length):(digs l)[i]? = l[i]?:=by
 rw [digs_pre l,List.getElem?_take,if_pos h]
theorem dnum_lt:∀(l:List UInt8) (n:Nat),(∀c ∈ l,isDig c=true)→l.foldl (fun n c=>n * 10+(c.toNat - 48)) n<(n+1) * 10 ^ l.length
 | [],n,_=>by simp
 | c::l,n,h=>by
  have h1:=dnum_lt l (n * 10+(c.toNat - 48)) fun d hd=>h d (List.mem_cons_of_mem _ hd)
  have h2:=dig_lt (h c (by simp))
  refine Nat.lt_of_lt_of_le h1 ?_
  rw [List.length_cons,Nat.pow_succ]
  have:(n * 10+(c.toNat - 48)+1)≤(n+1) * 10:=by omega
  calc (n * 10+(c.toNat - 48)+1) * 10 ^ l.length≤((n+1) * 10) * 10 ^ l.length:=Nat.mul_le_mul_right _ this
   _=(n+1) * (10 ^ l.length * 10):=by rw [Nat.mul_assoc,Nat.mul_comm 10]
theorem dnum_take_lt (l:List UInt8) (i:Nat):dnum ((digs l).take i)<10000000:=by
 have h1:=dnum_lt ((digs l).take i) 0 fun c hc=>digs_all l c (List.mem_of_mem_take hc)
 have h2:=(W3 l).1
 have h3:((digs l).take i).length≤7:=by simp;omega
 have h4:10 ^ ((digs l).take i).length≤10 ^ 7:=Nat.pow_le_pow_right (by omega) h3
 unfold dnum
 omega
theorem dnum_succ {l:List UInt8} {i:Nat} {c:UInt8} (h:(digs l)[i]? = some c):dnum ((digs l).take (i+1))=dnum ((digs l).take i) * 10+(c.toNat - 48):=by
 rw [List.take_add_one,h]
 exact UI _ _
def Prt.v (p:Prt):Value:=.agg #[.int .i64 (p.ord:Int),.int .i64 (p.pos:Int),.int .i64 p.e]
def ffirst (l:List UInt8) (pos count:Nat):Prt×Nat:=if ferr l count≠0 then (⟨0,pos,ferr l count⟩,pos) else (⟨dnum (digs l),pos,0⟩,pos+(digs l).length)
theorem wu8 {z:Int} (h:0≤z) (h2:z<256):IntKind.u8.wrap z=z:=by
 simp [IntKind.wrap,IntKind.bits,IntKind.signed];omega
theorem u8eq (c:UInt8):((c.toNat:Int)=48)↔c=48:=by
 constructor
 ·intro h;exact UInt8.toNat_inj.1 (by show c.toNat=48;omega)
 ·intro h;subst h;rfl
theorem first_ok (s:ByteArray) (p count:Nat) (hp:p≤s.size) (hs:s.size≤1099511627776) :
  Enters 221∧Spec prog 221 #[.string s,.int .i64 (p:Int),.int .i64 (count:Int)] [] []
   (RetV (.tuple #[(ffirst (s.data.toList.drop p) p count).1.v,.int .i64 ((ffirst (s.data.toList.drop p) p count).2:Int)])):=by
 have hsz:s.data.toList.length=s.size:=by simp
 generalize hl:s.data.toList.drop p=l
 have hll:l.length=s.size - p:=by rw [←hl];simp
 have hget:∀i,l[i]? = s.data.toList[p+i]?:=fun i=>by rw [←hl,List.getElem?_drop]
 have hd:=W3 l
 refine ZM [_,_,_] func221 ntmps221 fun G w hp=>?_
 repeat' (first|refine ZE ?_|refine ZD ?_|refine ZF ?_|refine ZR (fun b=>?_)|fail)
 refine Yw (X:={i:Nat // i≤(digs l).length}) (Y:=Unit) (fun i=>[(0,.string s),(1,.int .i64 (p:Int)),(2,.int .i64 (count:Int)),(6,.pointer (some ⟨b,0,none⟩)),(8,.int .i64 ((p+i.1:Nat):Int)),(9,.int .i64 (dnum ((digs l).take i.1):Int))]) (fun _=>[]) (fun _=>[Pt b (.cells #[.int .i64 0,.int .i64 0,.int .i64 0] 316)]) (fun i=>(digs l).length - i.1)
  (fun _=>[(0,.string s),(1,.int .i64 (p:Int)),(2,.int .i64 (count:Int)),(6,.pointer (some ⟨b,0,none⟩)),(8,.int .i64 ((p+(digs l).length:Nat):Int)),(9,.int .i64 (dnum (digs l):Int))]) (fun _=>[]) (fun _=>[Pt b (.cells #[.int .i64 0,.int .i64 0,.int .i64 0] 316)])
  ⟨0,by omega⟩ ⟨rfl,rfl,rfl,rfl,rfl,rfl,trivial⟩ ?_ ?_
 ·intro _
  generalize hf:ffirst l p count=r
  unfold ffirst at hf
  have h0:∀h:p<s.data.size,l.head? = some s.data[p]:=fun h=>by
   rw [List.head?_eq_getElem?,hget 0,Nat.add_zero];simp
  have hn:l=[]↔p=s.size:=by rw [←List.length_eq_zero_iff];omega
  have hdn:digs l=[]↔(digs l).length=0:=List.length_eq_zero_iff.symm
  have hss:s.data.size=s.size:=rfl
  repeat' (first|refine ZE ?_|refine ZD ?_|refine ZF ?_|refine ZV ?_|refine ZH ?_|refine ZB ?_|refine l_sx (s:=s) p (by omega) ?_|rw [wrapi (z:=((p+(digs l).length:Nat):Int) - (p:Int)) (by omega) (by omega)]|(refine ZG (fun hc=>?_) (fun hc=>?_)<;>(try simp at hc))|fail)
  ·have e:ferr l count=9:=by rw [ferr,if_pos (by omega)]
   rw [e] at hf;subst hf;exact ZK () rfl trivial
  ·have e:ferr l count=4:=by rw [ferr,if_neg (by omega),if_pos (hn.2 (by omega))]
   rw [e] at hf;subst hf;exact ZK () rfl trivial
  ·have e:ferr l count=6:=by rw [ferr,if_neg (by omega),if_neg (fun e=>by have:=hn.1 e;omega),if_pos (hdn.2 (by omega))]
   rw [e] at hf;subst hf;exact ZK () rfl trivial
  ·have e:ferr l count=3:=by
    rw [ferr,if_neg (by omega),if_neg (fun e=>by have:=hn.1 e;omega),if_neg (fun e=>by have:=hdn.1 e;omega),if_pos]
    rw [h0 (by omega)]
    exact congrArg some ((u8eq _).1 hc)
   rw [e] at hf;subst hf;exact ZK () rfl trivial
  ·have e:ferr l count=2:=by
    rw [ferr,if_neg (by omega),if_neg (fun e=>by have:=hn.1 e;omega),if_neg (fun e=>by have:=hdn.1 e;omega),if_neg,if_pos (by omega)]
    rw [h0 (by omega)]
    intro e
    have:=(u8eq _).2 (Option.some.inj e)
    omega
   rw [e] at hf;subst hf;exact ZK () rfl trivial
  ·have e:ferr l count=0:=by
    rw [ferr,if_neg (by omega),if_neg (fun e=>by have:=hn.1 e;omega),if_neg (fun e=>by have:=hdn.1 e;omega),if_neg,if_neg (by omega)]
    rw [h0 (by omega)]
    intro e
    have:=(u8eq _).2 (Option.some.inj e)
    omega
   rw [e] at hf;subst hf;exact ZK () rfl trivial
 rintro hx ⟨i,hi⟩
 dsimp only
 have hlt:=digs_lt hi
 have hdl:=dnum_take_lt l i
 repeat' (first|refine ZE ?_|refine ZD ?_|refine ZL ?_|refine ZF ?_|refine ZB ?_|refine ZC (isDigit_ok _) (fun _ _=>?_)|refine l_sx (s:=s) (p+i) (by omega) ?_|rw [wrapi (z:=((p+i:Nat):Int) - (p:Int)) (by omega) (by omega)]|(refine ZJ (fun hc=>?_) (fun hc=>?_)<;>(try simp at hc))|(refine ZG (fun hc=>?_) (fun hc=>?_)<;>(try simp at hc))|fail)
 ·have hpi:p+i<s.data.size:=by have:s.data.size=s.size:=rfl;omega
  have hcc:l[i]? = some s.data[p+i]:=by rw [hget i];simp
  have hic:isDig s.data[p+i]=true:=by simp [isDig];omega
  have hi2:=hlt.2 ⟨by omega,_,hcc,hic⟩
  have hds:=dnum_succ (i:=i) ((digs_get hi2).trans hcc)
  have e1:s.data.toList[p+i]'(by omega)=s.data[p+i]:=by simp
  have e2:IntKind.i64.wrap (IntKind.i64.wrap ((dnum ((digs l).take i):Int) * 10)+IntKind.i64.wrap (IntKind.u8.wrap ((s.data[p+i].toNat:Int) - 48)))=(dnum ((digs l).take (i+1)):Int):=by
   rw [wu8 (by omega) (by omega),wrapi (z:=(dnum ((digs l).take i):Int) * 10) (by omega) (by omega),wrapi (z:=(s.data[p+i].toNat:Int) - 48) (by omega) (by omega),wrapi (by omega) (by omega),hds]
   omega
  rw [e1,e2,wrapi (z:=((p+i:Nat):Int)+1) (by omega) (by omega)]
  refine Zb ⟨i+1,hi2⟩ (by show (digs l).length - (i+1)<(digs l).length - i;omega) ⟨rfl,rfl,rfl,rfl,rfl,rfl,trivial⟩
 all_goals
  have e:i=(digs l).length:=by
   refine Nat.le_antisymm hi (Nat.le_of_not_lt fun h=>?_)
   obtain ⟨h7,c,hc1,hc2⟩:=hlt.1 h
   rw [hget i] at hc1
   have h8:=(List.getElem?_eq_some_iff.1 hc1).1
   simp [isDig] at hc2
   try (
    have h9:s.data[p+i]? = some c:=by simpa using hc1
    rw [Array.getElem?_eq_getElem (by omega)] at h9
    obtain rfl:=Option.some.inj h9)
   omega
  have e2:dnum ((digs l).take i)=dnum (digs l):=by rw [e,List.take_length]
  exact Z2 hx () ⟨rfl,rfl,rfl,rfl,by rw [←e];rfl,by rw [←e2];rfl,trivial⟩
theorem VB (s:List UInt8) (p c:Nat) (hp:p≤s.length):p≤(ffirst (s.drop p) p c).2∧(ffirst (s.drop p) p c).2≤s.length∧((ffirst (s.drop p) p c).1.e=0→c≠8)∧
  prts (s.drop p) p c=if (ffirst (s.drop p) p c).1.e≠0 then [(ffirst (s.drop p) p c).1] else match s[(ffirst (s.drop p) p c).2]? with
   | none=>[(ffirst (s.drop p) p c).1]
   | some ch=>if ch≠46 then [(ffirst (s.drop p) p c).1,⟨0,(ffirst (s.drop p) p c).2,6⟩] else (ffirst (s.drop p) p c).1::prts (s.drop ((ffirst (s.drop p) p c).2+1)) ((ffirst (s.drop p) p c).2+1) (c+1):=by
 have hd:=W3 (s.drop p)
 have hl:(s.drop p).length=s.length - p:=by simp
 generalize hl':s.drop p=l at *
 unfold ffirst
 by_cases hf:ferr l c=0
 ·rw [if_neg (by simp [hf])]
  refine ⟨by dsimp only;omega,by dsimp only;omega,fun _ h8=>?_,?_⟩
  ·unfold ferr at hf;rw [if_pos h8] at hf;cases hf
  ·conv=>lhs;unfold prts
   rw [if_neg (by simp [hf])]
   dsimp only
   rw [if_neg (by simp)]
   have e1:l.drop (digs l).length=s.drop (p+(digs l).length):=by rw [←hl',List.drop_drop]
   by_cases hlt:p+(digs l).length<s.length
   ·have e2:=List.getElem?_eq_getElem hlt
    have e3:=List.drop_eq_getElem_cons hlt
    rw [e2]
    dsimp only
    split
    ·rename_i h4;rw [e1,e3] at h4;cases h4
    ·rename_i ch rest h4
     rw [e1,e3] at h4
     injection h4 with h5 h6
     rw [h5,h6]
   ·have e2:s[p+(digs l).length]? = none:=List.getElem?_eq_none (by omega)
    rw [e2]
    dsimp only
    split
    ·rfl
    ·rename_i h4
     rw [e1,List.drop_eq_nil_of_le (by omega)] at h4
     cases h4
 ·rw [if_pos hf]
  refine ⟨by dsimp only;omega,by dsimp only;omega,fun h=>absurd h hf,?_⟩
  unfold prts
  rw [if_pos hf]
  simp [hf]
structure PX (s:List UInt8) where
 pre:List Prt
 p:Nat
 c:Nat
 h1:p≤s.length
 h2:c≤8
 h3:lparts s=pre++(if s=[] then [] else prts (s.drop p) p c)
theorem UZ (s:ByteArray) (b:Nat) (hs:s.size≤1099511627776):Iter 220 [.pointer (some ⟨b,0,none⟩)] Prt.v (lparts s.data.toList) [Blk b (.cells #[.string s] 9)] []:=by
 intro v Y I Ix hy
 have hsz:s.data.toList.length=s.size:=by simp
 refine ZM [_,_] func220 ntmps220 fun G w hp=>?_
 repeat' (first|refine ZE ?_|refine ZD ?_|refine ZF ?_|fail)
 refine Z8 (X:=PX s.data.toList) (fun q=>[(0,v),(1,.pointer (some ⟨b,0,none⟩)),(3,.int .i64 (q.p:Int)),(4,.int .i64 (q.c:Int))]) (fun _=>[Y,Blk b (.cells #[.string s] 9)]) (fun q=>[I q.pre]) (fun q=>s.size - q.p) ⟨[],0,0,by omega,by omega,by simp [lparts]⟩ ⟨rfl,rfl,rfl,rfl,trivial⟩ ?_
 rintro ⟨pre,p,c,h1,h2,h3⟩
 dsimp only
 obtain ⟨g1,g2,g3,g4⟩:=VB s.data.toList p c h1
 have hf:=first_ok s p c (by omega) hs
 generalize hr:ffirst (s.data.toList.drop p) p c=r at *
 obtain ⟨pt,fe⟩:=r
 dsimp only at *
 have hemp:∀h:(!s.toList == ByteArray.toList ⟨#[]⟩)=false,s.data.toList=[]:=fun h=>by
  simpa [Z0] using h
 have hne:∀h:(!s.toList == ByteArray.toList ⟨#[]⟩)=true,s.data.toList≠[]:=fun h=>by
  simpa [Z0] using h
 repeat' (first|refine ZE ?_|refine ZD ?_|refine ZF ?_|refine ZS ?_|refine ZO ?_|refine ZV ?_|refine ZR (fun b=>?_)|refine ZC (hf) (fun _ _=>?_)|refine ZG (fun hc=>?_) (fun hc=>?_)|fail)
 ·have hne:=hne hc
  rw [if_neg hne,g4] at h3
  have hpre:pre++[pt] <+: lparts s.data.toList:=by
   rw [h3]
   refine (List.prefix_append_right_inj pre).2 ?_
   split
   ·exact List.prefix_refl _
   ·split
    ·exact List.prefix_refl _
    ·split
     ·exact ⟨_,rfl⟩
     ·exact ⟨_,rfl⟩
  refine l_callV (hy pre pt hpre) (fun bb _=>?_)
  cases bb with
  | false=>
   repeat' (first|refine ZE ?_|refine ZD ?_|refine ZL ?_|refine ZH ?_|fail)
   exact Ym (Yx (YD (some (pre++[pt])) rfl (fun q hq=>by cases hq;exact hpre)))
  | true=>
   repeat' (first|refine ZE ?_|refine ZD ?_|refine ZL ?_|refine ZS ?_|refine ZO ?_|refine ZH ?_|refine ZJ (fun hc=>?_) (fun hc=>?_)|fail)
   ·have he:pt.e≠0:=by simpa using hc
    rw [if_pos he] at h3
    rw [h3]
    exact Ym (Yx (YD none rfl (fun q hq=>by cases hq)))
   ·have he:pt.e=0:=by simpa using hc
    rw [if_neg (by simp [he])] at h3
    have g3:=g3 he
    refine ZG (fun hc=>?_) (fun hc=>?_)
    ·have hfe:fe=s.size:=by simp at hc;omega
     have e2:s.data.toList[fe]? = none:=List.getElem?_eq_none (by omega)
     rw [e2] at h3
     dsimp only at h3
     rw [h3]
     exact Ym (Yx (YD none rfl (fun q hq=>by cases hq)))
    ·have hfe:fe<s.data.toList.length:=by simp at hc;omega
     have e2:=List.getElem?_eq_getElem hfe
     rw [e2] at h3
     dsimp only at h3
     repeat' (first|refine ZE ?_|refine ZD ?_|refine ZF ?_|refine ZO ?_|refine l_sx (s:=s) fe hfe ?_|refine ZG (fun hc=>?_) (fun hc=>?_)|fail)
     ·have h46:s.data.toList[fe]≠46:=fun e=>by rw [e] at hc;simp at hc
      rw [if_pos h46] at h3
      refine l_callV (hy (pre++[pt]) ⟨0,fe,6⟩ (by rw [h3];simp)) (fun bb _=>?_)
      cases bb with
      | false=>
       repeat' (first|refine ZD ?_|fail)
       exact Ym (Yx (YD (some (pre++[pt]++[⟨0,fe,6⟩])) rfl (fun q hq=>by cases hq;rw [h3];simp)))
      | true=>
       repeat' (first|refine ZD ?_|fail)
       have h3:lparts s.data.toList=pre++[pt]++[⟨0,fe,6⟩]:=by rw [h3];simp
       rw [h3]
       exact Ym (Yx (YD none rfl (fun q hq=>by cases hq)))
     ·have h46:s.data.toList[fe]=46:=UInt8.toNat_inj.1 (by simp at hc;simp;omega)
      rw [if_neg (by simp [h46])] at h3
      rw [wrapi (z:=(fe:Int)+1) (by omega) (by omega),wrapi (z:=(c:Int)+1) (by omega) (by omega)]
      exact Zb ⟨pre++[pt],fe+1,c+1,by omega,by omega,by rw [h3,if_neg hne];simp⟩ (by show s.size - (fe+1)<s.size - p;omega) ⟨rfl,rfl,rfl,rfl,trivial⟩
 ·have hemp:=hemp hc
  rw [if_pos hemp,List.append_nil] at h3
  refine ZW ?_
  rw [h3]
  exact Yc none rfl (fun q hq=>by cases hq)
section
variable {l:List Oper}
theorem k_fz {b:Nat} {o:Obj} (t:Wk n C k Q E (Blk b o::F) R0) (hs:Sel (Pt b o) R R0:=by (repeat (first|exact Sel.here|apply Sel.there));first|done|fail):Wk n C k Q E F R:=
 fun a w ha hsat=>t a w ha (hsat.sel hs).freeze
theorem XE {f:Pf} (h:∀hp,f.p hp) (t:Wk n C k Q E (f::F) R):Wk n C k Q E F R:=fun a w ha ⟨_,_,st⟩=>t a w ha (XZ st (h _))
theorem w_add {f:Pf} (h:∀hp,f.p hp) (t:Wret n C Q E (f::F) R):Wret n C Q E F R:=fun a w ha ⟨_,_,st⟩=>t a w ha (XZ st (h _))
theorem sl_nil {α:Type} (T:Nat) (f:α→List Value) (h:H):(Sl T f none 0 []).p h:=⟨by simp,.inl rfl⟩
theorem w_rv {fn:Func} {v v':Value} {G:H} {w0:World} {hp0:H} (h:v=v') (t:Wret n C (bodyPost prog fn ((RetV v').holds G w0 hp0)) E F R):Wret n C (bodyPost prog fn ((RetV v).holds G w0 hp0)) E F R:=by subst h;exact t
theorem w_open {X:Type} {r:HP} {Lx:X→List HP} {p:X→Prop} (hs:Sel r R R0) (h:∀hh,r hh→∃x,p x∧Sep (Lx x) hh) (t:∀x,p x→Wret n C Q E F (Lx x++R0)):Wret n C Q E F R:=fun a w ha hsat=>by
 obtain ⟨⟨x,hx⟩,h1⟩:=(hsat.sel hs).open' (X:={x // p x}) (L:=fun x=>Lx x.1) fun hh hr=>let ⟨x,h1,h2⟩:=h hh hr;⟨⟨x,h1⟩,h2⟩
 exact t x hx a w ha h1
end
theorem parts_ok (s:ByteArray):Enters 199∧Spec prog 199 #[.string s] [] []
  ⟨Nat,fun b=>.func (.func 220) #[] #[.pointer (some ⟨b,0,none⟩)],fun _=>True,fun b=>[Blk b (.cells #[.string s] 9)],fun _=>[]⟩:=by
 refine ZM [_] func199 ntmps199 fun G w hp=>?_
 repeat' (first|refine ZE ?_|refine ZD ?_|refine ZF ?_|refine ZR (fun b=>?_)|fail)
 refine k_fz ?_
 exact ZK b rfl trivial
def lparse (s:ByteArray):ByteArray×Nat×Int:=
 match (lparts s.data.toList).find? fun p=>p.e != 0 with
 | none=>(s,0,0)
 | some p=>(⟨#[]⟩,p.pos,p.e)
theorem parse_find {pre:List Prt} {e:Prt} {xs:List Prt} (h:pre++[e] <+: xs) (h0:∀x ∈ pre,x.e=0) (he:e.e≠0):xs.find? (fun p=>p.e != 0)=some e:=by
 obtain ⟨t,rfl⟩:=h
 rw [List.append_assoc,List.find?_append]
 have:pre.find? (fun p=>p.e != 0)=none:=List.find?_eq_none.2 fun x hx=>by simp [h0 x hx]
 simp [this,he]
abbrev JL (b2 b3 b4:Nat) (p e:Int):List HP:=[Pt b2 (.cells #[.string ⟨#[]⟩] 23),Pt b3 (.cells #[.int .i64 p] 3),Pt b4 (.cells #[.int .i64 e] 34)]
def JP (b2 b3 b4:Nat) (pre:List Prt):HP:=fun h=>(∀x ∈ pre,x.e=0)∧Sep (JL b2 b3 b4 0 0) h
def JPx (b2 b3 b4:Nat) (pre:List Prt):HP:=fun h=>∃q:List Prt×Prt,(pre=q.1++[q.2]∧(∀x ∈ q.1,x.e=0)∧q.2.e≠0)∧Sep (JL b2 b3 b4 q.2.pos q.2.e) h
theorem parseL_ok (s:ByteArray) (hs:s.size≤1099511627776):Enters 159∧Spec prog 159 #[.string s] [] []
  (RetV (.tuple #[.string (lparse s).1,.int .i64 ((lparse s).2.1:Int),.int .i64 (lparse s).2.2])):=by
 refine ⟨enters_of func159 (by kernel_rfl) rfl,Wz (vs:=[_]) func159 rfl ntmps159 rfl fun G w hp=>?_⟩
 repeat' (first|refine ZE ?_|refine ZD ?_|refine ZF ?_|refine ZR (fun b=>?_)|refine ZC (parts_ok _) (fun _ _=>?_)|fail)
 rename_i b2 b3 q _
 generalize b=b4
 refine Zs (r:=JP b2 b3 b4 []) (Lx:=JL b2 b3 b4 0 0) (fun h hh=>⟨fun x hx=>(by cases hx),hh⟩) ?_
 refine UB (α:=Prt) (enc:=Prt.v) (xs:=lparts s.data.toList) (JP b2 b3 b4) (JPx b2 b3 b4) (UZ s q hs) ?_ ?_ ?_
 ·intro lr l pre e hpre G w0 hp0
  refine Z6 (X:=Unit) (Lx:=fun _=>JL b2 b3 b4 0 0) (p:=fun _=>∀x ∈ pre,x.e=0) (r:=JP b2 b3 b4 pre) (.there .here) (fun h hh=>⟨(),hh.1,hh.2⟩) (fun _ hall=>?_)
  repeat' (first|refine ZE ?_|refine ZD ?_|refine ZF ?_|refine ZS ?_|refine ZV ?_|refine ZR (fun b=>?_)|refine ZT ?_|refine Zf ?_|refine Zk ?_|refine ZU ?_|refine k_beg ?_|refine ZA 4 [Pt b2 (.cells _ _ _),Pt b3 (.cells _ _ _),Pt b4 (.cells _ _ _)] [(0,0),(1,0),(2,0),(3,0),(4,4),(5,4),(6,4)] [] ?_|refine ZG (fun hc=>?_) (fun hc=>?_)|fail)
  ·have he:e.e≠0:=by simpa using hc
   refine Zs (Lx:=JL b2 b3 b4 e.pos e.e) (r:=JPx b2 b3 b4 (pre++[e])) (fun h hh=>⟨(pre,e),⟨rfl,hall,he⟩,hh⟩) ?_
   exact k_rr
  ·have he:e.e=0:=by simpa using hc
   refine Zs (Lx:=JL b2 b3 b4 0 0) (r:=JP b2 b3 b4 (pre++[e])) (fun h hh=>⟨fun x hx=>?_,hh⟩) ?_
   ·rcases List.mem_append.1 hx with hx|hx
    ·exact hall x hx
    ·simp at hx;subst hx;exact he
   exact k_rn
 ·intro D
  refine Z6 (X:=Unit) (Lx:=fun _=>JL b2 b3 b4 0 0) (p:=fun _=>∀x ∈ lparts s.data.toList,x.e=0) (r:=JP b2 b3 b4 (lparts s.data.toList)) .here (fun h hh=>⟨(),hh.1,hh.2⟩) (fun _ hall=>?_)
  have hp:lparse s=(s,0,0):=by
   have:(lparts s.data.toList).find? (fun p=>p.e != 0)=none:=List.find?_eq_none.2 fun x hx=>by simp [hall x hx]
   rw [lparse,this]
  rw [hp]
  repeat' (first|refine ZE ?_|refine ZD ?_|refine ZF ?_|refine ZV ?_|fail)
  exact Vd () rfl trivial
 ·intro D pre hpre
  refine w_open (X:=List Prt×Prt) (Lx:=fun q=>JL b2 b3 b4 q.2.pos q.2.e) (r:=JPx b2 b3 b4 pre) .here (fun h hh=>hh) (fun q hq=>?_)
  obtain ⟨rfl,h1,h2⟩:=hq
  rw [lparse,parse_find hpre h1 h2]
  exact w_retM () rfl trivial
theorem lparse_valid (s:ByteArray):((lparse s).2.2 == 0)=lvalid s.data.toList:=by
 unfold lparse lvalid
 cases h:(lparts s.data.toList).find? fun p=>p.e != 0 with
 | none=>
  have h1:=List.find?_eq_none.1 h
  simp at h1
  symm
  simpa using h1
 | some p=>
  have h1:=List.find?_some h
  have h2:=List.mem_of_find?_eq_some h
  simp at h1
  have e1:(p.e == 0)=false:=by simpa using h1
  dsimp only
  rw [e1]
  symm
  rw [List.all_eq_false]
  exact ⟨p,h2,by simpa using h1⟩
theorem YW (s:ByteArray) (hs:s.size≤1099511627776):Enters 111∧Spec prog 111 #[.string s] [] [] (RetV (.bool (lvalid s.data.toList))):=by
 refine ZM [_] func111 ntmps111 fun G w hp=>?_
 repeat' (first|refine ZE ?_|refine ZD ?_|refine ZF ?_|refine ZC (parseL_ok s hs) (fun _ _=>?_)|fail)
 refine ZK () ?_ trivial
 rw [←lparse_valid];rfl
theorem prts_len:∀(m:Nat) (l:List UInt8) (p c:Nat),l.length≤m→(prts l p c).length≤l.length+1:=by
 intro m
 induction m with
 | zero=>
  intro l p c hl
  obtain rfl:=List.length_eq_zero_iff.1 (show l.length=0 by omega)
  unfold prts
  split
  ·simp
  ·rename_i h;simp [ferr] at h;split at h<;>simp_all
 | succ m ih=>
  intro l p c hl
  unfold prts
  split
  ·simp
  ·split
   ·simp
   ·rename_i c' rest h
    have h1:=congrArg List.length h
    simp at h1
    split
    ·simp;omega
    ·have:=ih rest (p+(digs l).length+1) (c+1) (by omega)
     simp;omega
theorem lparts_len (s:List UInt8):(lparts s).length≤s.length+1:=by
 unfold lparts
 split
 ·simp
 ·exact prts_len _ s 0 0 (Nat.le_refl _)
def zf (z:Int):List Value:=[.int .i64 z]
def ords (l:List Prt):List Int:=l.map fun p=>(p.ord:Int)
theorem lords_ok {s:List UInt8} (h:∀x ∈ lparts s,x.e=0):lords s=ords (lparts s):=by
 have:lvalid s=true:=by simpa [lvalid] using h
 rw [lords,if_pos this];rfl
theorem lords_bad {s:List UInt8} (h:∃x ∈ lparts s,x.e≠0):lords s=[]:=by
 have:lvalid s=false:=by simpa [lvalid] using h
 rw [lords,this];rfl
abbrev JOL (b2 b3:Nat) (pre:List Prt) (q:Option Addr×Nat):List HP:=[Pt b2 (.cells #[.slice none 0 0] 194),Pt b3 (.cells #[.slice q.1 pre.length q.2] 194),Row 3 1 q.1 pre.length q.2 ((ords pre).flatMap zf)]
def JO (b2 b3:Nat) (pre:List Prt):HP:=fun h=>∃q,(∀x ∈ pre,x.e=0)∧Sep (JOL b2 b3 pre q) h
def JOx (b2:Nat) (pre:List Prt):HP:=fun h=>(∃x ∈ pre,x.e≠0)∧Sep [Pt b2 (.cells #[.slice none 0 0] 194)] h
theorem Uf (s:ByteArray) (hs:s.size≤1099511627776):Enters 151∧Spec prog 151 #[.string s] [] []
  ⟨Option Addr×Nat,fun q=>.slice q.1 (lords s.data.toList).length q.2,fun _=>True,fun q=>[Sl 3 zf q.1 q.2 (lords s.data.toList)],fun _=>[]⟩:=by
 have hlen:=lparts_len s.data.toList
 have hsz:s.data.toList.length=s.size:=by simp
 refine ⟨enters_of func151 (by kernel_rfl) rfl,Wz (vs:=[_]) func151 rfl ntmps151 rfl fun G w hp=>?_⟩
 repeat' (first|refine ZE ?_|refine ZD ?_|refine ZF ?_|refine ZR (fun b=>?_)|refine ZC (parts_ok _) (fun _ _=>?_)|fail)
 rename_i b2 q _
 generalize b=b3
 refine Zs (Lx:=[]) (r:=Row 3 1 none 0 0 []) (fun h _=>Yj _ _ h) ?_
 refine Zs (Lx:=JOL b2 b3 [] (none,0)) (r:=JO b2 b3 []) (fun h hh=>⟨(none,0),fun x hx=>(by cases hx),hh⟩) ?_
 refine UB (α:=Prt) (enc:=Prt.v) (xs:=lparts s.data.toList) (JO b2 b3) (JOx b2) (UZ s q hs) ?_ ?_ ?_
 ·intro lr l pre e hpre G w0 hp0
  have hple:=hpre.length_le
  simp only [List.length_append,List.length_singleton] at hple
  refine Z6 (X:=Option Addr×Nat) (Lx:=fun q=>JOL b2 b3 pre q) (p:=fun _=>∀x ∈ pre,x.e=0) (r:=JO b2 b3 pre) (.there .here) (fun h hh=>hh) (fun q hall=>?_)
  repeat' (first|refine ZE ?_|refine ZD ?_|refine ZF ?_|refine ZS ?_|refine ZV ?_|refine ZR (fun b=>?_)|refine ZX (fun b=>?_)|refine k_beg ?_|refine l_app1 (fun o' cap'=>?_)|refine ZG (fun hc=>?_) (fun hc=>?_)|fail)
  ·have he:e.e≠0:=by simpa using hc
   refine Zs (Lx:=[Pt b2 (.cells #[.slice none 0 0] 194)]) (r:=JOx b2 (pre++[e])) (fun h hh=>⟨⟨e,by simp,he⟩,hh⟩) ?_
   exact k_rr
  ·have he:e.e=0:=by simpa using hc
   have e1:pre.length+1=(pre++[e]).length:=by simp
   have e2:(ords pre).flatMap zf++#[Value.int .i64 (e.ord:Int)].toList=(ords (pre++[e])).flatMap zf:=by simp [ords,zf]
   rw [e1,e2]
   refine Zs (Lx:=JOL b2 b3 (pre++[e]) (o',cap')) (r:=JO b2 b3 (pre++[e])) (fun h hh=>⟨(o',cap'),fun x hx=>?_,hh⟩) ?_
   ·rcases List.mem_append.1 hx with hx|hx
    ·exact hall x hx
    ·simp at hx;subst hx;exact he
   exact k_rn
 ·intro D
  refine Z6 (X:=Option Addr×Nat) (Lx:=fun q=>JOL b2 b3 (lparts s.data.toList) q) (p:=fun _=>∀x ∈ lparts s.data.toList,x.e=0) (r:=JO b2 b3 (lparts s.data.toList)) .here (fun h hh=>hh) (fun q hall=>?_)
  dsimp only [JOL]
  rw [lords_ok hall,show (lparts s.data.toList).length=(ords (lparts s.data.toList)).length by simp [ords]]
  repeat' (first|refine ZD ?_|refine ZF ?_|refine ZS ?_|refine ZV ?_|fail)
  refine k_frz (sz:=1) (f:=zf) (o:=q.1) (cap:=q.2) (ords (lparts s.data.toList)) ?_ rfl rfl
  exact Vd q rfl trivial
 ·intro D pre hpre
  refine w_open (X:=Unit) (Lx:=fun _=>[Pt b2 (.cells #[.slice none 0 0] 194)]) (p:=fun _=>∃x ∈ pre,x.e≠0) (r:=JOx b2 pre) .here (fun h hh=>⟨(),hh⟩) (fun q hq=>?_)
  obtain ⟨x,hx,he⟩:=hq
  rw [lords_bad ⟨x,hpre.subset hx,he⟩]
  refine w_add (sl_nil 3 zf) ?_
  exact w_retM (none,0) rfl trivial
theorem cmpSl_ok (o1 o2:Option Addr) (c1 c2:Nat) (e1 e2:List Int) (h1:e1.length≤1099511627776) (h2:e2.length≤1099511627776):Enters 150∧Spec prog 150 #[.slice o1 e1.length c1,.slice o2 e2.length c2]
  [Sl 3 zf o1 c1 e1,Sl 3 zf o2 c2 e2] [] (RetV (.int .i64 (cmpL e1 e2))):=by
 refine ZM [_,_] func150 ntmps150 fun G w hp=>?_
 repeat' (first|refine ZE ?_|refine ZD ?_|refine ZF ?_|fail)
 refine Z8 (X:={i:Nat // i≤e1.length∧i≤e2.length∧cmpL e1 e2=cmpL (e1.drop i) (e2.drop i)}) (fun i=>[(0,.slice o1 e1.length c1),(1,.slice o2 e2.length c2),(9,.slice o1 e1.length c1),(10,.int .i64 (e1.length:Int)),(11,.int .i64 (i.1:Int))]) (fun _=>[Sl 3 zf o1 c1 e1,Sl 3 zf o2 c2 e2]) (fun _=>[]) (fun i=>e1.length - i.1) ⟨0,by omega,by omega,rfl⟩ ⟨rfl,rfl,rfl,rfl,rfl,trivial⟩ ?_
 rintro ⟨i,hi1,hi2,hi3⟩
 dsimp only
 repeat' (first|refine ZE ?_|refine ZD ?_|refine ZF ?_|refine ZW ?_|refine ZC (cmp_int _ _) (fun _ _=>?_)|refine l_ix e1 i (by omega) (fun b off=>?_)|refine l_ix e2 i (by omega) (fun b off=>?_)|refine XV ?_|(refine ZG (fun hc=>?_) (fun hc=>?_)<;>(try simp at hc))|fail)
 ·have d1:=List.drop_eq_getElem_cons (l:=e1) (i:=i) (by omega)
  have d2:e2.drop i=[]:=List.drop_eq_nil_of_le (by omega)
  have e:cmpL e1 e2=1:=by rw [hi3,d1,d2];rfl
  exact Ym (Yx (w_rv (congrArg (Value.int .i64) e) (YD () rfl trivial)))
 ·have d1:=List.drop_eq_getElem_cons (l:=e1) (i:=i) (by omega)
  have d2:=List.drop_eq_getElem_cons (l:=e2) (i:=i) (by omega)
  have e:cmpL e1 e2=cmpI e1[i] e2[i]:=by rw [hi3,d1,d2,cmpL,if_pos hc]
  exact Ym (Yx (w_rv (congrArg (Value.int .i64) e) (YD () rfl trivial)))
 ·have d1:=List.drop_eq_getElem_cons (l:=e1) (i:=i) (by omega)
  have d2:=List.drop_eq_getElem_cons (l:=e2) (i:=i) (by omega)
  rw [wrapi (z:=(i:Int)+1) (by omega) (by omega)]
  exact Zb ⟨i+1,by omega,by omega,by rw [hi3,d1,d2,cmpL,if_neg (by simp [hc])]⟩ (by show e1.length - (i+1)<e1.length - i;omega) ⟨rfl,rfl,rfl,rfl,rfl,trivial⟩
 ·have d1:e1.drop i=[]:=List.drop_eq_nil_of_le (by omega)
  have d2:=List.drop_eq_getElem_cons (l:=e2) (i:=i) (by omega)
  rw [hi3,d1,d2]
  exact ZK () rfl trivial
 ·have d1:e1.drop i=[]:=List.drop_eq_nil_of_le (by omega)
  have d2:e2.drop i=[]:=List.drop_eq_nil_of_le (by omega)
  rw [hi3,d1,d2]
  exact ZK () rfl trivial
theorem lords_len (s:List UInt8):(lords s).length≤s.length+1:=by
 unfold lords
 split
 ·simp;exact lparts_len s
 ·simp
theorem compareN_ok (a b:ByteArray) (ha:a.size≤1099511627770) (hb:b.size≤1099511627770):Enters 96∧Spec prog 96 #[.string a,.string b] [] [] (RetV (.int .i64 (cmpN a b))):=by
 have la:=lords_len a.data.toList
 have lb:=lords_len b.data.toList
 have sa:a.data.toList.length=a.size:=by simp
 have sb:b.data.toList.length=b.size:=by simp
 have va:=YW a (by omega)
 have vb:=YW b (by omega)
 have key:(a.toList == b.toList)=decide (a=b):=by
  rw [Z0,Z0,Bool.eq_iff_iff]
  simp only [beq_iff_eq,decide_eq_true_eq]
  exact ⟨Wj,fun h=>by rw [h]⟩
 generalize hr:cmpN a b=r
 unfold cmpN at hr
 cases hva:lvalid a.data.toList<;>cases hvb:lvalid b.data.toList
 all_goals rw [hva] at va hr
 all_goals rw [hvb] at vb hr
 all_goals dsimp only at hr
 all_goals refine ZM [_,_] func96 ntmps96 fun G w hp=>?_
 all_goals repeat' (first|refine ZE ?_|refine ZD ?_|refine ZL ?_|refine ZF ?_|refine ZH ?_|refine ZB ?_|refine ZC (va) (fun _ _=>?_)|refine ZC (vb) (fun _ _=>?_)|refine ZC (Uf a (by omega)) (fun _ _=>?_)|refine ZC (Uf b (by omega)) (fun _ _=>?_)|refine ZC (cmpSl_ok _ _ _ _ (lords a.data.toList) (lords b.data.toList) (by omega) (by omega)) (fun _ _=>?_)|refine ZC (cmp_lin _ _) (fun _ _=>?_)|refine ZG (fun hc=>?_) (fun hc=>?_)|fail)
 all_goals first|rw [key,decide_eq_true_eq] at hc|rw [key,decide_eq_false_iff_not] at hc
 all_goals first
  | (rw [if_pos hc] at hr;subst hr;exact ZK () rfl trivial)
  | (rw [if_neg hc] at hr;subst hr;exact ZK () rfl trivial)
abbrev Al:=List (Nm×ByteArray)
inductive Tr where
 | nil
 | node (l:Tr) (a:Nm) (v:ByteArray) (r:Tr)
namespace Tr
def ht:Tr→Nat
 | nil=>0
 | node l _ _ r=>1+max l.ht r.ht
def sz:Tr→Nat
 | nil=>0
 | node l _ _ r=>1+l.sz+r.sz
def by_:Tr→Nat
 | nil=>0
 | node l _ v r=>v.size+l.by_+r.by_
def els:Tr→Al
 | nil=>[]
 | node l a v r=>l.els++(a,v)::r.els
def bal (l:Tr) (a:Nm) (v:ByteArray) (r:Tr):Tr:=
 if r.ht+1<l.ht then
  match l with
  | nil=>node l a v r
  | node ll la lv lr=>
   if lr.ht≤ll.ht then node ll la lv (node lr a v r)
   else match lr with
    | nil=>node l a v r
    | node il ia iv ir=>node (node ll la lv il) ia iv (node ir a v r)
 else if l.ht+1<r.ht then
  match r with
  | nil=>node l a v r
  | node rl ra rv rr=>
   if rl.ht≤rr.ht then node (node l a v rl) ra rv rr
   else match rl with
    | nil=>node l a v r
    | node il ia iv ir=>node (node l a v il) ia iv (node ir ra rv rr)
 else node l a v r
def put (a:Nm) (v:ByteArray):Tr→Tr
 | nil=>node nil a v nil
 | node l b u r=>if cmpO a b<0 then bal (put a v l) b u r else if 0<cmpO a b then bal l b u (put a v r) else node l a v r
def find (a:Nm):Tr→Option ByteArray
 | nil=>none
 | node l b u r=>if cmpO a b=0 then some u else if cmpO a b<0 then find a l else find a r
theorem els_bal (l:Tr) (a:Nm) (v:ByteArray) (r:Tr):(bal l a v r).els=l.els++(a,v)::r.els:=by
 unfold bal
 split
 ·split
  ·rfl
  ·split
   ·simp [els]
   ·split
    ·simp [els]
    ·simp [els]
 ·split
  ·split
   ·rfl
   ·split
    ·simp [els]
    ·split
     ·simp [els]
     ·simp [els]
  ·rfl
theorem sz_els (t:Tr):t.sz=t.els.length:=by
 induction t with
 | nil=>rfl
 | node l a v r hl hr=>simp [sz,els,hl,hr];omega
def ab (l:Al):Nat:=(l.map fun x=>x.2.size).sum
theorem by_els (t:Tr):t.by_=ab t.els:=by
 induction t with
 | nil=>rfl
 | node l a v r hl hr=>simp [by_,els,hl,hr,ab];omega
theorem ht_sz (t:Tr):t.ht≤t.sz:=by
 induction t with
 | nil=>simp [ht]
 | node l a v r hl hr=>simp only [ht,sz];omega
end Tr
def Srt (l:Al):Prop:=l.Pairwise fun x y=>cmpO x.1 y.1<0
def insO (a:Nm) (v:ByteArray):Al→Al
 | []=>[(a,v)]
 | (b,u)::l=>if cmpO a b<0 then (a,v)::(b,u)::l else if 0<cmpO a b then (b,u)::insO a v l else (a,v)::l
def getO (a:Nm):Al→Option ByteArray
 | []=>none
 | (b,u)::l=>if cmpO a b=0 then some u else getO a l
theorem Z1 (a b:Nm):cmpO a b<0↔0<cmpO b a:=Y7.anti a b
theorem Z4 (a b:Nm):cmpO a b=0↔a=b:=Y7.eq a b
theorem YN {a b c:Nm} (h:cmpO a b<0) (k:cmpO b c<0):cmpO a c<0:=Y7.trans a b c h k
theorem insO_lt (a:Nm) (v:ByteArray) (b:Nm) (u:ByteArray) (ys:Al):∀xs:Al,(∀x ∈ xs,cmpO x.1 b<0)→cmpO a b<0→insO a v (xs++(b,u)::ys)=insO a v xs++(b,u)::ys
 | [],_,h=>by simp [insO,h]
 | (c,w)::xs,hx,h=>by
  have ih:=insO_lt a v b u ys xs (fun x hx'=>hx x (List.mem_cons_of_mem _ hx')) h
  simp only [List.cons_append,insO,ih]
  split
  ·simp
  ·split<;>simp
theorem insO_gt (a:Nm) (v:ByteArray) (b:Nm) (u:ByteArray) (ys:Al):∀xs:Al,(∀x ∈ xs,cmpO x.1 b<0)→0<cmpO a b→insO a v (xs++(b,u)::ys)=xs++(b,u)::insO a v ys
 | [],_,h=>by
  have h1:¬cmpO a b<0:=by omega
  simp [insO,h,h1]
 | (c,w)::xs,hx,h=>by
  have ih:=insO_gt a v b u ys xs (fun x hx'=>hx x (List.mem_cons_of_mem _ hx')) h
  have h0:cmpO c b<0:=hx (c,w) (by simp)
  have h1:cmpO c a<0:=YN h0 ((Z1 b a).2 h)
  have h2:0<cmpO a c:=(Z1 c a).1 h1
  have h3:¬cmpO a c<0:=by omega
  simp only [List.cons_append,insO,ih,h2,h3,if_true,if_false]
theorem insO_eq (a:Nm) (v:ByteArray) (b:Nm) (u:ByteArray) (ys:Al):∀xs:Al,(∀x ∈ xs,cmpO x.1 b<0)→cmpO a b=0→insO a v (xs++(b,u)::ys)=xs++(a,v)::ys
 | [],_,h=>by simp [insO,h]
 | (c,w)::xs,hx,h=>by
  have ih:=insO_eq a v b u ys xs (fun x hx'=>hx x (List.mem_cons_of_mem _ hx')) h
  obtain rfl:=(Z4 a b).1 h
  have h0:cmpO c a<0:=hx (c,w) (by simp)
  have h2:0<cmpO a c:=(Z1 c a).1 h0
  have h3:¬cmpO a c<0:=by omega
  simp only [List.cons_append,insO,ih,h2,h3,if_true,if_false]
theorem Xh {xs ys:Al} {b:Nm} {u:ByteArray} (h:Srt (xs++(b,u)::ys)):Srt xs∧Srt ys∧(∀x ∈ xs,cmpO x.1 b<0)∧∀y ∈ ys,cmpO b y.1<0:=by
 unfold Srt at *
 rw [List.pairwise_append,List.pairwise_cons] at h
 exact ⟨h.1,h.2.1.2,fun x hx=>h.2.2 x hx (b,u) (by simp),fun y hy=>h.2.1.1 y hy⟩
theorem els_put (a:Nm) (v:ByteArray):∀t:Tr,Srt t.els→(Tr.put a v t).els=insO a v t.els
 | .nil,_=>rfl
 | .node l b u r,h=>by
  obtain ⟨h1,h2,h3,h4⟩:=Xh h
  have il:=els_put a v l h1
  have ir:=els_put a v r h2
  unfold Tr.put
  split
  ·rename_i hc
   rw [Tr.els_bal,il]
   exact (insO_lt a v b u _ _ h3 hc).symm
  ·split
   ·rename_i hc
    rw [Tr.els_bal,ir]
    exact (insO_gt a v b u _ _ h3 hc).symm
   ·exact (insO_eq a v b u _ _ h3 (by omega)).symm
theorem X7 (a:Nm):∀xs ys:Al,getO a (xs++ys)=(getO a xs).or (getO a ys)
 | [],_=>by simp [getO]
 | (b,u)::xs,ys=>by
  simp only [List.cons_append,getO,X7 a xs ys]
  split<;>simp
theorem XC {a:Nm}:∀{xs:Al},(∀x ∈ xs,cmpO a x.1≠0)→getO a xs=none
 | [],_=>rfl
 | (b,u)::xs,h=>by
  rw [getO,if_neg (h (b,u) (by simp))]
  exact XC fun x hx=>h x (by simp [hx])
theorem WQ (a:Nm):∀t:Tr,Srt t.els→Tr.find a t=getO a t.els
 | .nil,_=>rfl
 | .node l b u r,h=>by
  obtain ⟨h1,h2,h3,h4⟩:=Xh h
  have il:=WQ a l h1
  have ir:=WQ a r h2
  unfold Tr.find Tr.els
  rw [X7,getO]
  by_cases h0:cmpO a b=0
  ·rw [if_pos h0,if_pos h0]
   obtain rfl:=(Z4 a b).1 h0
   rw [XC fun x hx=>by
    have:=(Z1 _ _).1 (h3 x hx)
    omega]
   rfl
  ·rw [if_neg h0,if_neg h0]
   by_cases hl:cmpO a b<0
   ·rw [if_pos hl,il]
    rw [XC (xs:=r.els) fun y hy=>by
     have:=YN hl (h4 y hy)
     omega]
    simp
   ·rw [if_neg hl,ir]
    rw [XC (xs:=l.els) fun x hx=>by
     have h5:cmpO b a<0:=(Z1 b a).2 (by omega)
     have h6:=YN (h3 x hx) h5
     have:=(Z1 _ _).1 h6
     omega]
    simp
theorem V7 (a:Nm) (v:ByteArray):∀(l:Al) (x:Nm×ByteArray),x ∈ insO a v l→x=(a,v)∨x ∈ l
 | [],x,h=>by simpa [insO] using h
 | (b,u)::l,x,h=>by
  unfold insO at h
  split at h
  ·simpa using h
  ·split at h
   ·rcases List.mem_cons.1 h with h|h
    ·right;simp [h]
    ·rcases V7 a v l x h with h|h
     ·exact .inl h
     ·right;simp [h]
   ·rcases List.mem_cons.1 h with h|h
    ·exact .inl h
    ·right;simp [h]
theorem srt_ins (a:Nm) (v:ByteArray):∀l:Al,Srt l→Srt (insO a v l)
 | [],_=>by simp [insO,Srt]
 | (b,u)::l,h=>by
  have hp:=List.pairwise_cons.1 h
  unfold insO
  split
  ·rename_i hc
   refine List.pairwise_cons.2 ⟨fun y hy=>?_,h⟩
   rcases List.mem_cons.1 hy with rfl|hy
   ·exact hc
   ·exact YN hc (hp.1 y hy)
  ·split
   ·rename_i hc
    refine List.pairwise_cons.2 ⟨fun y hy=>?_,srt_ins a v l hp.2⟩
    rcases V7 a v l y hy with rfl|hy
    ·exact (Z1 b a).2 hc
    ·exact hp.1 y hy
   ·rename_i h1 h2
    obtain rfl:=(Z4 a b).1 (by omega)
    exact List.pairwise_cons.2 ⟨hp.1,hp.2⟩
theorem V8 (a:Nm) (v:ByteArray):∀l:Al,(insO a v l).length≤l.length+1
 | []=>by simp [insO]
 | (b,u)::l=>by
  have:=V8 a v l
  unfold insO
  split
  ·simp
  ·split<;>simp<;>omega
theorem row_pt {T sz m b:Nat} {cs:Array Value} (hm:cs.size=m * sz) (h:H) (hb:Sep [Pt b (.cells cs T)] h):Row T sz (some ⟨b,0,none⟩) m m cs.toList h:=by
 obtain ⟨h1,h2,_,s1,_,hx,_⟩:=hb
 refine .inr ⟨b,[],(0,0),rfl,?_,by simpa using hm,by simpa using hm,Nat.le_refl _,.inl rfl⟩
 simpa using s1 _ _ hx
def or0:List Int→Int
 | []=>0
 | x::l=>if x≠0 then x else or0 l
theorem or_ok (o:Option Addr) (c:Nat) (es:List Int) (h1:es.length≤1099511627776):Spec prog 94 #[.slice o es.length c] [Sl 3 zf o c es] [] (RetV (.int .i64 (or0 es))):=by
 refine (show Enters 94∧Spec prog 94 #[.slice o es.length c] [Sl 3 zf o c es] [] (RetV (.int .i64 (or0 es))) from ?_).2
 refine ZM [_] func94 ntmps94 fun G w hp=>?_
 repeat' (first|refine ZE ?_|refine ZD ?_|refine ZF ?_|fail)
 refine Z8 (X:={i:Nat // i≤es.length∧or0 es=or0 (es.drop i)}) (fun i=>[(3,.int .i64 0),(6,.slice o es.length c),(7,.int .i64 (es.length:Int)),(8,.int .i64 (i.1:Int))]) (fun _=>[Sl 3 zf o c es]) (fun _=>[]) (fun i=>es.length - i.1) ⟨0,by omega,rfl⟩ ⟨rfl,rfl,rfl,rfl,trivial⟩ ?_
 rintro ⟨i,hi1,hi3⟩
 dsimp only
 repeat' (first|refine ZE ?_|refine ZD ?_|refine ZF ?_|refine ZW ?_|refine l_ix es i (by omega) (fun b off=>?_)|refine XV ?_|(refine ZG (fun hc=>?_) (fun hc=>?_)<;>(try simp at hc))|fail)
 ·have d1:=List.drop_eq_getElem_cons (l:=es) (i:=i) (by omega)
  have e:or0 es=es[i]:=by rw [hi3,d1,or0,if_pos hc]
  exact Ym (Yx (w_rv (congrArg (Value.int .i64) e) (YD () rfl trivial)))
 ·have d1:=List.drop_eq_getElem_cons (l:=es) (i:=i) (by omega)
  rw [wrapi (z:=(i:Int)+1) (by omega) (by omega)]
  exact Zb ⟨i+1,by omega,by rw [hi3,d1,or0,if_neg (by simp [hc])]⟩ (by show es.length - (i+1)<es.length - i;omega) ⟨rfl,rfl,rfl,rfl,trivial⟩
 ·have d1:es.drop i=[]:=List.drop_eq_nil_of_le (by omega)
  rw [hi3,d1]
  exact ZK () rfl trivial
theorem or3_ok (b:Nat) (x y z:Int):Enters 94∧Spec prog 94 #[.slice (some ⟨b,0,none⟩) 3 3] [] [Pt b (.cells #[.int .i64 x,.int .i64 y,.int .i64 z] 3)] (RetV (.int .i64 (or0 [x,y,z]))):=by
 refine ⟨enters_of func94 (by kernel_rfl) rfl,fun G w hp hs=>?_⟩
 have h1:=(hs.shut (R:=[]) (L:=[Pt b (.cells #[.int .i64 x,.int .i64 y,.int .i64 z] 3)]) (x:=Row 3 1 (some ⟨b,0,none⟩) 3 3 [.int .i64 x,.int .i64 y,.int .i64 z]) fun h hh=>row_pt rfl h hh)
 have h2:=Vx (f:=zf) (es:=[x,y,z]) rfl rfl Sel.here h1
 exact Yn (or_ok (some ⟨b,0,none⟩) 3 [x,y,z] (by simp)) h2 .nil (fun hp hF f hf=>by simp at hf;subst hf;exact hF _ (by simp)) fun x w' hx h3=>⟨x,rfl,hx,h3.facts (F':=[]) (fun _ _ _ h=>by cases h)⟩
theorem XW (a a':Nm) (ha:a.owner.size≤1099511627770) (hb:a'.owner.size≤1099511627770):Enters 82∧Spec prog 82 #[a.v,a'.v] [] [] (RetV (.int .i64 (cmpO a a'))):=by
 generalize hr:cmpO a a'=r
 unfold cmpO at hr
 refine ZM [_,_] func82 ntmps82 fun G w hp=>?_
 repeat' (first|refine ZE ?_|refine ZD ?_|refine ZF ?_|refine ZS ?_|refine ZR (fun b=>?_)|refine ZT ?_|refine Zf ?_|refine Zm (fun b=>?_)|refine ZU ?_|refine ZC (cmp_int _ _) (fun _ _=>?_)|refine ZN (cmp_int _ _) (fun _ _=>?_)|refine ZC (compareN_ok a.owner a'.owner ha hb) (fun _ _=>?_)|refine ZN (cmp_str _ _) (fun _ _=>?_)|refine ZN (or3_ok _ _ _ _) (fun _ _=>?_)|refine ZA 7 [] [(0,0),(1,0),(2,0),(3,0),(5,0),(6,0),(7,0),(8,0),(10,0),(11,0),(12,0),(13,0),(4,4),(9,4),(14,4),(15,1),(16,4),(17,0)] [] ?_|(refine ZG (fun hc=>?_) (fun hc=>?_)<;>(try simp at hc))|fail)
 ·rw [if_pos hc] at hr;subst hr;exact ZK () rfl trivial
 ·rename_i h _ _
  rw [if_neg (by simp [h]),if_pos hc] at hr;subst hr;exact ZK () rfl trivial
 ·rename_i h _ _ _ _ _ _ _ _ _ _ _
  rw [if_neg (by simp_all),if_neg (by simp_all)] at hr
  have e:r=or0 [cmpI a.number a'.number,cmpI a.index a'.index,cmpS a.text a'.text]:=by
   rw [←hr]
   simp only [or0]
   split
   ·rfl
   ·split
    ·rfl
    ·split
     ·rfl
     ·omega
  subst e
  exact ZK () rfl trivial
structure Usage where
 word:ByteArray
 owner:Bool
 number:Bool
 index:Bool
 text:Bool
 most:Int
 deriving Inhabited
def uf (u:Usage):List Value:=[.string u.word,.bool u.owner,.bool u.number,.bool u.index,.bool u.text,.int .i64 u.most]
def usages:List Usage:=[
 ⟨⟨#[]⟩,false,false,false,false,0⟩,
 ⟨⟨#[112,114,111,99,101,115,115]⟩,true,false,false,false,0⟩,
 ⟨⟨#[114,101,103,105,115,116,101,114,115]⟩,true,false,false,false,0⟩,
 ⟨⟨#[112,97,103,101]⟩,true,false,true,false,63⟩,
 ⟨⟨#[116,97,98,108,101]⟩,true,false,false,false,0⟩,
 ⟨⟨#[99,111,117,110,116,101,114]⟩,true,false,false,false,0⟩,
 ⟨⟨#[112,101,110,100,105,110,103]⟩,true,false,false,false,0⟩,
 ⟨⟨#[110,111,100,101]⟩,true,true,false,false,0⟩,
 ⟨⟨#[98,108,111,99,107]⟩,true,true,true,false,63⟩,
 ⟨⟨#[101,110,116,114,121]⟩,true,true,false,true,0⟩,
 ⟨⟨#[108,105,115,116,105,110,103]⟩,true,true,false,false,0⟩,
 ⟨⟨#[112,105,112,101]⟩,true,true,false,false,0⟩,
 ⟨⟨#[108,111,99,107]⟩,true,true,false,false,0⟩,
 ⟨⟨#[116,101,114,109,105,110,97,108]⟩,false,true,false,false,0⟩,
 ⟨⟨#[97,99,99,111,117,110,116]⟩,false,false,false,true,0⟩,
 ⟨⟨#[99,108,111,99,107]⟩,false,false,false,false,0⟩,
 ⟨⟨#[112,111,114,116]⟩,false,true,false,false,0⟩,
 ⟨⟨#[98,111,120]⟩,false,false,false,true,0⟩,
 ⟨⟨#[111,117,116]⟩,true,true,true,false,1073741824⟩,
 ⟨⟨#[115,104,101,108,108]⟩,true,false,false,false,0⟩,
 ⟨⟨#[101,112,111,99,104]⟩,false,false,false,false,0⟩]
def Usg:Pf:=⟨fun h=>∃T fz,h 0=some (.cells (usages.flatMap uf).toArray T fz),fun _ _ s ⟨T,fz,h⟩=>⟨T,fz,s _ _ h⟩⟩
section
variable {l:List Oper}
theorem run_indexArr {T sz m i b:Nat} {w:World} {rs tr:TRow} (hts:lookT tab t=some rs) (hrs:rs.k = .arr m T) (hT:lookT tab T=some tr) (hsz:tr.size=sz) {z:Int} (hz:z=(i:Int)) (hi:i<m) :
  (Instr.indexAt t (.pointer (some ⟨b,0,none⟩)) (.int .i64 z)).run prog w = .ok (.pointer (some ⟨b,i * sz,none⟩)) w:=by
 obtain ⟨d1,hd1,hk1⟩:=Zq.und hts
 rw [hrs] at hk1
 have hu1:(underlying t).run prog w = .ok (.array m T) w:=by
  cases d1<;>simp [chkKind] at hk1
  obtain ⟨rfl,rfl⟩:=hk1
  simp [underlying,hd1,go_sem]
 have hs1:=Zq.sizeOf hT w
 rw [hsz] at hs1
 subst hz
 unfold Instr.indexAt
 simp only [asIntOf,Sem.run_bind,Sem.run_pure,Result.andThen,hu1,Instr.sureAddr]
 have hc:(0:Int)≤(i:Int)∧(i:Int)<((m:Nat):Int):=⟨by omega,by omega⟩
 rw [if_pos hc]
 simp only [Sem.run_bind,hs1,Result.andThen,Sem.run_pure,Int.toNat_natCast]
 rw [Y9 rfl,Nat.zero_add]
theorem l_usg {m T:Nat} {z:Int} {rs tr:TRow} (i:Nat) (hlt:i<usages.length)
  (nx:∀T' o,o=i * 6→Wl n C ops.toArray k Q l ((d,.pointer (some ⟨0,o,none⟩))::E) (Cel T' 0 o (uf usages[i])::F) R)
  (hw:wantL ops E ⟨some d,.indexAddr t x y,ty0,pos,aft,gd⟩=some true:=by rfl) (hn:Nat.blt d n=true:=by rfl) (hx:ev E x=some (.pointer (some ⟨0,0,none⟩)):=by rfl) (hy:ev E y=some (.int .i64 z):=by rfl)
  (hs:Sel Usg F F0:=by (repeat (first|exact Sel.here|apply Sel.there));first|done|fail) (hts:lookT tab t=some rs:=by rfl) (hrs:rs.k = .arr m T:=by rfl) (hT:lookT tab T=some tr:=by rfl) (hsz:tr.size=6:=by rfl) (hm:m=usages.length:=by rfl)
  (hz:z=(i:Int):=by first|rfl|omega):Wl n C ops.toArray k Q (⟨some d,.indexAddr t x y,ty0,pos,aft,gd⟩::l) E F R:=
 YB (fun t ht=>by cases ht;exact Nat.le_of_ble_eq_true hn) (fun c hc=>by cases hc) hw fun a w ha hsat=>by
  obtain ⟨hp,hr,st⟩:=hsat
  obtain ⟨T',fz,h1⟩:=st.f _ hs.mem
  have hr1:=run_indexArr (w:=w) (b:=0) hts hrs hT hsz hz (by rw [hm];exact hlt)
  unfold OpRes
  simp only [execOp,ha.ev (x:=x) (by rw [ZQ];exact hx),ha.ev (x:=y) (by rw [ZQ];exact hy),Sem.run_bind,Result.andThen,hr1,Sem.run_pure]
  have hc:(Cel T' 0 (i * 6) (uf usages[i])).p hp:=by
   refine ⟨_,(T',fz),(usages.take i).flatMap uf,(usages.drop (i+1)).flatMap uf,h1,?_,?_⟩
   ·simpa using Xv (f:=uf) (List.getElem?_eq_getElem hlt)
   ·rw [Zy (sz:=6) (fun _=>rfl)]
    simp;omega
  exact fun a' ha'=>nx T' _ rfl a' w ha' (XZ st hc)
end
def isE (s:ByteArray):Bool:=s.toList == ByteArray.toList ⟨#[]⟩
theorem isE_eq (s:ByteArray):isE s=decide (s=⟨#[]⟩):=by
 unfold isE
 rw [Z0,Z0,Bool.eq_iff_iff]
 simp only [beq_iff_eq,decide_eq_true_eq]
 exact ⟨fun h=>Wj h,fun h=>by rw [h]⟩
def badc (c:UInt8):Bool:=decide ((c.toNat:Int)<33) || (decide ((126:Int)<c.toNat) || ((c.toNat:Int) == 47))
def oword (s:ByteArray):Bool:=!isE s && decide (s.size≤32) && s.data.toList.all fun c=>!badc c
def within (x m:Int):Bool:=decide (0≤x) && decide (x≤m)
def uchk (u:Usage) (a:Nm):Int:=
 if (!u.owner && !isE a.owner) || (!u.number && a.number != 0) || (!u.index && a.index != 0) || (!u.text && !isE a.text) then 1
 else if u.owner && !lvalid a.owner.data.toList then 12
 else if (u.number && !within a.number 1073741824) || (u.index && !within a.index u.most) then 2
 else if u.text && !oword a.text then 12
 else 0
def nchk (a:Nm):Int:=if 1≤a.kind∧a.kind≤20 then uchk (usages.getD a.kind.toNat default) a else 11
theorem X5 (s:ByteArray) (hs:s.size≤1099511627776):Enters 161∧Spec prog 161 #[.string s] [] [] (RetV (.bool (oword s))):=by
 have hsz:s.data.toList.length=s.size:=by simp
 generalize hr:oword s=r
 unfold oword at hr
 refine ZM [_] func161 ntmps161 fun G w hp=>?_
 repeat' (first|refine ZE ?_|refine ZD ?_|refine ZL ?_|refine ZF ?_|refine ZH ?_|refine ZJ (fun hc=>?_) (fun hc=>?_)|refine ZG (fun hc=>?_) (fun hc=>?_)|fail)
 ·have hc:isE s=true:=hc
  rw [hc] at hr;simp at hr;subst hr
  exact ZK () rfl trivial
 ·rename_i h1
  have h1:isE s=false:=h1
  have h2:¬s.size≤32:=by simp at hc;omega
  rw [h1,decide_eq_false h2] at hr;simp at hr;subst hr
  exact ZK () rfl trivial
 rename_i h1
 have h1:isE s=false:=h1
 have h2:s.size≤32:=by simp at hc;omega
 rw [h1,decide_eq_true h2] at hr;simp only [Bool.not_false,Bool.and_self,Bool.true_and] at hr
 refine Z8 (X:={i:Nat // i≤s.size∧∀j,j<i→∀c,s.data.toList[j]? = some c→badc c=false}) (fun i=>[(0,.string s),(12,.int .i64 (s.size:Int)),(13,.int .i64 (i.1:Int))]) (fun _=>[]) (fun _=>[]) (fun i=>s.size - i.1) ⟨0,by omega,fun j hj=>by omega⟩ ⟨rfl,rfl,rfl,trivial⟩ ?_
 rintro ⟨i,hi1,hi2⟩
 dsimp only
 by_cases hlt:i<s.data.toList.length
 ·obtain ⟨c,hcc⟩:∃c,s.data.toList[i]? = some c:=⟨_,List.getElem?_eq_getElem hlt⟩
  have bad:badc c=true→r=false:=fun hb=>by
   rw [←hr,List.all_eq_false]
   exact ⟨c,List.mem_of_getElem? hcc,by simp [hb]⟩
  repeat' (first|refine ZE ?_|refine ZD ?_|refine ZL ?_|refine ZF ?_|refine ZH ?_|refine l_six (s:=s) i c hcc ?_|(refine ZJ (fun hc=>?_) (fun hc=>?_)<;>(try simp at hc)<;>(try omega))|(refine ZG (fun hc=>?_) (fun hc=>?_)<;>(try simp at hc)<;>(try omega))|fail)
  all_goals try (
   have e:=bad (by simp [badc];omega)
   exact Ym (Yx (w_rv (congrArg Value.bool e) (YD () rfl trivial))))
  rw [wrapi (z:=(i:Int)+1) (by omega) (by omega)]
  refine Zb ⟨i+1,by omega,fun j hj c' hc'=>?_⟩ (by show s.size - (i+1)<s.size - i;omega) ⟨rfl,rfl,rfl,trivial⟩
  by_cases hij:j=i
  ·subst hij
   obtain rfl:=Option.some.inj (hcc.symm.trans hc')
   simp [badc];omega
  ·exact hi2 j (by omega) c' hc'
 ·have e:r=true:=by
   rw [←hr,List.all_eq_true]
   intro c hc
   obtain ⟨j,hj,rfl⟩:=List.mem_iff_getElem.1 hc
   rw [hi2 j (by omega) _ (List.getElem?_eq_getElem hj)];rfl
  repeat' (first|refine ZE ?_|refine ZD ?_|refine ZF ?_|refine ZW ?_|(refine ZG (fun hc=>?_) (fun hc=>?_)<;>(try simp at hc)<;>(try omega))|fail)
  subst e
  exact ZK () rfl trivial
end Go.Proofs.YtdkndahndgkmnaaGreatDoor
set_option maxRecDepth 10000
set_option maxHeartbeats 4000000
namespace Go.Proofs.YtdkndahndgkmnaaGreatDoor
open Go.Proofs.Tryz
open Go.RowKit
theorem klt {a:Nm} (hk:1≤a.kind∧a.kind≤20):a.kind.toNat<usages.length:=by show a.kind.toNat<21;omega
theorem chk_TFFF (a:Nm) (ha:a.owner.size≤1099511627776) (ht:a.text.size≤1099511627776) (hk:1≤a.kind∧a.kind≤20) (uw:ByteArray) (um:Int) (hu:usages[a.kind.toNat]'(klt hk)=⟨uw,true,false,false,false,um⟩) :
  Enters 113∧Spec prog 113 #[a.v] [Usg] [] (RetV (.int .i64 (uchk ⟨uw,true,false,false,false,um⟩ a))):=by
 have v1:=YW a.owner ha
 have v2:=X5 a.text ht
 have v3:=Ys a.kind
 have e3:(decide (1≤a.kind) && decide (a.kind≤20))=true:=by simp [hk]
 rw [e3] at v3
 generalize hr:uchk ⟨uw,true,false,false,false,um⟩ a=r
 unfold uchk at hr
 simp only [Bool.not_false,Bool.not_true,Bool.true_and,Bool.false_and,Bool.or_false,Bool.false_or] at hr
 refine ZM [_] func113 ntmps113 fun G w hp=>?_
 repeat' (first|refine ZE ?_|refine ZD ?_|refine ZF ?_|refine ZS ?_|refine ZR (fun b=>?_)|refine ZB ?_|refine ZC (v3) (fun _ _=>?_)|fail)
 refine l_usg a.kind.toNat (klt hk) (fun T' o ho=>?_)
 rw [hu]
 repeat' (first|refine ZE ?_|refine ZD ?_|refine ZL ?_|refine ZF ?_|refine ZS ?_|refine ZV ?_|refine ZR (fun b=>?_)|refine ZB ?_|refine ZC (v1) (fun _ _=>?_)|refine XV ?_|refine ZG (fun hc=>?_) (fun hc=>?_)|fail)
 all_goals (refine ZK () ?_ trivial;rw [←hr];clear hr v1 v2 v3 hu hk e3;simp only [cond_true,Bool.not_false] at *;simp_all [isE,resV,RetV])
theorem chk_TFTF (a:Nm) (ha:a.owner.size≤1099511627776) (ht:a.text.size≤1099511627776) (hk:1≤a.kind∧a.kind≤20) (uw:ByteArray) (um:Int) (hu:usages[a.kind.toNat]'(klt hk)=⟨uw,true,false,true,false,um⟩) :
  Enters 113∧Spec prog 113 #[a.v] [Usg] [] (RetV (.int .i64 (uchk ⟨uw,true,false,true,false,um⟩ a))):=by
 have v1:=YW a.owner ha
 have v2:=X5 a.text ht
 have v3:=Ys a.kind
 have e3:(decide (1≤a.kind) && decide (a.kind≤20))=true:=by simp [hk]
 rw [e3] at v3
 generalize hr:uchk ⟨uw,true,false,true,false,um⟩ a=r
 unfold uchk at hr
 simp only [Bool.not_false,Bool.not_true,Bool.true_and,Bool.false_and,Bool.or_false,Bool.false_or] at hr
 refine ZM [_] func113 ntmps113 fun G w hp=>?_
 repeat' (first|refine ZE ?_|refine ZD ?_|refine ZF ?_|refine ZS ?_|refine ZR (fun b=>?_)|refine ZB ?_|refine ZC (v3) (fun _ _=>?_)|fail)
 refine l_usg a.kind.toNat (klt hk) (fun T' o ho=>?_)
 rw [hu]
 repeat' (first|refine ZE ?_|refine ZD ?_|refine ZL ?_|refine ZF ?_|refine ZS ?_|refine ZV ?_|refine ZR (fun b=>?_)|refine ZB ?_|refine ZC (v1) (fun _ _=>?_)|refine ZC (Xl _ _) (fun _ _=>?_)|refine XV ?_|refine ZG (fun hc=>?_) (fun hc=>?_)|fail)
 all_goals (refine ZK () ?_ trivial;rw [←hr];clear hr v1 v2 v3 hu hk e3;simp only [cond_true,Bool.not_false] at *;simp_all [isE,within,resV,RetV])
theorem chk_TTFF (a:Nm) (ha:a.owner.size≤1099511627776) (ht:a.text.size≤1099511627776) (hk:1≤a.kind∧a.kind≤20) (uw:ByteArray) (um:Int) (hu:usages[a.kind.toNat]'(klt hk)=⟨uw,true,true,false,false,um⟩) :
  Enters 113∧Spec prog 113 #[a.v] [Usg] [] (RetV (.int .i64 (uchk ⟨uw,true,true,false,false,um⟩ a))):=by
 have v1:=YW a.owner ha
 have v2:=X5 a.text ht
 have v3:=Ys a.kind
 have e3:(decide (1≤a.kind) && decide (a.kind≤20))=true:=by simp [hk]
 rw [e3] at v3
 generalize hr:uchk ⟨uw,true,true,false,false,um⟩ a=r
 unfold uchk at hr
 simp only [Bool.not_false,Bool.not_true,Bool.true_and,Bool.false_and,Bool.or_false,Bool.false_or] at hr
 refine ZM [_] func113 ntmps113 fun G w hp=>?_
 repeat' (first|refine ZE ?_|refine ZD ?_|refine ZF ?_|refine ZS ?_|refine ZR (fun b=>?_)|refine ZB ?_|refine ZC (v3) (fun _ _=>?_)|fail)
 refine l_usg a.kind.toNat (klt hk) (fun T' o ho=>?_)
 rw [hu]
 repeat' (first|refine ZE ?_|refine ZD ?_|refine ZL ?_|refine ZF ?_|refine ZS ?_|refine ZV ?_|refine ZR (fun b=>?_)|refine ZB ?_|refine ZC (v1) (fun _ _=>?_)|refine ZC (Xl _ _) (fun _ _=>?_)|refine XV ?_|refine ZG (fun hc=>?_) (fun hc=>?_)|fail)
 all_goals (refine ZK () ?_ trivial;rw [←hr];clear hr v1 v2 v3 hu hk e3;simp only [cond_true,Bool.not_false] at *;simp_all [isE,within,resV,RetV])
theorem chk_TTTF (a:Nm) (ha:a.owner.size≤1099511627776) (ht:a.text.size≤1099511627776) (hk:1≤a.kind∧a.kind≤20) (uw:ByteArray) (um:Int) (hu:usages[a.kind.toNat]'(klt hk)=⟨uw,true,true,true,false,um⟩) :
  Enters 113∧Spec prog 113 #[a.v] [Usg] [] (RetV (.int .i64 (uchk ⟨uw,true,true,true,false,um⟩ a))):=by
 have v1:=YW a.owner ha
 have v2:=X5 a.text ht
 have v3:=Ys a.kind
 have e3:(decide (1≤a.kind) && decide (a.kind≤20))=true:=by simp [hk]
 rw [e3] at v3
 generalize hr:uchk ⟨uw,true,true,true,false,um⟩ a=r
 unfold uchk at hr
 simp only [Bool.not_false,Bool.not_true,Bool.true_and,Bool.false_and,Bool.or_false,Bool.false_or] at hr
 refine ZM [_] func113 ntmps113 fun G w hp=>?_
 repeat' (first|refine ZE ?_|refine ZD ?_|refine ZF ?_|refine ZS ?_|refine ZR (fun b=>?_)|refine ZB ?_|refine ZC (v3) (fun _ _=>?_)|fail)
 refine l_usg a.kind.toNat (klt hk) (fun T' o ho=>?_)
 rw [hu]
 repeat' (first|refine ZE ?_|refine ZD ?_|refine ZL ?_|refine ZF ?_|refine ZS ?_|refine ZV ?_|refine ZR (fun b=>?_)|refine ZB ?_|refine ZC (v1) (fun _ _=>?_)|refine ZC (Xl _ _) (fun _ _=>?_)|refine XV ?_|refine ZG (fun hc=>?_) (fun hc=>?_)|fail)
 all_goals (refine ZK () ?_ trivial;rw [←hr];clear hr v1 v2 v3 hu hk e3;simp only [cond_true,Bool.not_false] at *;simp_all [isE,within,resV,RetV])
theorem chk_TTFT (a:Nm) (ha:a.owner.size≤1099511627776) (ht:a.text.size≤1099511627776) (hk:1≤a.kind∧a.kind≤20) (uw:ByteArray) (um:Int) (hu:usages[a.kind.toNat]'(klt hk)=⟨uw,true,true,false,true,um⟩) :
  Enters 113∧Spec prog 113 #[a.v] [Usg] [] (RetV (.int .i64 (uchk ⟨uw,true,true,false,true,um⟩ a))):=by
 have v1:=YW a.owner ha
 have v2:=X5 a.text ht
 have v3:=Ys a.kind
 have e3:(decide (1≤a.kind) && decide (a.kind≤20))=true:=by simp [hk]
 rw [e3] at v3
 generalize hr:uchk ⟨uw,true,true,false,true,um⟩ a=r
 unfold uchk at hr
 simp only [Bool.not_false,Bool.not_true,Bool.true_and,Bool.false_and,Bool.or_false,Bool.false_or] at hr
 refine ZM [_] func113 ntmps113 fun G w hp=>?_
 repeat' (first|refine ZE ?_|refine ZD ?_|refine ZF ?_|refine ZS ?_|refine ZR (fun b=>?_)|refine ZB ?_|refine ZC (v3) (fun _ _=>?_)|fail)
 refine l_usg a.kind.toNat (klt hk) (fun T' o ho=>?_)
 rw [hu]
 repeat' (first|refine ZE ?_|refine ZD ?_|refine ZL ?_|refine ZF ?_|refine ZS ?_|refine ZV ?_|refine ZR (fun b=>?_)|refine ZB ?_|refine ZC (v1) (fun _ _=>?_)|refine ZC (v2) (fun _ _=>?_)|refine ZC (Xl _ _) (fun _ _=>?_)|refine XV ?_|refine ZG (fun hc=>?_) (fun hc=>?_)|fail)
 all_goals (refine ZK () ?_ trivial;rw [←hr];clear hr v1 v2 v3 hu hk e3;simp only [cond_true,Bool.not_false] at *;simp_all [within,resV,RetV])
theorem chk_FTFF (a:Nm) (ha:a.owner.size≤1099511627776) (ht:a.text.size≤1099511627776) (hk:1≤a.kind∧a.kind≤20) (uw:ByteArray) (um:Int) (hu:usages[a.kind.toNat]'(klt hk)=⟨uw,false,true,false,false,um⟩) :
  Enters 113∧Spec prog 113 #[a.v] [Usg] [] (RetV (.int .i64 (uchk ⟨uw,false,true,false,false,um⟩ a))):=by
 have v1:=YW a.owner ha
 have v2:=X5 a.text ht
 have v3:=Ys a.kind
 have e3:(decide (1≤a.kind) && decide (a.kind≤20))=true:=by simp [hk]
 rw [e3] at v3
 generalize hr:uchk ⟨uw,false,true,false,false,um⟩ a=r
 unfold uchk at hr
 simp only [Bool.not_false,Bool.not_true,Bool.true_and,Bool.false_and,Bool.or_false] at hr
 refine ZM [_] func113 ntmps113 fun G w hp=>?_
 repeat' (first|refine ZE ?_|refine ZD ?_|refine ZF ?_|refine ZS ?_|refine ZR (fun b=>?_)|refine ZB ?_|refine ZC (v3) (fun _ _=>?_)|fail)
 refine l_usg a.kind.toNat (klt hk) (fun T' o ho=>?_)
 rw [hu]
 repeat' (first|refine ZE ?_|refine ZD ?_|refine ZL ?_|refine ZF ?_|refine ZS ?_|refine ZV ?_|refine ZR (fun b=>?_)|refine ZB ?_|refine ZC (Xl _ _) (fun _ _=>?_)|refine XV ?_|refine ZG (fun hc=>?_) (fun hc=>?_)|fail)
 all_goals (refine ZK () ?_ trivial;rw [←hr];clear hr v1 v2 v3 hu hk e3;simp only [cond_true,Bool.not_false] at *;simp_all [isE,within,resV,RetV])
theorem chk_FFFT (a:Nm) (ha:a.owner.size≤1099511627776) (ht:a.text.size≤1099511627776) (hk:1≤a.kind∧a.kind≤20) (uw:ByteArray) (um:Int) (hu:usages[a.kind.toNat]'(klt hk)=⟨uw,false,false,false,true,um⟩) :
  Enters 113∧Spec prog 113 #[a.v] [Usg] [] (RetV (.int .i64 (uchk ⟨uw,false,false,false,true,um⟩ a))):=by
 have v1:=YW a.owner ha
 have v2:=X5 a.text ht
 have v3:=Ys a.kind
 have e3:(decide (1≤a.kind) && decide (a.kind≤20))=true:=by simp [hk]
 rw [e3] at v3
 generalize hr:uchk ⟨uw,false,false,false,true,um⟩ a=r
 unfold uchk at hr
 simp only [Bool.not_false,Bool.not_true,Bool.true_and,Bool.false_and,Bool.or_false] at hr
 refine ZM [_] func113 ntmps113 fun G w hp=>?_
 repeat' (first|refine ZE ?_|refine ZD ?_|refine ZF ?_|refine ZS ?_|refine ZR (fun b=>?_)|refine ZB ?_|refine ZC (v3) (fun _ _=>?_)|fail)
 refine l_usg a.kind.toNat (klt hk) (fun T' o ho=>?_)
 rw [hu]
 repeat' (first|refine ZE ?_|refine ZD ?_|refine ZL ?_|refine ZF ?_|refine ZS ?_|refine ZV ?_|refine ZR (fun b=>?_)|refine ZB ?_|refine ZC (v2) (fun _ _=>?_)|refine XV ?_|refine ZG (fun hc=>?_) (fun hc=>?_)|fail)
 all_goals (refine ZK () ?_ trivial;rw [←hr];clear hr v1 v2 v3 hu hk e3;simp only [cond_true,Bool.not_false] at *;simp_all [isE,resV,RetV])
theorem chk_FFFF (a:Nm) (ha:a.owner.size≤1099511627776) (ht:a.text.size≤1099511627776) (hk:1≤a.kind∧a.kind≤20) (uw:ByteArray) (um:Int) (hu:usages[a.kind.toNat]'(klt hk)=⟨uw,false,false,false,false,um⟩) :
  Enters 113∧Spec prog 113 #[a.v] [Usg] [] (RetV (.int .i64 (uchk ⟨uw,false,false,false,false,um⟩ a))):=by
 have v1:=YW a.owner ha
 have v2:=X5 a.text ht
 have v3:=Ys a.kind
 have e3:(decide (1≤a.kind) && decide (a.kind≤20))=true:=by simp [hk]
 rw [e3] at v3
 generalize hr:uchk ⟨uw,false,false,false,false,um⟩ a=r
 unfold uchk at hr
 simp only [Bool.not_false,Bool.true_and,Bool.false_and,Bool.or_false] at hr
 refine ZM [_] func113 ntmps113 fun G w hp=>?_
 repeat' (first|refine ZE ?_|refine ZD ?_|refine ZF ?_|refine ZS ?_|refine ZR (fun b=>?_)|refine ZB ?_|refine ZC (v3) (fun _ _=>?_)|fail)
 refine l_usg a.kind.toNat (klt hk) (fun T' o ho=>?_)
 rw [hu]
 repeat' (first|refine ZE ?_|refine ZD ?_|refine ZL ?_|refine ZF ?_|refine ZS ?_|refine ZV ?_|refine ZR (fun b=>?_)|refine ZB ?_|refine XV ?_|refine ZG (fun hc=>?_) (fun hc=>?_)|fail)
 all_goals (refine ZK () ?_ trivial;rw [←hr];clear hr v1 v2 v3 hu hk e3;simp only [cond_true,Bool.not_false] at *;simp_all [isE,resV,RetV])
def okf (u:Usage):Bool:=(u.owner || !u.index) && (u.owner || !(u.number && u.text)) && !(u.index && u.text) && (!(u.owner && u.text) || u.number)
theorem okf_all:usages.all okf=true:=by decide
theorem XI (a:Nm) (ha:a.owner.size≤1099511627776) (ht:a.text.size≤1099511627776):Enters 113∧Spec prog 113 #[a.v] [Usg] [] (RetV (.int .i64 (nchk a))):=by
 by_cases hk:1≤a.kind∧a.kind≤20
 ·have hn:nchk a=uchk (usages[a.kind.toNat]'(klt hk)) a:=by
   rw [nchk,if_pos hk,List.getD_eq_getElem?_getD,List.getElem?_eq_getElem (klt hk),Option.getD_some]
  rw [hn]
  have hu:okf (usages[a.kind.toNat]'(klt hk))=true:=List.all_eq_true.1 okf_all _ (List.getElem_mem (klt hk))
  generalize hus:usages[a.kind.toNat]'(klt hk)=u at *
  obtain ⟨uw,uo,un,ui,ut,um⟩:=u
  cases uo<;>cases un<;>cases ui<;>cases ut
  all_goals first
   | (simp [okf] at hu;done)
   | exact chk_TFFF a ha ht hk _ _ hus
   | exact chk_TFTF a ha ht hk _ _ hus
   | exact chk_TTFF a ha ht hk _ _ hus
   | exact chk_TTTF a ha ht hk _ _ hus
   | exact chk_TTFT a ha ht hk _ _ hus
   | exact chk_FTFF a ha ht hk _ _ hus
   | exact chk_FFFT a ha ht hk _ _ hus
   | exact chk_FFFF a ha ht hk _ _ hus
 ·have hn:nchk a=11:=by rw [nchk,if_neg hk]
  rw [hn]
  have v3:=Ys a.kind
  have e3:(decide (1≤a.kind) && decide (a.kind≤20))=false:=by simp;omega
  rw [e3] at v3
  refine ZM [_] func113 ntmps113 fun G w hp=>?_
  repeat' (first|refine ZE ?_|refine ZD ?_|refine ZF ?_|refine ZS ?_|refine ZR (fun b=>?_)|refine ZH ?_|refine ZC (v3) (fun _ _=>?_)|fail)
  exact ZK () rfl trivial
end Go.Proofs.YtdkndahndgkmnaaGreatDoor
namespace Go.Proofs.YtdkndahndgkmnaaGreatDoor
open Go.RowKit Go.Proofs.Tryz
variable {n:Nat} {C:Cx} {Q:Exit→Act→World→Prop} {E E':List (Nat×Value)} {F F1:List Pf} {R R0:List HP} {k:List Fr} {ops:List Oper}
section
variable {l:List Oper}
theorem k_mk {f:Pf} (h:∀hp,(∀x ∈ F1,x.p hp)→f.p hp) (t:Wk n C k Q E (f::F) R) (hF:EntF F F1:=by (repeat (first|exact trivial|exact Sel.here|apply Sel.there|apply EntF.cons));first|done|fail):Wk n C k Q E F R:=
 fun a w ha ⟨hp,_,st⟩=>t a w ha (XZ st (h hp (hF.all hp st.f)))
end
abbrev ndc (pl pr:Option Addr) (a:Nm) (v:ByteArray) (h s b:Int):Obj:=.cells #[.pointer pl,.pointer pr,.int .i64 a.kind,.string a.owner,.int .i64 a.number,.int .i64 a.index,.string a.text,.string v,.int .i64 h,.int .i64 s,.int .i64 b] 238
def TrP:Option Addr→Tr→H→Prop
 | p,.nil,_=>p=none
 | p,.node l a v r,h=>∃b pl pr,p=some ⟨b,0,none⟩∧h b=some (ndc pl pr a v (Tr.node l a v r).ht (Tr.node l a v r).sz (Tr.node l a v r).by_)∧TrP pl l h∧TrP pr r h
theorem UG:∀(t:Tr) (p:Option Addr) (h k:H),Sub h k→TrP p t h→TrP p t k
 | .nil,_,_,_,_,hh=>hh
 | .node l _ _ r,_,h,k,s,⟨b,pl,pr,h1,h2,h3,h4⟩=>⟨b,pl,pr,h1,s _ _ h2,UG l pl h k s h3,UG r pr h k s h4⟩
def TrF (p:Option Addr) (t:Tr):Pf:=⟨TrP p t,UG t p⟩
def Nd (p:Option Addr) (a:Nm) (v:ByteArray):Pf:=⟨fun h=>∃b pl pr x y z,p=some ⟨b,0,none⟩∧h b=some (ndc pl pr a v x y z),fun _ _ s ⟨b,pl,pr,x,y,z,h1,h2⟩=>⟨b,pl,pr,x,y,z,h1,s _ _ h2⟩⟩
theorem Zr (p:Option Addr) (t:Tr):Enters 208∧Spec prog 208 #[.pointer p] [TrF p t] [] (RetV (.int .i64 (t.ht:Int))):=by
 refine ZM [_] func208 ntmps208 fun G w hp=>?_
 cases t with
 | nil=>
  refine XQ (X:=Unit) (Fx:=fun _=>[]) (p:=fun _=>p=none) (f:=TrF p .nil) .here (fun h hh=>⟨(),hh,fun _ hx=>by cases hx⟩) (fun _ hp=>?_)
  subst hp
  repeat' (first|refine ZE ?_|refine ZD ?_|refine ZF ?_|refine ZH ?_|fail)
  exact ZK () rfl trivial
 | node l a v r=>
  refine XQ (X:=Nat×Option Addr×Option Addr) (Fx:=fun x=>[Blk x.1 (ndc x.2.1 x.2.2 a v (Tr.node l a v r).ht (Tr.node l a v r).sz (Tr.node l a v r).by_)]) (p:=fun x=>p=some ⟨x.1,0,none⟩) (f:=TrF p (.node l a v r)) .here (fun h ⟨b,pl,pr,h1,h2,_,_⟩=>⟨(b,pl,pr),h1,fun f hf=>by simp at hf;subst hf;exact h2⟩) (fun x hp=>?_)
  subst hp
  repeat' (first|refine ZE ?_|refine ZD ?_|refine ZF ?_|refine ZO ?_|refine ZB ?_|fail)
  exact ZK () rfl trivial
theorem UP (p:Option Addr) (t:Tr):Enters 170∧Spec prog 170 #[.pointer p] [TrF p t] [] (RetV (.int .i64 (t.sz:Int))):=by
 refine ZM [_] func170 ntmps170 fun G w hp=>?_
 cases t with
 | nil=>
  refine XQ (X:=Unit) (Fx:=fun _=>[]) (p:=fun _=>p=none) (f:=TrF p .nil) .here (fun h hh=>⟨(),hh,fun _ hx=>by cases hx⟩) (fun _ hp=>?_)
  subst hp
  repeat' (first|refine ZE ?_|refine ZD ?_|refine ZF ?_|refine ZH ?_|fail)
  exact ZK () rfl trivial
 | node l a v r=>
  refine XQ (X:=Nat×Option Addr×Option Addr) (Fx:=fun x=>[Blk x.1 (ndc x.2.1 x.2.2 a v (Tr.node l a v r).ht (Tr.node l a v r).sz (Tr.node l a v r).by_)]) (p:=fun x=>p=some ⟨x.1,0,none⟩) (f:=TrF p (.node l a v r)) .here (fun h ⟨b,pl,pr,h1,h2,_,_⟩=>⟨(b,pl,pr),h1,fun f hf=>by simp at hf;subst hf;exact h2⟩) (fun x hp=>?_)
  subst hp
  repeat' (first|refine ZE ?_|refine ZD ?_|refine ZF ?_|refine ZO ?_|refine ZB ?_|fail)
  exact ZK () rfl trivial
theorem bytesOf_ok (p:Option Addr) (t:Tr):Enters 209∧Spec prog 209 #[.pointer p] [TrF p t] [] (RetV (.int .i64 (t.by_:Int))):=by
 refine ZM [_] func209 ntmps209 fun G w hp=>?_
 cases t with
 | nil=>
  refine XQ (X:=Unit) (Fx:=fun _=>[]) (p:=fun _=>p=none) (f:=TrF p .nil) .here (fun h hh=>⟨(),hh,fun _ hx=>by cases hx⟩) (fun _ hp=>?_)
  subst hp
  repeat' (first|refine ZE ?_|refine ZD ?_|refine ZF ?_|refine ZH ?_|fail)
  exact ZK () rfl trivial
 | node l a v r=>
  refine XQ (X:=Nat×Option Addr×Option Addr) (Fx:=fun x=>[Blk x.1 (ndc x.2.1 x.2.2 a v (Tr.node l a v r).ht (Tr.node l a v r).sz (Tr.node l a v r).by_)]) (p:=fun x=>p=some ⟨x.1,0,none⟩) (f:=TrF p (.node l a v r)) .here (fun h ⟨b,pl,pr,h1,h2,_,_⟩=>⟨(b,pl,pr),h1,fun f hf=>by simp at hf;subst hf;exact h2⟩) (fun x hp=>?_)
  subst hp
  repeat' (first|refine ZE ?_|refine ZD ?_|refine ZF ?_|refine ZO ?_|refine ZB ?_|fail)
  exact ZK () rfl trivial
theorem Yt (pl pm pr:Option Addr) (l r:Tr) (a:Nm) (v:ByteArray) (hs:l.sz+r.sz≤1099511627776) (hb:v.size+l.by_+r.by_≤1152921504606846976):Enters 171∧Spec prog 171 #[.pointer pl,.pointer pm,.pointer pr] [TrF pl l,Nd pm a v,TrF pr r] []
  ⟨Nat,fun b=>.pointer (some ⟨b,0,none⟩),fun _=>True,fun b=>[TrF (some ⟨b,0,none⟩) (.node l a v r)],fun _=>[]⟩:=by
 have hl:=l.ht_sz
 have hr:=r.ht_sz
 refine ZM [_,_,_] func171 ntmps171 fun G w hp=>?_
 refine XQ (X:=Nat×Option Addr×Option Addr×Int×Int×Int) (Fx:=fun x=>[Blk x.1 (ndc x.2.1 x.2.2.1 a v x.2.2.2.1 x.2.2.2.2.1 x.2.2.2.2.2)]) (p:=fun x=>pm=some ⟨x.1,0,none⟩) (f:=Nd pm a v) (.there .here) (fun h ⟨b,pl,pr,x,y,z,h1,h2⟩=>⟨(b,pl,pr,x,y,z),h1,fun f hf=>by simp at hf;subst hf;exact h2⟩) (fun x hp=>?_)
 subst hp
 repeat' (first|refine ZE ?_|refine ZD ?_|refine ZF ?_|refine ZT ?_|refine Za ?_|refine Zj (fun b=>?_)|refine ZU ?_|refine ZN (Zr pl l) (fun _ _=>?_)|refine ZN (Zr pr r) (fun _ _=>?_)|refine ZN (UP pl l) (fun _ _=>?_)|refine ZN (UP pr r) (fun _ _=>?_)|refine ZN (bytesOf_ok pl l) (fun _ _=>?_)|refine ZN (bytesOf_ok pr r) (fun _ _=>?_)|refine ZA 1 [] [(0,0),(1,0),(2,0),(3,0),(4,0),(5,0),(6,0),(7,0),(8,0),(9,0),(10,0),(12,0),(16,0),(19,0),(22,0),(23,0),(24,0),(25,0),(26,0),(27,0),(30,0),(11,4),(13,4),(14,0),(15,0),(17,4),(18,0),(20,4),(21,0),(28,4),(29,0),(31,4),(32,0),(33,0),(34,1),(35,0)] [] ?_|fail)
 have e1:IntKind.i64.wrap (1+if (l.ht:Int)<r.ht then (r.ht:Int) else l.ht)=((Tr.node l a v r).ht:Int):=by
  rw [wrapi (by split<;>omega) (by split<;>omega)];simp only [Tr.ht];split<;>omega
 have e2:IntKind.i64.wrap (IntKind.i64.wrap (1+(l.sz:Int))+r.sz)=((Tr.node l a v r).sz:Int):=by
  rw [wrapi (z:=1+(l.sz:Int)) (by omega) (by omega),wrapi (by omega) (by omega)];simp only [Tr.sz];omega
 have e3:IntKind.i64.wrap (IntKind.i64.wrap ((v.size:Int)+l.by_)+r.by_)=((Tr.node l a v r).by_:Int):=by
  rw [wrapi (z:=(v.size:Int)+l.by_) (by omega) (by omega),wrapi (by omega) (by omega)];simp only [Tr.by_];omega
 rw [e1,e2,e3]
 refine k_fz ?_
 refine k_mk (F1:=[Blk b (ndc pl pr a v (Tr.node l a v r).ht (Tr.node l a v r).sz (Tr.node l a v r).by_),TrF pl l,TrF pr r]) (f:=TrF (some ⟨b,0,none⟩) (.node l a v r)) (fun hp hF=>⟨b,pl,pr,rfl,hF (Blk b (ndc pl pr a v (Tr.node l a v r).ht (Tr.node l a v r).sz (Tr.node l a v r).by_)) (by simp),hF (TrF pl l) (by simp),hF (TrF pr r) (by simp)⟩) ?_
 exact ZK b rfl trivial
theorem nd_of {p:Option Addr} {l r:Tr} {a:Nm} {v:ByteArray} {h:H} (hh:TrP p (.node l a v r) h):(Nd p a v).p h:=
 let ⟨b,pl,pr,h1,h2,_,_⟩:=hh
 ⟨b,pl,pr,_,_,_,h1,h2⟩
variable {F0:List Pf}
section
variable {l:List Oper}
theorem k_tr {p:Option Addr} {l r:Tr} {a:Nm} {v:ByteArray} (t:∀b pl pr,p=some ⟨b,0,none⟩→Wk n C k Q E (Blk b (ndc pl pr a v (Tr.node l a v r).ht (Tr.node l a v r).sz (Tr.node l a v r).by_)::Nd p a v::TrF pl l::TrF pr r::F) R) (hs:Sel (TrF p (.node l a v r)) F F0:=by (repeat (first|exact Sel.here|apply Sel.there));first|done|fail):Wk n C k Q E F R:=by
 refine XQ (X:=Nat×Option Addr×Option Addr) (Fx:=fun x=>[Blk x.1 (ndc x.2.1 x.2.2 a v (Tr.node l a v r).ht (Tr.node l a v r).sz (Tr.node l a v r).by_),Nd p a v,TrF x.2.1 l,TrF x.2.2 r]) (p:=fun x=>p=some ⟨x.1,0,none⟩) (f:=TrF p (.node l a v r)) hs (fun h hh=>?_) (fun x hp=>t x.1 x.2.1 x.2.2 hp)
 have hn:=nd_of hh
 obtain ⟨b,pl,pr,h1,h2,h3,h4⟩:=hh
 refine ⟨(b,pl,pr),h1,fun f hf=>?_⟩
 simp only [List.mem_cons,List.not_mem_nil,or_false] at hf
 rcases hf with rfl|rfl|rfl|rfl
 ·exact h2
 ·exact hn
 ·exact h3
 ·exact h4
theorem k_trn {p:Option Addr} (t:p=none→Wk n C k Q E F R) (hs:Sel (TrF p .nil) F F0:=by (repeat (first|exact Sel.here|apply Sel.there));first|done|fail):Wk n C k Q E F R:=
 XQ (X:=Unit) (Fx:=fun _=>[]) (p:=fun _=>p=none) (f:=TrF p .nil) hs (fun h hh=>⟨(),hh,fun _ hx=>by cases hx⟩) (fun _ hp=>t hp)
end
set_option maxHeartbeats 2000000 in
theorem Xt (pl pm pr:Option Addr) (l r:Tr) (a:Nm) (v:ByteArray) (hs:l.sz+r.sz≤1099511627776) (hb:v.size+l.by_+r.by_≤1152921504606846976):Enters 169∧Spec prog 169 #[.pointer pl,.pointer pm,.pointer pr] [TrF pl l,Nd pm a v,TrF pr r] []
  ⟨Nat,fun b=>.pointer (some ⟨b,0,none⟩),fun _=>True,fun b=>[TrF (some ⟨b,0,none⟩) (Tr.bal l a v r)],fun _=>[]⟩:=by
 have hl:=l.ht_sz
 have hr:=r.ht_sz
 have w1:=wrapi (z:=(l.ht:Int) - r.ht) (by omega) (by omega)
 refine ZM [_,_,_] func169 ntmps169 fun G w hp=>?_
 generalize hbal:Tr.bal l a v r=t
 unfold Tr.bal at hbal
 have k1:=hs
 have k2:=hb
 by_cases h1:r.ht+1<l.ht
 ·rw [if_pos h1] at hbal
  cases l with
  | nil=>simp [Tr.ht] at h1
  | node ll la lv lr=>
   dsimp only at hbal
   simp only [Tr.sz] at k1
   simp only [Tr.by_] at k2
   refine k_tr (p:=pl) (l:=ll) (r:=lr) (a:=la) (v:=lv) (fun b pll plr hp=>?_)
   subst hp
   by_cases h2:lr.ht≤ll.ht
   ·rw [if_pos h2] at hbal
    subst hbal
    repeat' (first|refine ZE ?_|refine ZD ?_|refine ZF ?_|refine ZT ?_|refine ZZ ?_|refine Za ?_|refine ZU ?_|refine ZC (Zr _ (Tr.node ll la lv lr)) (fun _ _=>?_)|refine ZC (Zr pr r) (fun _ _=>?_)|refine ZN (Zr pll ll) (fun _ _=>?_)|refine ZN (Zr plr lr) (fun _ _=>?_)|refine ZN (Yt plr pm pr lr r a v (by first|omega|(simp only [Tr.sz];omega)) (by first|omega|(simp only [Tr.by_];omega))) (fun _ _=>?_)|refine ZN (Yt pll _ _ ll (.node lr a v r) la lv (by first|omega|(simp only [Tr.sz];omega)) (by first|omega|(simp only [Tr.by_];omega))) (fun _ _=>?_)|rw [w1]|(refine ZP (fun hc=>?_) (fun hc=>?_)<;>(try simp at hc)<;>(try omega))|refine ZA 2 [] [(0,0),(1,0),(2,0),(3,0),(4,0),(5,0),(6,0),(8,0),(9,0),(10,0),(11,0),(7,4),(12,4),(13,0),(14,0),(15,0)] [] ?_|refine ZA 3 [] [(0,0),(1,0),(2,0),(3,0),(4,0),(5,0),(6,0),(7,0),(8,0),(9,0),(10,0),(11,4),(12,4),(13,0)] [] ?_|(refine ZG (fun hc=>?_) (fun hc=>?_)<;>(try simp at hc)<;>(try omega))|fail)
    rename_i q _
    exact ZK q rfl trivial
   ·rw [if_neg h2] at hbal
    cases lr with
    | nil=>simp [Tr.ht] at h2
    | node il ia iv ir=>
     dsimp only at hbal
     subst hbal
     simp only [Tr.sz] at k1
     simp only [Tr.by_] at k2
     refine k_tr (p:=plr) (l:=il) (r:=ir) (a:=ia) (v:=iv) (fun b2 pil pir hp=>?_)
     subst hp
     repeat' (first|refine ZE ?_|refine ZD ?_|refine ZF ?_|refine ZO ?_|refine ZT ?_|refine ZZ ?_|refine Za ?_|refine ZU ?_|refine ZC (Zr _ (Tr.node ll la lv (Tr.node il ia iv ir))) (fun _ _=>?_)|refine ZC (Zr pr r) (fun _ _=>?_)|refine ZN (Zr pll ll) (fun _ _=>?_)|refine ZN (Zr _ (Tr.node il ia iv ir)) (fun _ _=>?_)|refine ZN (Yt pll _ pil ll il la lv (by first|omega|(simp only [Tr.sz];omega)) (by first|omega|(simp only [Tr.by_];omega))) (fun _ _=>?_)|refine ZN (Yt pir pm pr ir r a v (by first|omega|(simp only [Tr.sz];omega)) (by first|omega|(simp only [Tr.by_];omega))) (fun _ _=>?_)|refine ZN (Yt _ _ _ (.node ll la lv il) (.node ir a v r) ia iv (by first|omega|(simp only [Tr.sz];omega)) (by first|omega|(simp only [Tr.by_];omega))) (fun _ _=>?_)|rw [w1]|(refine ZP (fun hc=>?_) (fun hc=>?_)<;>(try simp at hc)<;>(try omega))|refine ZA 2 [] [(0,0),(1,0),(2,0),(3,0),(4,0),(5,0),(6,0),(8,0),(9,0),(10,0),(11,0),(7,4),(12,4),(13,0),(14,0),(15,0)] [] ?_|refine ZA 6 [] [(0,0),(1,0),(2,0),(3,0),(4,0),(5,0),(6,0),(7,0),(8,0),(10,0),(11,0),(12,0),(13,0),(14,0),(15,0),(16,0),(9,4),(17,4),(18,4),(19,0)] [] ?_|(refine ZG (fun hc=>?_) (fun hc=>?_)<;>(try simp at hc)<;>(try omega))|fail)
     rename_i q _
     exact ZK q rfl trivial
 ·rw [if_neg h1] at hbal
  by_cases h3:l.ht+1<r.ht
  ·rw [if_pos h3] at hbal
   cases r with
   | nil=>simp [Tr.ht] at h3
   | node rl ra rv rr=>
    dsimp only at hbal
    simp only [Tr.sz] at k1
    simp only [Tr.by_] at k2
    refine k_tr (p:=pr) (l:=rl) (r:=rr) (a:=ra) (v:=rv) (fun b prl prr hp=>?_)
    subst hp
    by_cases h2:rl.ht≤rr.ht
    ·rw [if_pos h2] at hbal
     subst hbal
     repeat' (first|refine ZE ?_|refine ZD ?_|refine ZF ?_|refine ZB ?_|refine ZT ?_|refine ZZ ?_|refine Za ?_|refine ZU ?_|refine ZC (Zr pl l) (fun _ _=>?_)|refine ZC (Zr _ (Tr.node rl ra rv rr)) (fun _ _=>?_)|refine ZN (Zr prl rl) (fun _ _=>?_)|refine ZN (Zr prr rr) (fun _ _=>?_)|refine ZN (Yt pl pm prl l rl a v (by first|omega|(simp only [Tr.sz];omega)) (by first|omega|(simp only [Tr.by_];omega))) (fun _ _=>?_)|refine ZN (Yt _ _ prr (.node l a v rl) rr ra rv (by first|omega|(simp only [Tr.sz];omega)) (by first|omega|(simp only [Tr.by_];omega))) (fun _ _=>?_)|rw [w1]|(refine ZP (fun hc=>?_) (fun hc=>?_)<;>(try simp at hc)<;>(try omega))|refine ZA 2 [] [(0,0),(1,0),(2,0),(3,0),(4,0),(5,0),(6,0),(8,0),(9,0),(10,0),(11,0),(7,4),(12,4),(13,0),(14,0),(15,0)] [] ?_|refine ZA 7 [] [(0,0),(1,0),(2,0),(3,0),(4,0),(5,0),(6,0),(8,0),(9,0),(10,0),(11,0),(7,4),(12,4),(13,0),(14,0),(15,0)] [] ?_|refine ZA 8 [] [(0,0),(1,0),(2,0),(3,0),(4,0),(5,0),(7,0),(8,0),(9,0),(10,0),(11,0),(6,4),(12,4),(13,0)] [] ?_|(refine ZG (fun hc=>?_) (fun hc=>?_)<;>(try simp at hc)<;>(try omega))|fail)
     rename_i q _
     exact ZK q rfl trivial
    ·rw [if_neg h2] at hbal
     cases rl with
     | nil=>simp [Tr.ht] at h2
     | node il ia iv ir=>
      dsimp only at hbal
      subst hbal
      simp only [Tr.sz] at k1
      simp only [Tr.by_] at k2
      refine k_tr (p:=prl) (l:=il) (r:=ir) (a:=ia) (v:=iv) (fun b2 pil pir hp=>?_)
      subst hp
      repeat' (first|refine ZE ?_|refine ZD ?_|refine ZF ?_|refine ZO ?_|refine ZB ?_|refine ZT ?_|refine ZZ ?_|refine Za ?_|refine ZU ?_|refine ZC (Zr pl l) (fun _ _=>?_)|refine ZC (Zr _ (Tr.node (Tr.node il ia iv ir) ra rv rr)) (fun _ _=>?_)|refine ZN (Zr prr rr) (fun _ _=>?_)|refine ZN (Zr _ (Tr.node il ia iv ir)) (fun _ _=>?_)|refine ZN (Yt pl pm pil l il a v (by first|omega|(simp only [Tr.sz];omega)) (by first|omega|(simp only [Tr.by_];omega))) (fun _ _=>?_)|refine ZN (Yt pir _ prr ir rr ra rv (by first|omega|(simp only [Tr.sz];omega)) (by first|omega|(simp only [Tr.by_];omega))) (fun _ _=>?_)|refine ZN (Yt _ _ _ (.node l a v il) (.node ir ra rv rr) ia iv (by first|omega|(simp only [Tr.sz];omega)) (by first|omega|(simp only [Tr.by_];omega))) (fun _ _=>?_)|rw [w1]|(refine ZP (fun hc=>?_) (fun hc=>?_)<;>(try simp at hc)<;>(try omega))|refine ZA 2 [] [(0,0),(1,0),(2,0),(3,0),(4,0),(5,0),(6,0),(8,0),(9,0),(10,0),(11,0),(7,4),(12,4),(13,0),(14,0),(15,0)] [] ?_|refine ZA 7 [] [(0,0),(1,0),(2,0),(3,0),(4,0),(5,0),(6,0),(8,0),(9,0),(10,0),(11,0),(7,4),(12,4),(13,0),(14,0),(15,0)] [] ?_|refine ZA 11 [] [(0,0),(1,0),(2,0),(3,0),(4,0),(5,0),(7,0),(8,0),(9,0),(10,0),(11,0),(12,0),(13,0),(14,0),(15,0),(16,0),(6,4),(17,4),(18,4),(19,0)] [] ?_|(refine ZG (fun hc=>?_) (fun hc=>?_)<;>(try simp at hc)<;>(try omega))|fail)
      rename_i q _
      exact ZK q rfl trivial
  ·rw [if_neg h3] at hbal
   subst hbal
   repeat' (first|refine ZE ?_|refine ZD ?_|refine ZF ?_|refine ZB ?_|refine ZT ?_|refine ZZ ?_|refine ZU ?_|refine ZC (Zr pl l) (fun _ _=>?_)|refine ZC (Zr pr r) (fun _ _=>?_)|refine ZC (Yt pl pm pr l r a v hs hb) (fun _ _=>?_)|rw [w1]|(refine ZP (fun hc=>?_) (fun hc=>?_)<;>(try simp at hc)<;>(try omega))|refine ZA 2 [] [(0,0),(1,0),(2,0),(3,0),(4,0),(5,0),(6,0),(8,0),(9,0),(10,0),(11,0),(7,4),(12,4),(13,0),(14,0),(15,0)] [] ?_|refine ZA 7 [] [(0,0),(1,0),(2,0),(3,0),(4,0),(5,0),(6,0),(8,0),(9,0),(10,0),(11,0),(7,4),(12,4),(13,0),(14,0),(15,0)] [] ?_|(refine ZG (fun hc=>?_) (fun hc=>?_)<;>(try simp at hc)<;>(try omega))|fail)
   rename_i q _
   exact ZK q rfl trivial
theorem sz_bal (l:Tr) (a:Nm) (v:ByteArray) (r:Tr):(Tr.bal l a v r).sz=1+l.sz+r.sz:=by
 rw [Tr.sz_els,Tr.els_bal,Tr.sz_els l,Tr.sz_els r];simp;omega
theorem by_bal (l:Tr) (a:Nm) (v:ByteArray) (r:Tr):(Tr.bal l a v r).by_=v.size+l.by_+r.by_:=by
 rw [Tr.by_els,Tr.els_bal,Tr.by_els l,Tr.by_els r];simp [Tr.ab];omega
theorem sz_put (a:Nm) (v:ByteArray):∀t:Tr,(Tr.put a v t).sz≤t.sz+1
 | .nil=>by simp [Tr.put,Tr.sz]
 | .node l b u r=>by
  have:=sz_put a v l
  have:=sz_put a v r
  unfold Tr.put
  split
  ·rw [sz_bal];simp only [Tr.sz];omega
  ·split
   ·rw [sz_bal];simp only [Tr.sz];omega
   ·simp only [Tr.sz];omega
theorem by_put (a:Nm) (v:ByteArray):∀t:Tr,(Tr.put a v t).by_≤t.by_+v.size
 | .nil=>by simp [Tr.put,Tr.by_]
 | .node l b u r=>by
  have:=by_put a v l
  have:=by_put a v r
  unfold Tr.put
  split
  ·rw [by_bal];simp only [Tr.by_];omega
  ·split
   ·rw [by_bal];simp only [Tr.by_];omega
   ·simp only [Tr.by_];omega
structure Okt (t:Tr):Prop where
 s:t.sz≤1000000
 b:t.by_≤1000000000000
 o:∀x ∈ t.els,x.1.owner.size≤1099511627770
theorem Okt.l {l r:Tr} {b:Nm} {u:ByteArray} (h:Okt (.node l b u r)):Okt l:=by
 have h1:=h.s
 have h2:=h.b
 simp only [Tr.sz] at h1
 simp only [Tr.by_] at h2
 exact ⟨by omega,by omega,fun x hx=>h.o x (by simp [Tr.els,hx])⟩
theorem Okt.r {l r:Tr} {b:Nm} {u:ByteArray} (h:Okt (.node l b u r)):Okt r:=by
 have h1:=h.s
 have h2:=h.b
 simp only [Tr.sz] at h1
 simp only [Tr.by_] at h2
 exact ⟨by omega,by omega,fun x hx=>h.o x (by simp [Tr.els,hx])⟩
theorem Okt.m {l r:Tr} {b:Nm} {u:ByteArray} (h:Okt (.node l b u r)):b.owner.size≤1099511627770:=h.o (b,u) (by simp [Tr.els])
section
theorem l_nd {ops l:List Oper} {p:Option Addr} {a:Nm} {v:ByteArray} (t:∀b pl pr x y z,p=some ⟨b,0,none⟩→Wl n C ops.toArray k Q l E (Blk b (ndc pl pr a v x y z)::F) R) (hs:Sel (Nd p a v) F F0:=by (repeat (first|exact Sel.here|apply Sel.there));first|done|fail):Wl n C ops.toArray k Q l E F R:=
 l_fact (X:=Nat×Option Addr×Option Addr×Int×Int×Int) (Fx:=fun x=>[Blk x.1 (ndc x.2.1 x.2.2.1 a v x.2.2.2.1 x.2.2.2.2.1 x.2.2.2.2.2)]) (p:=fun x=>p=some ⟨x.1,0,none⟩) (f:=Nd p a v) hs (fun h ⟨b,pl,pr,x,y,z,h1,h2⟩=>⟨(b,pl,pr,x,y,z),h1,fun f hf=>by simp at hf;subst hf;exact h2⟩) (fun x hp=>t x.1 x.2.1 x.2.2.1 x.2.2.2.1 x.2.2.2.2.1 x.2.2.2.2.2 hp)
theorem k_nd {p:Option Addr} {a:Nm} {v:ByteArray} (t:∀b pl pr x y z,p=some ⟨b,0,none⟩→Wk n C k Q E (Blk b (ndc pl pr a v x y z)::F) R) (hs:Sel (Nd p a v) F F0:=by (repeat (first|exact Sel.here|apply Sel.there));first|done|fail):Wk n C k Q E F R:=
 XQ (X:=Nat×Option Addr×Option Addr×Int×Int×Int) (Fx:=fun x=>[Blk x.1 (ndc x.2.1 x.2.2.1 a v x.2.2.2.1 x.2.2.2.2.1 x.2.2.2.2.2)]) (p:=fun x=>p=some ⟨x.1,0,none⟩) (f:=Nd p a v) hs (fun h ⟨b,pl,pr,x,y,z,h1,h2⟩=>⟨(b,pl,pr,x,y,z),h1,fun f hf=>by simp at hf;subst hf;exact h2⟩) (fun x hp=>t x.1 x.2.1 x.2.2.1 x.2.2.2.1 x.2.2.2.2.1 x.2.2.2.2.2 hp)
end
def PtrPost (t:Tr):Post:=⟨Nat,fun b=>.pointer (some ⟨b,0,none⟩),fun _=>True,fun b=>[TrF (some ⟨b,0,none⟩) t],fun _=>[]⟩
set_option maxHeartbeats 1000000 in
theorem with_ok (a:Nm) (v:ByteArray) (pm:Option Addr) (ha:a.owner.size≤1099511627770) (hv:v.size≤1000000):∀(t:Tr) (p:Option Addr),Okt t→Enters 127∧Spec prog 127 #[.pointer p,.pointer pm] [TrF p t,Nd pm a v] [] (PtrPost (Tr.put a v t)):=by
 intro t
 induction t with
 | nil=>
  intro p hok
  refine ZM [_,_] func127 ntmps127 fun G w hp=>?_
  refine k_trn fun hp=>?_
  subst hp
  refine XE (f:=TrF none .nil) (fun _=>rfl) ?_
  repeat' (first|refine ZE ?_|refine ZD ?_|refine ZF ?_|refine ZH ?_|refine ZC (Yt none pm none .nil .nil a v (by simp [Tr.sz]) (by simp [Tr.by_];omega)) (fun _ _=>?_)|fail)
  rename_i q _
  exact ZK q rfl trivial
 | node l b u r ihl ihr=>
  intro p hok
  have hl:=ihl
  have h1:=hok.s
  have h2:=hok.b
  simp only [Tr.sz] at h1
  simp only [Tr.by_] at h2
  have s1:=sz_put a v l
  have s2:=sz_put a v r
  have b1:=by_put a v l
  have b2:=by_put a v r
  refine ZM [_,_] func127 ntmps127 fun G w hp=>?_
  refine k_tr (p:=p) (l:=l) (r:=r) (a:=b) (v:=u) (fun bb pl pr hp=>?_)
  subst hp
  refine k_nd (p:=pm) (a:=a) (v:=v) (fun bm pl' pr' x y z hp=>?_)
  subst hp
  generalize hput:Tr.put a v (.node l b u r)=t
  unfold Tr.put at hput
  repeat' (first|refine ZE ?_|refine ZD ?_|refine ZF ?_|refine ZB ?_|refine ZT ?_|refine Za ?_|refine ZU ?_|refine ZN (XW a b ha hok.m) (fun _ _=>?_)|refine ZN (ihl pl hok.l) (fun _ _=>?_)|refine ZN (ihr pr hok.r) (fun _ _=>?_)|refine ZN (Xt _ _ pr (Tr.put a v l) r b u (by omega) (by omega)) (fun _ _=>?_)|refine ZN (Xt pl _ _ l (Tr.put a v r) b u (by omega) (by omega)) (fun _ _=>?_)|refine ZN (Yt pl _ pr l r a v (by omega) (by omega)) (fun _ _=>?_)|refine ZA 3 [] [(0,0),(1,0),(2,0),(3,0),(4,0),(5,0),(6,0),(7,0),(8,4),(9,0)] [] ?_|refine ZA 5 [] [(0,0),(1,0),(2,0),(3,0),(4,0),(6,0),(7,0),(8,0),(9,0),(10,0),(5,4),(11,4),(12,0)] [] ?_|refine ZA 7 [] [(0,0),(1,0),(2,0),(3,0),(4,0),(5,0),(6,0),(7,0),(8,0),(9,0),(10,4),(11,4),(12,0)] [] ?_|refine ZA 8 [] [(0,0),(1,0),(2,0),(3,0),(4,0),(5,0),(6,0),(7,0),(8,0),(9,4),(10,0)] [] ?_|(refine ZG (fun hc=>?_) (fun hc=>?_)<;>(try simp at hc))|fail)
  all_goals rename_i q _
  ·rw [if_pos hc] at hput
   subst hput
   exact ZK q rfl trivial
  ·rw [if_neg (by omega),if_pos hc] at hput
   subst hput
   exact ZK q rfl trivial
  ·rw [if_neg (by omega),if_neg (by omega)] at hput
   subst hput
   exact ZK q rfl trivial
def FdF (q:Option Addr) (r:Option ByteArray):Pf:=
 match r with
 | none=>⟨fun _=>q=none,fun _ _ _ h=>h⟩
 | some v=>⟨fun h=>∃a,(Nd q a v).p h,fun _ _ s ⟨a,h⟩=>⟨a,(Nd q a v).m _ _ s h⟩⟩
structure FX (a:Nm) (t:Tr) where
 q:Option Addr
 s:Tr
 h1:Tr.find a t=Tr.find a s
 h2:Okt s
set_option maxHeartbeats 1000000 in
theorem find_ok (a:Nm) (ha:a.owner.size≤1099511627770) (t:Tr) (p:Option Addr) (ht:Okt t):Enters 124∧Spec prog 124 #[.pointer p,a.v] [TrF p t] [] ⟨Option Addr,fun q=>.pointer q,fun _=>True,fun q=>[FdF q (Tr.find a t)],fun _=>[]⟩:=by
 refine ZM [_,_] func124 ntmps124 fun G w hp=>?_
 repeat' (first|refine ZE ?_|refine ZD ?_|refine ZF ?_|refine ZR (fun b=>?_)|fail)
 refine Z8 (X:=FX a t) (fun x=>[(0,.pointer x.q),(3,.pointer (some ⟨b,0,none⟩))]) (fun x=>[TrF x.q x.s]) (fun _=>[Pt b (.cells #[.int .i64 a.kind,.string a.owner,.int .i64 a.number,.int .i64 a.index,.string a.text] 46)]) (fun x=>x.s.sz) ⟨p,t,rfl,ht⟩ ⟨rfl,rfl,trivial⟩ ?_
 rintro ⟨q,s,h1,h2⟩
 dsimp only
 cases s with
 | nil=>
  refine k_trn fun hp=>?_
  subst hp
  rw [Tr.find] at h1
  repeat' (first|refine ZE ?_|refine ZD ?_|refine ZF ?_|refine ZB ?_|refine ZW ?_|fail)
  rw [h1]
  refine k_mk (F1:=[]) (f:=FdF none none) (fun _ _=>rfl) ?_
  exact ZK none rfl trivial
 | node l c u r=>
  refine k_tr (p:=q) (l:=l) (r:=r) (a:=c) (v:=u) (fun bb pl pr hp=>?_)
  subst hp
  rw [Tr.find] at h1
  repeat' (first|refine ZE ?_|refine ZD ?_|refine ZF ?_|refine ZO ?_|refine ZH ?_|refine ZT ?_|refine Zf ?_|refine Za ?_|refine ZU ?_|refine ZN (XW a c ha h2.m) (fun _ _=>?_)|refine ZA 2 [] [(0,0),(1,0),(2,0),(3,0),(4,0),(5,4),(6,0)] [] ?_|(refine ZG (fun hc=>?_) (fun hc=>?_)<;>(try simp at hc))|fail)
  ·rw [if_pos hc] at h1
   refine k_mk (F1:=[Nd (some ⟨bb,0,none⟩) c u]) (f:=FdF (some ⟨bb,0,none⟩) (Tr.find a t)) (fun hp hF=>by rw [h1];exact ⟨c,hF _ (by simp)⟩) ?_
   exact Ym (Yx (YD (some ⟨bb,0,none⟩) rfl trivial))
  ·rw [if_neg (by omega),if_pos hc] at h1
   exact Zb ⟨pl,l,h1,h2.l⟩ (by simp only [Tr.sz];omega) ⟨rfl,rfl,trivial⟩
  ·rw [if_neg (by omega),if_neg (by omega)] at h1
   exact Zb ⟨pr,r,h1,h2.r⟩ (by simp only [Tr.sz];omega) ⟨rfl,rfl,trivial⟩
def StF (ps:Option Addr) (t:Tr):Pf:=⟨fun h=>∃b p,ps=some ⟨b,0,none⟩∧h b=some (.cells #[.pointer p] 156)∧TrP p t h,fun h k s ⟨b,p,h1,h2,h3⟩=>⟨b,p,h1,s _ _ h2,UG t p h k s h3⟩⟩
structure StOK (es:Al):Prop where
 srt:Srt es
 len:es.length≤65536
 own:∀x ∈ es,x.1.owner.size≤1099511627770
 val:∀x ∈ es,x.2.size≤65536
def St (ps:Option Addr) (es:Al):Pf:=⟨fun h=>∃t:Tr,t.els=es∧StOK es∧(StF ps t).p h,fun _ _ s ⟨t,h1,h2,h3⟩=>⟨t,h1,h2,(StF ps t).m _ _ s h3⟩⟩
theorem ab_le {m:Nat}:∀{l:Al},(∀x ∈ l,x.2.size≤m)→Tr.ab l≤l.length * m
 | [],_=>by simp [Tr.ab]
 | x::l,h=>by
  have h1:=ab_le (l:=l) fun y hy=>h y (List.mem_cons_of_mem _ hy)
  have h2:=h x (by simp)
  simp only [Tr.ab,List.map_cons,List.sum_cons,List.length_cons] at h1 ⊢
  rw [Nat.succ_mul];omega
theorem StOK.okt {t:Tr} (h:StOK t.els):Okt t:=by
 have h1:=ab_le h.val
 have h2:=h.len
 refine ⟨by rw [Tr.sz_els];omega,?_,h.own⟩
 rw [Tr.by_els]
 have:t.els.length * 65536≤65536 * 65536:=Nat.mul_le_mul_right _ h2
 omega
section
theorem k_st {ps:Option Addr} {es:Al} (t:∀b p (t:Tr),ps=some ⟨b,0,none⟩→t.els=es→StOK es→Wk n C k Q E (Blk b (.cells #[.pointer p] 156)::TrF p t::F) R) (hs:Sel (St ps es) F F0:=by (repeat (first|exact Sel.here|apply Sel.there));first|done|fail):Wk n C k Q E F R:=
 XQ (X:=Nat×Option Addr×Tr) (Fx:=fun x=>[Blk x.1 (.cells #[.pointer x.2.1] 156),TrF x.2.1 x.2.2]) (p:=fun x=>ps=some ⟨x.1,0,none⟩∧x.2.2.els=es∧StOK es) (f:=St ps es) hs
  (fun h ⟨t,h1,h2,b,p,h3,h4,h5⟩=>⟨(b,p,t),⟨h3,h1,h2⟩,fun f hf=>by
   simp only [List.mem_cons,List.not_mem_nil,or_false] at hf
   rcases hf with rfl|rfl
   ·exact h4
   ·exact h5⟩) (fun x hp=>t x.1 x.2.1 x.2.2 hp.1 hp.2.1 hp.2.2)
end
theorem X6:Enters 21∧Spec prog 21 #[] [] [] ⟨Nat,fun b=>.pointer (some ⟨b,0,none⟩),fun _=>True,fun b=>[St (some ⟨b,0,none⟩) []],fun _=>[]⟩:=by
 refine ZM [] func21 ntmps21 fun G w hp=>?_
 repeat' (first|refine ZE ?_|refine ZD ?_|refine ZF ?_|refine ZR (fun b=>?_)|fail)
 refine k_fz ?_
 refine k_mk (F1:=[Blk b (.cells #[.pointer none] 156)]) (f:=St (some ⟨b,0,none⟩) []) (fun hp hF=>⟨.nil,rfl,⟨List.Pairwise.nil,by simp,by simp,by simp⟩,b,none,rfl,hF (Blk b (.cells #[.pointer none] 156)) (by simp),rfl⟩) ?_
 exact ZK b rfl trivial
theorem UV (ps:Option Addr) (es:Al):Enters 126∧Spec prog 126 #[.pointer ps] [St ps es] [] (RetV (.int .i64 (es.length:Int))):=by
 refine ZM [_] func126 ntmps126 fun G w hp=>?_
 refine k_st (ps:=ps) (es:=es) (fun b p t hp he hok=>?_)
 subst hp
 subst he
 rw [←Tr.sz_els]
 repeat' (first|refine ZE ?_|refine ZD ?_|refine ZF ?_|refine ZO ?_|refine ZB ?_|refine ZC (UP p t) (fun _ _=>?_)|fail)
 exact ZK () rfl trivial
theorem stateGet_ok (ps:Option Addr) (es:Al) (a:Nm) (ha:a.owner.size≤1099511627770):Enters 114∧Spec prog 114 #[.pointer ps,a.v] [St ps es] [] (RetV (.tuple #[.string ((getO a es).getD ⟨#[]⟩),.bool (getO a es).isSome])):=by
 refine ZM [_,_] func114 ntmps114 fun G w hp=>?_
 refine k_st (ps:=ps) (es:=es) (fun b p t hp he hok=>?_)
 subst hp
 subst he
 rw [←WQ a t hok.srt]
 have hf:=find_ok a ha t p hok.okt
 cases hfd:Tr.find a t with
 | none=>
  rw [hfd] at hf
  repeat' (first|refine ZE ?_|refine ZD ?_|refine ZL ?_|refine ZF ?_|refine ZR (fun b=>?_)|refine ZB ?_|refine ZT ?_|refine Zf ?_|refine Za ?_|refine ZU ?_|refine ZN (hf) (fun _ _=>?_)|refine ZA 3 [] [(0,0),(1,0),(2,0),(3,0),(4,0),(5,4),(6,0)] [] ?_|fail)
  rename_i q _
  refine l_fact (X:=Unit) (Fx:=fun _=>[]) (p:=fun _=>q=none) (f:=FdF q none) .here (fun h hh=>⟨(),hh,fun _ hx=>by cases hx⟩) (fun _ hp=>?_)
  subst hp
  repeat' (first|refine ZE ?_|refine ZD ?_|refine ZF ?_|refine ZB ?_|fail)
  exact ZK () rfl trivial
 | some v=>
  rw [hfd] at hf
  repeat' (first|refine ZE ?_|refine ZD ?_|refine ZL ?_|refine ZF ?_|refine ZR (fun b=>?_)|refine ZB ?_|refine ZT ?_|refine Zf ?_|refine Za ?_|refine ZU ?_|refine ZN (hf) (fun _ _=>?_)|refine ZA 3 [] [(0,0),(1,0),(2,0),(3,0),(4,0),(5,4),(6,0)] [] ?_|fail)
  rename_i q _
  refine l_fact (X:=Nm) (Fx:=fun a=>[Nd q a v]) (p:=fun _=>True) (f:=FdF q (some v)) .here (fun h ⟨a,hh⟩=>⟨a,trivial,fun f hf=>by simp at hf;subst hf;exact hh⟩) (fun a' _=>?_)
  refine l_nd (p:=q) (a:=a') (v:=v) (fun bm pl' pr' x y z hp=>?_)
  subst hp
  repeat' (first|refine ZE ?_|refine ZD ?_|refine ZF ?_|refine ZO ?_|refine ZH ?_|fail)
  exact ZK () rfl trivial
variable {F' Fs:List Pf} {R' Rs N N' A:List HP} {k':List Fr} {L L':List (Nat×Nat)} {Tl:List Nat}
section
def ImpR (F:List Pf) (N:List HP) (F':List Pf) (N':List HP):Prop:=∀G w hp w',Sat G w hp F N w'→Sat G w hp F' N' w'
theorem ImpR.more {F F':List Pf} {N N':List HP} (h:ImpR F N F' N') (r:HP):ImpR F (r::N) F' (r::N'):=by
 intro G w hp w' hs
 have h0:Sat G w hp F (N++[r]) w':=hs.res fun k hk=>by
  have:=(Vi N r []).sep (h:=k) (by simpa using hk)
  simpa using this
 obtain ⟨G',hp',h1,h2⟩:=sat_frame (F1:=F) (A:=N) (R':=[r]) (hs:=h0) (sel:=by
  have:∀(A B:List HP),Sels A (A++B) B:=fun A B=>by
   induction A with
   | nil=>exact .nil
   | cons x A ih=>exact .cons .here ih
  exact this N [r]) fun _ h=>h
 have h3:=h2 _ _ _ (h _ _ _ _ h1)
 refine (h3.facts (F':=F') fun hp hF x hx=>hF x (List.mem_append_left _ hx)).res fun k hk=>?_
 obtain ⟨k1,k2,d,s1,s2,a1,a2⟩:=YS hk
 obtain ⟨j1,j2,d',t1,t2,b1,_⟩:=a2
 exact ⟨j1,k1,(d.symm.sub t1),t1.trans s2,s1,b1,a1⟩
section
variable {P:Program} {T:Tab} {ds:List Deferred} {ops:Array Oper} {End:Env→List Pf→List HP→Prop}
theorem WS.imp (hEnd:∀e F N F' N',ImpR F N F' N'→End e F' N'→End e F N):∀(L:List (Nat×Nat)) (hs:H) (e:Env) (F:List Pf) (N:List HP) (F':List Pf) (N':List HP),(L.all fun y=>y.2 != 5)=true→ImpR F N F' N'→WS P T n ds ops hs End L e F' N'→WS P T n ds ops hs End L e F N
 | [],_,e,F,N,F',N',_,p,h=>hEnd e F N F' N' p h
 | (i,k)::L,hs,e,F,N,F',N',h5,p,h=>by
  rw [List.all_cons,Bool.and_eq_true] at h5
  obtain ⟨h50,h5⟩:=h5
  intro o ho
  have h:=h o ho
  cases hw:wantF ops e o with
  | none=>simp only [hw] at h
  | some b=>
   cases b with
   | false=>
    simp only [hw] at h
    exact WS.imp hEnd L _ _ F N F' N' h5 p h
   | true=>
    simp only [hw] at h
    split at h
    ·obtain ⟨v,h1,h2⟩:=h
     exact ⟨v,h1,WS.imp hEnd L _ _ F N F' N' h5 p h2⟩
    ·obtain ⟨obj,mk,h1,h2⟩:=h
     exact ⟨obj,mk,h1,fun b=>WS.imp hEnd L _ _ F (Pt b obj::N) F' (Pt b obj::N') h5 (p.more _) (h2 b)⟩
    ·obtain ⟨obj,mk,h1,h2⟩:=h
     exact ⟨obj,mk,h1,fun b hb=>WS.imp hEnd L _ _ F N F' N' h5 p (h2 b hb)⟩
    ·obtain ⟨v,h1,h2⟩:=h
     exact ⟨v,fun a G w hp ha hsub hsat=>h1 a G w hp ha hsub (p _ _ _ _ hsat),WS.imp hEnd L _ _ F N F' N' h5 p h2⟩
    ·obtain ⟨post,h1,h2⟩:=h
     exact ⟨post,fun a G w hp ha hsub hsat=>h1 a G w hp ha hsub (p _ _ _ _ hsat),h2⟩
    ·cases h50
    ·exact h.elim
end
variable {l:List Oper}
theorem r_imp (p:ImpR F N F' N') (t:Wr n C ops k Q Tl Fs R L E F' N') (h5:(L.all fun y=>y.2 != 5)=true):Wr n C ops k Q Tl Fs R L E F N:=fun hp hr w st hz sb=>
 WS.imp (fun _ _ _ _ _ p h a w ha hs=>h a w ha (p _ _ _ _ hs)) L _ _ F N F' N' h5 p (t hp hr w st hz sb)
theorem r_fz {b:Nat} {o:Obj} (t:Wr n C ops k Q Tl Fs R L E (Blk b o::F) N') (hs:Sel (Pt b o) N N':=by (repeat (first|exact Sel.here|apply Sel.there));first|done|fail) (h5:(L.all fun y=>y.2 != 5)=true:=by rfl):Wr n C ops k Q Tl Fs R L E F N:=
 r_imp (fun _ _ _ _ h=>(h.sel hs).freeze) t h5
theorem r_mk {f:Pf} (h:∀hp,(∀x ∈ F1,x.p hp)→f.p hp) (t:Wr n C ops k Q Tl Fs R L E (f::F) N) (hF:EntF F F1:=by (repeat (first|exact trivial|exact Sel.here|apply Sel.there|apply EntF.cons));first|done|fail) (h5:(L.all fun y=>y.2 != 5)=true:=by rfl):Wr n C ops k Q Tl Fs R L E F N:=
 r_imp (fun _ _ _ _ ⟨hp,_,st⟩=>XZ st (h hp (hF.all hp st.f))) t h5
theorem Spec.imp {P:Program} {f:FuncId} {args:Array Value} {post post':Post} (h:Spec P f args F R post)
  (k:∀G w hp x w',post.pure x→Sat G w hp (post.F x) (post.R x) w'→post'.holds G w hp (.returned (post.val x)) w'):Spec P f args F R post':=fun G w hp hs=>
 (h G w hp hs).mono (by rintro e w' ⟨x,rfl,hx,hs⟩;exact k G w hp x w' hx hs)
end
theorem find_none {a:Nm} (ha:a.owner.size≤1099511627770) {t:Tr} (p:Option Addr) (ht:Okt t) (hf:Tr.find a t=none):Enters 124∧Spec prog 124 #[.pointer p,a.v] [TrF p t] [] (RetV (.pointer none)):=by
 have h:=find_ok a ha t p ht
 rw [hf] at h
 refine ⟨h.1,h.2.imp ?_⟩
 rintro G w hp q w' _ ⟨hp',hr,st⟩
 have hq:q=none:=st.f (FdF q none) (by simp)
 subst hq
 exact ⟨(),rfl,trivial,hp',hr,st.inp,st.inr,st.ing,st.d1,st.d2,st.d3,st.sub,(fun _ h=>by cases h),st.r,st.same⟩
theorem find_some {a:Nm} (ha:a.owner.size≤1099511627770) {t:Tr} (p:Option Addr) (ht:Okt t) {v:ByteArray} (hf:Tr.find a t=some v):Enters 124∧Spec prog 124 #[.pointer p,a.v] [TrF p t] []
  ⟨Nat,fun b=>.pointer (some ⟨b,0,none⟩),fun _=>True,fun b=>[FdF (some ⟨b,0,none⟩) (some v)],fun _=>[]⟩:=by
 have h:=find_ok a ha t p ht
 rw [hf] at h
 refine ⟨h.1,h.2.imp ?_⟩
 rintro G w hp q w' _ hs
 obtain ⟨hp',hr,st⟩:=hs
 obtain ⟨a',b,pl,pr,x,y,z,hq,h2⟩:∃a',(Nd q a' v).p hp':=st.f (FdF q (some v)) (by simp)
 subst hq
 exact ⟨b,rfl,trivial,hp',hr,st⟩
theorem insO_same (a:Nm) (v:ByteArray):∀l:Al,Srt l→getO a l≠none→(insO a v l).length=l.length
 | [],_,h=>absurd rfl h
 | (b,u)::l,hs,h=>by
  have hp:=List.pairwise_cons.1 hs
  rw [getO] at h
  unfold insO
  by_cases h0:cmpO a b=0
  ·rw [if_neg (by omega),if_neg (by omega)];simp
  ·rw [if_neg h0] at h
   split
   ·rename_i hc
    exact absurd (XC fun x hx=>by have:=YN hc (hp.1 x hx);omega) h
   ·rw [if_pos (by omega)]
    simp [insO_same a v l hp.2 h]
def withE (es:Al) (a:Nm) (v:ByteArray):Int:=if nchk a≠0 then 12 else if 65536<v.size then 5 else if 65536≤es.length∧getO a es=none then 9 else 0
def StR (q:Option Addr) (e:Int) (es:Al):Pf:=if e=0 then St q es else ⟨fun _=>q=none,fun _ _ _ h=>h⟩
theorem stOK_ins {es:Al} {a:Nm} {v:ByteArray} (h:StOK es) (ha:a.owner.size≤1099511627770) (he:withE es a v=0):StOK (insO a v es):=by
 have hl:=h.len
 have h1:=V8 a v es
 unfold withE at he
 split at he
 ·cases he
 ·split at he
  ·cases he
  ·split at he
   ·cases he
   ·rename_i h3 h4 h5
    refine ⟨srt_ins a v es h.srt,?_,fun x hx=>?_,fun x hx=>?_⟩
    ·by_cases h6:getO a es=none
     ·have:¬65536≤es.length:=fun h7=>h5 ⟨h7,h6⟩
      omega
     ·rw [insO_same a v es h.srt h6];exact hl
    ·rcases V7 a v es x hx with rfl|hx
     ·exact ha
     ·exact h.own x hx
    ·rcases V7 a v es x hx with rfl|hx
     ·show v.size≤65536;omega
     ·exact h.val x hx
set_option maxHeartbeats 1000000 in
theorem Vy (ps:Option Addr) (es:Al) (a:Nm) (v:ByteArray) (ha:a.owner.size≤1099511627770) (hat:a.text.size≤1099511627776):Enters 63∧Spec prog 63 #[.pointer ps,a.v,.string v] [St ps es,Usg] []
  ⟨Option Addr,fun q=>.tuple #[.pointer q,.int .i64 (withE es a v)],fun _=>True,fun q=>[StR q (withE es a v) (insO a v es)],fun _=>[]⟩:=by
 have hchk:=XI a (by omega) hat
 refine ZM [_,_,_] func63 ntmps63 fun G w hp=>?_
 refine k_mk (F1:=[St ps es]) (f:=St ps es) (fun hp hF=>hF _ (by simp)) ?_
 refine k_st (ps:=ps) (es:=es) (fun bs p t hp he hok=>?_)
 have hst:∀q:Option Addr,q=none→withE es a v≠0→∀hp:H,(StR q (withE es a v) (insO a v es)).p hp:=fun q hq hne hp=>by
  unfold StR;rw [if_neg hne];exact hq
 subst hp
 by_cases h1:nchk a=0
 ·rw [h1] at hchk
  by_cases h2:65536<v.size
  ·have he:withE es a v=5:=by rw [withE,if_neg (by simp [h1]),if_pos h2]
   rw [he] at hst ⊢
   repeat' (first|refine ZE ?_|refine ZD ?_|refine ZF ?_|refine ZS ?_|refine ZR (fun b=>?_)|refine ZB ?_|refine ZC (hchk) (fun _ _=>?_)|(refine ZG (fun hc=>?_) (fun hc=>?_)<;>(try simp at hc)<;>(try omega))|fail)
   refine XE (hst none rfl (by decide)) ?_
   exact ZK none rfl trivial
  ·have hfd:=WQ a t (he ▸ hok.srt)
   by_cases h3:65536≤es.length∧getO a es=none
   ·have he9:withE es a v=9:=by rw [withE,if_neg (by simp [h1]),if_neg h2,if_pos h3]
    rw [he9] at hst ⊢
    repeat' (first|refine ZE ?_|refine ZD ?_|refine ZF ?_|refine ZS ?_|refine ZR (fun b=>?_)|refine ZH ?_|refine ZB ?_|refine ZT ?_|refine ZZ ?_|refine Zf ?_|refine Za ?_|refine ZU ?_|refine ZC (hchk) (fun _ _=>?_)|refine ZN (UV (some ⟨bs,0,none⟩) es) (fun _ _=>?_)|refine ZN (find_none ha p (StOK.okt (he ▸ hok)) (by rw [hfd,he];exact h3.2)) (fun _ _=>?_)|(refine ZP (fun hc=>?_) (fun hc=>?_)<;>(try simp at hc)<;>(try omega))|refine ZA 7 [] [(0,0),(1,4),(2,0),(3,0),(4,0),(5,0),(6,0),(7,0),(8,0),(9,4),(10,0),(11,0),(12,0)] [] ?_|(refine ZG (fun hc=>?_) (fun hc=>?_)<;>(try simp at hc)<;>(try omega))|fail)
    refine XE (hst none rfl (by decide)) ?_
    exact ZK none rfl trivial
   ·have he0:withE es a v=0:=by rw [withE,if_neg (by simp [h1]),if_neg h2,if_neg h3]
    have hok2:=stOK_ins hok ha he0
    rw [he0]
    have hokt:Okt t:=StOK.okt (he ▸ hok)
    have hels:(Tr.put a v t).els=insO a v es:=by rw [els_put a v t (he ▸ hok.srt),he]
    have hX:65536≤es.length→Tr.find a t=some ((getO a es).getD ⟨#[]⟩):=fun h4=>by
     rw [hfd,he]
     cases hg:getO a es with
     | none=>exact absurd ⟨h4,hg⟩ h3
     | some v0=>rfl
    repeat' (first|refine ZE ?_|refine ZD ?_|refine ZF ?_|refine ZS ?_|refine ZR (fun b=>?_)|refine ZB ?_|refine ZT ?_|refine ZZ ?_|refine Zf ?_|refine Za ?_|refine ZU ?_|refine ZC (hchk) (fun _ _=>?_)|refine ZN (UV (some ⟨bs,0,none⟩) es) (fun _ _=>?_)|refine ZN (find_some ha p hokt (hX (by omega))) (fun _ _=>?_)|(refine ZP (fun hc=>?_) (fun hc=>?_)<;>(try simp at hc)<;>(try omega))|refine ZA 7 [] [(0,0),(1,4),(2,0),(3,0),(4,0),(5,0),(6,0),(7,0),(8,0),(9,4),(10,0),(11,0),(12,0)] [] ?_|(refine ZG (fun hc=>?_) (fun hc=>?_)<;>(try simp at hc)<;>(try omega))|fail)
    all_goals refine ZA 9 [] [(0,0),(1,0),(2,0),(3,0),(4,0),(5,0),(6,0),(7,1),(8,4),(9,0),(10,1),(11,0),(12,0)] [] ?_
    all_goals repeat' (first|refine ZT ?_|refine Zf ?_|refine Za ?_|refine Zj (fun b=>?_)|fail)
    all_goals
     refine r_fz (b:=b) ?_
     refine r_mk (F1:=[Blk b (ndc none none a v 0 0 0)]) (f:=Nd (some ⟨b,0,none⟩) a v) (fun hp hF=>⟨b,none,none,0,0,0,rfl,hF (Blk b (ndc none none a v 0 0 0)) (by simp)⟩) ?_
     refine ZN (with_ok a v (some ⟨b,0,none⟩) ha (by omega) t p hokt) (fun q _=>?_)
    all_goals repeat' (first|refine ZD ?_|refine ZT ?_|refine Zj (fun b=>?_)|refine ZU ?_|fail)
    all_goals
     rename_i q _ _
     refine k_fz (b:=b) ?_
     refine k_mk (F1:=[Blk b (.cells #[.pointer (some ⟨q,0,none⟩)] 156),TrF (some ⟨q,0,none⟩) (Tr.put a v t)]) (f:=StR (some ⟨b,0,none⟩) 0 (insO a v es)) (fun hp hF=>⟨Tr.put a v t,hels,hok2,b,_,rfl,hF (Blk b (.cells #[.pointer (some ⟨q,0,none⟩)] 156)) (by simp),hF (TrF (some ⟨q,0,none⟩) (Tr.put a v t)) (by simp)⟩) ?_
     exact ZK (some ⟨b,0,none⟩) rfl trivial
 ·have he:withE es a v=12:=by rw [withE,if_pos h1]
  rw [he] at hst ⊢
  have hb:(nchk a != 0)=true:=by simp [h1]
  repeat' (first|refine ZE ?_|refine ZD ?_|refine ZF ?_|refine ZS ?_|refine ZR (fun b=>?_)|refine ZB ?_|refine ZC (hchk) (fun _ _=>?_)|(refine ZG (fun hc=>?_) (fun hc=>?_)<;>(try simp at hc)<;>(try omega))|fail)
  refine XE (hst none rfl (by decide)) ?_
  exact ZK none rfl trivial
abbrev El:=Nat×Nm×ByteArray
def elv (e:El):Value:=.pointer (some ⟨e.1,0,none⟩)
inductive AT where
 | nil
 | node (b:Nat) (l:AT) (a:Nm) (v:ByteArray) (r:AT)
namespace AT
def ptr:AT→Option Addr
 | nil=>none
 | node b _ _ _ _=>some ⟨b,0,none⟩
def tr:AT→Tr
 | nil=>.nil
 | node _ l a v r=>.node l.tr a v r.tr
def els:AT→List El
 | nil=>[]
 | node b l a v r=>l.els++(b,a,v)::r.els
def P:AT→H→Prop
 | nil,_=>True
 | node b l a v r,h=>h b=some (ndc l.ptr r.ptr a v (Tr.node l.tr a v r.tr).ht (Tr.node l.tr a v r.tr).sz (Tr.node l.tr a v r.tr).by_)∧l.P h∧r.P h
theorem mono:∀(t:AT) (h k:H),Sub h k→t.P h→t.P k
 | nil,_,_,_,_=>trivial
 | node _ l _ _ r,h,k,s,⟨h1,h2,h3⟩=>⟨s _ _ h1,mono l h k s h2,mono r h k s h3⟩
theorem nd:∀(t:AT) (h:H),t.P h→∀e ∈ t.els,(Nd (some ⟨e.1,0,none⟩) e.2.1 e.2.2).p h
 | nil,_,_,e,he=>by cases he
 | node b l a v r,h,⟨h1,h2,h3⟩,e,he=>by
  rcases List.mem_append.1 he with he|he
  ·exact nd l h h2 e he
  ·rcases List.mem_cons.1 he with rfl|he
   ·exact ⟨b,_,_,_,_,_,rfl,h1⟩
   ·exact nd r h h3 e he
end AT
def AtF (t:AT):Pf:=⟨t.P,t.mono⟩
def EPost {α:Type} (I Ix:List α→HP) (ys xs:List α):Post:=⟨Option (List α),fun r=>.bool r.isNone,fun r=>∀q,r=some q→q <+: xs,fun _=>[],fun r=>[match r with|none=>I ys|some q=>Ix q]⟩
def nmf (a:Nm):List Value:=[.int .i64 a.kind,.string a.owner,.int .i64 a.number,.int .i64 a.index,.string a.text]
def kn (es:Al) (k:Int):List Nm:=(es.filter fun x=>x.1.kind == k).map (·.1)
def kne (l:List El) (k:Int):List Nm:=(l.filter fun x=>x.2.1.kind == k).map (·.2.1)
abbrev JKL (bk b5:Nat) (k:Int) (pre:List El) (q:Option Addr×Nat):List HP:=[Pt bk (.cells #[.int .i64 k] 3),Pt b5 (.cells #[.slice q.1 (kne pre k).length q.2] 87),Row 46 5 q.1 (kne pre k).length q.2 ((kne pre k).flatMap nmf)]
def JK (bk b5:Nat) (k:Int) (pre:List El):HP:=fun h=>∃q,True∧Sep (JKL bk b5 k pre q) h
structure Ou where
 ch:Int
 tg:ByteArray
 tx:ByteArray
 us:Int
 deriving DecidableEq
def ouf (o:Ou):List Value:=[.int .i64 o.ch,.string o.tg,.string o.tx,.int .i64 o.us]
def Ou.v (o:Ou):Value:=.agg #[.int .i64 o.ch,.string o.tg,.string o.tx,.int .i64 o.us]
def bad2 (c:UInt8):Bool:=decide ((c.toNat:Int)<33) || decide ((126:Int)<c.toNat)
def ochk (o:Ou):Int:=
 if o.ch<1∨4<o.ch then 11
 else if isE o.tg then 4
 else if 64<o.tg.size then 5
 else if o.tg.data.toList.any bad2 then 6
 else if 4096<o.tx.size then 5
 else if o.us<0∨65535<o.us then 2
 else 0
def oenc (o:Ou):List UInt8:=venc o.ch.toNat++(venc o.tg.size++o.tg.data.toList)++(venc o.tx.size++o.tx.data.toList)++venc o.us.toNat
def oencS (o:Ou):ByteArray:=if ochk o=0 then ⟨(oenc o).toArray⟩ else ⟨#[]⟩
def oread (s:RS):Ou×RS:=
 let (ch,s1):=rnum s 4
 let (tg,s2):=rtext s1 64
 let (tx,s3):=rtext s2 4096
 let (us,s4):=rnum s3 65535
 (⟨ch,tg,tx,us⟩,s4)
def odec (s:ByteArray):Option Ou:=
 let r:=oread ⟨s.data.toList,0,0⟩
 if r.2.err=0∧r.2.rest=[]∧ochk r.1=0 then some r.1 else none
def Ou.z:Ou:=⟨0,⟨#[]⟩,⟨#[]⟩,0⟩
theorem close0 (e:Int) (r:List UInt8):(if e≠0 then e else if r=[] then 0 else 5)=0↔e=0∧r=[]:=by
 by_cases h1:e=0<;>by_cases h2:r=[]<;>simp [h1,h2]
variable {d:Nat} {t ty0:TypeId} {x y:Operand} {pos:String} {aft:Array Edge} {gd:Option (Nat×Bool)} {b:Nat}
section
variable {l:List Oper} {i:Nat} {off:Nat} {cs:Array Value} {ty:TypeId} {fzn:Nat×Nat} {v:Value}
theorem Y1 {T sz m cap:Nat} {z:Int} {rs tr:TRow} (j:Nat) (hlt:j<m) (nx:Wr n C ops k Q Tl Fs R L ((d,.pointer (some ⟨b,j * sz,none⟩))::E) F N)
  (ho:nth ops i=some ⟨some d,.indexAddr t x y,ty0,pos,aft,gd⟩:=by rfl) (hw:wantL ops E ⟨some d,.indexAddr t x y,ty0,pos,aft,gd⟩=some true:=by rfl) (hx:ev E x=some (.slice (some ⟨b,0,none⟩) m cap):=by rfl) (hy:ev E y=some (.int .i64 z):=by rfl)
  (hts:lookT tab t=some rs:=by rfl) (hrs:rs.k = .slice T:=by rfl) (hT:lookT tab T=some tr:=by rfl) (hsz:tr.size=sz:=by rfl) (hz:z=(j:Int):=by first|rfl|omega):Wr n C ops k Q Tl Fs R ((i,0)::L) E F N:=
 r_q (fun a w ha=>by
  have hr1:=XY (o:=some ⟨b,0,none⟩) (m:=m) (cap:=cap) (w:=w) hts hrs hT hsz hz hlt (p:=⟨b,j * sz,none⟩) (by simp [Y9 rfl])
  simp only [execOp,ha.ev (x:=x) (by rw [ZQ];exact hx),ha.ev (x:=y) (by rw [ZQ];exact hy),Sem.run_bind,Result.andThen,hr1,Sem.run_pure]) nx ho hw
end
structure En where
 who:ByteArray
 nu:Int
 tk:Int
 o:Ou
 deriving DecidableEq
def enf (e:En):List Value:=[.string e.who,.int .i64 e.nu,.int .i64 e.tk,.int .i64 e.o.ch,.string e.o.tg,.string e.o.tx,.int .i64 e.o.us]
structure Lf where
 e:En
 tm:Int
 rd:Int
 deriving DecidableEq
def lff (x:Lf):List Value:=[.string x.e.who,.int .i64 x.e.nu,.int .i64 x.e.tk,.int .i64 x.e.o.ch,.string x.e.o.tg,.string x.e.o.tx,.int .i64 x.e.o.us,.int .i64 x.tm,.int .i64 x.rd]
def Lf.v (x:Lf):Value:=.agg #[.string x.e.who,.int .i64 x.e.nu,.int .i64 x.e.tk,.int .i64 x.e.o.ch,.string x.e.o.tg,.string x.e.o.tx,.int .i64 x.e.o.us,.int .i64 x.tm,.int .i64 x.rd]
def tick (z:Int):Bool:=decide (0≤z) && decide (z≤1073741824)
def lchk (x:Lf):Int:=
 if lvalid x.e.who.data.toList=false then 12
 else if x.e.nu<0∨1048576<x.e.nu∨tick x.e.tk=false∨tick x.tm=false∨x.rd<0∨1048576<x.rd then 2
 else ochk x.e.o
abbrev LgL (b:Nat) (ls:List Lf) (q:Option Addr×Nat):List HP:=[Pt b (.cells #[.slice q.1 ls.length q.2] 246),Row 175 9 q.1 ls.length q.2 (ls.flatMap lff)]
def Lg (b:Nat) (ls:List Lf):HP:=fun h=>∃q,True∧Sep (LgL b ls q) h
def LgF (b:Nat) (ls:List Lf):Pf:=⟨fun h=>∃q:Option Addr×Nat,(Blk b (.cells #[.slice q.1 ls.length q.2] 246)).p h∧(Sl 175 lff q.1 q.2 ls).p h,fun _ _ s ⟨q,h1,h2⟩=>⟨q,Pf.m _ _ _ s h1,Pf.m _ _ _ s h2⟩⟩
def late (ls:List Lf) (x:Lf):Bool:=match ls.getLast? with|some y=>decide (x.tm<y.tm) || decide (x.rd<y.rd)|none=>false
def leaveE (ls:List Lf) (x:Lf):Int:=if lchk x≠0 then lchk x else if late ls x then 32 else if 100000≤ls.length then 9 else 0
section
structure RowAt (sz m cap:Nat) (xs:List Value) (o:Option Addr) (q:Nat×List Value×(Nat×Nat)):Prop where
 o:o=some ⟨q.1,0,none⟩
 l:xs.length=m * sz
 c:(xs++q.2.1).length=cap * sz
 m:m≤cap
 f:q.2.2=(0,0)∨(xs++q.2.1).length≤q.2.2.1
theorem k_row {T sz m cap:Nat} {o:Option Addr} {xs:List Value} (hm:0<m) (t:∀q,RowAt sz m cap xs o q→Wk n C k Q E F (Pt q.1 (.cells (xs++q.2.1).toArray T q.2.2)::R0)) (hs:Sel (Row T sz o m cap xs) R R0:=by (repeat (first|exact Sel.here|apply Sel.there));first|done|fail):Wk n C k Q E F R:=
 Z6 (X:=Nat×List Value×(Nat×Nat)) (Lx:=fun q=>[Pt q.1 (.cells (xs++q.2.1).toArray T q.2.2)]) (p:=fun q=>RowAt sz m cap xs o q) (r:=Row T sz o m cap xs) hs (fun h hh=>by
  rcases hh with ⟨_,h2,_⟩|⟨b,rest,fz,h1,h2,h3,h4,h5,h6⟩
  ·omega
  ·exact ⟨(b,rest,fz),⟨h1,h3,h4,h5,h6⟩,h,emp,(fun _=>.inr rfl),Sub.refl _,(fun _ _ e=>by cases e),h2,trivial⟩) t
theorem WD {T sz m cap:Nat} {o:Option Addr} {xs:List Value} {q:Nat×List Value×(Nat×Nat)} (hq:RowAt sz m cap xs o q) (h:H) (hh:Sep [Pt q.1 (.cells (xs++q.2.1).toArray T q.2.2)] h):Row T sz o m cap xs h:=by
 obtain ⟨h1,h2,_,s1,_,hx,_⟩:=hh
 exact .inr ⟨q.1,q.2.1,q.2.2,hq.o,s1 _ _ hx,hq.l,hq.c,hq.m,hq.f⟩
end
def LvPost (b:Nat) (ls:List Lf) (x:Lf):Post:=⟨Unit,fun _=>.tuple #[.int .i64 (if leaveE ls x=0 then (ls.length:Int) else 0),.int .i64 (leaveE ls x)],fun _=>True,fun _=>[],fun _=>[Lg b (if leaveE ls x=0 then ls++[x] else ls)]⟩
section
end
section
end
section
theorem k_rowc {T sz m m' cap:Nat} {o:Option Addr} (xs xs':List Value) (hm:m=m') (hx:xs=xs') (t:Wk n C k Q E F (Row T sz o m' cap xs'::R0)) (hs:Sel (Row T sz o m cap xs) R R0:=by (repeat (first|exact Sel.here|apply Sel.there));first|done|fail):Wk n C k Q E F R:=by
 subst hm;subst hx
 exact fun a w ha hsat=>t a w ha (hsat.sel hs)
end
def entO (es:Al) (a:Nm):Option En:=(odec ((getO a es).getD ⟨#[]⟩)).map fun o=>⟨a.owner,a.number,a.index,o⟩
def allN (es:Al) (ns:List Nm):List En:=ns.filterMap (entO es)
def allE (es:Al):List En:=allN es (kn es 18)
structure AX (es:Al) where
 i:Nat
 o:Option Addr
 cap:Nat
 hi:i≤(kn es 18).length
def partv (t:Nat) (cs:List Value) (o:Nat):Option Value:=ldv t cs o
theorem Wv {t:Nat} {cs:Array Value} {o:Nat} {v:Value} (h:partv t cs.toList o=some v) (w:World):(part t cs o).run prog w = .ok v w:=by
 unfold partv ldv at h
 have hag:∀r:TRow,lookT tab t=some r→r.k.isAgg=true→r.k≠.other→cutF cs.toList o r.size (fun l=>some (Value.agg l.toArray))=some v→(part t cs o).run prog w = .ok v w:=fun r hr ha ho hc=>by
  obtain ⟨h2,_,h3⟩:=UF _ _ _ _ _ hc
  have hia:=Zq.isAgg hr ho w
  rw [ha] at hia
  have hsz:=Zq.sizeOf hr w
  unfold part
  simp only [Sem.run_bind,hia,Result.andThen,if_true,hsz,Sem.run_pure]
  rw [←Option.some.inj h2]
  congr 2
  rw [←Array.toList_inj]
  simp [List.extract_eq_take_drop]
 have hno:∀r:TRow,lookT tab t=some r→r.k.isAgg=false→r.k≠.other→nth cs.toList o=some v→(part t cs o).run prog w = .ok v w:=fun r hr ha ho hc=>by
  have hia:=Zq.isAgg hr ho w
  rw [ha] at hia
  rw [XP] at hc
  have hc:cs[o]? = some v:=by simpa using hc
  unfold part
  simp only [Sem.run_bind,hia,Result.andThen,Bool.false_eq_true,if_false,hc,Sem.run_pure]
 split at h
 ·rename_i hr;exact hag _ hr rfl (by simp) h
 ·rename_i hr;exact hag _ hr rfl (by simp) h
 ·cases h
 ·rename_i r hn1 hn2 hn3 hr
  refine hno _ hr ?_ ?_ h
  ·cases hk2:r.k<;>simp [TK.isAgg]<;>(obtain ⟨k,s1,b1,z1⟩:=r;simp at hk2;subst hk2;first|exact hn1 _ _ _ _ rfl|exact hn2 _ _ _ _ _ rfl)
  ·intro hk2;obtain ⟨k,s1,b1,z1⟩:=r;simp at hk2;subst hk2;exact hn3 _ _ _ rfl
 ·cases h
def memN:List Nat→Nat→Bool
 | [],_=>false
 | s::l,t=>match Nat.beq s t with
  | true=>true
  | false=>memN l t
theorem WP:∀{l:List Nat} {t:Nat},memN l t=true→t ∈ l
 | s::l,t,h=>by
  unfold memN at h
  split at h
  ·rename_i hb
   obtain rfl:=Nat.eq_of_beq_eq_true hb
   simp
  ·exact List.mem_cons_of_mem _ (WP h)
def eqFs (g:Nat→Value→Value→Option Bool):List (Nat×Nat×Nat)→List Value→List Value→Option Bool
 | [],_,_=>some true
 | (o,t,_)::fs,xs,ys=>match partv t xs o,partv t ys o with
  | some a,some b=>match g t a b with
   | some r=>match eqFs g fs xs ys with
    | some r'=>some (r && r')
    | none=>none
   | none=>none
  | _,_=>none
def eqIs (g:Value→Value→Option Bool) (e c:Nat) (xs ys:List Value):List Nat→Option Bool
 | []=>some true
 | i::is=>match partv e xs (i * c),partv e ys (i * c) with
  | some a,some b=>match g a b with
   | some r=>match eqIs g e c xs ys is with
    | some r'=>some (r && r')
    | none=>none
   | none=>none
  | _,_=>none
def eqC (S:List Nat):Nat→Nat→Value→Value→Option Bool
 | 0,_,_,_=>none
 | f+1,t,x,y=>match lookT tab t with
  | some ⟨.int _,_,_,_⟩=>match x,y with
   | .int k a,.int l b=>bif ikEq k l then some (a == b) else none
   | _,_=>none
  | some ⟨.str,_,_,_⟩=>match x,y with
   | .string a,.string b=>some (a.toList == b.toList)
   | _,_=>none
  | some ⟨.bool,_,_,_⟩=>match x,y with
   | .bool a,.bool b=>some (a == b)
   | _,_=>none
  | some ⟨.struct fs,_,_,_⟩=>match x,y with
   | .agg xs,.agg ys=>bif memN S t then eqFs (eqC S f) fs xs.toList ys.toList else none
   | _,_=>none
  | some ⟨.arr n e,_,_,_⟩=>match lookT tab e,x,y with
   | some re,.agg xs,.agg ys=>eqIs (eqC S f e) e re.size xs.toList ys.toList (List.range n)
   | _,_,_=>none
  | _=>none
noncomputable def chkE (t : Nat) : Bool := (match prog.underlying t with | some (.struct fs) => fs.toList.all (fun f => f.name != "_") | some (.array _ _) => true | _ => false) && (prog.stoodInHeld t == false) && (prog.eqGuardType prog.depth t == false)
theorem eqFs_ok {g:Nat→Value→Value→Option Bool} {d:Nat} (hg:∀t x y b w,g t x y=some b→(Op.equalIn d t x y).run prog w = .ok b w):∀(fl:List Field) (fs:List (Nat×Nat×Nat)) (xs ys:Array Value) (b:Bool) (w:World),
  fl.map (fun f => (f.offset, f.type, ((prog.info? f.type).map (·.size)).getD 0)) = fs → fl.all (fun f => f.name != "_") = true → eqFs g fs xs.toList ys.toList = some b → (Op.eqFields d xs ys fl).run prog w = .ok b w
 | [],_,_,_,b,w,h,_,he=>by
  subst h
  obtain rfl:=Option.some.inj he
  rfl
 | f::fl,_,xs,ys,b,w,h,hn,he=>by
  subst h
  simp only [List.map_cons,eqFs] at he
  simp only [List.all_cons,Bool.and_eq_true,bne_iff_ne,ne_eq] at hn
  split at he
  ·rename_i a c ha hc
   split at he
   ·rename_i r hr
    split at he
    ·rename_i r' hr'
     obtain rfl:=Option.some.inj he
     have ih:=eqFs_ok hg fl _ xs ys r' w rfl hn.2 hr'
     unfold Op.eqFields
     rw [if_pos hn.1]
     simp only [Sem.run_bind,Wv ha w,Wv hc w,hg _ _ _ _ w hr,Result.andThen]
     cases r with
     | false=>simp
     | true=>simpa using ih
    ·cases he
   ·cases he
  ·cases he
theorem eqIs_ok {g:Value→Value→Option Bool} {d e c:Nat} (hg:∀x y b w,g x y=some b→(Op.equalIn d e x y).run prog w = .ok b w) (xs ys:Array Value):∀(is:List Nat) (b:Bool) (w:World),eqIs g e c xs.toList ys.toList is=some b→(Op.eqItems d e c xs ys is).run prog w = .ok b w
 | [],b,w,he=>by
  obtain rfl:=Option.some.inj he
  rfl
 | i::is,b,w,he=>by
  simp only [eqIs] at he
  split at he
  ·rename_i a c ha hc
   split at he
   ·rename_i r hr
    split at he
    ·rename_i r' hr'
     obtain rfl:=Option.some.inj he
     have ih:=eqIs_ok hg xs ys is r' w hr'
     unfold Op.eqItems
     simp only [Sem.run_bind,Wv ha w,Wv hc w,hg _ _ _ w hr,Result.andThen]
     cases r with
     | false=>simp
     | true=>simpa using ih
    ·cases he
   ·cases he
  ·cases he
theorem VZ {S:List Nat} (hS:S.all chkE=true):∀(f d t:Nat) (x y:Value) (b:Bool) (w:World),f≤d→eqC S f t x y=some b→(Op.equalIn d t x y).run prog w = .ok b w
 | 0,_,_,_,_,_,_,_,h=>by cases h
 | f+1,0,_,_,_,_,_,hd,_=>by omega
 | f+1,d+1,t,x,y,b,w,hd,h=>by
  unfold eqC at h
  split at h
  ·rename_i k0 _ _ _ hr
   split at h
   ·rename_i k a l c
    cases hk:ikEq k l with
    | false=>simp [hk] at h
    | true=>
     simp only [hk,cond_true] at h
     obtain rfl:=ikEq_eq hk
     obtain rfl:=Option.some.inj h
     obtain ⟨dd,hd1,hk1⟩:=Zq.und hr
     cases dd<;>simp [chkKind] at hk1
     exact run_equalIn_int w d t k _ a c hd1
   ·cases h
  ·rename_i hr
   split at h
   ·rename_i a c
    obtain rfl:=Option.some.inj h
    obtain ⟨dd,hd1,hk1⟩:=Zq.und hr
    cases dd<;>simp [chkKind] at hk1
    exact run_equalIn_string w d t a c hd1
   ·cases h
  ·rename_i hr
   split at h
   ·rename_i a c
    obtain rfl:=Option.some.inj h
    obtain ⟨dd,hd1,hk1⟩:=Zq.und hr
    cases dd<;>simp [chkKind] at hk1
    exact run_equalIn_bool' w d t a c hd1
   ·cases h
  ·rename_i fs _ _ _ hr
   split at h
   ·rename_i xs ys
    cases hm:memN S t with
    | false=>simp [hm] at h
    | true=>
     simp only [hm,cond_true] at h
     have hc:=List.all_eq_true.1 hS t (WP hm)
     simp only [chkE,Bool.and_eq_true,beq_iff_eq] at hc
     obtain ⟨dd,hd1,hk1⟩:=Zq.und hr
     cases dd<;>simp [chkKind] at hk1
     rename_i fl
     have hfo:prog.fieldsOf t=fl:=by simp [Program.fieldsOf,hd1]
     rw [run_equalIn_struct w d t xs ys (by rw [hfo];exact hd1) hc.1.2,hfo]
     have hnm:=hc.1.1
     rw [hd1] at hnm
     refine eqFs_ok (g:=eqC S f) (fun t x y b w hh=>VZ hS f d t x y b w (by omega) hh) fl.toList fs xs ys b w ?_ hnm h
     simpa using hk1.1
   ·cases h
  ·rename_i m e _ _ _ hr
   split at h
   ·rename_i re xs ys hre
    obtain ⟨dd,hd1,hk1⟩:=Zq.und hr
    cases dd<;>simp [chkKind] at hk1
    obtain ⟨rfl,rfl⟩:=hk1
    obtain ⟨inf,_,_,hi,_,hsz,_⟩:=Zq.row hre
    rw [run_equalIn_array w d xs ys hd1 hi]
    have hce:prog.cellsOf e=re.size:=by rw [←hsz];simp [Program.cellsOf,hi]
    rw [hce]
    exact eqIs_ok (g:=eqC S f e) (fun x y b w hh=>VZ hS f d e x y b w (by omega) hh) xs ys _ b w h
   ·cases h
  ·cases h
def eqS:List Nat:=[25,173,27,182,46,363,175,108,269,64,68,48,41,79]
theorem X9:eqS.all chkE=true:=by decide +kernel
theorem equal_ok {t:Nat} {x y:Value} {b:Bool} (h:eqC eqS 20 t x y=some b) (w:World):(Op.equal t x y).run prog w = .ok b w:=VZ X9 20 10000 t x y b w (by omega) h
section
variable {l:List Oper} {i:Nat} {t2:TypeId} {xs ys:Array Value}
theorem l_seq {b:Bool} (nx:Wl n C ops.toArray k Q l ((d,.bool b)::E) F R) (hw:wantL ops E ⟨some d,.binOp .eql t x y t2,ty0,pos,aft,gd⟩=some true:=by rfl) (hn:Nat.blt d n=true:=by rfl)
  (hx:ev E x=some (.agg xs):=by rfl) (hy:ev E y=some (.agg ys):=by rfl) (hm:memN eqS t=true:=by rfl) (he:eqC eqS 20 t (.agg xs) (.agg ys)=some b:=by rfl):Wl n C ops.toArray k Q (⟨some d,.binOp .eql t x y t2,ty0,pos,aft,gd⟩::l) E F R:=
 l_q (fun a w ha=>by
  have hc:=List.all_eq_true.1 X9 t (WP hm)
  simp only [chkE,Bool.and_eq_true,beq_iff_eq] at hc
  have h1:=VZ X9 20 10000 t _ _ b w (by omega) he
  simp only [execOp,ha.ev (x:=x) (by rw [ZQ];exact hx),ha.ev (x:=y) (by rw [ZQ];exact hy),Sem.run_bind,run_eqGuard_agg w .eql t x y xs ys hc.2,Result.andThen,run_eql_struct,h1,Sem.run_pure]) nx (by intro c h;cases h) hw hn
theorem l_sneq {b:Bool} (nx:Wl n C ops.toArray k Q l ((d,.bool (!b))::E) F R) (hw:wantL ops E ⟨some d,.binOp .neq t x y t2,ty0,pos,aft,gd⟩=some true:=by rfl) (hn:Nat.blt d n=true:=by rfl)
  (hx:ev E x=some (.agg xs):=by rfl) (hy:ev E y=some (.agg ys):=by rfl) (hm:memN eqS t=true:=by rfl) (he:eqC eqS 20 t (.agg xs) (.agg ys)=some b:=by rfl):Wl n C ops.toArray k Q (⟨some d,.binOp .neq t x y t2,ty0,pos,aft,gd⟩::l) E F R:=
 l_q (fun a w ha=>by
  have hc:=List.all_eq_true.1 X9 t (WP hm)
  simp only [chkE,Bool.and_eq_true,beq_iff_eq] at hc
  have h1:=VZ X9 20 10000 t _ _ b w (by omega) he
  simp only [execOp,ha.ev (x:=x) (by rw [ZQ];exact hx),ha.ev (x:=y) (by rw [ZQ];exact hy),Sem.run_bind,run_eqGuard_agg w .neq t x y xs ys hc.2,Result.andThen,run_neq_struct,h1,Sem.run_pure]) nx (by intro c h;cases h) hw hn
theorem r_seq {b:Bool} (nx:Wr n C ops k Q Tl Fs R L ((d,.bool b)::E) F N) (ho:nth ops i=some ⟨some d,.binOp .eql t x y t2,ty0,pos,aft,gd⟩:=by rfl) (hw:wantL ops E ⟨some d,.binOp .eql t x y t2,ty0,pos,aft,gd⟩=some true:=by rfl)
  (hx:ev E x=some (.agg xs):=by rfl) (hy:ev E y=some (.agg ys):=by rfl) (hm:memN eqS t=true:=by rfl) (he:eqC eqS 20 t (.agg xs) (.agg ys)=some b:=by rfl):Wr n C ops k Q Tl Fs R ((i,0)::L) E F N:=
 r_q (fun a w ha=>by
  have hc:=List.all_eq_true.1 X9 t (WP hm)
  simp only [chkE,Bool.and_eq_true,beq_iff_eq] at hc
  have h1:=VZ X9 20 10000 t _ _ b w (by omega) he
  simp only [execOp,ha.ev (x:=x) (by rw [ZQ];exact hx),ha.ev (x:=y) (by rw [ZQ];exact hy),Sem.run_bind,run_eqGuard_agg w .eql t x y xs ys hc.2,Result.andThen,run_eql_struct,h1,Sem.run_pure]) nx ho hw
theorem r_sneq {b:Bool} (nx:Wr n C ops k Q Tl Fs R L ((d,.bool (!b))::E) F N) (ho:nth ops i=some ⟨some d,.binOp .neq t x y t2,ty0,pos,aft,gd⟩:=by rfl) (hw:wantL ops E ⟨some d,.binOp .neq t x y t2,ty0,pos,aft,gd⟩=some true:=by rfl)
  (hx:ev E x=some (.agg xs):=by rfl) (hy:ev E y=some (.agg ys):=by rfl) (hm:memN eqS t=true:=by rfl) (he:eqC eqS 20 t (.agg xs) (.agg ys)=some b:=by rfl):Wr n C ops k Q Tl Fs R ((i,0)::L) E F N:=
 r_q (fun a w ha=>by
  have hc:=List.all_eq_true.1 X9 t (WP hm)
  simp only [chkE,Bool.and_eq_true,beq_iff_eq] at hc
  have h1:=VZ X9 20 10000 t _ _ b w (by omega) he
  simp only [execOp,ha.ev (x:=x) (by rw [ZQ];exact hx),ha.ev (x:=y) (by rw [ZQ];exact hy),Sem.run_bind,run_eqGuard_agg w .neq t x y xs ys hc.2,Result.andThen,run_neq_struct,h1,Sem.run_pure]) nx ho hw
end
def ckFs (g:Nat→Value→Bool):List (Nat×Nat×Nat)→List Value→Bool
 | [],_=>true
 | (o,t,_)::fs,xs=>match partv t xs o with
  | some a=>g t a && ckFs g fs xs
  | none=>false
def ckC (S:List Nat):Nat→Nat→Value→Bool
 | 0,_,_=>false
 | f+1,t,x=>match lookT tab t with
  | some ⟨.int _,_,_,_⟩=>true
  | some ⟨.str,_,_,_⟩=>true
  | some ⟨.bool,_,_,_⟩=>true
  | some ⟨.struct fs,_,_,_⟩=>match x with
   | .agg xs=>memN S t && ckFs (ckC S f) fs xs.toList
   | _=>false
  | _=>false
theorem ckFs_ok {g:Nat→Value→Bool} {d:Nat} {em:Bool} (hg:∀t x w,g t x=true→(Instr.checkKey em d t x).run prog w = .ok () w):∀(fl:List Field) (fs:List (Nat×Nat×Nat)) (xs:Array Value) (w:World),
  fl.map (fun f=>(f.offset,f.type,((prog.info? f.type).map (·.size)).getD 0))=fs→ckFs g fs xs.toList=true→
  (forIn fl PUnit.unit (fun f _ => if f.name ≠ "_" then (do
    let a ←part f.type xs f.offset
    Instr.checkKey em d f.type a
    pure (ForInStep.yield PUnit.unit)) else pure (ForInStep.yield PUnit.unit)):Sem PUnit).run prog w = .ok PUnit.unit w
 | [],_,_,w,_,_=>rfl
 | f::fl,_,xs,w,h,he=>by
  subst h
  simp only [List.map_cons,ckFs] at he
  split at he
  ·rename_i a ha
   rw [Bool.and_eq_true] at he
   have ih:=ckFs_ok hg fl _ xs w rfl he.2
   rw [List.forIn_cons]
   by_cases hn : f.name ≠ "_"
   ·rw [if_pos hn]
    simp only [Sem.run_bind,Wv ha w,hg _ _ w he.1,Result.andThen,Sem.run_pure]
    exact ih
   ·rw [if_neg hn]
    simp only [Sem.run_bind,Result.andThen,Sem.run_pure]
    exact ih
  ·cases he
theorem ckC_ok {S:List Nat} (hS:S.all chkE=true) (em:Bool):∀(f d t:Nat) (x:Value) (w:World),f≤d→ckC S f t x=true→(Instr.checkKey em d t x).run prog w = .ok () w
 | 0,_,_,_,_,_,h=>by cases h
 | f+1,0,_,_,_,hd,_=>by omega
 | f+1,d+1,t,x,w,hd,h=>by
  unfold ckC at h
  split at h
  ·rename_i hr
   obtain ⟨dd,hd1,hk1⟩:=Zq.und hr
   cases dd<;>simp [chkKind] at hk1
   simp [Instr.checkKey,underlying,hd1,go_sem]
  ·rename_i hr
   obtain ⟨dd,hd1,hk1⟩:=Zq.und hr
   cases dd<;>simp [chkKind] at hk1
   simp [Instr.checkKey,underlying,hd1,go_sem]
  ·rename_i hr
   obtain ⟨dd,hd1,hk1⟩:=Zq.und hr
   cases dd<;>simp [chkKind] at hk1
   simp [Instr.checkKey,underlying,hd1,go_sem]
  ·rename_i fs _ _ _ hr
   split at h
   ·rename_i xs
    rw [Bool.and_eq_true] at h
    obtain ⟨dd,hd1,hk1⟩:=Zq.und hr
    cases dd<;>simp [chkKind] at hk1
    rename_i fl
    have hu:(underlying t).run prog w = .ok (.struct fl) w:=by simp [underlying,hd1,go_sem]
    have hl:=ckFs_ok (g:=ckC S f) (d:=d) (em:=em) (fun t x w hh=>ckC_ok hS em f d t x w (by omega) hh) fl.toList fs xs w (by simpa using hk1.1) h.2
    unfold Instr.checkKey
    simp only [Sem.run_bind,hu,Result.andThen]
    rw [←Array.forIn_toList]
    rw [hl]
    rfl
   ·cases h
  ·cases h
structure KeyOK {α:Type} [DecidableEq α] (kt:Nat) (K:α→Value):Prop where
 eq:∀a b w,(Op.equal kt (K a) (K b)).run prog w = .ok (decide (a=b)) w
 chk:∀a em w,(Instr.checkKey em 10000 kt (K a)).run prog w = .ok () w
 bits:∀a,Instr.sameBits 10000 (K a) (K a)=true
 now:∃d,prog.underlying kt=some d∧∀a b,Instr.sameNow d (K a) (K b)=none∨Instr.sameNow d (K a) (K b)=some (decide (a=b))
section
variable {α β:Type} [DecidableEq α]
def mfind (a:α):List (α×β)→Nat→Option (Nat×β)
 | [],_=>none
 | (b,v)::m,i=>if a=b then some (i,v) else mfind a m (i+1)
def mget (a:α):List (α×β)→Option β
 | []=>none
 | (b,v)::m=>if a=b then some v else mget a m
def mset (a:α) (v:β):List (α×β)→List (α×β)
 | []=>[(a,v)]
 | (b,u)::m=>if a=b then (a,v)::m else (b,u)::mset a v m
theorem VI (a:α):∀(m:List (α×β)) (i:Nat),(mfind a m i).map (·.2)=mget a m
 | [],_=>rfl
 | (b,v)::m,i=>by
  unfold mfind mget
  split
  ·rfl
  ·exact VI a m (i+1)
variable {kt:Nat} {K:α→Value} {V:β→Value}
theorem VR (hk:KeyOK kt K) (a:α):∀(es:List MapEntry) (m:List (α×β)) (i:Nat) (w:World),es.map (fun e=>(e.key,e.val))=m.map (fun x=>(K x.1,V x.2))→
  (Instr.findAsking kt (K a) es i).run prog w = .ok ((mfind a m i).map fun p=>(p.1,V p.2)) w
 | [],m,i,w,h=>by
  cases m with
  | nil=>rfl
  | cons=>simp at h
 | e::es,m,i,w,h=>by
  cases m with
  | nil=>simp at h
  | cons x m=>
   obtain ⟨b,v⟩:=x
   simp only [List.map_cons,List.cons.injEq,Prod.mk.injEq] at h
   obtain ⟨⟨h1,h2⟩,h3⟩:=h
   unfold Instr.findAsking mfind
   simp only [Sem.run_bind,h1,hk.eq a b w,Result.andThen]
   by_cases hab:a=b
   ·simp [hab,h2]
   ·simp only [hab,decide_false,Bool.false_eq_true,if_false]
    exact VR hk a es m (i+1) w h3
theorem findNow_ok {d:TypeDesc} (hd:∀a b,Instr.sameNow d (K a) (K b)=none∨Instr.sameNow d (K a) (K b)=some (decide (a=b))) (a:α):∀(es:List MapEntry) (m:List (α×β)) (i:Nat) (r:Option (Nat×Value)),es.map (fun e=>(e.key,e.val))=m.map (fun x=>(K x.1,V x.2))→
  Instr.findNow d (K a) es i=some r→r=(mfind a m i).map fun p=>(p.1,V p.2)
 | [],m,i,r,h,hr=>by
  cases m with
  | nil=>exact (Option.some.inj hr).symm
  | cons=>simp at h
 | e::es,m,i,r,h,hr=>by
  cases m with
  | nil=>simp at h
  | cons x m=>
   obtain ⟨b,v⟩:=x
   simp only [List.map_cons,List.cons.injEq,Prod.mk.injEq] at h
   obtain ⟨⟨h1,h2⟩,h3⟩:=h
   unfold Instr.findNow at hr
   unfold mfind
   rw [h1] at hr
   rcases hd a b with e1|e1
   ·rw [e1] at hr;cases hr
   ·rw [e1] at hr
    by_cases hab:a=b
    ·simp only [hab,decide_true] at hr
     simp [hab,←Option.some.inj hr,h2]
    ·simp only [hab,decide_false] at hr
     rw [if_neg hab]
     exact findNow_ok hd a es m (i+1) r h3 hr
theorem Wf (hk:KeyOK kt K) (a:α) (es:List MapEntry) (m:List (α×β)) (w:World) (h:es.map (fun e=>(e.key,e.val))=m.map (fun x=>(K x.1,V x.2))) :
  (Instr.findKey kt (K a) es).run prog w = .ok ((mfind a m 0).map fun p=>(p.1,V p.2)) w:=by
 obtain ⟨d,hd,hn⟩:=hk.now
 have hu:(underlying kt).run prog w = .ok d w:=by simp [underlying,hd,go_sem]
 unfold Instr.findKey
 simp only [Sem.run_bind,hu,Result.andThen]
 split
 ·rename_i r hr
  rw [findNow_ok hn a es m 0 r h hr];rfl
 ·exact VR hk a es m 0 w h
def BornOK (es:Array MapEntry) (clock:Nat):Prop:=(es.toList.map (·.born)).Nodup∧∀e ∈ es.toList,e.born<clock
def Mp (K:α→Value) (V:β→Value) (r:Nat) (m:List (α×β)):HP:=fun h=>∃es clock,h r=some (.map es clock)∧es.toList.map (fun e=>(e.key,e.val))=(m.map fun x=>(K x.1,V x.2))∧BornOK es clock
theorem mset_none (a:α) (v:β):∀(m:List (α×β)) (i:Nat),mfind a m i=none→mset a v m=m++[(a,v)]
 | [],_,_=>rfl
 | (b,u)::m,i,h=>by
  unfold mfind at h
  split at h
  ·cases h
  ·rename_i hab
   rw [mset,if_neg hab,mset_none a v m (i+1) h];rfl
theorem mset_some (a:α) (v:β):∀(m:List (α×β)) (i j:Nat) (u:β),mfind a m i=some (j,u)→∃p,j=i+p∧m[p]? = some (a,u)∧mset a v m=m.set p (a,v)
 | [],_,_,_,h=>by cases h
 | (b,u')::m,i,j,u,h=>by
  unfold mfind at h
  split at h
  ·rename_i hab
   subst hab
   simp only [Option.some.injEq,Prod.mk.injEq] at h
   obtain ⟨rfl,rfl⟩:=h
   exact ⟨0,by omega,by simp,by simp [mset]⟩
  ·rename_i hab
   obtain ⟨p,h1,h2,h3⟩:=mset_some a v m (i+1) j u h
   exact ⟨p+1,by omega,by simpa using h2,by simp [mset,hab,h3]⟩
end
theorem Wd {G:H} {w0 w:World} {hp0:H} {F:List Pf} {R:List HP} {b:Nat} {o o':Obj} (hs:Sat G w0 hp0 F (Pt b o::R) w):Sat G w0 hp0 F (Pt b o'::R) {w with heap:=w.heap.setIfInBounds b o'}:=by
 have hb:=hs.pt Sel.here
 have hlt:=(Array.getElem?_eq_some_iff.1 hb).1
 refine hs.write ⟨rfl,rfl,rfl,by simp⟩ ?_ fun c hc _=>?_
 ·simp [hlt]
 ·simp only [Array.getElem?_setIfInBounds];rw [if_neg (fun e=>hc e.symm)]
theorem mp_open {α β:Type} {K:α→Value} {V:β→Value} {r:Nat} {m:List (α×β)} {G:H} {w0 w:World} {hp0:H} {F:List Pf} {R R0:List HP} (hs:Sel (Mp K V r m) R R0) (h:Sat G w0 hp0 F R w) :
  ∃es clock,Sat G w0 hp0 F (Pt r (.map es clock)::R0) w∧es.toList.map (fun e=>(e.key,e.val))=(m.map fun x=>(K x.1,V x.2))∧BornOK es clock:=by
 obtain ⟨⟨⟨es,clock⟩,he,hB⟩,h1⟩:=(h.sel hs).open' (X:={x:Array MapEntry×Nat // x.1.toList.map (fun e=>(e.key,e.val))=(m.map fun x=>(K x.1,V x.2))∧BornOK x.1 x.2}) (L:=fun x=>[Pt r (.map x.1.1 x.1.2)]) fun k hk=>by
  obtain ⟨es,clock,h1,h2,h3⟩:=hk
  exact ⟨⟨(es,clock),h2,h3⟩,k,emp,(fun _=>.inr rfl),Sub.refl _,(fun _ _ e=>by cases e),h1,trivial⟩
 exact ⟨es,clock,h1,he,hB⟩
theorem Vl {α β:Type} {K:α→Value} {V:β→Value} {r:Nat} {m:List (α×β)} {G:H} {w0 w:World} {hp0:H} {F:List Pf} {R0:List HP} {es:Array MapEntry} {clock:Nat} (h:Sat G w0 hp0 F (Pt r (.map es clock)::R0) w)
  (he:es.toList.map (fun e=>(e.key,e.val))=m.map fun x=>(K x.1,V x.2)) (hB:BornOK es clock):Sat G w0 hp0 F (Mp K V r m::R0) w:=
 h.shut (L:=[Pt r (.map es clock)]) fun k hk=>by
  obtain ⟨h1,h2,_,s1,_,hx,_⟩:=hk
  exact ⟨es,clock,s1 _ _ hx,he,hB⟩
def zval (r:TRow):Option Value:=bif r.k.isAgg then some (.agg r.zero.toArray) else match r.zero with | [z]=>some z|_=>none
theorem zval_ok {t:Nat} {r:TRow} {z:Value} (hr:lookT tab t=some r) (hz:zval r=some z) (w:World):(zeroValue t).run prog w = .ok z w:=by
 have h1:=List.all_eq_true.1 Zq _ (lookT_mem hr)
 simp only [chkRow] at h1
 split at h1
 ·rename_i i d hi hd
  simp only [Bool.and_eq_true,beq_iff_eq] at h1
  obtain ⟨_,h5⟩:=h1
  split at h5
  ·rename_i z0 hz0
   rw [Bool.and_eq_true] at h5
   have hc:=zeqs_eq h5.1
   have hzz:z=z0:=by
    unfold zval at hz
    cases z0 with
    | agg cs=>
     simp only at h5
     rw [h5.2] at hz
     simp only [cond_true,Option.some.injEq] at hz
     rw [←hz,←hc];simp [Value.cells]
    | _=>
     simp only [Bool.not_eq_true'] at h5
     rw [h5.2] at hz
     simp only [Value.cells] at hc
     rw [←hc] at hz
     simpa using hz.symm
   subst hzz
   simp [zeroValue,typeInfo,hi,hz0,go_sem]
  ·cases h5
 ·cases h1
section
variable {n:Nat} {C:Cx} {Q:Exit→Act→World→Prop} {E E':List (Nat×Value)} {F F' F1 Fs F0:List Pf} {R R' R0 Rs N N' A:List HP} {k k':List Fr} {ops l:List Oper} {i d:Nat} {t ty0:TypeId} {x y z:Operand} {pos:String} {aft:Array Edge} {gd:Option (Nat×Bool)} {α β:Type} [DecidableEq α] {K:α→Value} {V:β→Value}
theorem WK {kt et:Nat} {w:World} {rs:TRow} (hts:lookT tab t=some rs) (hrs:rs.k = .map kt et):(underlying t).run prog w = .ok (.map kt et) w:=by
 obtain ⟨d1,hd1,hk1⟩:=Zq.und hts
 rw [hrs] at hk1
 cases d1<;>simp [chkKind] at hk1
 obtain ⟨rfl,rfl⟩:=hk1
 simp [underlying,hd1,go_sem]
theorem l_mkm {kt et:Nat} {rs:TRow} (_hk:KeyOK kt K) (V:β→Value) (nx:∀r,Wl n C ops.toArray k Q l ((d,.map (some r))::E) F (Mp K V r []::R)) (hw:wantL ops E ⟨some d,.makeMap t none,ty0,pos,aft,gd⟩=some true:=by rfl) (hn:Nat.blt d n=true:=by rfl) (_hts:lookT tab t=some rs:=by rfl) (_hrs:rs.k = .map kt et:=by rfl) :
  Wl n C ops.toArray k Q (⟨some d,.makeMap t none,ty0,pos,aft,gd⟩::l) E F R:=
 YB (fun t ht=>by cases ht;exact Nat.le_of_ble_eq_true hn) (fun c hc=>by cases hc) hw fun a w ha hsat=>by
  have h1:=hsat.alloc (.map #[] 0)
  exact fun a' ha'=>nx w.heap.size a' _ ha' (Vl (K:=K) (V:=V) (m:=[]) h1 rfl ⟨by simp,by simp⟩)
theorem l_mset {kt et r:Nat} {rs:TRow} {m:List (α×β)} (hk:KeyOK kt K) (a:α) (v:β) (nx:Wl n C ops.toArray k Q l E F (Mp K V r (mset a v m)::R0)) (hw:wantL ops E ⟨none,.mapUpdate t x y z,ty0,pos,aft,gd⟩=some true:=by rfl)
  (hx:ev E x=some (.map (some r)):=by rfl) (hy:ev E y=some (K a):=by rfl) (hz:ev E z=some (V v):=by rfl) (hts:lookT tab t=some rs:=by rfl) (hrs:rs.k = .map kt et:=by rfl)
  (hs:Sel (Mp K V r m) R R0:=by (repeat (first|exact Sel.here|apply Sel.there));first|done|fail):Wl n C ops.toArray k Q (⟨none,.mapUpdate t x y z,ty0,pos,aft,gd⟩::l) E F R:=
 YB (fun t ht=>by cases ht) (fun c hc=>by cases hc) hw fun ac w ha hsat=>by
  obtain ⟨es,clock,h1,he,hB⟩:=mp_open hs hsat
  have hb:=h1.pt Sel.here
  have hu:=WK (w:=w) hts hrs
  have hg:(getObj r).run prog w = .ok (.map es clock) w:=by simp [getObj,Sem.run,hb]
  have hc:=hk.chk a false w
  have hf:=Wf hk a es.toList m w he
  unfold OpRes
  simp only [execOp,ha.ev (x:=x) (by rw [ZQ];exact hx),ha.ev (x:=y) (by rw [ZQ];exact hy),ha.ev (x:=z) (by rw [ZQ];exact hz),Instr.mapUpdate,Sem.run_bind,hu,Result.andThen,hg,hc,hf]
  cases hm:mfind a m 0 with
  | none=>
   simp only [Option.map_none]
   have hset:(setObj r (.map (es.push {key:=K a,val:=V v,born:=clock}) (clock+1))).run prog w = .ok () {w with heap:=w.heap.setIfInBounds r (.map (es.push {key:=K a,val:=V v,born:=clock}) (clock+1))}:=by simp [setObj,Sem.run,hb]
   simp only [hset,Sem.run_pure]
   refine fun a' ha'=>nx a' _ ha' (Vl (Wd h1) ?_ ?_)
   ·rw [mset_none a v m 0 hm]
    simp [he]
   ·refine ⟨?_,fun e hem=>?_⟩
    ·rw [Array.toList_push,List.map_append]
     refine List.nodup_append.2 ⟨hB.1,by simp,fun b hb c hc=>?_⟩
     obtain ⟨e,hem,rfl⟩:=List.mem_map.1 hb
     have:=hB.2 e hem
     simp at hc
     omega
    ·rw [Array.toList_push] at hem
     rcases List.mem_append.1 hem with hem|hem
     ·have:=hB.2 e hem;omega
     ·obtain rfl:=List.mem_singleton.1 hem
      exact Nat.lt_succ_self _
  | some q=>
   obtain ⟨j,u⟩:=q
   obtain ⟨p,hj,hp,hms⟩:=mset_some a v m 0 j u hm
   obtain rfl:j=p:=by omega
   have hkey:(es.toList.map (fun e=>(e.key,e.val)))[j]? = some (K a,V u):=by rw [he];simp [hp]
   have hold:((es[j]?).map (·.key)).getD (K a)=K a:=by
    simp only [List.getElem?_map,Array.getElem?_toList,Option.map_eq_some_iff] at hkey
    obtain ⟨e,he1,he2⟩:=hkey
    rw [he1]
    simp only [Prod.mk.injEq] at he2
    simp [he2.1]
   simp only [Option.map_some]
   have hkt:(Instr.keyThatStays (((es[j]?).map (·.key)).getD (K a)) (K a)).run prog w = .ok (K a) w:=by
    rw [hold];simp [Instr.keyThatStays,hk.bits a]
   have hset:(setObj r (.map (es.modify j fun e=>{e with key:=K a,val:=V v}) clock)).run prog w = .ok () {w with heap:=w.heap.setIfInBounds r (.map (es.modify j fun e=>{e with key:=K a,val:=V v}) clock)}:=by simp [setObj,Sem.run,hb]
   simp only [hkt,Sem.run_bind,Result.andThen,hset,Sem.run_pure]
   have hborn:(es.modify j fun e=>{e with key:=K a,val:=V v}).toList.map (·.born)=es.toList.map (·.born):=by
    apply List.ext_getElem?
    intro i
    simp only [List.getElem?_map,Array.getElem?_toList,Array.getElem?_modify]
    split
    ·cases es[i]?<;>rfl
    ·rfl
   refine fun a' ha'=>nx a' _ ha' (Vl (Wd h1) ?_ ⟨by rw [hborn];exact hB.1,fun e hem=>?_⟩)
   rotate_left
   ·have h3:e.born ∈ es.toList.map (·.born):=by rw [←hborn];exact List.mem_map_of_mem hem
    obtain ⟨e',hem',he'⟩:=List.mem_map.1 h3
    rw [←he'];exact hB.2 e' hem'
   rw [hms]
   apply List.ext_getElem?
   intro i
   have hei:(es.toList.map (fun e=>(e.key,e.val)))[i]? = (m.map fun x=>(K x.1,V x.2))[i]?:=by rw [he]
   simp only [List.getElem?_map,Array.getElem?_toList,Array.getElem?_modify,List.getElem?_set] at hei ⊢
   by_cases hij:j=i
   ·subst hij
    simp only [if_true]
    have hlt:=(List.getElem?_eq_some_iff.1 hp).1
    rw [if_pos hlt]
    rw [hp] at hei
    simp only [Option.map_some,Option.map_eq_some_iff] at hei
    obtain ⟨e,he1,_⟩:=hei
    simp [he1]
   ·simp only [if_neg hij]
    exact hei
theorem l_mget {kt et r:Nat} {rs te:TRow} {m:List (α×β)} {zv:Value} (hk:KeyOK kt K) (a:α) (nx:Wl n C ops.toArray k Q l ((d,((mget a m).map V).getD zv)::E) F R) (hw:wantL ops E ⟨some d,.lookup t x y false,ty0,pos,aft,gd⟩=some true:=by rfl) (hn:Nat.blt d n=true:=by rfl)
  (hx:ev E x=some (.map (some r)):=by rfl) (hy:ev E y=some (K a):=by rfl) (hts:lookT tab t=some rs:=by rfl) (hrs:rs.k = .map kt et:=by rfl) (hte:lookT tab et=some te:=by rfl) (hzv:zval te=some zv:=by rfl)
  (hs:Sel (Mp K V r m) R R0:=by (repeat (first|exact Sel.here|apply Sel.there));first|done|fail):Wl n C ops.toArray k Q (⟨some d,.lookup t x y false,ty0,pos,aft,gd⟩::l) E F R:=
 YB (fun t ht=>by cases ht;exact Nat.le_of_ble_eq_true hn) (fun c hc=>by cases hc) hw fun ac w ha hsat=>by
  obtain ⟨es,clock,h1,he,hB⟩:=mp_open hs hsat
  have hb:=h1.pt Sel.here
  have hu:=WK (w:=w) hts hrs
  have hg:(getObj r).run prog w = .ok (.map es clock) w:=by simp [getObj,Sem.run,hb]
  have hc:=hk.chk a es.isEmpty w
  have hf:=Wf hk a es.toList m w he
  have hz0:=zval_ok hte hzv w
  have hfg:=VI a m 0
  unfold OpRes
  simp only [execOp,ha.ev (x:=x) (by rw [ZQ];exact hx),ha.ev (x:=y) (by rw [ZQ];exact hy),Instr.lookup,Sem.run_bind,hu,Result.andThen,hg,hc,hf,Sem.run_pure]
  cases hm:mfind a m 0 with
  | none=>
   rw [hm] at hfg
   simp only [Option.map_none,Sem.run_bind,hz0,Result.andThen,Sem.run_pure,Bool.false_eq_true,if_false]
   intro a' ha'
   rw [←hfg] at nx
   exact nx a' w ha' hsat
  | some q=>
   rw [hm] at hfg
   simp only [Option.map_some,Bool.false_eq_true,if_false]
   intro a' ha'
   rw [←hfg] at nx
   exact nx a' w ha' hsat
end
structure SeenOK {α β:Type} (es:List MapEntry) (m pre:List (α×β)) (seen:List Nat) (js:List Nat):Prop where
 nd:js.Nodup
 lt:∀j ∈ js,j<m.length
 sn:seen.map some=js.map fun j=>(es[j]?).map (·.born)
 pr:pre.map some=js.map fun j=>m[j]?
theorem Vq {γ:Type} {a b:List γ} (h:(a.map some).Perm (b.map some)):a.Perm b:=by
 have:=h.filterMap id
 simpa [List.filterMap_map] using this
theorem range_map {γ:Type} (m:List γ):(List.range m.length).map (fun j=>m[j]?)=m.map some:=by
 apply List.ext_getElem?
 intro i
 simp only [List.getElem?_map]
 by_cases hi:i<m.length
 ·simp [hi]
 ·simp [hi]
theorem SeenOK.vis {α β:Type} {es:List MapEntry} {m pre:List (α×β)} {seen js:List Nat} (h:SeenOK es m pre seen js):∃rest,(pre++rest).Perm m:=by
 let kk:=(List.range m.length).filter fun j=>decide (j ∉ js)
 have hp:(js++kk).Perm (List.range m.length):=by
  refine (List.perm_ext_iff_of_nodup ?_ List.nodup_range).2 fun j=>?_
  ·refine List.nodup_append.2 ⟨h.nd,List.nodup_range.filter _,fun a ha b hb e=>?_⟩
   subst e
   have:=(List.mem_filter.1 hb).2
   simp at this
   exact this ha
  ·simp only [List.mem_append,List.mem_range,kk,List.mem_filter,decide_eq_true_eq]
   constructor
   ·rintro (hj|hj)
    ·exact h.lt j hj
    ·exact hj.1
   ·intro hj
    by_cases hjs:j ∈ js
    ·exact .inl hjs
    ·exact .inr ⟨hj,hjs⟩
 refine ⟨kk.filterMap fun j=>m[j]?,?_⟩
 apply Vq
 have h1:=hp.map (fun j=>m[j]?)
 rw [range_map,List.map_append] at h1
 rw [List.map_append,h.pr]
 refine List.Perm.trans (List.Perm.append_left _ ?_) h1
 apply List.Perm.of_eq
 have hk:∀j ∈ kk,j<m.length:=fun j hj=>by simpa [kk] using (List.mem_filter.1 hj).1
 generalize kk=kk at hk
 induction kk with
 | nil=>rfl
 | cons j kk ih=>
  have hj:=hk j List.mem_cons_self
  rw [List.filterMap_cons,List.getElem?_eq_getElem hj]
  simp only [List.map_cons]
  rw [ih (fun x hx=>hk x (List.mem_cons_of_mem _ hx)),List.getElem?_eq_getElem hj]
def MpI {α β:Type} (K:α→Value) (V:β→Value) (r it:Nat) (m pre:List (α×β)):HP:=fun h=>∃es clock seen,(es.toList.map (fun e=>(e.key,e.val))=(m.map fun x=>(K x.1,V x.2))∧BornOK es clock∧∃js,SeenOK es.toList m pre seen.toList js)∧Sep [Pt r (.map es clock),Pt it (.mapIter (some r) clock seen clock)] h
variable {α β:Type}
section
variable {K:α→Value} {V:β→Value} {r it:Nat} {m pre:List (α×β)} {G:H} {w0 w:World} {hp0:H}
theorem mpi_open (hs:Sel (MpI K V r it m pre) R R0) (h:Sat G w0 hp0 F R w):∃es clock seen,Sat G w0 hp0 F (Pt r (.map es clock)::Pt it (.mapIter (some r) clock seen clock)::R0) w∧es.toList.map (fun e=>(e.key,e.val))=(m.map fun x=>(K x.1,V x.2))∧BornOK es clock∧∃js,SeenOK es.toList m pre seen.toList js:=by
 obtain ⟨⟨⟨es,clock,seen⟩,h2⟩,h1⟩:=(h.sel hs).open' (X:={x:Array MapEntry×Nat×Array Nat // x.1.toList.map (fun e=>(e.key,e.val))=(m.map fun x=>(K x.1,V x.2))∧BornOK x.1 x.2.1∧∃js,SeenOK x.1.toList m pre x.2.2.toList js}) (L:=fun x=>[Pt r (.map x.1.1 x.1.2.1),Pt it (.mapIter (some r) x.1.2.1 x.1.2.2 x.1.2.1)]) fun k hk=>by
  obtain ⟨es,clock,seen,h1,h2⟩:=hk
  exact ⟨⟨(es,clock,seen),h1⟩,h2⟩
 exact ⟨es,clock,seen,h1,h2⟩
theorem mpi_shut {es:Array MapEntry} {clock:Nat} {seen:Array Nat} (h:Sat G w0 hp0 F (Pt r (.map es clock)::Pt it (.mapIter (some r) clock seen clock)::R0) w) (he:es.toList.map (fun e=>(e.key,e.val))=m.map fun x=>(K x.1,V x.2)) (hB:BornOK es clock) (hS:∃js,SeenOK es.toList m pre seen.toList js) :
  Sat G w0 hp0 F (MpI K V r it m pre::R0) w:=
 h.shut (L:=[Pt r (.map es clock),Pt it (.mapIter (some r) clock seen clock)]) fun _ hk=>⟨es,clock,seen,⟨he,hB,hS⟩,hk⟩
end
section
variable {l:List Oper} {i:Nat} {z:Operand} {K:α→Value} {V:β→Value} {m pre:List (α×β)} {r it:Nat}
theorem l_rng {kt et:Nat} {rs:TRow} (nx:∀it,Wl n C ops.toArray k Q l ((d,.pointer (some ⟨it,0,none⟩))::E) F (MpI K V r it m []::R0)) (hw:wantL ops E ⟨some d,.range t x,ty0,pos,aft,gd⟩=some true:=by rfl) (hn:Nat.blt d n=true:=by rfl)
  (hx:ev E x=some (.map (some r)):=by rfl) (hts:lookT tab t=some rs:=by rfl) (hrs:rs.k = .map kt et:=by rfl) (hs:Sel (Mp K V r m) R R0:=by (repeat (first|exact Sel.here|apply Sel.there));first|done|fail):Wl n C ops.toArray k Q (⟨some d,.range t x,ty0,pos,aft,gd⟩::l) E F R:=
 YB (fun t ht=>by cases ht;exact Nat.le_of_ble_eq_true hn) (fun c hc=>by cases hc) hw fun a w ha hsat=>by
  obtain ⟨es,clock,h1,he,hB⟩:=mp_open hs hsat
  have hb:=h1.pt Sel.here
  have hu:=WK (w:=w) hts hrs
  have hg:(getObj r).run prog w = .ok (.map es clock) w:=by simp [getObj,Sem.run,hb]
  have hno:(newObj (.mapIter (some r) clock #[] clock)).run prog w = .ok w.heap.size (w.alloc (.mapIter (some r) clock #[] clock)):=rfl
  unfold OpRes
  simp only [execOp,ha.ev (x:=x) (by rw [ZQ];exact hx),Instr.range,Sem.run_bind,hu,Result.andThen,hg,Sem.run_pure,hno]
  intro a' ha'
  have h2:=h1.alloc (.mapIter (some r) clock #[] clock)
  have h3:=h2.sel (R':=Pt w.heap.size (.mapIter (some r) clock #[] clock)::R0) (.there .here)
  exact nx w.heap.size a' _ ha' (mpi_shut h3 he hB ⟨[],by simp,by simp,rfl,rfl⟩)
theorem seen_more {es:List MapEntry} {seen js:List Nat} (he:es.map (fun e=>(e.key,e.val))=m.map fun x=>(K x.1,V x.2)) (hS:SeenOK es m pre seen js) {e:MapEntry} (hem:e ∈ es) (hns:e.born ∉ seen) :
  ∃p:α×β,e.key=K p.1∧e.val=V p.2∧∃js,SeenOK es m (pre++[p]) (seen++[e.born]) js:=by
 obtain ⟨j,hj⟩:=List.mem_iff_getElem?.1 hem
 have hl:es.length=m.length:=by simpa using congrArg List.length he
 have hjl:j<m.length:=by rw [←hl];exact (List.getElem?_eq_some_iff.1 hj).1
 have hkv:(es.map (fun e=>(e.key,e.val)))[j]? = (m.map fun x=>(K x.1,V x.2))[j]?:=by rw [he]
 simp only [List.getElem?_map,hj,List.getElem?_eq_getElem hjl,Option.map_some,Option.some.injEq,Prod.mk.injEq] at hkv
 have hnj:j ∉ js:=fun hjs=>hns (by
  have h1:(es[j]?).map (·.born) ∈ js.map fun j=>(es[j]?).map (·.born):=List.mem_map.2 ⟨j,hjs,rfl⟩
  rw [←hS.sn,hj] at h1
  simpa using h1)
 refine ⟨m[j],hkv.1,hkv.2,js++[j],⟨List.nodup_append.2 ⟨hS.nd,by simp,fun a ha b hb e=>?_⟩,fun i hi=>?_,?_,?_⟩⟩
 ·subst e
  obtain rfl:=List.mem_singleton.1 hb
  exact hnj ha
 ·rcases List.mem_append.1 hi with hi|hi
  ·exact hS.lt i hi
  ·obtain rfl:=List.mem_singleton.1 hi;exact hjl
 ·simp [hS.sn,hj]
 ·simp [hS.pr,hjl]
theorem seen_all {es:List MapEntry} {seen js:List Nat} (he:es.map (fun e=>(e.key,e.val))=m.map fun x=>(K x.1,V x.2)) (hB:(es.map (·.born)).Nodup) (hS:SeenOK es m pre seen js) (hall:∀e ∈ es,e.born ∈ seen):pre.Perm m:=by
 have hl:es.length=m.length:=by simpa using congrArg List.length he
 have hp:js.Perm (List.range m.length):=by
  refine (List.perm_ext_iff_of_nodup hS.nd List.nodup_range).2 fun j=>⟨fun hj=>List.mem_range.2 (hS.lt j hj),fun hj=>?_⟩
  have hjl:j<es.length:=by rw [hl];exact List.mem_range.1 hj
  have h1:=hall es[j] (List.getElem_mem hjl)
  have h2:some es[j].born ∈ seen.map some:=List.mem_map.2 ⟨_,h1,rfl⟩
  rw [hS.sn] at h2
  obtain ⟨i,hi,hib⟩:=List.mem_map.1 h2
  have hil:i<es.length:=by rw [hl];exact hS.lt i hi
  rw [List.getElem?_eq_getElem hil] at hib
  simp only [Option.map_some,Option.some.injEq] at hib
  have:i=j:=by
   have h3:(es.map (·.born))[i]'(by simpa using hil)=(es.map (·.born))[j]'(by simpa using hjl):=by simpa using hib
   exact (List.getElem_inj hB).1 h3
  subst this;exact hi
 apply Vq
 rw [hS.pr,←range_map]
 exact hp.map _
theorem Ud (c:Nat) (hc:0<c) (w:World):∃j w',(choose (.mapNext c)).run prog w = .ok j w'∧j<c∧Ext w w':=by
 by_cases h1:c≤1
 ·refine ⟨0,w,?_,hc,Below.refl _ w⟩
  show (if Question.forced (.mapNext c) then (Sem.pure 0).run prog w else _)=_
  rw [if_pos (by simp [Question.forced,h1])]
  rfl
 ·refine ⟨_,_,?_,Nat.mod_lt (w.tape w.drawn (.mapNext c)) hc,(Below.refl _ w).drew⟩
  show (if Question.forced (.mapNext c) then _ else (Sem.pure (Question.cut (.mapNext c) (w.tape w.drawn (.mapNext c)))).run prog {w with drawn:=w.drawn+1})=_
  rw [if_neg (by simp [Question.forced,h1])]
  rfl
theorem l_nxt (nx1:∀p:α×β,(∃rest,(pre++[p]++rest).Perm m)→Wl n C ops.toArray k Q l ((d,.tuple #[.bool true,K p.1,V p.2])::E) F (MpI K V r it m (pre++[p])::R0)) (nx2:pre.Perm m→Wl n C ops.toArray k Q l ((d,.tuple #[.bool false])::E) F (MpI K V r it m pre::R0))
  (hw:wantL ops E ⟨some d,.next x false,ty0,pos,aft,gd⟩=some true:=by rfl) (hn:Nat.blt d n=true:=by rfl) (hx:ev E x=some (.pointer (some ⟨it,0,none⟩)):=by rfl)
  (hs:Sel (MpI K V r it m pre) R R0:=by (repeat (first|exact Sel.here|apply Sel.there));first|done|fail):Wl n C ops.toArray k Q (⟨some d,.next x false,ty0,pos,aft,gd⟩::l) E F R:=
 YB (fun t ht=>by cases ht;exact Nat.le_of_ble_eq_true hn) (fun c hc=>by cases hc) hw fun a w ha hsat=>by
  obtain ⟨es,clock,seen,h1,he,hB,js,hS⟩:=mpi_open hs hsat
  have hb:=h1.pt Sel.here
  have hi:=h1.pt (.there .here)
  have hg:∀w',w'.heap[r]? = some (.map es clock)→(getObj r).run prog w' = .ok (.map es clock) w':=fun w' h=>by simp [getObj,Sem.run,h]
  have hgi:(getObj it).run prog w = .ok (.mapIter (some r) clock seen clock) w:=by simp [getObj,Sem.run,hi]
  have hnone:(!seen.isEmpty && !es.isEmpty && es.all (·.born ≥ clock))=false:=by
   cases hes:es.toList with
   | nil=>
    have:es = #[]:=by rw [←Array.toList_inj];simpa using hes
    subst this;simp
   | cons e l=>
    have h2:=hB.2 e (by rw [hes];simp)
    have h3:es.all (·.born ≥ clock)=false:=by
     rw [←Array.all_toList,hes]
     simp only [List.all_cons,ge_iff_le,Bool.and_eq_false_imp,decide_eq_true_eq]
     intro h;omega
    rw [h3];simp
  have hold:(es.filter fun e=>!seen.contains e.born).filter (fun e=>decide (e.born<clock))=es.filter fun e=>!seen.contains e.born:=by
   rw [Array.filter_eq_self]
   intro e hem
   exact decide_eq_true (hB.2 e (by simpa using (Array.mem_filter.1 hem).1))
  have hnew:(es.filter fun e=>!seen.contains e.born).filter (fun e=>decide (e.born ≥ clock)) = #[]:=by
   rw [Array.filter_eq_empty_iff]
   intro e hem
   have:=hB.2 e (by simpa using (Array.mem_filter.1 hem).1)
   simp;omega
  unfold OpRes
  simp only [execOp,ha.ev (x:=x) (by rw [ZQ];exact hx),Instr.next,Sem.run_bind,hgi,Result.andThen,hg w hb,hnone,Bool.false_eq_true,if_false,Sem.run_pure,hold,hnew]
  have hw2:∀w',Ext w w'→w'.heap[it]? = some (.mapIter (some r) clock seen clock):=fun w' hx=>(h1.ext hx).pt (.there .here)
  by_cases hemp:(es.filter fun e=>!seen.contains e.born) = #[]
  ·rw [hemp]
   obtain ⟨j,w',hch,hlt,hxt⟩:=Ud 1 (by omega) w
   obtain rfl:j=0:=by omega
   have hsz:((if (#[]:Array MapEntry).isEmpty=true then #[none] else #[])++Array.map some ((#[]:Array MapEntry)++#[])).size=1:=by simp
   rw [hsz,hch]
   simp only [Array.isEmpty_empty,if_true]
   rw [show (#[none]++Array.map some ((#[]:Array MapEntry)++#[]))[0]? = some none by simp]
   simp only [Sem.run_pure]
   intro a' ha'
   refine nx2 (seen_all he hB.1 hS fun e hem=>?_) a' w' ha' (mpi_shut (h1.ext hxt) he hB ⟨js,hS⟩)
   rw [Array.filter_eq_empty_iff] at hemp
   have:=hemp e (by simpa using hem)
   simpa using this
  ·have hne:(es.filter fun e=>!seen.contains e.born).isEmpty=false:=by
    cases h:(es.filter fun e=>!seen.contains e.born).isEmpty with
    | false=>rfl
    | true=>exact absurd (by simpa using h) hemp
   rw [hne]
   simp only [Bool.false_eq_true,if_false,Array.empty_append,Array.append_empty]
   have hpos:0<(Array.map some (es.filter fun e=>!seen.contains e.born)).size:=by
    rw [Array.size_map]
    rcases Nat.eq_zero_or_pos (es.filter fun e=>!seen.contains e.born).size with h|h
    ·exact absurd (Array.eq_empty_of_size_eq_zero h) hemp
    ·exact h
   obtain ⟨j,w',hch,hlt,hxt⟩:=Ud _ hpos w
   rw [hch]
   have hlt':j<(es.filter fun e=>!seen.contains e.born).size:=by simpa using hlt
   obtain ⟨e,hee⟩:∃e,(es.filter fun e=>!seen.contains e.born)[j]? = some e:=⟨_,Array.getElem?_eq_getElem hlt'⟩
   have hem:=Array.mem_filter.1 (Array.mem_of_getElem? hee)
   obtain ⟨p,hk1,hk2,hS'⟩:=seen_more he hS (e:=e) (by simpa using hem.1) (by simpa using hem.2)
   have hset:(setObj it (.mapIter (some r) clock (seen.push e.born) clock)).run prog w' = .ok () {w' with heap:=w'.heap.setIfInBounds it (.mapIter (some r) clock (seen.push e.born) clock)}:=by simp [setObj,Sem.run,hw2 w' hxt]
   simp only [Array.getElem?_map,hee,Option.map_some,Sem.run_bind,hset,Result.andThen,Sem.run_pure]
   intro a' ha'
   rw [hk1,hk2] at ha'
   have h2:=(h1.ext hxt).sel (R':=Pt r (.map es clock)::R0) (.there .here)
   have h3:=(Wd (o':=.mapIter (some r) clock (seen.push e.born) clock) h2).sel (R':=Pt it (.mapIter (some r) clock (seen.push e.born) clock)::R0) (.there .here)
   refine nx1 p ?_ a' _ ha' (mpi_shut h3 he hB (by simpa using hS'))
   obtain ⟨js',hjs'⟩:=hS'
   exact hjs'.vis
theorem l_ent (p:α×β) (nx:Wl n C ops.toArray k Q l ((d,.tuple #[K p.1,V p.2])::E) F R)
  (hw:wantL ops E ⟨some d,.entry x,ty0,pos,aft,gd⟩=some true:=by rfl) (hn:Nat.blt d n=true:=by rfl) (hx:ev E x=some (.pointer (some ⟨it,0,none⟩)):=by rfl)
  (hs:Sel (MpI K V r it m (pre++[p])) R R0:=by (repeat (first|exact Sel.here|apply Sel.there));first|done|fail):Wl n C ops.toArray k Q (⟨some d,.entry x,ty0,pos,aft,gd⟩::l) E F R:=
 YB (fun t ht=>by cases ht;exact Nat.le_of_ble_eq_true hn) (fun c hc=>by cases hc) hw fun a w ha hsat=>by
  obtain ⟨es,clock,seen,h1,he,hB,js,hS⟩:=mpi_open hs hsat
  have hb:=h1.pt Sel.here
  have hi:=h1.pt (.there .here)
  have hg:(getObj r).run prog w = .ok (.map es clock) w:=by simp [getObj,Sem.run,hb]
  have hgi:(getObj it).run prog w = .ok (.mapIter (some r) clock seen clock) w:=by simp [getObj,Sem.run,hi]
  have hl:es.toList.length=m.length:=by simpa using congrArg List.length he
  rcases List.eq_nil_or_concat js with rfl|⟨js',j,rfl⟩
  ·have:=congrArg List.length hS.pr;simp at this
  rw [List.concat_eq_append] at hS
  have hjl:j<m.length:=hS.lt j (by simp)
  have hpr:=hS.pr
  rw [List.map_append,List.map_append] at hpr
  have hp1:some p=m[j]?:=by
   have:=congrArg List.getLast? hpr
   simpa using this
  have hjl':j<es.toList.length:=by omega
  have hsn:=hS.sn
  rw [List.map_append] at hsn
  have hback:seen.back? = some es.toList[j].born:=by
   have h3:=congrArg List.getLast? hsn
   simp only [List.map_cons,List.map_nil,List.getLast?_concat,List.getLast?_map] at h3
   rw [List.getElem?_eq_getElem hjl'] at h3
   rw [←Array.getLast?_toList]
   cases h4:seen.toList.getLast? with
   | none=>rw [h4] at h3;cases h3
   | some b=>rw [h4] at h3;simpa using h3
  have hfind:es.find? (fun e=>e.born == es.toList[j].born)=some es.toList[j]:=by
   rw [←Array.find?_toList]
   have h5:∀l:List MapEntry,(l.map (·.born)).Nodup→∀(i:Nat) (hi:i<l.length),l.find? (fun e=>e.born == l[i].born)=some l[i]:=by
    intro l
    induction l with
    | nil=>intro _ i hi;cases hi
    | cons e l ih=>
     intro hnd i hi
     simp only [List.map_cons,List.nodup_cons] at hnd
     cases i with
     | zero=>simp
     | succ i=>
      have hi':i<l.length:=by simpa using hi
      have hne:¬e.born=l[i].born:=fun h=>hnd.1 (List.mem_map.2 ⟨l[i],List.getElem_mem hi',h.symm⟩)
      simp only [List.getElem_cons_succ,List.find?_cons]
      rw [show (e.born == l[i].born)=false by simpa using hne]
      exact ih hnd.2 i hi'
   exact h5 es.toList hB.1 j hjl'
  have hkv:(es.toList.map (fun e=>(e.key,e.val)))[j]? = (m.map fun x=>(K x.1,V x.2))[j]?:=by rw [he]
  rw [List.getElem?_map,List.getElem?_map,←hp1,List.getElem?_eq_getElem hjl'] at hkv
  simp only [Option.map_some,Option.some.injEq,Prod.mk.injEq] at hkv
  unfold OpRes
  simp only [execOp,ha.ev (x:=x) (by rw [ZQ];exact hx),Instr.entry,Sem.run_bind,hgi,Result.andThen,hg,hback,hfind,bne_self_eq_false,Bool.false_eq_true,if_false,Sem.run_pure]
  intro a' ha'
  rw [hkv.1,hkv.2] at ha'
  exact nx a' w ha' hsat
theorem k_rngE (nx:Wk n C k Q E F (Mp K V r m::R0)) (hs:Sel (MpI K V r it m pre) R R0:=by (repeat (first|exact Sel.here|apply Sel.there));first|done|fail):Wk n C k Q E F R:=fun a w ha hsat=>by
 obtain ⟨es,clock,seen,h1,he,hB,js,hS⟩:=mpi_open hs hsat
 exact nx a w ha (Vl (R0:=R0) (h1.res fun kk hk=>by
  obtain ⟨j1,j2,d,s1,s2,b1,b2⟩:=hk
  obtain ⟨i1,i2,d',t1,t2,c1,c2⟩:=b2
  exact ⟨j1,i2,(d.symm.sub t2).symm,s1,t2.trans s2,b1,c2⟩) he hB)
end
instance decNm:DecidableEq Nm:=fun a b=>decidable_of_iff (cmpO a b=0) (Z4 a b)
structure Ch where
 nm:Nm
 val:ByteArray
 abs:Bool
def chf (c:Ch):List Value:=[.int .i64 c.nm.kind,.string c.nm.owner,.int .i64 c.nm.number,.int .i64 c.nm.index,.string c.nm.text,.string c.val,.bool c.abs]
def Ch.v (c:Ch):Value:=.agg #[.int .i64 c.nm.kind,.string c.nm.owner,.int .i64 c.nm.number,.int .i64 c.nm.index,.string c.nm.text,.string c.val,.bool c.abs]
def iv (i:Nat):Value:=.int .i64 (i:Int)
theorem beqSv (a b:ByteArray):(a.toList == b.toList)=decide (a=b):=by
 rw [Z0,Z0,Bool.eq_iff_iff]
 simp only [beq_iff_eq,decide_eq_true_eq]
 exact ⟨fun h=>Wj h,fun h=>by rw [h]⟩
theorem beqIv (a b:Int):(a == b)=decide (a=b):=by rw [Bool.eq_iff_iff];simp
theorem key_nm:KeyOK 46 Nm.v where
 eq a b w:=by
  refine (equal_ok (t:=46) (x:=Nm.v a) (y:=Nm.v b) rfl w).trans ?_
  obtain ⟨a1,a2,a3,a4,a5⟩:=a
  obtain ⟨b1,b2,b3,b4,b5⟩:=b
  congr 1
  simp only [beqSv,beqIv,Nm.mk.injEq]
  rw [Bool.eq_iff_iff]
  simp
 chk a em w:=ckC_ok X9 em 20 10000 _ _ w (by omega) rfl
 bits a:=by simp [Nm.v,Instr.sameBits,beq_toListBytes]
 now:=⟨_,rfl,fun a b=>.inl rfl⟩
section
variable {α β:Type} [DecidableEq α]
theorem US (a:α) (v:β):∀(m:List (α×β)) (b:α),mget b (mset a v m)=if a=b then some v else mget b m
 | [],b=>by
  by_cases h:a=b
  ·subst h;simp [mset,mget]
  ·have:b≠a:=fun e=>h e.symm
   simp [mset,mget,h,this]
 | (c,u)::m,b=>by
  have ih:=US a v m b
  unfold mset
  by_cases hac:a=c
  ·subst hac
   rw [if_pos rfl,mget,mget]
   by_cases hab:a=b
   ·subst hab;simp
   ·have:b≠a:=fun e=>hab e.symm
    simp [hab,this]
  ·rw [if_neg hac,mget,mget,ih]
   by_cases hab:a=b
   ·subst hab;simp [hac]
   ·simp [hab]
theorem UT (a:α) (v:β):∀m:List (α×β),(mset a v m).map (·.1)=if a ∈ m.map (·.1) then m.map (·.1) else m.map (·.1)++[a]
 | []=>by simp [mset]
 | (c,u)::m=>by
  have ih:=UT a v m
  unfold mset
  by_cases hac:a=c
  ·subst hac;simp
  ·rw [if_neg hac,List.map_cons,ih]
   by_cases h:a ∈ m.map (·.1)
   ·simp only [List.map_cons,List.mem_cons,h,or_true,if_true]
   ·have h2:a ∉ c::m.map (·.1):=by simp only [List.mem_cons,not_or];exact ⟨hac,h⟩
    simp only [if_neg h,List.map_cons]
    rw [if_neg h2];rfl
theorem mset_nodup (a:α) (v:β) (m:List (α×β)) (h:(m.map (·.1)).Nodup):((mset a v m).map (·.1)).Nodup:=by
 rw [UT]
 split
 ·exact h
 ·rename_i hn
  exact List.nodup_append.2 ⟨h,by simp,fun x hx y hy e=>hn (by subst e;obtain rfl:=List.mem_singleton.1 hy;exact hx)⟩
theorem UD (m:List (α×β)) (h:(m.map (·.1)).Nodup) (a:α) (v:β):mget a m=some v↔(a,v) ∈ m:=by
 induction m with
 | nil=>simp [mget]
 | cons x m ih=>
  obtain ⟨c,u⟩:=x
  simp only [List.map_cons,List.nodup_cons] at h
  unfold mget
  by_cases hac:a=c
  ·subst hac
   rw [if_pos rfl]
   constructor
   ·intro e;cases e;simp
   ·intro e
    rcases List.mem_cons.1 e with e|e
    ·cases e;rfl
    ·exact absurd (List.mem_map.2 ⟨(a,v),e,rfl⟩) h.1
  ·rw [if_neg hac,ih h.2]
   simp [hac]
end
def lastG:List Ch→Nat→List (Nm×Nat)→List (Nm×Nat)
 | [],_,m=>m
 | c::cs,i,m=>lastG cs (i+1) (mset c.nm i m)
def lastL (cs:List Ch):List (Nm×Nat):=lastG cs 0 []
theorem lastG_snoc (c:Ch):∀(cs:List Ch) (i:Nat) (m:List (Nm×Nat)),lastG (cs++[c]) i m=mset c.nm (i+cs.length) (lastG cs i m)
 | [],i,m=>rfl
 | d::cs,i,m=>by
  rw [List.cons_append,lastG,lastG_snoc c cs (i+1),lastG,List.length_cons,Nat.add_right_comm,Nat.add_assoc]
theorem Xr (cs:List Ch) (c:Ch):lastL (cs++[c])=mset c.nm cs.length (lastL cs):=by
 unfold lastL;rw [lastG_snoc,Nat.zero_add]
def vcall (cs:List Ch) (n:Nm):Option Ch:=cs.reverse.find? fun c=>decide (c.nm=n)
theorem YT (cs:List Ch) (c:Ch) (n:Nm):vcall (cs++[c]) n=if c.nm=n then some c else vcall cs n:=by
 unfold vcall
 rw [List.reverse_append,List.reverse_singleton,List.singleton_append,List.find?_cons]
 by_cases h:c.nm=n<;>simp [h]
theorem Xs {γ:Type} {P:List γ→Prop} (h0:P []) (h1:∀l a,P l→P (l++[a])) (l:List γ):P l:=by
 have:∀l:List γ,P l.reverse:=fun l=>by
  induction l with
  | nil=>exact h0
  | cons a l ih=>rw [List.reverse_cons];exact h1 _ _ ih
 have:=this l.reverse
 rwa [List.reverse_reverse] at this
theorem Xk (n:Nm) (cs:List Ch):(∀i,mget n (lastL cs)=some i→∃c,cs[i]? = some c∧vcall cs n=some c)∧(mget n (lastL cs)=none→vcall cs n=none):=by
 refine Xs (P:=fun cs=>(∀i,mget n (lastL cs)=some i→∃c,cs[i]? = some c∧vcall cs n=some c)∧(mget n (lastL cs)=none→vcall cs n=none)) ?_ ?_ cs
 ·exact ⟨fun i h=>by simp [lastL,lastG,mget] at h,fun _=>rfl⟩
 ·intro cs c ih
  rw [Xr,US,YT]
  by_cases h:c.nm=n
  ·simp only [if_pos h]
   exact ⟨fun i hi=>⟨c,by obtain rfl:=Option.some.inj hi;simp,rfl⟩,fun h=>by cases h⟩
  ·simp only [if_neg h]
   refine ⟨fun i hi=>?_,ih.2⟩
   obtain ⟨d,h1,h2⟩:=ih.1 i hi
   exact ⟨d,by rw [List.getElem?_append_left (List.getElem?_eq_some_iff.1 h1).1];exact h1,h2⟩
theorem Yp (cs:List Ch):((lastL cs).map (·.1)).Nodup:=by
 refine Xs (P:=fun cs=>((lastL cs).map (·.1)).Nodup) (by simp [lastL,lastG]) (fun cs c ih=>?_) cs
 rw [Xr]
 exact mset_nodup _ _ _ ih
theorem XX {cs:List Ch} {n:Nm} {c:Ch} (h:vcall cs n=some c):c.nm=n∧c ∈ cs:=by
 unfold vcall at h
 exact ⟨by simpa using List.find?_some h,by simpa using List.mem_of_find?_eq_some h⟩
def vget (es:Al) (cs:List Ch) (n:Nm):ByteArray×Bool:=
 if nchk n≠0 then (⟨#[]⟩,false) else match vcall cs n with
  | some c=>(c.val,!c.abs)
  | none=>((getO n es).getD ⟨#[]⟩,(getO n es).isSome)
def vread (es:Al) (rs:List (Nm×Ch)) (cs:List Ch) (n:Nm):List (Nm×Ch):=
 if nchk n≠0 then rs else match vcall cs n with
  | some _=>rs
  | none=>mset n ⟨n,(getO n es).getD ⟨#[]⟩,!(getO n es).isSome⟩ rs
def vset (cs:List Ch) (n:Nm) (v:ByteArray):Int×List Ch:=if nchk n≠0 then (12,cs) else if 65536<v.size then (5,cs) else (0,cs++[⟨n,v,false⟩])
def vdel (cs:List Ch) (n:Nm):Int×List Ch:=if nchk n≠0 then (12,cs) else (0,cs++[⟨n,⟨#[]⟩,true⟩])
section
variable {l:List Oper} {i:Nat} {off:Nat} {cs:Array Value} {ty:TypeId} {fzn:Nat×Nat} {v:Value}
def Ar {α:Type} (T:Nat) (f:α→List Value) (b:Nat) (es:List α):HP:=Pt b (.cells (es.flatMap f).toArray T (0,0))
theorem VM {β:Type}:∀(vs c:List Value) (o:Nat) (k:List Value→Option β),o+vs.length≤c.length→putF c o vs k=k (c.take o++vs++c.drop (o+vs.length))
 | [],c,o,k,_=>by cases c<;>simp [putF]
 | v::vs,[],o,k,h=>by simp at h
 | v::vs,x::c,0,k,h=>by
  simp only [putF]
  rw [VM vs c 0 _ (by simp at h ⊢;omega)]
  simp
 | v::vs,x::c,o+1,k,h=>by
  simp only [putF]
  rw [VM (v::vs) c o _ (by simp at h ⊢;omega),Nat.add_right_comm]
  simp
 termination_by vs c=>(vs.length,c.length)
theorem stv_in {pre xs xs' post:List Value} {o:Nat} (h:stv t xs o v=some xs'):stv t (pre++(xs++post)) (pre.length+o) v=some (pre++(xs'++post)):=by
 unfold stv at h ⊢
 split at h
 ·rename_i r vs hr hvs
  cases hc:(Nat.beq vs.length r.size && vs.all one1) with
  | false=>simp [hc] at h
  | true=>
   simp only [hc,cond_true] at h ⊢
   obtain ⟨h1,h2⟩:=VK _ _ _ _ _ h
   simp only [Option.some.injEq] at h2
   cases vs with
   | nil=>
    have e1:xs'=xs:=by rw [←h2];simp
    subst e1
    cases hh:pre++(xs'++post)<;>simp [putF]
   | cons u us=>
    have hle:=h1 (by simp)
    rw [VM _ _ _ _ (by simp at hle ⊢;omega)]
    rw [←h2]
    congr 1
    rw [List.take_length_add_append,List.take_append_of_le_length (by omega),show pre.length+o+(u::us).length=pre.length+(o+(u::us).length) by omega,List.drop_length_add_append,List.drop_append_of_le_length hle]
    simp
 ·cases h
theorem ar_split {α:Type} {f:α→List Value} {sz:Nat} (hf:∀e,(f e).length=sz) {es:List α} {j:Nat} {e:α} (he:es[j]? = some e):es.flatMap f=(es.take j).flatMap f++(f e++(es.drop (j+1)).flatMap f)∧((es.take j).flatMap f).length=j * sz:=by
 refine ⟨Xv he,?_⟩
 have:=(List.getElem?_eq_some_iff.1 he).1
 rw [Zy hf,List.length_take,Nat.min_eq_left (by omega)]
theorem ar_set {α:Type} {f:α→List Value} {es:List α} {j:Nat} {e e':α} (he:es[j]? = some e):(es.set j e').flatMap f=(es.take j).flatMap f++(f e'++(es.drop (j+1)).flatMap f):=by
 have hlt:=(List.getElem?_eq_some_iff.1 he).1
 rw [Xv (f:=f) (es:=es.set j e') (i:=j) (e:=e') (by simp [hlt])]
 rw [List.take_set_of_le (Nat.le_refl _),List.drop_set_of_lt (Nat.lt_succ_self _)]
theorem made_flat (z:List Value):∀m,(madeCells z.toArray (m * z.length)).toList=(List.replicate m z).flatten:=fun m=>by
 apply List.ext_getElem?
 intro j
 by_cases hj:j<m * z.length
 ·have hz:0<z.length:=Nat.pos_of_ne_zero fun h0=>by rw [h0] at hj;simp at hj
  have h1:(madeCells z.toArray (m * z.length)).toList[j]? = z[j % z.length]?:=by
   simp only [madeCells,Array.toList_map,List.getElem?_map,Array.toList_range,List.getElem?_range hj,Option.map_some]
   have h2:j % z.length<z.length:=Nat.mod_lt _ hz
   simp [h2]
  rw [h1]
  clear h1
  induction m generalizing j with
  | zero=>simp at hj
  | succ m ih=>
   rw [List.replicate_succ,List.flatten_cons]
   by_cases hlt:j<z.length
   ·rw [List.getElem?_append_left hlt,Nat.mod_eq_of_lt hlt]
   ·rw [List.getElem?_append_right (by omega),←ih (j - z.length) (by rw [Nat.add_mul] at hj;omega)]
    rw [Nat.mod_eq_sub_mod (by omega)]
 ·rw [List.getElem?_eq_none (by simp [size_madeCells];omega),List.getElem?_eq_none (by simp;omega)]
theorem rep_flat {α:Type} (f:α→List Value) (z:α) (m:Nat):(List.replicate m z).flatMap f=(List.replicate m (f z)).flatten:=by
 rw [List.flatMap_def,List.map_replicate]
theorem run_mks {α:Type} {T m:Nat} {kl kc:IntKind} {zi zj:Int} {rs te:TRow} {f:α→List Value} {z0:α} (w:World) (hb:te.bytes * m≤281474976710656) (hm:m≤9223372036854775807) (hts:lookT tab t=some rs) (hrs:rs.k = .slice T) (hT:lookT tab T=some te) (hzv:te.zero=f z0) (hz:zi=(m:Int)) (hz2:zj=(m:Int)) :
  (Instr.makeSlice t (.int kl zi) (.int kc zj)).run prog w = .ok (.slice (some ⟨w.heap.size,0,none⟩) m m) (w.alloc (.cells ((List.replicate m z0).flatMap f).toArray T (0,0))):=by
 subst hz hz2
 obtain ⟨d1,hd1,hk1⟩:=Zq.und hts
 rw [hrs] at hk1
 have hd2:prog.underlying t=some (.slice T):=by
  cases d1<;>simp [chkKind] at hk1
  subst hk1;exact hd1
 obtain ⟨inf,d2,z,hi,_,h1,h2,_,h4,h5,h6⟩:=Zq.row hT
 have hb':(inf.bytes:Int) * (m:Int)≤281474976710656:=by
  rw [h2]
  generalize te.bytes=q at hb
  have h:((q * m:Nat):Int)≤((281474976710656:Nat):Int):=Int.ofNat_le.2 hb
  rwa [Int.natCast_mul] at h
 have hr:=run_make (P:=prog) w t T inf z hd2 hi h4 kl kc m m (by omega) (Int.le_refl _) hb' (by omega)
 have hc:madeCells z.cells (m * inf.size)=((List.replicate m z0).flatMap f).toArray:=by
  rw [←Array.toList_inj,h1,←h6,←h5]
  have:=made_flat z.cells.toList m
  rw [Array.toArray_toList] at this
  rw [this,h5,hzv,rep_flat]
 simp only [Int.toNat_natCast,hc] at hr
 exact hr
theorem l_mks {α:Type} {T:Nat} {kl kc:IntKind} {zi zj:Int} {rs te:TRow} (f:α→List Value) (z0:α) (m bytes:Nat) (hb:bytes * m≤281474976710656) (hm:m≤9223372036854775807) (nx:∀b,Wl n C ops.toArray k Q l ((d,.slice (some ⟨b,0,none⟩) m m)::E) F (Ar T f b (List.replicate m z0)::R))
  (hw:wantL ops E ⟨some d,.makeSlice t x y,ty0,pos,aft,gd⟩=some true:=by rfl) (hn:Nat.blt d n=true:=by rfl) (hx:ev E x=some (.int kl zi):=by rfl) (hy:ev E y=some (.int kc zj):=by rfl) (hts:lookT tab t=some rs:=by rfl) (hrs:rs.k = .slice T:=by rfl)
  (hT:lookT tab T=some te:=by rfl) (hzv:te.zero=f z0:=by rfl) (hby:te.bytes=bytes:=by rfl) (hz:zi=(m:Int):=by first|rfl|omega) (hz2:zj=(m:Int):=by first|rfl|omega) :
  Wl n C ops.toArray k Q (⟨some d,.makeSlice t x y,ty0,pos,aft,gd⟩::l) E F R:=
 YB (fun t ht=>by cases ht;exact Nat.le_of_ble_eq_true hn) (fun c hc=>by cases hc) hw fun a w ha hsat=>by
  have hr:=run_mks (kl:=kl) (kc:=kc) w (hby ▸ hb) hm hts hrs hT hzv hz hz2
  unfold OpRes
  simp only [execOp,ha.ev (x:=x) (by rw [ZQ];exact hx),ha.ev (x:=y) (by rw [ZQ];exact hy),Sem.run_bind,hr,Result.andThen,Sem.run_pure]
  exact fun a' ha'=>nx _ a' _ ha' (hsat.alloc _)
theorem l_ixS {T sz m cap:Nat} {z:Int} {rs tr:TRow} (j:Nat) (hlt:j<m) (nx:Wl n C ops.toArray k Q l ((d,.pointer (some ⟨b,j * sz,none⟩))::E) F R)
  (hw:wantL ops E ⟨some d,.indexAddr t x y,ty0,pos,aft,gd⟩=some true:=by rfl) (hn:Nat.blt d n=true:=by rfl) (hx:ev E x=some (.slice (some ⟨b,0,none⟩) m cap):=by rfl) (hy:ev E y=some (.int .i64 z):=by rfl)
  (hts:lookT tab t=some rs:=by rfl) (hrs:rs.k = .slice T:=by rfl) (hT:lookT tab T=some tr:=by rfl) (hsz:tr.size=sz:=by rfl) (hz:z=(j:Int):=by first|rfl|omega):Wl n C ops.toArray k Q (⟨some d,.indexAddr t x y,ty0,pos,aft,gd⟩::l) E F R:=
 l_q (fun a w ha=>by
  have hr1:=XY (o:=some ⟨b,0,none⟩) (m:=m) (cap:=cap) (w:=w) hts hrs hT hsz hz hlt (p:=⟨b,j * sz,none⟩) (by simp [Y9 rfl])
  simp only [execOp,ha.ev (x:=x) (by rw [ZQ];exact hx),ha.ev (x:=y) (by rw [ZQ];exact hy),Sem.run_bind,Result.andThen,hr1,Sem.run_pure]) nx (by intro c h;cases h) hw hn
theorem k_cut {Y:Type} {c:Code} {k2:List Fr} (mE:Y→List (Nat×Value)) (mF:Y→List Pf) (mR:Y→List HP) (t2:∀y,Wk n C k2 Q (mE y) (mF y) (mR y)) (t:(∀y,Wk n C k2 Q (mE y) (mF y) (mR y))→Wk n C k Q E F R) (_h:nf 1000 k = .c c::k2:=by rfl):Wk n C k Q E F R:=t t2
theorem Xb {Y:Type} {mE:Y→List (Nat×Value)} {mF:Y→List Pf} {mR:Y→List HP} (hx:∀y,Wk n C k Q (mE y) (mF y) (mR y)) (y:Y) (he:EntE E (mE y))
  (hf:EntF F (mF y):=by (repeat (first|exact trivial|exact Sel.here|apply Sel.there|apply EntF.cons));first|done|fail) (hr:Sels (mR y) R R0:=by (repeat (first|exact Sels.nil|exact Sel.here|apply Sel.there|apply Sels.cons));first|done|fail):Wk n C k Q E F R:=k_drop he hf hr (hx y)
end
section
variable {l:List Oper} {i:Nat} {off:Nat} {cs:Array Value} {ty:TypeId} {fzn:Nat×Nat} {v:Value}
theorem Zi {f:FuncId} {fs cs:Array Value} {args:Array Operand} {tys:Array TypeId} {vs us:List Value} {post:Post} (spec:Enters f∧Spec prog f us.toArray F1 A post)
  (nx:∀x,post.pure x→Wr n C ops k Q Tl Fs R L ((d,post.val x)::E) (post.F x++F) (post.R x++N')) (ho:nth ops i=some ⟨some d,.call ⟨.value x,args,tys⟩,ty0,pos,aft,gd⟩:=by rfl)
  (hw:wantL ops E ⟨some d,.call ⟨.value x,args,tys⟩,ty0,pos,aft,gd⟩=some true:=by rfl)
  (hx:ev E x=some (.func (.func f) fs cs):=by rfl) (hargs:evs (ev E) args.toList some=some vs:=by rfl) (has:fs.toList++vs++cs.toList=us:=by rfl)
  (sel:Sels A N N':=by (repeat (first|exact Sels.nil|exact Sel.here|apply Sel.there|apply Sels.cons));first|done|fail)
  (hF:EntF F F1:=by (repeat (first|exact trivial|exact Sel.here|apply Sel.there|apply EntF.cons));first|done|fail):Wr n C ops k Q Tl Fs R ((i,4)::L) E F N:=
 Ye ho fun hp hr w st hz sb=>by
  simp only [Zt hw]
  refine ⟨⟨post.X,post.val,post.pure,fun x=>post.F x++F,fun x=>post.R x++N'⟩,fun a G w hp' ha hsub hsat=>?_,fun x hx=>nx x hx hp hr w st hz sb⟩
  unfold OpRes
  rw [run_callF spec.1 hx hargs ha w]
  have e:fs++vs.toArray++cs=us.toArray:=by rw [←has,←Array.toList_inj];simp
  rw [e]
  exact Yn spec.2 hsat sel hF.all fun x w' hx hs'=>⟨x,rfl,hx,hs'⟩
theorem stv_ok' {w:World} {cs':List Value} (h:w.heap[b]? = some (.cells cs ty fzn)) (hf:fzn=(0,0)∨cs.toList.length≤fzn.1) (hv:stv t cs.toList off v=some cs') :
  ∃w',(storeVar t ⟨b,off,none⟩ v).run prog w = .ok () w'∧w'.heap[b]? = some (.cells cs'.toArray ty fzn)∧Same w w'∧∀c,c≠b→w'.heap[c]? = w.heap[c]?:=by
 unfold stv at hv
 split at hv
 ·rename_i r vs hr hvs
  cases hc:(Nat.beq vs.length r.size && vs.all one1) with
  | false=>simp [hc] at hv
  | true=>
   simp only [hc,cond_true] at hv
   rw [Bool.and_eq_true] at hc
   have hlen:=Nat.eq_of_beq_eq_true hc.1
   obtain ⟨h1,h2⟩:=VK _ _ _ _ _ hv
   have hcl:=VG hvs
   have hsz:=Zq.sizeOf hr w
   have hle:vs≠[]→off+0+vs.length≤cs.toList.length:=fun hne=>by simpa using h1 hne
   have hst:∃w',(storeCells ⟨b,off,none⟩ vs 0).run prog w = .ok () w'∧w'.heap[b]? = some (.cells cs'.toArray ty fzn)∧Same w w'∧∀c,c≠b→w'.heap[c]? = w.heap[c]?:=by
    by_cases hne:vs=[]
    ·subst hne
     refine ⟨w,rfl,?_,Same.refl _,fun _ _=>rfl⟩
     simp at h2;subst h2;simpa using h
    ·obtain ⟨w',g1,g2,g3,g4⟩:=Yf (P:=prog) off vs 0 w cs.toList (by simpa using h) hf hc.2 (hle hne)
     refine ⟨w',g1,?_,g3,g4⟩
     rw [g2]
     simp at h2;simp [h2]
   obtain ⟨w',g1,g2⟩:=hst
   refine ⟨w',?_,g2⟩
   unfold storeVar
   simp only [Sem.run_bind,hsz,Result.andThen,hcl]
   rw [if_neg (by simp [hlen])]
   exact g1
 ·cases hv
def Ax {α:Type} (T:Nat) (f:α→List Value) (b:Nat) (es:List α) (q:List Value×(Nat×Nat)):HP:=Pt b (.cells (es.flatMap f++q.1).toArray T q.2)
def AxOK (len:Nat) (q:List Value×(Nat×Nat)):Prop:=q.2=(0,0)∨len+q.1.length≤q.2.1
theorem Wt {α:Type} {f:α→List Value} {sz:Nat} {q:List Value} (hf:∀e,(f e).length=sz) {es:List α} {j:Nat} {e:α} (he:es[j]? = some e):es.flatMap f++q=(es.take j).flatMap f++(f e++((es.drop (j+1)).flatMap f++q))∧((es.take j).flatMap f).length=j * sz:=by
 obtain ⟨h1,h2⟩:=ar_split hf he
 exact ⟨by rw [h1];simp,h2⟩
theorem Zn {α:Type} {T:Nat} {f:α→List Value} {es:List α} {q:List Value×(Nat×Nat)} {e:α} (sz j o:Nat) (he:es[j]? = some e) (nx:Wl n C ops.toArray k Q l ((d,v)::E) F R) (hw:wantL ops E ⟨some d,.load t x,ty0,pos,aft,gd⟩=some true:=by rfl) (hn:Nat.blt d n=true:=by rfl)
  (hx:ev E x=some (.pointer (some ⟨b,off,none⟩)):=by rfl) (hs:Sel (Ax T f b es q) R R0:=by (repeat (first|exact Sel.here|apply Sel.there));first|done|fail) (hv:ldv t (f e) o=some v:=by rfl) (hf:∀e,(f e).length=sz:=by intro;rfl) (ho:off=j * sz+o:=by first|rfl|omega) :
  Wl n C ops.toArray k Q (⟨some d,.load t x,ty0,pos,aft,gd⟩::l) E F R:=
 YB (fun t ht=>by cases ht;exact Nat.le_of_ble_eq_true hn) (fun c hc=>by cases hc) hw fun a w ha hsat=>by
  obtain ⟨e1,e2⟩:=Wt (q:=q.1) hf he
  have hv':ldv t (es.flatMap f++q.1).toArray.toList off=some v:=by
   rw [ho,←e2]
   show ldv t (es.flatMap f++q.1) _=_
   rw [e1]
   exact ldv_in hv
  have hr:=Xu (hsat.pt hs) hv'
  unfold OpRes
  simp only [execOp,Instr.loadAt,ha.ev (by rw [ZQ];exact hx),Instr.sureAddr,Sem.run_bind,Sem.run_pure,Result.andThen,hr]
  exact fun a' ha'=>nx a' w ha' hsat
theorem Zc {α:Type} {T:Nat} {f:α→List Value} {es:List α} {q:List Value×(Nat×Nat)} {e:α} (sz j o:Nat) (he:es[j]? = some e) (nx:Wr n C ops k Q Tl Fs R L ((d,v)::E) F N) (hop:nth ops i=some ⟨some d,.load t x,ty0,pos,aft,gd⟩:=by rfl) (hw:wantL ops E ⟨some d,.load t x,ty0,pos,aft,gd⟩=some true:=by rfl)
  (hx:ev E x=some (.pointer (some ⟨b,off,none⟩)):=by rfl) (hs:Sel (Ax T f b es q) R R0:=by (repeat (first|exact Sel.here|apply Sel.there));first|done|fail) (hv:ldv t (f e) o=some v:=by rfl) (hf:∀e,(f e).length=sz:=by intro;rfl) (ho:off=j * sz+o:=by first|rfl|omega) :
  Wr n C ops k Q Tl Fs R ((i,0)::L) E F N:=
 Ye hop fun hp hr w st hz sb=>by
  simp only [Zt hw]
  refine ⟨v,fun a w ha hin=>?_,nx hp hr w st hz sb⟩
  obtain ⟨e1,e2⟩:=Wt (q:=q.1) hf he
  have hv':ldv t (es.flatMap f++q.1).toArray.toList off=some v:=by
   rw [ho,←e2]
   show ldv t (es.flatMap f++q.1) _=_
   rw [e1]
   exact ldv_in hv
  have hr:=Xu (hin _ _ (sb _ _ (stat_pt st hs))) hv'
  simp only [execOp,Instr.loadAt,ha.ev (by rw [ZQ];exact hx),Instr.sureAddr,Sem.run_bind,Sem.run_pure,Result.andThen,hr]
theorem Ze {α:Type} {T:Nat} {f:α→List Value} {es:List α} {q:List Value×(Nat×Nat)} {e:α} (sz j o:Nat) (he:es[j]? = some e) (nx:Wr n C ops k Q Tl Fs R L ((d,v)::E) F N) (hop:nth ops i=some ⟨some d,.load t x,ty0,pos,aft,gd⟩:=by rfl) (hw:wantL ops E ⟨some d,.load t x,ty0,pos,aft,gd⟩=some true:=by rfl)
  (hx:ev E x=some (.pointer (some ⟨b,off,none⟩)):=by rfl) (hs:Sel (Ax T f b es q) N N':=by (repeat (first|exact Sel.here|apply Sel.there));first|done|fail) (hv:ldv t (f e) o=some v:=by rfl) (hf:∀e,(f e).length=sz:=by intro;rfl) (ho:off=j * sz+o:=by first|rfl|omega) :
  Wr n C ops k Q Tl Fs R ((i,3)::L) E F N:=
 Ye hop fun hp hr w st hz sb=>by
  simp only [Zt hw]
  refine ⟨v,fun a G w hp' ha hsub hsat=>?_,nx hp hr w st hz sb⟩
  obtain ⟨e1,e2⟩:=Wt (q:=q.1) hf he
  have hv':ldv t (es.flatMap f++q.1).toArray.toList off=some v:=by
   rw [ho,←e2]
   show ldv t (es.flatMap f++q.1) _=_
   rw [e1]
   exact ldv_in hv
  have hr:=Xu (hsat.pt hs) hv'
  simp only [execOp,Instr.loadAt,ha.ev (by rw [ZQ];exact hx),Instr.sureAddr,Sem.run_bind,Sem.run_pure,Result.andThen,hr]
theorem Z3 {α:Type} {T:Nat} {f:α→List Value} {es:List α} {q:List Value×(Nat×Nat)} {e:α} (sz j o:Nat) (e':α) (he:es[j]? = some e) (hq:AxOK (es.length * sz) q) (nx:Wr n C ops k Q Tl Fs R L E F (Ax T f b (es.set j e') q::N'))
  (hop:nth ops i=some ⟨none,.store t x y,ty0,pos,aft,gd⟩:=by rfl) (hw:wantL ops E ⟨none,.store t x y,ty0,pos,aft,gd⟩=some true:=by rfl)
  (hx:ev E x=some (.pointer (some ⟨b,off,none⟩)):=by rfl) (hy:ev E y=some v:=by rfl) (hs:Sel (Ax T f b es q) N N':=by (repeat (first|exact Sel.here|apply Sel.there));first|done|fail) (hv:stv t (f e) o v=some (f e'):=by rfl) (hf:∀e,(f e).length=sz:=by intro;rfl) (ho:off=j * sz+o:=by first|rfl|omega) :
  Wr n C ops k Q Tl Fs R ((i,4)::L) E F N:=
 Ye hop fun hp hr w st hz sb=>by
  simp only [Zt hw]
  refine ⟨⟨Unit,fun _=>undef,fun _=>True,fun _=>F,fun _=>Ax T f b (es.set j e') q::N'⟩,fun a G w hp' ha hsub hsat=>?_,fun _ _=>nx hp hr w st hz sb⟩
  obtain ⟨e1,e2⟩:=Wt (q:=q.1) hf he
  have hv':stv t (es.flatMap f++q.1).toArray.toList off v=some ((es.set j e').flatMap f++q.1):=by
   rw [ho,←e2,ar_set he]
   show stv t (es.flatMap f++q.1) _ _=_
   rw [e1,stv_in hv]
   simp
  have hfz:q.2=(0,0)∨(es.flatMap f++q.1).toArray.toList.length≤q.2.1:=by
   rcases hq with h|h
   ·exact .inl h
   ·exact .inr (by simpa [Zy hf] using h)
  obtain ⟨w',g1,g2,g3,g4⟩:=stv_ok' (hsat.pt hs) hfz hv'
  unfold OpRes
  simp only [execOp,Instr.storeAt,ha.ev (x:=x) (by rw [ZQ];exact hx),ha.ev (x:=y) (by rw [ZQ];exact hy),Instr.sureAddr,Sem.run_bind,Sem.run_pure,Result.andThen,g1]
  exact ⟨(),trivial,trivial,(hsat.sel hs).write g3 g2 fun c hc _=>g4 c hc⟩
theorem Zv {α:Type} {T:Nat} {f:α→List Value} {es:List α} {q:List Value×(Nat×Nat)} {e:α} (sz j o:Nat) (e':α) (he:es[j]? = some e) (hq:AxOK (es.length * sz) q) (nx:Wl n C ops.toArray k Q l E F (Ax T f b (es.set j e') q::R0)) (hw:wantL ops E ⟨none,.store t x y,ty0,pos,aft,gd⟩=some true:=by rfl)
  (hx:ev E x=some (.pointer (some ⟨b,off,none⟩)):=by rfl) (hy:ev E y=some v:=by rfl) (hs:Sel (Ax T f b es q) R R0:=by (repeat (first|exact Sel.here|apply Sel.there));first|done|fail) (hv:stv t (f e) o v=some (f e'):=by rfl) (hf:∀e,(f e).length=sz:=by intro;rfl) (ho:off=j * sz+o:=by first|rfl|omega) :
  Wl n C ops.toArray k Q (⟨none,.store t x y,ty0,pos,aft,gd⟩::l) E F R:=
 YB (fun t ht=>by cases ht) (fun c hc=>by cases hc) hw fun a w ha hsat=>by
  obtain ⟨e1,e2⟩:=Wt (q:=q.1) hf he
  have hv':stv t (es.flatMap f++q.1).toArray.toList off v=some ((es.set j e').flatMap f++q.1):=by
   rw [ho,←e2,ar_set he]
   show stv t (es.flatMap f++q.1) _ _=_
   rw [e1,stv_in hv]
   simp
  have hfz:q.2=(0,0)∨(es.flatMap f++q.1).toArray.toList.length≤q.2.1:=by
   rcases hq with h|h
   ·exact .inl h
   ·exact .inr (by simpa [Zy hf] using h)
  obtain ⟨w',g1,g2,g3,g4⟩:=stv_ok' (hsat.pt hs) hfz hv'
  unfold OpRes
  simp only [execOp,Instr.storeAt,ha.ev (x:=x) (by rw [ZQ];exact hx),ha.ev (x:=y) (by rw [ZQ];exact hy),Instr.sureAddr,Sem.run_bind,Sem.run_pure,Result.andThen,g1]
  exact fun a' ha'=>nx a' w' ha' ((hsat.sel hs).write g3 g2 fun c hc _=>g4 c hc)
theorem l_six8 {s:ByteArray} {z:Int} {kd:IntKind} {rs:TRow} (j m:Nat) (hjm:j<m) (nx:∀c:UInt8,Wl n C ops.toArray k Q l ((d,.int .u8 c.toNat)::E) F R)
  (hw:wantL ops E ⟨some d,.index t x y,ty0,pos,aft,gd⟩=some true:=by rfl) (hn:Nat.blt d n=true:=by rfl) (hx:ev E x=some (.string s):=by rfl) (hy:ev E y=some (.int kd z):=by rfl)
  (hts:lookT tab t=some rs:=by rfl) (hrs:rs.k = .str:=by rfl) (hz:z=(j:Int):=by first|rfl|omega) (hm:Nat.ble m s.data.toList.length=true:=by decide +kernel):Wl n C ops.toArray k Q (⟨some d,.index t x y,ty0,pos,aft,gd⟩::l) E F R:=
 have hlt:j<s.data.toList.length:=Nat.lt_of_lt_of_le hjm (Nat.le_of_ble_eq_true hm)
 l_q (fun a w ha=>by
  subst hz
  have h0:(0:Int)≤(j:Int):=by omega
  have h1:s[j]? = some s.data.toList[j]:=by
   have hlt':j<s.size:=by simpa using hlt
   rw [getElem?_pos s j hlt']
   rfl
  simp only [execOp,ha.ev (x:=x) (by rw [ZQ];exact hx),ha.ev (x:=y) (by rw [ZQ];exact hy),Instr.index,asIntOf,Y2 hts hrs,Sem.run_bind,Result.andThen,Sem.run_pure,if_pos h0,Int.toNat_natCast,h1]) (nx s.data.toList[j]) (by intro c h;cases h) hw hn
def AnyI:Post:=⟨Int,fun z=>.int .i64 z,fun _=>True,fun _=>[],fun _=>[]⟩
theorem len64_ok (u:Nat) (hu:u<256):Enters 182∧Spec prog 182 #[.int .u64 (u:Int)] [] [] AnyI:=by
 have wu:IntKind.u8.wrap (u:Int)=(u:Int):=by simp [IntKind.wrap,IntKind.bits,IntKind.signed];omega
 refine ZM [_] func182 ntmps182 fun G w hp=>?_
 repeat' (first|refine ZE ?_|refine ZD ?_|refine ZF ?_|rw [wu]|refine l_six8 u 256 hu (fun c=>?_)|(refine ZG (fun hc=>?_) (fun hc=>?_)<;>(try simp at hc)<;>(try omega))|fail)
 exact ZK (post:=AnyI) _ rfl trivial
theorem bitsLen_ok (u:Nat) (hu:u<256):Enters 131∧Spec prog 131 #[.int .u64 (u:Int)] [] [] AnyI:=by
 have s1:=len64_ok u hu
 refine ZM [_] func131 ntmps131 fun G w hp=>?_
 repeat' (first|refine ZE ?_|refine ZD ?_|refine ZF ?_|refine ZB ?_|refine ZC (s1) (fun _ _=>?_)|fail)
 rename_i z _
 exact ZK (post:=AnyI) z rfl trivial
def Srd {α:Type} (c:α→α→Int) (l:List α):Prop:=l.Pairwise fun a b=>¬c b a<0
theorem srt_insr {α:Type} {c:α→α→Int} (ha:∀a b,c a b<0→¬c b a<0) (ht:∀a b d,¬c b a<0→¬c d b<0→¬c d a<0) {P S:List α} {x:α} (h:Srd c (P++S)) (h1:∀s ∈ S,c x s<0) (h2:∀p,P.getLast? = some p→¬c x p<0):Srd c (P++x::S):=by
 obtain ⟨hP,hS,hPS⟩:=List.pairwise_append.1 h
 refine List.pairwise_append.2 ⟨hP,List.pairwise_cons.2 ⟨fun s hs=>ha _ _ (h1 s hs),hS⟩,fun p hp y hy=>?_⟩
 rcases List.mem_cons.1 hy with rfl|hy
 ·rcases List.eq_nil_or_concat P with rfl|⟨P',q,rfl⟩
  ·cases hp
  ·have hq:=h2 q (by simp)
   rw [List.concat_eq_append] at hp hP
   rcases List.mem_append.1 hp with hp|hp
   ·exact ht p q _ ((List.pairwise_append.1 hP).2.2 p hp q (by simp)) hq
   ·obtain rfl:=List.mem_singleton.1 hp;exact hq
 ·exact hPS p hp y hy
theorem swap_set {α:Type} (P:List α) (p x:α) (S:List α):((P++p::x::S).set (P.length+1) p).set P.length x=P++x::p::S:=by
 rw [List.set_append_right _ _ (by omega)]
 simp
end
section
variable {n:Nat} {C:Cx} {Q:Exit→Act→World→Prop} {E E':List (Nat×Value)} {F F' F1 Fs F0:List Pf} {R R' R0 Rs N N' A:List HP} {k k':List Fr} {ops l:List Oper} {L L':List (Nat×Nat)} {Tl:List Nat} {i d:Nat} {t ty0:TypeId} {x y z:Operand} {pos:String} {aft:Array Edge} {gd:Option (Nat×Bool)} {α β:Type} [DecidableEq α] {K:α→Value} {V:β→Value}
theorem r_mgetE2 {kt et r:Nat} {rs te:TRow} {m:List (α×β)} {zv:Value} (hk:KeyOK kt K) (a:α) (o:Option β) (ho:mget a m=o) (nx:Wr n C ops k Q Tl Fs R L ((d,.tuple #[(o.map V).getD zv,.bool o.isSome])::E) F N)
  (hop:nth ops i=some ⟨some d,.lookup t x y true,ty0,pos,aft,gd⟩:=by rfl) (hw:wantL ops E ⟨some d,.lookup t x y true,ty0,pos,aft,gd⟩=some true:=by rfl)
  (hx:ev E x=some (.map (some r)):=by rfl) (hy:ev E y=some (K a):=by rfl) (hts:lookT tab t=some rs:=by rfl) (hrs:rs.k = .map kt et:=by rfl) (hte:lookT tab et=some te:=by rfl) (hzv:zval te=some zv:=by rfl)
  (hs:Sel (Mp K V r m) R R0:=by (repeat (first|exact Sel.here|apply Sel.there));first|done|fail):Wr n C ops k Q Tl Fs R ((i,0)::L) E F N:=
 Ye hop fun hp hr w st hz sb=>by
  simp only [Zt hw]
  refine ⟨.tuple #[(o.map V).getD zv,.bool o.isSome],fun ac w ha hin=>?_,nx hp hr w st hz sb⟩
  obtain ⟨h1,h2,_,s1,_,hmp,_⟩:=hs.sep st.r
  obtain ⟨es,clock,hes,he,hB⟩:=hmp
  have hb:w.heap[r]? = some (.map es clock):=hin _ _ (sb _ _ (Zh _ _ _ _ (s1 _ _ hes)))
  have hu:=WK (w:=w) hts hrs
  have hg:(getObj r).run prog w = .ok (.map es clock) w:=by simp [getObj,Sem.run,hb]
  have hc:=hk.chk a es.isEmpty w
  have hf:=Wf hk a es.toList m w he
  have hz0:=zval_ok hte hzv w
  have hfg:=VI a m 0
  simp only [execOp,ha.ev (x:=x) (by rw [ZQ];exact hx),ha.ev (x:=y) (by rw [ZQ];exact hy),Instr.lookup,Sem.run_bind,hu,Result.andThen,hg,hc,hf,Sem.run_pure]
  cases hm:mfind a m 0 with
  | none=>
   rw [hm] at hfg
   simp only [Option.map_none,Sem.run_bind,hz0,Result.andThen,Sem.run_pure,if_true]
   rw [←ho,←hfg];rfl
  | some q=>
   rw [hm] at hfg
   simp only [Option.map_some,if_true]
   rw [←ho,←hfg];rfl
end
section
variable {l:List Oper} {i:Nat} {t2:TypeId} {z:Operand}
theorem l_mnil {kt et r:Nat} {rs:TRow} (nx:Wl n C ops.toArray k Q l ((d,.bool false)::E) F R) (hw:wantL ops E ⟨some d,.binOp .eql t x y t2,ty0,pos,aft,gd⟩=some true:=by rfl) (hn:Nat.blt d n=true:=by rfl)
  (hx:ev E x=some (.map (some r)):=by rfl) (hy:ev E y=some (.map none):=by rfl) (hts:lookT tab t=some rs:=by rfl) (hrs:rs.k = .map kt et:=by rfl):Wl n C ops.toArray k Q (⟨some d,.binOp .eql t x y t2,ty0,pos,aft,gd⟩::l) E F R:=
 l_q (fun ac w ha=>by
  have hu:=WK (w:=w) hts hrs
  have hg:(eqGuard .eql t x y (.map (some r)) (.map none)).run prog w = .ok () w:=by simp [eqGuard]
  have hb:(binOp .eql t (.map (some r)) (.map none)).run prog w = .ok (.bool false) w:=by
   have he:(Op.equal t (.map (some r)) (.map none)).run prog w = .ok false w:=by
    show (Op.equalIn (9999+1) t (.map (some r)) (.map none)).run prog w = .ok false w
    rw [Op.equalIn]
    simp only [Sem.run_bind,hu,Result.andThen,Sem.run_pure]
   simp only [binOp,Sem.run_bind,he,Result.andThen,Sem.run_pure]
  simp only [execOp,ha.ev (x:=x) (by rw [ZQ];exact hx),ha.ev (x:=y) (by rw [ZQ];exact hy),Sem.run_bind,hg,Result.andThen,hb,Sem.run_pure]) nx (by intro c h;cases h) hw hn
end
abbrev VwL (b:Nat) (ps:Option Addr) (rs:List (Nm×Ch)) (cs:List Ch) (q:Nat×Nat×Option Addr×Nat):List HP:=
 [Pt b (.cells #[.pointer ps,.map (some q.1),.slice q.2.2.1 cs.length q.2.2.2,.map (some q.2.1)] 143),Mp Nm.v Ch.v q.1 rs,Row 108 7 q.2.2.1 cs.length q.2.2.2 (cs.flatMap chf),Mp Nm.v iv q.2.1 (lastL cs)]
def Vw (b:Nat) (ps:Option Addr) (rs:List (Nm×Ch)) (cs:List Ch):HP:=fun h=>∃q,True∧Sep (VwL b ps rs cs q) h
section
theorem k_vw {b:Nat} {ps:Option Addr} {rs:List (Nm×Ch)} {cs:List Ch} (t:∀q,Wk n C k Q E F (VwL b ps rs cs q++R0)) (hs:Sel (Vw b ps rs cs) R R0:=by (repeat (first|exact Sel.here|apply Sel.there));first|done|fail):Wk n C k Q E F R:=
 Z6 (X:=Nat×Nat×Option Addr×Nat) (Lx:=fun q=>VwL b ps rs cs q) (p:=fun _=>True) (r:=Vw b ps rs cs) hs (fun _h hh=>hh) (fun q _=>t q)
theorem k_vw' {b r1 r2 m cap:Nat} {o ps:Option Addr} {rs:List (Nm×Ch)} {cs:List Ch} {xs:List Value} {ll:List (Nm×Nat)} (t:Wk n C k Q E F (Vw b ps rs cs::R0)) (hm:m=cs.length) (hx:xs=cs.flatMap chf) (hl:ll=lastL cs)
  (hs:Sels [Pt b (.cells #[.pointer ps,.map (some r1),.slice o m cap,.map (some r2)] 143),Mp Nm.v Ch.v r1 rs,Row 108 7 o m cap xs,Mp Nm.v iv r2 ll] R R0:=by (repeat (first|exact Sels.nil|exact Sel.here|apply Sel.there|apply Sels.cons));first|done|fail):Wk n C k Q E F R:=by
 subst hm;subst hx;subst hl
 exact Zs (fun h hh=>⟨(r1,r2,o,cap),trivial,hh⟩) t hs
end
theorem XM (b0:Nat):Enters 16∧Spec prog 16 #[.pointer (some ⟨b0,0,none⟩)] [] [] ⟨Nat,fun b=>.pointer (some ⟨b,0,none⟩),fun _=>True,fun _=>[],fun b=>[Vw b (some ⟨b0,0,none⟩) [] []]⟩:=by
 refine ZM [_] func16 ntmps16 fun G w hp=>?_
 repeat' (first|refine ZE ?_|refine ZD ?_|refine ZF ?_|refine ZR (fun b=>?_)|refine ZB ?_|refine l_mkm (K:=Nm.v) (kt:=46) (et:=108) key_nm Ch.v (fun r=>?_)|refine l_mkm (K:=Nm.v) (kt:=46) (et:=3) key_nm iv (fun r=>?_)|fail)
 refine Zs (r:=Row 108 7 none 0 0 []) (Lx:=[]) (fun h _=>Yj _ _ h) ?_
 refine k_vw' (cs:=[]) (rs:=[]) ?_ rfl rfl rfl
 exact ZK (post:=⟨Nat,fun b=>.pointer (some ⟨b,0,none⟩),fun _=>True,fun _=>[],fun b=>[Vw b (some ⟨b0,0,none⟩) [] []]⟩) _ rfl trivial
theorem vwRead_ok (b r1:Nat) (v0 v2 v3:Value) (T:Nat) (rs:List (Nm×Ch)) (c:Ch) :
  Enters 115∧Spec prog 115 #[.pointer (some ⟨b,0,none⟩),c.v] [] [Pt b (.cells #[v0,.map (some r1),v2,v3] T),Mp Nm.v Ch.v r1 rs]
   ⟨Unit,fun _=>.tuple #[],fun _=>True,fun _=>[],fun _=>[Pt b (.cells #[v0,.map (some r1),v2,v3] T),Mp Nm.v Ch.v r1 (mset c.nm c rs)]⟩:=by
 refine ZM [_,_] func115 ntmps115 fun G w hp=>?_
 repeat' (first|refine ZE ?_|refine ZD ?_|refine ZF ?_|refine ZS ?_|refine ZR (fun b=>?_)|refine ZB ?_|refine ZT ?_|refine Zf ?_|refine ZU ?_|refine l_mnil ?_|refine l_mset (V:=Ch.v) key_nm c.nm c ?_|refine ZA 3 [] [(0,0),(1,0),(2,0),(3,0),(4,0),(5,0),(6,0)] [7] ?_|fail)
 exact Yc () rfl trivial
theorem vwCall_ok (b:Nat) (ps:Option Addr) (rs:List (Nm×Ch)) (cs:List Ch) (c:Ch) (hl:cs.length≤1000000) :
  Enters 158∧Spec prog 158 #[.pointer (some ⟨b,0,none⟩),c.v] [] [Vw b ps rs cs] ⟨Unit,fun _=>.tuple #[],fun _=>True,fun _=>[],fun _=>[Vw b ps rs (cs++[c])]⟩:=by
 refine ZM [_,_] func158 ntmps158 fun G w hp=>?_
 refine k_vw fun q=>?_
 obtain ⟨r1,r2,o,cap⟩:=q
 repeat' (first|refine ZE ?_|refine ZD ?_|refine ZF ?_|refine ZS ?_|refine ZV ?_|refine ZR (fun b=>?_)|refine ZB ?_|refine ZT ?_|refine Zf ?_|refine Zm (fun b=>?_)|refine ZU ?_|refine l_mnil ?_|refine l_mset (V:=iv) key_nm c.nm cs.length ?_|refine r_app1 (fun o' cap'=>?_)|refine ZA 3 [] [(0,0),(1,0),(2,0),(3,0),(4,0),(5,0),(6,0),(7,0),(8,0),(9,0),(10,0)] [11] ?_|refine ZA 4 [Row _ _ _ _ _ _] [(0,0),(1,0),(2,0),(3,0),(4,0),(5,0),(6,1),(7,4),(8,0),(9,0)] [10] ?_|fail)
 refine k_vw' (cs:=cs++[c]) (rs:=rs) ?t ?hm ?hx ?hl
 case hm=>simp
 case hx=>simp [chf]
 case hl=>exact (Xr cs c).symm
 exact Yc () rfl trivial
theorem Wu (b:Nat) (ps:Option Addr) (rs:List (Nm×Ch)) (cs:List Ch) (a:Nm) (v:ByteArray) (ha:a.owner.size≤1099511627776) (hat:a.text.size≤1099511627776) (hl:cs.length≤1000000) :
  Enters 109∧Spec prog 109 #[.pointer (some ⟨b,0,none⟩),a.v,.string v] [Usg] [Vw b ps rs cs] ⟨Unit,fun _=>.int .i64 (vset cs a v).1,fun _=>True,fun _=>[],fun _=>[Vw b ps rs (vset cs a v).2]⟩:=by
 have n1:=XI a ha hat
 have n2:=vwCall_ok b ps rs cs ⟨a,v,false⟩ hl
 by_cases h1:nchk a=0
 ·by_cases h2:65536<v.size
  ·have e:vset cs a v=(5,cs):=by unfold vset;rw [if_neg (by simp [h1]),if_pos h2]
   rw [e]
   refine ZM [_,_,_] func109 ntmps109 fun G w hp=>?_
   repeat' (first|refine ZE ?_|refine ZD ?_|refine ZF ?_|refine ZS ?_|refine ZR (fun b=>?_)|refine ZB ?_|refine ZC (n1) (fun _ _=>?_)|(refine ZG (fun hc=>?_) (fun hc=>?_)<;>(try simp at hc)<;>(try omega))|fail)
   exact ZK () rfl trivial
  ·have e:vset cs a v=(0,cs++[⟨a,v,false⟩]):=by unfold vset;rw [if_neg (by simp [h1]),if_neg h2]
   rw [e]
   refine ZM [_,_,_] func109 ntmps109 fun G w hp=>?_
   repeat' (first|refine ZE ?_|refine ZD ?_|refine ZF ?_|refine ZS ?_|refine ZR (fun b=>?_)|refine ZB ?_|refine ZC (n1) (fun _ _=>?_)|refine ZC (n2) (fun _ _=>?_)|(refine ZG (fun hc=>?_) (fun hc=>?_)<;>(try simp at hc)<;>(try omega))|fail)
   exact ZK () rfl trivial
 ·have e:vset cs a v=(12,cs):=by unfold vset;rw [if_pos h1]
  rw [e]
  refine ZM [_,_,_] func109 ntmps109 fun G w hp=>?_
  repeat' (first|refine ZE ?_|refine ZD ?_|refine ZF ?_|refine ZS ?_|refine ZR (fun b=>?_)|refine ZB ?_|refine ZC (n1) (fun _ _=>?_)|(refine ZG (fun hc=>?_) (fun hc=>?_)<;>(try simp at hc)<;>(try omega))|fail)
  exact ZK () rfl trivial
set_option maxHeartbeats 1000000 in
theorem vwGet_ok (b:Nat) (ps:Option Addr) (es:Al) (rs:List (Nm×Ch)) (cs:List Ch) (a:Nm) (ha:a.owner.size≤1099511627770) (hat:a.text.size≤1099511627776) :
  Enters 54∧Spec prog 54 #[.pointer (some ⟨b,0,none⟩),a.v] [St ps es,Usg] [Vw b ps rs cs] ⟨Unit,fun _=>.tuple #[.string (vget es cs a).1,.bool (vget es cs a).2],fun _=>True,fun _=>[],fun _=>[Vw b ps (vread es rs cs a) cs]⟩:=by
 have n1:=XI a (by omega) hat
 have n2:=stateGet_ok ps es a ha
 by_cases h1:nchk a=0
 ·obtain ⟨l1,l2⟩:=Xk a cs
  cases hm:mget a (lastL cs) with
  | some i=>
   obtain ⟨c,hc1,hc2⟩:=l1 i hm
   have hil:=(List.getElem?_eq_some_iff.1 hc1).1
   have e1:vget es cs a=(c.val,!c.abs):=by unfold vget;rw [if_neg (by simp [h1]),hc2]
   have e2:vread es rs cs a=rs:=by unfold vread;rw [if_neg (by simp [h1]),hc2]
   rw [e1,e2]
   refine ZM [_,_] func54 ntmps54 fun G w hp=>?_
   refine k_vw fun q=>?_
   obtain ⟨r1,r2,o,cap⟩:=q
   refine k_row (m:=cs.length) (by omega) fun p hp=>?_
   have ho:=hp.o
   subst ho
   have hsp:Ax 108 chf p.1 cs p.2=Pt p.1 (.cells (cs.flatMap chf++p.2.1).toArray 108 p.2.2):=rfl
   rw [←hsp]
   repeat' (first|refine ZE ?_|refine ZD ?_|refine ZL ?_|refine ZF ?_|refine ZS ?_|refine ZR (fun b=>?_)|refine ZH ?_|refine ZT ?_|refine Zf ?_|refine ZU ?_|refine ZC (n1) (fun _ _=>?_)|refine r_mgetE2 key_nm a (some i) hm ?_|refine Y1 (m:=cs.length) i hil ?_|refine Zc 7 i 5 hc1 ?_|refine Zc 7 i 6 hc1 ?_|refine ZA 3 [] [(0,0),(1,0),(2,0),(3,0),(4,0),(5,0),(6,0),(7,0),(8,0),(9,0),(10,0)] [] ?_|refine ZA 5 [] [(0,0),(1,0),(2,0),(3,0),(4,0),(5,0),(6,0),(7,0),(8,0),(9,0),(10,0),(11,0),(12,0),(13,0),(14,0),(15,0),(16,0),(17,0),(18,0)] [] ?_|(refine ZG (fun hc=>?_) (fun hc=>?_)<;>(try simp at hc)<;>(try omega))|fail)
   refine Zs (r:=Row 108 7 (some ⟨p.1,0,none⟩) cs.length cap (cs.flatMap chf)) (Lx:=[Ax 108 chf p.1 cs p.2]) (fun h hh=>WD hp h hh) ?_
   refine k_vw' (cs:=cs) (rs:=rs) ?_ rfl rfl rfl
   exact ZK () rfl trivial
  | none=>
   have hc2:=l2 hm
   have e1:vget es cs a=((getO a es).getD ⟨#[]⟩,(getO a es).isSome):=by unfold vget;rw [if_neg (by simp [h1]),hc2]
   have e2:vread es rs cs a=mset a ⟨a,(getO a es).getD ⟨#[]⟩,!(getO a es).isSome⟩ rs:=by unfold vread;rw [if_neg (by simp [h1]),hc2]
   rw [e1,e2]
   have n3:=fun (r1:Nat) (v2 v3:Value)=>vwRead_ok b r1 (.pointer ps) v2 v3 143 rs ⟨a,(getO a es).getD ⟨#[]⟩,!(getO a es).isSome⟩
   refine ZM [_,_] func54 ntmps54 fun G w hp=>?_
   refine k_vw fun q=>?_
   obtain ⟨r1,r2,o,cap⟩:=q
   repeat' (first|refine ZE ?_|refine ZD ?_|refine ZL ?_|refine ZF ?_|refine ZS ?_|refine ZR (fun b=>?_)|refine ZB ?_|refine ZT ?_|refine Zf ?_|refine ZU ?_|refine ZC (n1) (fun _ _=>?_)|refine ZN (n2) (fun _ _=>?_)|refine ZC (n3 _ _ _) (fun _ _=>?_)|refine r_mgetE2 key_nm a none hm ?_|refine ZA 3 [] [(0,0),(1,0),(2,0),(3,0),(4,0),(5,0),(6,0),(7,0),(8,0),(9,0),(10,0)] [] ?_|refine ZA 6 [] [(0,0),(1,0),(2,0),(3,0),(4,0),(5,4),(6,0),(7,0),(8,0),(9,0),(10,0)] [] ?_|(refine ZG (fun hc=>?_) (fun hc=>?_)<;>(try simp at hc)<;>(try omega))|fail)
   refine k_vw' (cs:=cs) (rs:=mset a ⟨a,(getO a es).getD ⟨#[]⟩,!(getO a es).isSome⟩ rs) ?_ rfl rfl rfl
   exact ZK () rfl trivial
 ·have e1:vget es cs a=(⟨#[]⟩,false):=by unfold vget;rw [if_pos h1]
  have e2:vread es rs cs a=rs:=by unfold vread;rw [if_pos h1]
  rw [e1,e2]
  refine ZM [_,_] func54 ntmps54 fun G w hp=>?_
  repeat' (first|refine ZE ?_|refine ZD ?_|refine ZL ?_|refine ZF ?_|refine ZS ?_|refine ZR (fun b=>?_)|refine ZC (n1) (fun _ _=>?_)|(refine ZG (fun hc=>?_) (fun hc=>?_)<;>(try simp at hc)<;>(try omega))|fail)
  exact ZK () rfl trivial
section
variable {α:Type} [Inhabited α]
def gt (l:List α) (i:Nat):α:=l.getD i default
theorem ZI {l:List α} {i:Nat} (h:i<l.length):l[i]? = some (gt l i):=by
 unfold gt;rw [List.getD_eq_getElem?_getD,List.getElem?_eq_getElem h];rfl
theorem gt_of {l:List α} {i:Nat} {x:α} (h:l[i]? = some x):gt l i=x:=by
 unfold gt;rw [List.getD_eq_getElem?_getD,h];rfl
theorem Zo {l:List α} {i:Nat} (h:i<l.length):gt l i ∈ l:=List.mem_of_getElem? (ZI h)
theorem gt_set {l:List α} {i k:Nat} {x:α} (h:i<l.length):gt (l.set i x) k=if k=i then x else gt l k:=by
 unfold gt
 rw [List.getD_eq_getElem?_getD,List.getD_eq_getElem?_getD,List.getElem?_set]
 by_cases hk:k=i
 ·subst hk;simp [h]
 ·rw [if_neg (fun h=>hk h.symm),if_neg hk]
def sw (l:List α) (i j:Nat):List α:=(l.set i (gt l j)).set j (gt l i)
theorem sw_len (l:List α) (i j:Nat):(sw l i j).length=l.length:=by simp [sw]
theorem WG {l:List α} {i j k:Nat} (hi:i<l.length) (hj:j<l.length):gt (sw l i j) k=if k=j then gt l i else if k=i then gt l j else gt l k:=by
 unfold sw
 rw [gt_set (by simpa using hj),gt_set hi]
theorem sw_perm {l:List α} {i j:Nat} (hi:i<l.length) (hj:j<l.length):(sw l i j).Perm l:=by
 have h1:gt l j=l[j]:=gt_of (List.getElem?_eq_getElem hj)
 have h2:gt l i=l[i]:=gt_of (List.getElem?_eq_getElem hi)
 unfold sw
 rw [h1,h2]
 exact List.set_set_perm hi hj
structure Win (a b:Nat) (l l':List α):Prop where
 perm:l'.Perm l
 out:∀k,k<a∨b≤k→gt l' k=gt l k
variable {a a' b':Nat} {l l' l'':List α}
theorem Win.len (h:Win a b l l'):l'.length=l.length:=h.perm.length_eq
theorem Win.refl:Win a b l l:=⟨List.Perm.refl _,fun _ _=>rfl⟩
theorem Win.trans (h:Win a b l l') (k:Win a b l' l''):Win a b l l'':=⟨k.perm.trans h.perm,fun i hi=>(k.out i hi).trans (h.out i hi)⟩
theorem Win.mono (h:Win a' b' l l') (h1:a≤a') (h2:b'≤b):Win a b l l':=⟨h.perm,fun k hk=>h.out k (by omega)⟩
theorem Win.sw {i j:Nat} (h1:a≤i) (h2:i<b) (h3:a≤j) (h4:j<b) (hb:b≤l.length):Win a b l (sw l i j):=⟨sw_perm (by omega) (by omega),fun k hk=>by
 rw [WG (by omega) (by omega),if_neg (by omega),if_neg (by omega)]⟩
theorem Win.sub (h:Win a b l l') {U:α→Prop} (hU:∀x ∈ l,U x):∀x ∈ l',U x:=fun x hx=>hU x (h.perm.mem_iff.1 hx)
def wn (l:List α) (a b:Nat):List α:=(l.drop a).take (b - a)
theorem mem_wn {x:α} (hb:b≤l.length):x ∈ wn l a b↔∃k,a≤k∧k<b∧gt l k=x:=by
 unfold wn
 rw [List.mem_iff_getElem?]
 constructor
 ·rintro ⟨i,hi⟩
  rw [List.getElem?_take] at hi
  split at hi
  ·rw [List.getElem?_drop] at hi
   exact ⟨a+i,by omega,by omega,gt_of hi⟩
  ·cases hi
 ·rintro ⟨k,h1,h2,rfl⟩
  refine ⟨k - a,?_⟩
  rw [List.getElem?_take,if_pos (by omega),List.getElem?_drop,show a+(k - a)=k by omega,ZI (by omega)]
omit [Inhabited α] in
theorem wn_split (hab:a≤b):l=l.take a++(wn l a b++l.drop b):=by
 unfold wn
 rw [show l.drop b=(l.drop a).drop (b - a) by rw [List.drop_drop];congr 1;omega,List.take_append_drop,List.take_append_drop]
theorem Win.wn (h:Win a b l l') (hab:a≤b):(wn l' a b).Perm (wn l a b):=by
 have h1:=h.perm
 have e1:l'.take a=l.take a:=by
  apply List.ext_getElem?
  intro i
  rw [List.getElem?_take,List.getElem?_take]
  split
  ·rename_i hi
   by_cases hl:i<l.length
   ·rw [ZI (by rw [h.len];exact hl),ZI hl,h.out i (by omega)]
   ·rw [List.getElem?_eq_none (by rw [h.len];omega),List.getElem?_eq_none (by omega)]
  ·rfl
 have e2:l'.drop b=l.drop b:=by
  apply List.ext_getElem?
  intro i
  rw [List.getElem?_drop,List.getElem?_drop]
  by_cases hl:b+i<l.length
  ·rw [ZI (by rw [h.len];exact hl),ZI hl,h.out (b+i) (by omega)]
  ·rw [List.getElem?_eq_none (by rw [h.len];omega),List.getElem?_eq_none (by omega)]
 rw [wn_split (l:=l') hab,wn_split (l:=l) hab,e1,e2] at h1
 exact (List.perm_append_right_iff _).1 ((List.perm_append_left_iff _).1 h1)
theorem Win.all (h:Win a b l l') (hb:b≤l.length) {P:α→Prop} (hP:∀k,a≤k→k<b→P (gt l k)) (k:Nat) (h1:a≤k) (h2:k<b):P (gt l' k):=by
 have hm:gt l' k ∈ Go.Proofs.YtdkndahndgkmnaaGreatDoor.wn l' a b:=(mem_wn (by rw [h.len];exact hb)).2 ⟨k,h1,h2,rfl⟩
 obtain ⟨j,h3,h4,h5⟩:=(mem_wn hb).1 ((h.wn (by omega)).mem_iff.1 hm)
 rw [←h5]
 exact hP j h3 h4
structure Wk0 (c:α→α→Int):Prop where
 a:∀x y,c x y<0→¬c y x<0
 t:∀x y z,¬c y x<0→¬c z y<0→¬c z x<0
variable {c:α→α→Int} (W:Wk0 c)
include W
omit [Inhabited α] in
theorem Wk0.i (x:α):¬c x x<0:=fun h=>W.a x x h h
omit [Inhabited α] in
theorem Wk0.lt_of {x y z:α} (h1:c x y<0) (h2:¬c z y<0):c x z<0:=Classical.byContradiction fun h=>W.t y z x h2 h h1
omit W
def Sw (c:α→α→Int) (a b:Nat) (l:List α):Prop:=∀i j,a≤i→i<j→j<b→¬c (gt l j) (gt l i)<0
theorem Sw.srd (h:Sw c 0 l.length l):Srd c l:=by
 unfold Srd
 rw [List.pairwise_iff_getElem]
 intro i j hi hj hij
 have h1:=h i j (by omega) hij hj
 rw [gt_of (List.getElem?_eq_getElem hi),gt_of (List.getElem?_eq_getElem hj)] at h1
 exact h1
theorem Sw.nil (h:b≤a+1):Sw c a b l:=fun i j h1 h2 h3=>by omega
structure Jw (c:α→α→Int) (a b a' b':Nat) (l0 l:List α):Prop where
 w:Win a b l0 l
 h1:a≤a'
 h2:b'≤b
 p:∀i j,a≤i→i<j→j<b→¬(a'≤i∧j<b')→¬c (gt l j) (gt l i)<0
def Lw (c:α→α→Int) (a b:Nat) (l:List α):Prop:=0<a→∀k,a≤k→k<b→¬c (gt l k) (gt l (a - 1))<0
variable {l0 l1 l2:List α} {m:Nat}
theorem Jw.win (h:Jw c a b a' b' l0 l) (hb:b≤l0.length) (hw:Win a' b' l l1):Jw c a b a' b' l0 l1:=by
 refine ⟨h.w.trans (hw.mono h.h1 h.h2),h.h1,h.h2,fun i j hi hij hj hn=>?_⟩
 have hl:=h.w.len
 have h2:=h.h2
 by_cases hi':a'≤i∧i<b'
 ·rw [hw.out j (by omega)]
  exact hw.all (by omega) (P:=fun x=>¬c (gt l j) x<0) (fun k h1 h2=>h.p k j (by have:=h.h1;omega) (by omega) hj (by omega)) i hi'.1 hi'.2
 ·rw [hw.out i (by omega)]
  by_cases hj':a'≤j∧j<b'
  ·exact hw.all (by omega) (P:=fun x=>¬c x (gt l i)<0) (fun k h1 h2=>h.p i k hi (by omega) (by omega) (by omega)) j hj'.1 hj'.2
  ·rw [hw.out j (by omega)]
   exact h.p i j hi hij hj hn
theorem Jw.low (h:Jw c a b a' b' l0 l) (hb:b≤l0.length) (hl:Lw c a b l0):Lw c a' b' l:=fun h0 k h1 h2=>by
 have ha:=h.h1
 have hb':=h.h2
 by_cases he:a'=a
 ·subst he
  rw [h.w.out (a' - 1) (by omega)]
  exact h.w.all hb (P:=fun x=>¬c x (gt l0 (a' - 1))<0) (fun k h3 h4=>hl h0 k h3 h4) k (by omega) (by omega)
 ·exact h.p (a' - 1) k (by omega) (by omega) (by omega) (by omega)
theorem Jw.done (h:Jw c a b a' b' l0 l) (hs:Sw c a' b' l):Win a b l0 l∧Sw c a b l:=⟨h.w,fun i j hi hij hj=>by
 by_cases hn:a'≤i∧j<b'
 ·exact hs i j hn.1 hij hn.2
 ·exact h.p i j hi hij hj hn⟩
theorem Jw.init:Jw c a b a b l l:=⟨Win.refl,Nat.le_refl _,Nat.le_refl _,fun _ _ h1 _ h3 h4=>absurd ⟨h1,h3⟩ h4⟩
theorem Jw.shrink {a2 b2:Nat} (h:Jw c a b a' b' l0 l) (h1:a'≤a2) (h2:b2≤b') (hp:∀i j,a'≤i→i<j→j<b'→¬(a2≤i∧j<b2)→¬c (gt l j) (gt l i)<0):Jw c a b a2 b2 l0 l:=⟨h.w,by have:=h.h1;omega,by have:=h.h2;omega,fun i j hi hij hj hn=>by
 by_cases hn':a'≤i∧j<b'
 ·exact hp i j hn'.1 hij hn'.2 hn
 ·exact h.p i j hi hij hj hn'⟩
structure Pt0 (c:α→α→Int) (a b m:Nat) (l:List α):Prop where
 h1:a≤m
 h2:m<b
 lo:∀k,a≤k→k<m→c (gt l k) (gt l m)<0
 hi:∀k,m<k→k<b→¬c (gt l k) (gt l m)<0
include W in
theorem Pt0.left (hp:Pt0 c a' b' m l) (hb:b'≤l.length) (hw:Win a' m l l1) (hs:Sw c a' m l1):∀i j,a'≤i→i<j→j<b'→¬(m+1≤i∧j<b')→¬c (gt l1 j) (gt l1 i)<0:=fun i j hi hij hj hn=>by
 have h1:=hp.h1
 have h2:=hp.h2
 by_cases hjm:j<m
 ·exact hs i j hi hij hjm
 ·rw [hw.out j (by omega)]
  by_cases him:i<m
  ·have h3:c (gt l1 i) (gt l m)<0:=hw.all (by omega) (P:=fun x=>c x (gt l m)<0) (fun k h1 h2=>hp.lo k h1 h2) i hi him
   by_cases hjm':j=m
   ·rw [hjm'];exact W.a _ _ h3
   ·exact W.a _ _ (W.lt_of h3 (hp.hi j (by omega) hj))
  ·obtain rfl:i=m:=by omega
   rw [hw.out i (by omega)]
   exact hp.hi j (by omega) hj
include W in
theorem Pt0.right (hp:Pt0 c a' b' m l) (hb:b'≤l.length) (hw:Win (m+1) b' l l1) (hs:Sw c (m+1) b' l1):∀i j,a'≤i→i<j→j<b'→¬(a'≤i∧j<m)→¬c (gt l1 j) (gt l1 i)<0:=fun i j hi hij hj hn=>by
 have h1:=hp.h1
 have h2:=hp.h2
 by_cases him:m<i
 ·exact hs i j (by omega) hij hj
 ·rw [hw.out i (by omega)]
  by_cases hjm:m<j
  ·have h3:¬c (gt l1 j) (gt l m)<0:=hw.all (by omega) (P:=fun x=>¬c x (gt l m)<0) (fun k h1 h2=>hp.hi k (by omega) h2) j (by omega) hj
   by_cases him':i=m
   ·rw [him'];exact h3
   ·exact W.a _ _ (W.lt_of (hp.lo i hi (by omega)) h3)
  ·obtain rfl:j=m:=by omega
   rw [hw.out j (by omega)]
   exact W.a _ _ (hp.lo i hi (by omega))
theorem Pt0.lw (hp:Pt0 c a b m l):Lw c (m+1) b l:=fun _ k h1 h2=>hp.hi k (by omega) h2
theorem Lw.sub (h:Lw c a b l) (hm:m≤b):Lw c a m l:=fun h0 k h1 h2=>h h0 k h1 (by omega)
include W in
theorem eq_shrink {q:α} (hlow:∀k,a'≤k→k<b'→¬c (gt l k) q<0) (h1:∀k,a'≤k→k<m→¬c q (gt l k)<0):∀i j,a'≤i→i<j→j<b'→¬(m≤i∧j<b')→¬c (gt l j) (gt l i)<0:=fun i j hi hij hj hn=>
 W.t _ _ _ (h1 i hi (by omega)) (hlow j (by omega) hj)
def Hp (c:α→α→Int) (f lo n x:Nat) (l:List α):Prop:=∀i j,lo≤i→(j=2 * i+1∨j=2 * i+2)→j<n→i≠x→¬c (gt l (f+i)) (gt l (f+j))<0
def Hq (c:α→α→Int) (f lo n x:Nat) (l:List α):Prop:=∀i j,lo≤i→(x=2 * i+1∨x=2 * i+2)→(j=2 * x+1∨j=2 * x+2)→j<n→¬c (gt l (f+i)) (gt l (f+j))<0
variable {f lo x y:Nat}
include W in
theorem Hp.step (h:Hp c f lo n x l) (hq:Hq c f lo n x l) (hx:lo≤x) (hy:y=2 * x+1∨y=2 * x+2) (hyn:y<n) (hn:f+n≤l.length) (hlt:c (gt l (f+x)) (gt l (f+y))<0)
  (hmax:∀z,(z=2 * x+1∨z=2 * x+2)→z<n→¬c (gt l (f+y)) (gt l (f+z))<0):Hp c f lo n y (sw l (f+x) (f+y))∧Hq c f lo n y (sw l (f+x) (f+y)):=by
 have g:=fun k=>WG (l:=l) (i:=f+x) (j:=f+y) (k:=f+k) (by omega) (by omega)
 constructor
 ·intro i j hi hij hj hiy
  rw [g i,g j,if_neg (by omega:¬f+i=f+y)]
  by_cases hix:i=x
  ·subst hix
   rw [if_pos rfl]
   by_cases hjy:j=y
   ·subst hjy;rw [if_pos rfl];exact W.a _ _ hlt
   ·rw [if_neg (by omega),if_neg (by omega)]
    exact hmax j hij hj
  ·rw [if_neg (by omega)]
   have h3:=h i j hi hij hj hix
   by_cases hjy:j=y
   ·omega
   ·rw [if_neg (by omega)]
    by_cases hjx:j=x
    ·subst hjx
     rw [if_pos rfl]
     exact hq i y hi hij hy hyn
    ·rw [if_neg (by omega)];exact h3
 ·intro i j hi hyi hj hjn
  have hix:i=x:=by omega
  subst hix
  rw [g i,g j,if_neg (by omega),if_pos rfl,if_neg (by omega),if_neg (by omega)]
  exact h y j (by omega) hj hjn (by omega)
theorem Hp.stop (h:Hp c f lo n x l) (hs:∀j,(j=2 * x+1∨j=2 * x+2)→j<n→¬c (gt l (f+x)) (gt l (f+j))<0):∀i j,lo≤i→(j=2 * i+1∨j=2 * i+2)→j<n→¬c (gt l (f+i)) (gt l (f+j))<0:=fun i j hi hij hj=>by
 by_cases hx:i=x
 ·subst hx;exact hs j hij hj
 ·exact h i j hi hij hj hx
def He (c:α→α→Int) (f lo n:Nat) (l:List α):Prop:=∀i j,lo≤i→(j=2 * i+1∨j=2 * i+2)→j<n→¬c (gt l (f+i)) (gt l (f+j))<0
include W in
theorem He.top (h:He c f 0 n l):∀j,j<n→¬c (gt l f) (gt l (f+j))<0:=by
 intro j
 induction j using Nat.strongRecOn with
 | ind j ih=>
  intro hj
  by_cases h0:j=0
  ·subst h0;exact W.i _
  ·have h1:=ih ((j - 1) / 2) (by omega) (by omega)
   have h2:=h ((j - 1) / 2) j (by omega) (by omega) hj
   exact W.t _ _ _ h2 h1
structure Hs (c:α→α→Int) (f n N:Nat) (l:List α):Prop where
 he:He c f 0 n l
 so:∀p q,p<q→q<N→n≤q→¬c (gt l (f+q)) (gt l (f+p))<0
include W in
theorem Hs.pop {i N:Nat} (h:Hs c f (i+1) N l) (hi:i<N) (hN:f+N≤l.length) (hw:Win f (f+i) (sw l f (f+i)) l2) (he:He c f 0 i l2):Hs c f i N l2:=by
 refine ⟨he,fun p q hpq hq hiq=>?_⟩
 have g:=fun k=>WG (l:=l) (i:=f) (j:=f+i) (k:=k) (by omega) (by omega)
 have hs:=sw_len l f (f+i)
 have hall:∀P:α→Prop,(∀k,k≤i→P (gt l (f+k)))→∀p,p<i→P (gt l2 (f+p)):=fun P hP p hp=>
  hw.all (by omega) (P:=P) (fun k h1 h2=>by
   rw [g k,if_neg (by omega)]
   by_cases hk:k=f
   ·rw [if_pos hk];exact hP i (Nat.le_refl _)
   ·rw [if_neg hk,show k=f+(k - f) by omega];exact hP (k - f) (by omega)) (f+p) (by omega) (by omega)
 rw [hw.out (f+q) (by omega),g (f+q)]
 by_cases hqi:q=i
 ·subst hqi
  rw [if_pos rfl]
  exact hall (fun x=>¬c (gt l f) x<0) (fun k hk=>h.he.top W k (by omega)) p hpq
 ·rw [if_neg (by omega),if_neg (by omega)]
  by_cases hpi:p<i
  ·exact hall (fun x=>¬c (gt l (f+q)) x<0) (fun k hk=>h.so k q (by omega) hq (by omega)) p hpi
  ·rw [hw.out (f+p) (by omega),g (f+p)]
   by_cases hp':p=i
   ·rw [if_pos (by omega)]
    exact h.so 0 q (by omega) hq (by omega)
   ·rw [if_neg (by omega),if_neg (by omega)]
    exact h.so p q hpq hq (by omega)
theorem Hs.done {N:Nat} (h:Hs c f 0 N l):Sw c f (f+N) l:=fun i j h1 h2 h3=>by
 have:=h.so (i - f) (j - f) (by omega) (by omega) (by omega)
 rwa [show f+(j - f)=j by omega,show f+(i - f)=i by omega] at this
theorem Hs.init {n N:Nat} (h:He c f 0 n l) (hn:N≤n):Hs c f n N l:=⟨h,fun p q h1 h2 h3=>by omega⟩
omit [Inhabited α] in
theorem snocRec {motive:List α→Prop} (l:List α) (nil:motive []) (snoc:∀(l:List α) (x:α),motive l→motive (l++[x])):motive l:=by
 have h:∀n (l:List α),l.length=n→motive l:=by
  intro n
  induction n with
  | zero=>intro l hl;rw [List.length_eq_zero_iff.1 hl];exact nil
  | succ n ih=>
   intro l hl
   rcases List.eq_nil_or_concat l with h|⟨l',x,h⟩
   ·subst h;exact nil
   ·rw [List.concat_eq_append] at h
    subst h
    exact snoc l' x (ih l' (by simpa using hl))
 exact h _ l rfl
def inR (c:α→α→Int) (P:List α) (x:α):List α:=(P.reverse.dropWhile fun s=>decide (c x s<0)).reverse++x::(P.reverse.takeWhile fun s=>decide (c x s<0)).reverse
omit [Inhabited α] in
theorem inR_eq {P S P0:List α} {x:α} (h:P++S=P0) (h1:∀s ∈ S,c x s<0) (h2:∀p,P.getLast? = some p→¬c x p<0):inR c P0 x=P++x::S:=by
 subst h
 have h3:∀s ∈ S.reverse,decide (c x s<0)=true:=fun s hs=>by simpa using h1 s (List.mem_reverse.1 hs)
 have h4:P.reverse.takeWhile (fun s=>decide (c x s<0))=[]∧P.reverse.dropWhile (fun s=>decide (c x s<0))=P.reverse:=by
  rcases List.eq_nil_or_concat P with hP|⟨P',q,hP⟩
  ·subst hP;simp
  ·rw [List.concat_eq_append] at hP
   subst hP
   have:=h2 q (by simp)
   simp [this]
 unfold inR
 rw [List.reverse_append,List.takeWhile_append_of_pos h3,List.dropWhile_append_of_pos h3,h4.1,h4.2]
 simp
def isR (c:α→α→Int) (l:List α):List α:=l.foldl (inR c) []
omit [Inhabited α] in
theorem inR_split (P:List α) (x:α):∃Q S,Q++S=P∧(∀s ∈ S,c x s<0)∧(∀p,Q.getLast? = some p→¬c x p<0)∧inR c P x=Q++x::S:=by
 induction P using snocRec with
 | nil=>exact ⟨[],[],rfl,by simp,by simp,by simp [inR]⟩
 | snoc P q ih=>
  by_cases hq:c x q<0
  ·obtain ⟨Q,S,h1,h2,h3,h4⟩:=ih
   have h5:∀s ∈ S++[q],c x s<0:=by
    intro s hs
    rcases List.mem_append.1 hs with hs|hs
    ·exact h2 s hs
    ·obtain rfl:=List.mem_singleton.1 hs;exact hq
   exact ⟨Q,S++[q],by rw [←h1];simp,h5,h3,inR_eq (by rw [←h1];simp) h5 h3⟩
  ·have h3:∀p,(P++[q]).getLast? = some p→¬c x p<0:=fun p hp=>by
    simp at hp;subst hp;exact hq
   exact ⟨P++[q],[],by simp,by simp,h3,inR_eq (by simp) (by simp) h3⟩
omit [Inhabited α] in
theorem inR_perm (P:List α) (x:α):(inR c P x).Perm (P++[x]):=by
 obtain ⟨Q,S,h1,_,_,h4⟩:=inR_split (c:=c) P x
 rw [h4,←h1,List.append_assoc]
 refine List.Perm.append_left Q ?_
 exact (List.perm_append_comm (l₁:=[x]) (l₂:=S))
omit [Inhabited α] in
theorem UA (l:List α) (x:α):isR c (l++[x])=inR c (isR c l) x:=by simp [isR]
omit [Inhabited α] in
theorem W1 (l:List α):(isR c l).Perm l:=by
 induction l using snocRec with
 | nil=>exact List.Perm.refl _
 | snoc l x ih=>rw [UA];exact (inR_perm _ _).trans (ih.append_right [x])
omit [Inhabited α] in
include W in
theorem isR_srd (l:List α):Srd c (isR c l):=by
 induction l using snocRec with
 | nil=>exact List.Pairwise.nil
 | snoc l x ih=>
  rw [UA]
  obtain ⟨Q,S,h1,h2,h3,h4⟩:=inR_split (c:=c) (isR c l) x
  rw [h4]
  exact srt_insr W.a (fun a b d=>W.t a b d) (by rw [h1];exact ih) h2 h3
omit [Inhabited α] in
theorem isR_len (l:List α):(isR c l).length=l.length:=(W1 l).length_eq
theorem sw_of {A M B:List α} (h:Srd c M):Sw c A.length (A.length+M.length) (A++(M++B)):=fun i j h1 h2 h3=>by
 have e:∀k,A.length≤k→k<A.length+M.length→gt (A++(M++B)) k=M[k - A.length]!∧k - A.length<M.length:=fun k h1 h2=>by
  refine ⟨gt_of ?_,by omega⟩
  rw [List.getElem?_append_right h1,List.getElem?_append_left (by omega),List.getElem!_eq_getElem?_getD,List.getElem?_eq_getElem (by omega)]
  rfl
 obtain ⟨e1,l1⟩:=e i h1 (by omega)
 obtain ⟨e2,l2⟩:=e j (by omega) h3
 rw [e1,e2]
 unfold Srd at h
 rw [List.pairwise_iff_getElem] at h
 have:=h (i - A.length) (j - A.length) l1 l2 (by omega)
 rw [List.getElem!_eq_getElem?_getD,List.getElem!_eq_getElem?_getD,List.getElem?_eq_getElem l1,List.getElem?_eq_getElem l2]
 exact this
theorem win_of {A M M' B:List α} (h:M'.Perm M):Win A.length (A.length+M.length) (A++(M++B)) (A++(M'++B)):=⟨(h.append_right B).append_left A,fun k hk=>by
 unfold gt
 rw [List.getD_eq_getElem?_getD,List.getD_eq_getElem?_getD]
 have hl:=h.length_eq
 rcases hk with hk|hk
 ·rw [List.getElem?_append_left hk,List.getElem?_append_left hk]
 ·rw [List.getElem?_append_right (by omega),List.getElem?_append_right (by omega),List.getElem?_append_right (by omega),List.getElem?_append_right (by omega),hl]⟩
end
section
variable (b cap:Nat) (q:List Value×(Nat×Nat)) (fv:FuncId) (Fc:Pf) (c:Ch→Ch→Int) (W:Wk0 c) (U:Ch→Prop) (hcmp:∀x y,U x→U y→Enters fv∧Spec prog fv #[x.v,y.v] [Fc] [] (RetV (.int .i64 (c x y))))
include hcmp in
set_option maxHeartbeats 4000000 in
theorem insWC_ok (A M B:List Ch) (n:Nat) (hn:n=A.length+(M.length+B.length)) (hn2:n≤1000000) (hq:AxOK (n * 7) q) (hU:∀x ∈ A++(M++B),U x) :
  Enters 173∧Spec prog 173 #[.slice (some ⟨b,0,none⟩) n cap,.int .i64 (A.length:Int),.int .i64 ((A.length+M.length:Nat):Int),.func (.func fv) #[] #[]] [Fc] [Ax 108 chf b (A++(M++B)) q]
   ⟨Unit,fun _=>.tuple #[],fun _=>True,fun _=>[],fun _=>[Ax 108 chf b (A++(isR c M++B)) q]⟩:=by
 have w0:IntKind.i64.wrap ((A.length:Int)+1)=((A.length+1:Nat):Int):=by rw [wrapi (by omega) (by omega)];omega
 have h1:M.take 1++(M.drop 1++B)=M++B:=by rw [←List.append_assoc,List.take_append_drop]
 have h2:isR c (M.take 1)=M.take 1:=by
  cases M with
  | nil=>rfl
  | cons x M=>simp [isR,inR]
 refine ZM [_,_,_,_] func173 ntmps173 fun G w hp=>?_
 repeat' (first|refine ZE ?_|refine ZD ?_|refine ZF ?_|fail)
 rw [w0]
 refine Z8 (X:={i:Nat // 1≤i∧i≤max 1 M.length}) (fun i=>[(0,.slice (some ⟨b,0,none⟩) n cap),(1,.int .i64 (A.length:Int)),(2,.int .i64 ((A.length+M.length:Nat):Int)),(3,.func (.func fv) #[] #[]),(8,.int .i64 ((A.length+i.1:Nat):Int))]) (fun _=>[Fc]) (fun i=>[Ax 108 chf b (A++(isR c (M.take i.1)++(M.drop i.1++B))) q]) (fun i=>M.length - i.1)
  ⟨1,by omega,by omega⟩ ⟨rfl,rfl,rfl,rfl,rfl,trivial⟩ ?_ (hr:=by dsimp only;rw [h2,h1];exact Sels.cons Sel.here Sels.nil)
 rintro ⟨i,hi1,hi2⟩
 dsimp only at hi1 hi2 ⊢
 by_cases hin:i<M.length
 ·obtain ⟨x,hx⟩:∃x,M[i]? = some x:=⟨_,List.getElem?_eq_getElem hin⟩
  have hd:M.drop i=x::M.drop (i+1):=by
   rw [List.getElem?_eq_getElem hin] at hx
   rw [←Option.some.inj hx,List.getElem_cons_drop]
  have ht:M.take (i+1)=M.take i++[x]:=by rw [List.take_add_one,hx];rfl
  have hl0:(isR c (M.take i)).length=i:=by rw [isR_len,List.length_take];omega
  have hUx:U x:=hU x (by simp [List.mem_of_getElem? hx])
  have hUP:∀p ∈ isR c (M.take i),U p:=fun p hp=>hU p (by
   have:=List.mem_of_mem_take ((W1 _).mem_iff.1 hp)
   simp [this])
  have hdl:(M.drop (i+1)).length=M.length - (i+1):=List.length_drop
  rw [hd]
  have hR:isR c (M.take (i+1))=inR c (isR c (M.take i)) x:=by rw [ht,UA]
  generalize isR c (M.take i)=P0 at *
  generalize hDe:M.drop (i+1)=D0 at *
  obtain ⟨D,hD⟩:∃D,D=D0++B:=⟨_,rfl⟩
  have hDl:D.length=D0.length+B.length:=by rw [hD,List.length_append]
  rw [show (x::D0++B)=x::([]++D) by rw [hD];rfl]
  repeat' (first|refine ZE ?_|refine ZD ?_|refine ZF ?_|(refine ZG (fun hc=>?_) (fun hc=>?_)<;>(try simp at hc)<;>(try omega))|fail)
  refine Z8 (X:={t:List Ch×List Ch // t.1++t.2=P0∧∀s ∈ t.2,c x s<0}) (fun t=>[(0,.slice (some ⟨b,0,none⟩) n cap),(1,.int .i64 (A.length:Int)),(2,.int .i64 ((A.length+M.length:Nat):Int)),(3,.func (.func fv) #[] #[]),(8,.int .i64 ((A.length+i:Nat):Int)),(9,.int .i64 ((A.length+t.1.1.length:Nat):Int))]) (fun _=>[Fc]) (fun t=>[Ax 108 chf b (A++(t.1.1++x::(t.1.2++D))) q]) (fun t=>t.1.1.length)
   ⟨(P0,[]),by simp,by simp⟩ ⟨rfl,rfl,rfl,rfl,rfl,(by show look _ _=some (Value.int .i64 ((A.length+P0.length:Nat):Int));rw [hl0];rfl),trivial⟩ ?_
  rintro ⟨⟨P,S⟩,hPS,hS⟩
  dsimp only at hPS hS ⊢
  have hout:(∀p,P.getLast? = some p→¬c x p<0)→A++(P++x::(S++D))=A++(isR c (M.take (i+1))++(M.drop (i+1)++B)):=fun h2=>by
   rw [hR,hDe,inR_eq hPS hS h2,←hD];simp
  have wn:IntKind.i64.wrap (((A.length+i:Nat):Int)+1)=((A.length+(i+1):Nat):Int):=by rw [wrapi (by omega) (by omega)];omega
  rcases List.eq_nil_or_concat P with hP|⟨P',p,hP⟩
  ·subst hP
   have h1:=hout (by simp)
   rw [h1]
   simp only [List.length_nil,Nat.add_zero]
   repeat' (first|refine ZE ?_|refine ZD ?_|refine ZF ?_|refine ZB ?_|refine ZW ?_|refine ZT ?_|refine ZZ ?_|refine ZU ?_|(refine ZP (fun hc=>?_) (fun hc=>?_)<;>(try simp at hc)<;>(try omega))|refine ZA 4 [] [(0,0),(1,0),(2,0),(3,0),(4,0),(5,0),(6,0),(7,0),(8,0),(9,0),(10,0),(11,0),(12,0),(13,0),(14,4),(15,0),(16,0)] [] ?_|fail)
   rw [wn]
   exact Zb ⟨i+1,by omega,by omega⟩ (by show M.length - (i+1)<M.length - i;omega) ⟨rfl,rfl,rfl,rfl,rfl,trivial⟩
  ·rw [List.concat_eq_append] at hP
   subst hP
   have hPl:=congrArg List.length hPS
   simp only [List.length_append,List.length_cons,List.length_nil] at hPl
   have hj:((A.length+(P'++[p]).length:Nat):Int)=(((A++P').length:Nat):Int)+1:=by simp;omega
   have hAP:(A++P').length=A.length+P'.length:=List.length_append
   have w1:IntKind.i64.wrap (((A++P').length:Int)+1 - 1)=((A++P').length:Int):=by
    rw [wrapi (by omega) (by omega)];omega
   have e1:A++(P'++[p]++x::(S++D))=(A++P')++p::x::(S++D):=by simp
   have hUp:U p:=hUP p (by rw [←hPS];simp)
   have e2:A.length+P'.length=(A++P').length:=hAP.symm
   have e3:A++(P'++x::(p::S++D))=(A++P')++x::p::(S++D):=by simp
   have hSD:(S++D).length=S.length+D.length:=List.length_append
   rw [hj,e1]
   rw [e1] at hout
   have b0:decide ((A.length:Int)<((A++P').length:Int)+1)=true:=by simp<;>omega
   have hlen:n=(A++P').length+1+1+(S++D).length:=by omega
   have hnx:∀t:{t:List Ch×List Ch // t.1++t.2=P0∧∀s ∈ t.2,c x s<0},True:=fun _=>trivial
   clear hnx
   generalize hAPe:A++P'=AP at *
   generalize hSDe:S++D=SD at *
   have g1:(AP++p::x::SD)[AP.length+1]? = some x:=by
    rw [List.getElem?_append_right (by omega)];simp
   have g0:(AP++p::x::SD)[AP.length]? = some p:=by
    rw [List.getElem?_append_right (by omega)];simp
   have g2:((AP++p::x::SD).set (AP.length+1) p)[AP.length]? = some p:=by
    rw [List.getElem?_set_ne (by omega)];exact g0
   have hl2:(AP++p::x::SD).length=n:=by simp;omega
   have hq1:AxOK ((AP++p::x::SD).length * 7) q:=by rw [hl2];exact hq
   have hq2:AxOK (((AP++p::x::SD).set (AP.length+1) p).length * 7) q:=by rw [List.length_set,hl2];exact hq
   have hj1:AP.length+1<n:=by omega
   have hj0:AP.length<n:=by omega
   have sp:=hcmp x p hUx hUp
   repeat' (first|refine ZE ?_|refine ZD ?_|refine ZF ?_|refine ZW ?_|refine ZT ?_|refine ZZ ?_|refine ZU ?_|rw [b0]|rw [w1]|refine Y1 (m:=n) (AP.length+1) hj1 ?_|refine Y1 (m:=n) AP.length hj0 ?_|refine Zc 7 (AP.length+1) 0 g1 ?_|refine Zc 7 AP.length 0 g0 ?_|refine Ze 7 (AP.length+1) 0 g1 ?_|refine Ze 7 AP.length 0 g0 ?_|refine Z3 7 (AP.length+1) 0 p g1 hq1 ?_|refine Zi sp (fun _ _=>?_)|refine Zv 7 AP.length 0 x g2 hq2 ?_|refine ZA 4 [] [(0,0),(1,0),(2,0),(3,0),(4,0),(5,0),(6,0),(7,0),(8,0),(9,0),(10,0),(11,0),(12,0),(13,0),(14,4),(15,0),(16,0)] [] ?_|refine ZA 6 [Ax _ _ _ _ _] [(0,0),(1,0),(2,0),(3,0),(4,0),(5,0),(6,0),(7,0),(8,0),(10,0),(11,0),(12,0),(9,3),(13,3),(14,0),(15,4),(16,0)] [17] ?_|(refine ZG (fun hc=>?_) (fun hc=>?_)<;>(try simp at hc)<;>(try omega))|fail)
   ·rw [swap_set,←e3]
    refine Zb ⟨(P',p::S),by simpa using hPS,by
     intro s hs
     rcases List.mem_cons.1 hs with rfl|hs
     ·exact hc
     ·exact hS s hs⟩ (by simp) ⟨rfl,rfl,rfl,rfl,rfl,(by show look _ _=some (Value.int .i64 ((A.length+P'.length:Nat):Int));rw [e2];rfl),trivial⟩
   ·rw [hout (by simpa using hc),wn]
    exact Zb ⟨i+1,by omega,by omega⟩ (by show M.length - (i+1)<M.length - i;omega) ⟨rfl,rfl,rfl,rfl,rfl,trivial⟩
 ·have e1:isR c (M.take i)++(M.drop i++B)=isR c M++B:=by
   rw [List.take_of_length_le (by omega),List.drop_eq_nil_of_le (by omega)];rfl
  rw [e1]
  repeat' (first|refine ZE ?_|refine ZD ?_|refine ZF ?_|refine ZW ?_|(refine ZG (fun hc=>?_) (fun hc=>?_)<;>(try simp at hc)<;>(try omega))|fail)
  exact Yc () rfl trivial
end
def drpS:Nat→List Fr→List Fr
 | m+1,.c (.seq _ b)::k=>drpS m (.c b::k)
 | _,k=>k
section
theorem Vc {Y:Type} {c2:Code} {k2:List Fr} (m:Nat) (mE:Y→List (Nat×Value)) (mF:Y→List Pf) (mR:Y→List HP) (t2:∀y,Wk n C (.c c2::k2) Q (mE y) (mF y) (mR y)) (t:(∀y,Wk n C (.c c2::k2) Q (mE y) (mF y) (mR y))→Wk n C k Q E F R) (_h:drpS m k = .c c2::k2:=by rfl):Wk n C k Q E F R:=t t2
theorem XJ (t:Wk n C k Q E F R):Wk n C (.c .skip::k) Q E F R:=fun a w ha hs=>XL 1 (.c .skip::k) (t a w ha hs)
end
section
variable {l:List Oper}
theorem l_six8P {s:ByteArray} {z:Int} {kd:IntKind} {rs:TRow} (Pr:Nat→Nat→Bool) (j m:Nat) (hjm:j<m) (nx:∀c:UInt8,Pr j c.toNat=true→Wl n C ops.toArray k Q l ((d,.int .u8 c.toNat)::E) F R)
  (hw:wantL ops E ⟨some d,.index t x y,ty0,pos,aft,gd⟩=some true:=by rfl) (hn:Nat.blt d n=true:=by rfl) (hx:ev E x=some (.string s):=by rfl) (hy:ev E y=some (.int kd z):=by rfl)
  (hts:lookT tab t=some rs:=by rfl) (hrs:rs.k = .str:=by rfl) (hz:z=(j:Int):=by first|rfl|omega) (hm:(Nat.ble m s.data.toList.length && (List.range m).all (fun j=>Pr j (s.data.toList.getD j 0).toNat))=true:=by decide +kernel):Wl n C ops.toArray k Q (⟨some d,.index t x y,ty0,pos,aft,gd⟩::l) E F R:=by
 rw [Bool.and_eq_true] at hm
 have hlt:j<s.data.toList.length:=Nat.lt_of_lt_of_le hjm (Nat.le_of_ble_eq_true hm.1)
 have hp:Pr j (s.data.toList[j]).toNat=true:=by
  have:=List.all_eq_true.1 hm.2 j (List.mem_range.2 hjm)
  rwa [List.getD_eq_getElem?_getD,List.getElem?_eq_getElem hlt] at this
 exact l_q (fun a w ha=>by
  subst hz
  have h0:(0:Int)≤(j:Int):=by omega
  have h1:s[j]? = some s.data.toList[j]:=by
   have hlt':j<s.size:=by simpa using hlt
   rw [getElem?_pos s j hlt']
   rfl
  simp only [execOp,ha.ev (x:=x) (by rw [ZQ];exact hx),ha.ev (x:=y) (by rw [ZQ];exact hy),Instr.index,asIntOf,Y2 hts hrs,Sem.run_bind,Result.andThen,Sem.run_pure,if_pos h0,Int.toNat_natCast,h1]) (nx s.data.toList[j] hp) (by intro c h;cases h) hw hn
end
def LenP (u c:Nat):Bool:=Nat.ble c 8 && (Nat.blt u (2 ^ c) && (Nat.ble (2 ^ c) (2 * u) || Nat.beq u 0))
theorem len64P_ok (u:Nat) (hu:u<256):Enters 182∧Spec prog 182 #[.int .u64 (u:Int)] [] [] ⟨{c:Nat // LenP u c=true},fun c=>.int .i64 (c.1:Int),fun _=>True,fun _=>[],fun _=>[]⟩:=by
 have wu:IntKind.u8.wrap (u:Int)=(u:Int):=by simp [IntKind.wrap,IntKind.bits,IntKind.signed];omega
 refine ZM [_] func182 ntmps182 fun G w hp=>?_
 repeat' (first|refine ZE ?_|refine ZD ?_|refine ZF ?_|rw [wu]|refine l_six8P LenP u 256 hu (fun c hc=>?_)|(refine ZG (fun hc=>?_) (fun hc=>?_)<;>(try simp at hc)<;>(try omega))|fail)
 rename_i c hc
 have hc8:c.toNat≤8:=by
  unfold LenP at hc
  rw [Bool.and_eq_true] at hc
  exact Nat.le_of_ble_eq_true hc.1
 refine ZK ⟨c.toNat,hc⟩ ?_ trivial
 show Value.int .i64 _=Value.int .i64 _
 congr 1
 simp (disch:=omega) only [wrapi]
 omega
theorem bitsLenP_ok (u:Nat) (hu:u<256):Enters 131∧Spec prog 131 #[.int .u64 (u:Int)] [] [] ⟨{c:Nat // LenP u c=true},fun c=>.int .i64 (c.1:Int),fun _=>True,fun _=>[],fun _=>[]⟩:=by
 have s1:=len64P_ok u hu
 refine ZM [_] func131 ntmps131 fun G w hp=>?_
 repeat' (first|refine ZE ?_|refine ZD ?_|refine ZF ?_|refine ZB ?_|refine ZC (s1) (fun _ _=>?_)|fail)
 rename_i z _
 exact ZK z rfl trivial
theorem shl8:∀c:Fin 9,IntKind.u64.wrap (1 * 2 ^ min ((c.val:Int).toNat) IntKind.u64.bits)=((2 ^ c.val:Nat):Int):=by decide +kernel
theorem pow2_ok (u:Nat) (hu:u<256):Enters 211∧Spec prog 211 #[.int .i64 (u:Int)] [] [] ⟨{c:Nat // LenP u c=true},fun c=>.int .u64 ((2 ^ c.1:Nat):Int),fun _=>True,fun _=>[],fun _=>[]⟩:=by
 have s1:=bitsLenP_ok u hu
 have w1:IntKind.u64.wrap (u:Int)=(u:Int):=Wc (by omega)
 refine ZM [_] func211 ntmps211 fun G w hp=>?_
 repeat' (first|refine ZE ?_|refine ZD ?_|refine ZF ?_|refine ZC (s1) (fun _ _=>?_)|rw [w1]|fail)
 rename_i z _
 obtain ⟨z,hz⟩:=z
 have hz8:z≤8:=by
  unfold LenP at hz
  rw [Bool.and_eq_true] at hz
  exact Nat.le_of_ble_eq_true hz.1
 have e:IntKind.u64.wrap (1 * 2 ^ min ((z:Int).toNat) IntKind.u64.bits)=((2 ^ z:Nat):Int):=shl8 ⟨z,by omega⟩
 refine ZK ⟨z,hz⟩ ?_ trivial
 exact congrArg (Value.int .u64) e
theorem xnext_ok (rb:Nat) (z:Int):Enters 212∧Spec prog 212 #[.pointer (some ⟨rb,0,none⟩)] [] [Pt rb (.cells #[.int .u64 z] 330)] ⟨Int,fun z=>.int .u64 z,fun _=>True,fun _=>[],fun z=>[Pt rb (.cells #[.int .u64 z] 330)]⟩:=by
 refine ZM [_] func212 ntmps212 fun G w hp=>?_
 repeat' (first|refine ZE ?_|refine ZD ?_|refine ZF ?_|refine ZS ?_|refine ZV ?_|refine ZT ?_|refine Zd ?_|refine ZU ?_|refine ZA 1 [Pt _ _] [(0,0),(1,0),(3,0),(4,0),(2,3),(5,3),(6,0),(7,0),(8,0)] [9] ?_|refine ZA 2 [Pt _ _] [(0,0),(1,0),(3,0),(4,0),(2,3),(5,3),(6,0),(7,0),(8,0)] [9] ?_|refine ZA 3 [Pt _ _] [(0,0),(1,0),(3,0),(4,0),(2,3),(5,3),(6,0),(7,0),(8,0)] [9] ?_|fail)
 exact ZK _ rfl trivial
theorem and_low (z y:Int) (c:Nat) (hc:c≤8) (hy:y=((2 ^ c:Nat):Int)):∃o:Nat,o<2 ^ c∧IntKind.i64.wrap (IntKind.u64.wrap (((BitVec.ofInt IntKind.u64.bits z &&& BitVec.ofInt IntKind.u64.bits (IntKind.u64.wrap (y - 1))).toNat:Nat):Int))=(o:Int):=by
 have hp:(2:Nat) ^ c≤2 ^ 8:=Nat.pow_le_pow_right (by omega) hc
 have h1:0<(2:Nat) ^ c:=Nat.pow_pos (by omega)
 have w1:IntKind.u64.wrap (y - 1)=((2 ^ c - 1:Nat):Int):=by
  rw [hy,show ((2 ^ c:Nat):Int) - 1=((2 ^ c - 1:Nat):Int) by omega]
  exact Wc (by omega)
 rw [w1]
 have h2:(BitVec.ofInt IntKind.u64.bits z &&& BitVec.ofInt IntKind.u64.bits ((2 ^ c - 1:Nat):Int)).toNat≤2 ^ c - 1:=by
  rw [BitVec.toNat_and]
  refine Nat.le_trans Nat.and_le_right ?_
  rw [BitVec.ofInt_natCast,BitVec.toNat_ofNat]
  exact Nat.mod_le _ _
 generalize (BitVec.ofInt IntKind.u64.bits z &&& BitVec.ofInt IntKind.u64.bits ((2 ^ c - 1:Nat):Int)).toNat=o at h2
 exact ⟨o,by omega,by rw [Wc (by omega),wrapi (by omega) (by omega)]⟩
section
variable {l:List Oper} {i:Nat}
theorem ZY {T sz m cap:Nat} {z:Int} {rs tr:TRow} (j:Nat) (hlt:j<m) (nx:Wr n C ops k Q Tl Fs R L ((d,.pointer (some ⟨b,j * sz,none⟩))::E) F N)
  (ho:nth ops i=some ⟨some d,.indexAddr t x y,ty0,pos,aft,gd⟩:=by rfl) (hw:wantL ops E ⟨some d,.indexAddr t x y,ty0,pos,aft,gd⟩=some true:=by rfl) (hx:ev E x=some (.slice (some ⟨b,0,none⟩) m cap):=by rfl) (hy:ev E y=some (.int .i64 z):=by rfl)
  (hts:lookT tab t=some rs:=by rfl) (hrs:rs.k = .slice T:=by rfl) (hT:lookT tab T=some tr:=by rfl) (hsz:tr.size=sz:=by rfl) (hz:z=(j:Int):=by first|rfl|omega|(simp (disch:=omega) only [wrapi];first|done|omega|fail)):Wr n C ops k Q Tl Fs R ((i,0)::L) E F N:=
 Y1 j hlt nx ho hw hx hy hts hrs hT hsz hz
theorem k_ax {α:Type} {T b:Nat} {f:α→List Value} {es:List α} {q:List Value×(Nat×Nat)} (es':List α) (h:es=es') (t:Wk n C k Q E F (Ax T f b es' q::R0)) (hs:Sel (Ax T f b es q) R R0:=by (repeat (first|exact Sel.here|apply Sel.there));first|done|fail):Wk n C k Q E F R:=by
 subst h
 exact fun a w ha hsat=>t a w ha (hsat.sel hs)
end
section
variable (bk cap:Nat) (q:List Value×(Nat×Nat)) (fv:FuncId) (Fc:Pf) (c:Ch→Ch→Int) (W:Wk0 c) (U:Ch→Prop) (hcmp:∀x y,U x→U y→Enters fv∧Spec prog fv #[x.v,y.v] [Fc] [] (RetV (.int .i64 (c x y))))
instance inhC:Inhabited Ch:=⟨⟨⟨0,⟨#[]⟩,0,0,⟨#[]⟩⟩,⟨#[]⟩,false⟩⟩
include hcmp in
theorem ord2C_ok (l:List Ch) (n:Nat) (hn:n=l.length) (hU:∀x ∈ l,U x) (i j:Nat) (hi:i<n) (hj:j<n) (sb:Nat) (z:Int) :
  Enters 223∧Spec prog 223 #[.slice (some ⟨bk,0,none⟩) n cap,.int .i64 (i:Int),.int .i64 (j:Int),.pointer (some ⟨sb,0,none⟩),.func (.func fv) #[] #[]] [Fc] [Ax 108 chf bk l q,Pt sb (.cells #[.int .i64 z] 3)]
   ⟨{t:Nat×Nat×Int // (t.1=i∧t.2.1=j)∨(t.1=j∧t.2.1=i)},fun t=>.tuple #[.int .i64 (t.1.1:Int),.int .i64 (t.1.2.1:Int)],fun _=>True,fun _=>[],fun t=>[Ax 108 chf bk l q,Pt sb (.cells #[.int .i64 t.1.2.2] 3)]⟩:=by
 have ki:i<l.length:=by omega
 have kj:j<l.length:=by omega
 have sp:=hcmp (gt l j) (gt l i) (hU _ (Zo kj)) (hU _ (Zo ki))
 refine ZM [_,_,_,_,_] func223 ntmps223 fun G w hp=>?_
 repeat' (first|refine ZE ?_|refine ZD ?_|refine ZF ?_|refine ZS ?_|refine ZV ?_|refine ZT ?_|refine ZU ?_|refine ZY (m:=n) (i) hi ?_|refine ZY (m:=n) (j) hj ?_|refine Zc 7 (i) 0 (ZI ki) ?_|refine Zc 7 (j) 0 (ZI kj) ?_|refine Zi sp (fun _ _=>?_)|refine ZA 1 [] [(0,0),(1,0),(2,0),(3,0),(4,0),(5,0),(6,0),(7,0),(8,0),(9,4),(10,0)] [] ?_|(refine ZG (fun hc=>?_) (fun hc=>?_)<;>(try simp at hc))|fail)
 ·exact ZK ⟨(j,i,_),.inr ⟨rfl,rfl⟩⟩ rfl trivial
 ·exact ZK ⟨(i,j,_),.inl ⟨rfl,rfl⟩⟩ rfl trivial
include hcmp in
theorem medC_ok (l:List Ch) (n:Nat) (hn:n=l.length) (hU:∀x ∈ l,U x) (i j k:Nat) (hi:i<n) (hj:j<n) (hk:k<n) (sb:Nat) (z:Int) :
  Enters 214∧Spec prog 214 #[.slice (some ⟨bk,0,none⟩) n cap,.int .i64 (i:Int),.int .i64 (j:Int),.int .i64 (k:Int),.pointer (some ⟨sb,0,none⟩),.func (.func fv) #[] #[]] [Fc] [Ax 108 chf bk l q,Pt sb (.cells #[.int .i64 z] 3)]
   ⟨{t:Nat×Int // t.1=i∨t.1=j∨t.1=k},fun t=>.int .i64 (t.1.1:Int),fun _=>True,fun _=>[],fun t=>[Ax 108 chf bk l q,Pt sb (.cells #[.int .i64 t.1.2] 3)]⟩:=by
 have s1:=ord2C_ok bk cap q fv Fc c U hcmp l n hn hU
 refine ZM [_,_,_,_,_,_] func214 ntmps214 fun G w hp=>?_
 repeat' (first|refine ZE ?_|refine ZD ?_|refine ZF ?_|refine ZC (s1 i j hi hj _ _) (fun _ _=>?_)|fail)
 rename_i t1 _
 obtain ⟨⟨i1,j1,z1⟩,h1⟩:=t1
 dsimp only at h1 ⊢
 have hi1:i1<n:=by omega
 have hj1:j1<n:=by omega
 repeat' (first|refine ZE ?_|refine ZD ?_|refine ZF ?_|refine ZC (s1 j1 k hj1 hk _ _) (fun _ _=>?_)|fail)
 rename_i t2 _
 obtain ⟨⟨j2,k2,z2⟩,h2⟩:=t2
 dsimp only at h2 ⊢
 have hj2:j2<n:=by omega
 repeat' (first|refine ZE ?_|refine ZD ?_|refine ZF ?_|refine ZC (s1 i1 j2 hi1 hj2 _ _) (fun _ _=>?_)|fail)
 rename_i t3 _
 obtain ⟨⟨i3,j3,z3⟩,h3⟩:=t3
 dsimp only at h3 ⊢
 repeat' (first|fail)
 exact ZK ⟨(j3,z3),by show j3=i∨j3=j∨j3=k;omega⟩ rfl trivial
include hcmp in
theorem medAC_ok (l:List Ch) (n:Nat) (hn:n=l.length) (hn2:n≤1000000) (hU:∀x ∈ l,U x) (j:Nat) (hj0:0<j) (hj:j+1<n) (sb:Nat) (z:Int) :
  Enters 213∧Spec prog 213 #[.slice (some ⟨bk,0,none⟩) n cap,.int .i64 (j:Int),.pointer (some ⟨sb,0,none⟩),.func (.func fv) #[] #[]] [Fc] [Ax 108 chf bk l q,Pt sb (.cells #[.int .i64 z] 3)]
   ⟨{t:Nat×Int // t.1≤j+1∧j≤t.1+1},fun t=>.int .i64 (t.1.1:Int),fun _=>True,fun _=>[],fun t=>[Ax 108 chf bk l q,Pt sb (.cells #[.int .i64 t.1.2] 3)]⟩:=by
 have s1:=medC_ok bk cap q fv Fc c U hcmp l n hn hU (j - 1) j (j+1) (by omega) (by omega) hj sb z
 have w1:IntKind.i64.wrap ((j:Int) - 1)=((j - 1:Nat):Int):=by rw [wrapi (by omega) (by omega)];omega
 have w2:IntKind.i64.wrap ((j:Int)+1)=((j+1:Nat):Int):=by rw [wrapi (by omega) (by omega)];omega
 refine ZM [_,_,_,_] func213 ntmps213 fun G w hp=>?_
 repeat' (first|refine ZE ?_|refine ZD ?_|refine ZF ?_|refine ZC (s1) (fun _ _=>?_)|rw [w1]|rw [w2]|fail)
 rename_i t _
 obtain ⟨⟨j1,z1⟩,h1⟩:=t
 exact ZK ⟨(j1,z1),by omega⟩ rfl trivial
include hcmp in
theorem chpC_ok (l:List Ch) (n:Nat) (hn:n=l.length) (hn2:n≤1000000) (hU:∀x ∈ l,U x) (a bb:Nat) (hab:a+12<bb) (hb:bb≤n) :
  Enters 176∧Spec prog 176 #[.slice (some ⟨bk,0,none⟩) n cap,.int .i64 (a:Int),.int .i64 (bb:Int),.func (.func fv) #[] #[]] [Fc] [Ax 108 chf bk l q]
   ⟨{t:Nat×Int // a≤t.1∧t.1<bb∧(t.2=0∨t.2=1∨t.2=2)},fun t=>.tuple #[.int .i64 (t.1.1:Int),.int .i64 t.1.2],fun _=>True,fun _=>[],fun _=>[Ax 108 chf bk l q]⟩:=by
 have s1:=medC_ok bk cap q fv Fc c U hcmp l n hn hU
 have s2:=medAC_ok bk cap q fv Fc c U hcmp l n hn hn2 hU
 obtain ⟨N,hN⟩:∃N,N=bb - a:=⟨_,rfl⟩
 obtain ⟨p,hp⟩:∃p,p=N / 4:=⟨_,rfl⟩
 have w0:IntKind.i64.wrap ((bb:Int) - (a:Int))=(N:Int):=by rw [wrapi (by omega) (by omega)];omega
 have w1:IntKind.i64.wrap ((N:Int).tdiv 4)=(p:Int):=by
  have:(N:Int).tdiv 4=(p:Int):=by rw [hp];exact (Int.ofNat_tdiv _ _).symm
  rw [this,wrapi (by omega) (by omega)]
 have v1:IntKind.i64.wrap ((a:Int)+IntKind.i64.wrap ((p:Int) * 1))=((a+p:Nat):Int):=by simp (disch:=omega) only [wrapi];omega
 have v2:IntKind.i64.wrap ((a:Int)+IntKind.i64.wrap ((p:Int) * 2))=((a+2 * p:Nat):Int):=by simp (disch:=omega) only [wrapi];omega
 have v3:IntKind.i64.wrap ((a:Int)+IntKind.i64.wrap ((p:Int) * 3))=((a+3 * p:Nat):Int):=by simp (disch:=omega) only [wrapi];omega
 have r1:=s1 (a+p) (a+2 * p) (a+3 * p) (by omega) (by omega) (by omega)
 have r2:=s2 (a+p) (by omega) (by omega)
 have r3:=s2 (a+2 * p) (by omega) (by omega)
 have r4:=s2 (a+3 * p) (by omega) (by omega)
 refine ZM [_,_,_,_] func176 ntmps176 fun G w hp=>?_
 refine Vc (Y:={t:Nat×Int×Nat // a≤t.1∧t.1<bb}) 7 (fun y=>[(0,.slice (some ⟨bk,0,none⟩) n cap),(3,.func (.func fv) #[] #[]),(13,.int .i64 (y.1.1:Int)),(11,.pointer (some ⟨y.1.2.2,0,none⟩))]) (fun _=>[Fc]) (fun y=>[Ax 108 chf bk l q,Pt y.1.2.2 (.cells #[.int .i64 y.1.2.1] 3)]) ?_ ?_
 ·rintro ⟨⟨j,z,sb⟩,h1,h2⟩
  dsimp only at h1 h2 ⊢
  repeat' (first|refine ZE ?_|refine ZD ?_|refine ZF ?_|refine ZS ?_|(refine ZG (fun hc=>?_) (fun hc=>?_)<;>(try simp at hc))|fail)
  ·exact ZK ⟨(j,1),h1,h2,.inr (.inl rfl)⟩ rfl trivial
  ·exact ZK ⟨(j,2),h1,h2,.inr (.inr rfl)⟩ rfl trivial
  ·exact ZK ⟨(j,0),h1,h2,.inl rfl⟩ rfl trivial
 ·intro hx
  repeat' (first|refine XJ ?_|refine Xb hx ⟨(_,_,_),?_⟩ ⟨rfl,rfl,rfl,rfl,trivial⟩|refine ZE ?_|refine ZD ?_|refine ZF ?_|refine ZR (fun b=>?_)|refine ZC (r1 _ _) (fun _ _=>?_)|refine ZC (r2 _ _) (fun _ _=>?_)|refine ZC (r3 _ _) (fun _ _=>?_)|refine ZC (r4 _ _) (fun _ _=>?_)|rw [w0]|rw [w1]|rw [v1]|rw [v2]|rw [v3]|(refine ZG (fun hc=>?_) (fun hc=>?_)<;>(try simp at hc)<;>(try omega))|fail)
  ·rename_i t1 _ t2 _ t3 _
   obtain ⟨⟨i1,z1⟩,g1⟩:=t1
   obtain ⟨⟨i2,z2⟩,g2⟩:=t2
   obtain ⟨⟨i3,z3⟩,g3⟩:=t3
   dsimp only at g1 g2 g3 ⊢
   have r5:=s1 i1 i2 i3 (by omega) (by omega) (by omega)
   repeat' (first|refine Xb hx ⟨(_,_,_),?_⟩ ⟨rfl,rfl,rfl,rfl,trivial⟩|refine ZE ?_|refine ZC (r5 _ _) (fun _ _=>?_)|fail)
   rename_i t4 _
   obtain ⟨⟨i4,z4⟩,g4⟩:=t4
   dsimp only at g4 ⊢
   omega
  ·rename_i t4 _
   obtain ⟨⟨i4,z4⟩,g4⟩:=t4
   dsimp only at g4 ⊢
   omega
end
end Go.Proofs.YtdkndahndgkmnaaGreatDoor
