/-
  Contracts of the package process where a child does not run any more, or is none; the children of the process 1.
  The law ProcessWaits, walked.
  A slice of bytes as an argument.
  Conditions: those that each theorem states.
-/
import Derived.Test.YtgfohjbcccfolaaGreatDoorW3
set_option maxRecDepth 10000
namespace Go.Proofs.YtgfohjbcccfolaaGreatDoor
open Go.RowKit Go.Proofs.Tryz
section
variable (b:Nat) (ps:Option Addr) (es:Al) (rs:List (Nm×Ch)) (cs:List Ch) (who:ByteArray) (p:Pr)
theorem runningSt_ok (h:PrAt es cs who p) (hr:p.st≠1):Enters 92∧Spec prog 92 #[.pointer (some ⟨b,0,none⟩),.string who] [St ps es,Usg] [Vw b ps rs cs]
  ⟨Unit,fun _=>.tuple #[Pr.z.v none 0,.int .i64 10],fun _=>True,fun _=>[],fun _=>[Vw b ps (pgR es rs cs who) cs]⟩:=by
 have n2:=Ys b ps es rs cs who p h
 obtain ⟨a1,a2,a3,a4,a5,gs,a7,a8,a9,a10⟩:=p
 dsimp only at hr
 simp only [Pr.v] at n2
 refine ZI [_,_] func92 ntmps92 fun G w hp=>?_
 repeat' (first|refine ZC ?_|refine ZB ?_|refine ZS ?_|refine ZD ?_|refine ZR ?_|refine Zr ?_|refine ZV ?_|refine ZO (fun b=>?_)|refine YE (fun b=>?_)|refine ZL ?_|refine ZG ?_|refine Zj ?_|refine ZA (n2) (fun _ _=>?_)|refine l_call0 (n2) (fun _ _=>?_)|(refine ZN (fun hc=>?_) (fun hc=>?_)<;>(try simp at hc)<;>(try omega))|(refine ZJ (fun hc=>?_) (fun hc=>?_)<;>(try simp at hc)<;>(try omega)))
 exact ZF () rfl trivial
theorem proExitSt_ok (h:PrAt es cs who p) (hr:p.st≠1) (k:Int):Enters 13∧Spec prog 13 #[.pointer (some ⟨b,0,none⟩),.string who,.int .i64 k] [St ps es,Usg] [Vw b ps rs cs]
  ⟨Unit,fun _=>.int .i64 10,fun _=>True,fun _=>[],fun _=>[Vw b ps (pgR es rs cs who) cs]⟩:=by
 have n1:=runningSt_ok b ps es rs cs who p h hr
 generalize pgR es rs cs who=rs2 at *
 have hch:∀bc:Nat,Enters 56∧Spec prog 56 #[.pointer (some ⟨b,0,none⟩),.string who,.func (.func 57) #[] #[.pointer (some ⟨bc,0,none⟩)]] [St ps es,Usg] [Vw b ps rs cs]
   ⟨Unit,fun _=>.int .i64 10,fun _=>True,fun _=>[],fun _=>[Vw b ps rs2 cs]⟩:=fun bc=>by
  generalize b=bv at *
  refine ZI [_,_,_] func56 ntmps56 fun G w hp=>?_
  repeat' (first|refine ZC ?_|refine ZB ?_|refine ZS ?_|refine ZD ?_|refine ZR ?_|refine Zr ?_|refine ZV ?_|refine ZO (fun b=>?_)|refine YE (fun b=>?_)|refine ZL ?_|refine ZG ?_|refine Zj ?_|refine ZA (n1) (fun _ _=>?_)|refine l_call0 (n1) (fun _ _=>?_)|(refine ZN (fun hc=>?_) (fun hc=>?_)<;>(try simp at hc)<;>(try omega))|(refine ZJ (fun hc=>?_) (fun hc=>?_)<;>(try simp at hc)<;>(try omega)))
  exact ZF () rfl trivial
 generalize b=bv at *
 refine ZI [_,_,_] func13 ntmps13 fun G w hp=>?_
 repeat' (first|refine ZC ?_|refine ZB ?_|refine ZS ?_|refine ZD ?_|refine ZR ?_|refine Zr ?_|refine ZV ?_|refine ZO (fun b=>?_)|refine YE (fun b=>?_)|refine ZL ?_|refine ZG ?_|refine Zj ?_|refine ZA (hch _) (fun _ _=>?_)|refine l_call0 (hch _) (fun _ _=>?_)|(refine ZN (fun hc=>?_) (fun hc=>?_)<;>(try simp at hc)<;>(try omega))|(refine ZJ (fun hc=>?_) (fun hc=>?_)<;>(try simp at hc)<;>(try omega)))
 exact ZF () rfl trivial
theorem proWaitNo_ok (h:PrAt es cs who p) (c:Ct) (hm:madeE es cs who=(c,0)) (hmv:(vget es cs (cnm who)).1.size≤1099511627776) (k:Int) (hk:k<1∨c.c<k) :
  Enters 14∧Spec prog 14 #[.pointer (some ⟨b,0,none⟩),.string who,.int .i64 k] [St ps es,Usg] [Vw b ps rs cs]
   ⟨Unit,fun _=>.tuple #[.int .i64 0,.int .i64 22],fun _=>True,fun _=>[],fun _=>[Vw b ps (madeR es (pgR es rs cs who) cs who) cs]⟩:=by
 have hw:=h.w
 have n1:=Ys b ps es rs cs who p h
 have n2:=made_ok b ps es (pgR es rs cs who) cs who (by omega) hmv
 rw [hm] at n2
 generalize madeR es (pgR es rs cs who) cs who=rs3 at *
 generalize pgR es rs cs who=rs2 at *
 obtain ⟨c1,c2,c3⟩:=c
 dsimp only at hk
 refine ZI [_,_,_] func14 ntmps14 fun G w hp=>?_
 repeat' (first|refine ZC ?_|refine ZB ?_|refine ZS ?_|refine ZD ?_|refine ZR ?_|refine Zr ?_|refine ZV ?_|refine ZO (fun b=>?_)|refine YE (fun b=>?_)|refine ZL ?_|refine ZG ?_|refine Zj ?_|refine ZA (n1) (fun _ _=>?_)|refine l_call0 (n1) (fun _ _=>?_)|refine ZA (n2) (fun _ _=>?_)|refine l_call0 (n2) (fun _ _=>?_)|(refine ZN (fun hc=>?_) (fun hc=>?_)<;>(try simp at hc)<;>(try omega))|(refine ZJ (fun hc=>?_) (fun hc=>?_)<;>(try simp at hc)<;>(try omega)))
 all_goals exact ZF () rfl trivial
end
def chK (k:Nat):ByteArray:=⟨#[49,46,UInt8.ofNat (48+k)]⟩
theorem chN_K:∀k:Nat,1≤k→k≤8→chN o1 (k:Int)=chK k
 | 1,_,_=>by rw [chN,show Lib.itoa ((1:Nat):Int)=[49] by decide +kernel];decide
 | 2,_,_=>by rw [chN,show Lib.itoa ((2:Nat):Int)=[50] by decide +kernel];decide
 | 3,_,_=>by rw [chN,show Lib.itoa ((3:Nat):Int)=[51] by decide +kernel];decide
 | 4,_,_=>by rw [chN,show Lib.itoa ((4:Nat):Int)=[52] by decide +kernel];decide
 | 5,_,_=>by rw [chN,show Lib.itoa ((5:Nat):Int)=[53] by decide +kernel];decide
 | 6,_,_=>by rw [chN,show Lib.itoa ((6:Nat):Int)=[54] by decide +kernel];decide
 | 7,_,_=>by rw [chN,show Lib.itoa ((7:Nat):Int)=[55] by decide +kernel];decide
 | 8,_,_=>by rw [chN,show Lib.itoa ((8:Nat):Int)=[56] by decide +kernel];decide
theorem itoa_K:∀k:Nat,1≤k→k≤8→(Lib.itoa (k:Int)).length≤100
 | 1,_,_=>by rw [show Lib.itoa ((1:Nat):Int)=[49] by decide +kernel];decide
 | 2,_,_=>by rw [show Lib.itoa ((2:Nat):Int)=[50] by decide +kernel];decide
 | 3,_,_=>by rw [show Lib.itoa ((3:Nat):Int)=[51] by decide +kernel];decide
 | 4,_,_=>by rw [show Lib.itoa ((4:Nat):Int)=[52] by decide +kernel];decide
 | 5,_,_=>by rw [show Lib.itoa ((5:Nat):Int)=[53] by decide +kernel];decide
 | 6,_,_=>by rw [show Lib.itoa ((6:Nat):Int)=[54] by decide +kernel];decide
 | 7,_,_=>by rw [show Lib.itoa ((7:Nat):Int)=[55] by decide +kernel];decide
 | 8,_,_=>by rw [show Lib.itoa ((8:Nat):Int)=[56] by decide +kernel];decide
theorem Yx:∀k:Nat,1≤k→k≤8→lvalid (chK k).data.toList=true
 | 1,_,_=>by
  have h:=(ZW [49,46,49] 0 0 (by simp)).2.2.2
  rw [show ffirst (([49,46,49]:List UInt8).drop 0) 0 0=(⟨1,0,0⟩,1) from rfl] at h
  have h2:=(ZW [49,46,49] 2 1 (by simp)).2.2.2
  rw [show ffirst (([49,46,49]:List UInt8).drop 2) 2 1=(⟨1,2,0⟩,3) from rfl] at h2
  simp at h h2
  show lvalid ([49,46,49]:List UInt8)=true
  simp [lvalid,lparts,h,h2]
 | 2,_,_=>by
  have h:=(ZW [49,46,50] 0 0 (by simp)).2.2.2
  rw [show ffirst (([49,46,50]:List UInt8).drop 0) 0 0=(⟨1,0,0⟩,1) from rfl] at h
  have h2:=(ZW [49,46,50] 2 1 (by simp)).2.2.2
  rw [show ffirst (([49,46,50]:List UInt8).drop 2) 2 1=(⟨2,2,0⟩,3) from rfl] at h2
  simp at h h2
  show lvalid ([49,46,50]:List UInt8)=true
  simp [lvalid,lparts,h,h2]
 | 3,_,_=>by
  have h:=(ZW [49,46,51] 0 0 (by simp)).2.2.2
  rw [show ffirst (([49,46,51]:List UInt8).drop 0) 0 0=(⟨1,0,0⟩,1) from rfl] at h
  have h2:=(ZW [49,46,51] 2 1 (by simp)).2.2.2
  rw [show ffirst (([49,46,51]:List UInt8).drop 2) 2 1=(⟨3,2,0⟩,3) from rfl] at h2
  simp at h h2
  show lvalid ([49,46,51]:List UInt8)=true
  simp [lvalid,lparts,h,h2]
 | 4,_,_=>by
  have h:=(ZW [49,46,52] 0 0 (by simp)).2.2.2
  rw [show ffirst (([49,46,52]:List UInt8).drop 0) 0 0=(⟨1,0,0⟩,1) from rfl] at h
  have h2:=(ZW [49,46,52] 2 1 (by simp)).2.2.2
  rw [show ffirst (([49,46,52]:List UInt8).drop 2) 2 1=(⟨4,2,0⟩,3) from rfl] at h2
  simp at h h2
  show lvalid ([49,46,52]:List UInt8)=true
  simp [lvalid,lparts,h,h2]
 | 5,_,_=>by
  have h:=(ZW [49,46,53] 0 0 (by simp)).2.2.2
  rw [show ffirst (([49,46,53]:List UInt8).drop 0) 0 0=(⟨1,0,0⟩,1) from rfl] at h
  have h2:=(ZW [49,46,53] 2 1 (by simp)).2.2.2
  rw [show ffirst (([49,46,53]:List UInt8).drop 2) 2 1=(⟨5,2,0⟩,3) from rfl] at h2
  simp at h h2
  show lvalid ([49,46,53]:List UInt8)=true
  simp [lvalid,lparts,h,h2]
 | 6,_,_=>by
  have h:=(ZW [49,46,54] 0 0 (by simp)).2.2.2
  rw [show ffirst (([49,46,54]:List UInt8).drop 0) 0 0=(⟨1,0,0⟩,1) from rfl] at h
  have h2:=(ZW [49,46,54] 2 1 (by simp)).2.2.2
  rw [show ffirst (([49,46,54]:List UInt8).drop 2) 2 1=(⟨6,2,0⟩,3) from rfl] at h2
  simp at h h2
  show lvalid ([49,46,54]:List UInt8)=true
  simp [lvalid,lparts,h,h2]
 | 7,_,_=>by
  have h:=(ZW [49,46,55] 0 0 (by simp)).2.2.2
  rw [show ffirst (([49,46,55]:List UInt8).drop 0) 0 0=(⟨1,0,0⟩,1) from rfl] at h
  have h2:=(ZW [49,46,55] 2 1 (by simp)).2.2.2
  rw [show ffirst (([49,46,55]:List UInt8).drop 2) 2 1=(⟨7,2,0⟩,3) from rfl] at h2
  simp at h h2
  show lvalid ([49,46,55]:List UInt8)=true
  simp [lvalid,lparts,h,h2]
 | 8,_,_=>by
  have h:=(ZW [49,46,56] 0 0 (by simp)).2.2.2
  rw [show ffirst (([49,46,56]:List UInt8).drop 0) 0 0=(⟨1,0,0⟩,1) from rfl] at h
  have h2:=(ZW [49,46,56] 2 1 (by simp)).2.2.2
  rw [show ffirst (([49,46,56]:List UInt8).drop 2) 2 1=(⟨8,2,0⟩,3) from rfl] at h2
  simp at h h2
  show lvalid ([49,46,56]:List UInt8)=true
  simp [lvalid,lparts,h,h2]
theorem chK_size (k:Nat):(chK k).size=3:=rfl
theorem chK_inj:∀j,j≤9→∀k,k≤9→chK j=chK k→j=k:=by decide
theorem chK_o1:∀k,k≤9→chK k≠o1:=by decide
def kidQ (k:Nat) (s:Int×Int):Pr:=⟨1,s.1,s.2,0,7,[1,5],chK k,2,⟨⟨#[]⟩,0⟩,3⟩
def SOK (s:Int×Int):Prop:=(s.1=1∧s.2=0)∨((s.1=2∨s.1=3)∧0≤s.2∧s.2≤410)
theorem kidQ_chk {k:Nat} {s:Int×Int} (h1:1≤k) (h8:k≤8) (h:SOK s):pchk (kidQ k s)=0:=by
 unfold SOK at h
 exact pr_chk (by omega) (by omega) (by omega) (Yx k h1 h8)
structure WI (cs:List Ch) (m:Nat) (f:Nat→Int×Int):Prop where
 o:vget [] cs (pnm o1)=(pencS Zf,true)
 e:vget [] cs enm=(⟨#[]⟩,false)
 k:∀j,1≤j→j≤m→vget [] cs (pnm (chK j))=(pencS (kidQ j (f j)),true)
 n:∀j,m<j→j≤9→(vget [] cs (pnm (chK j))).2=false
 c:vget [] cs (cnm o1)=if m=0 then (⟨#[]⟩,false) else (cvs ⟨0,0,(m:Int)⟩,true)
 r:(vget [] cs (rnm o1)).2=false
 g:∀i:Nat,(vget [] cs (gnm o1 (i:Int))).2=false
 s:∀j,SOK (f j)
theorem WI.at1 {cs:List Ch} {m:Nat} {f:Nat→Int×Int} (h:WI cs m f):PrAt [] cs o1 Zf:=one_at h.o h.e
theorem WI.atK {cs:List Ch} {m:Nat} {f:Nat→Int×Int} (h:WI cs m f) {j:Nat} (h1:1≤j) (hj:j≤m) (h8:j≤8):PrAt [] cs (chK j) (kidQ j (f j)):=
 ⟨Yx j h1 h8,by rw [chK_size];decide,h.k j h1 hj,kidQ_chk h1 h8 (h.s j),by show (chK j).size≤1000;rw [chK_size];decide,by show (0:Nat)≤1000;decide,rfl,h.e⟩
theorem WI.made {cs:List Ch} {m:Nat} {f:Nat→Int×Int} (h:WI cs m f) (hm:m≤8):madeE [] cs o1=(⟨0,0,(m:Int)⟩,0)∧(vget [] cs (cnm o1)).1.size≤1099511627776:=by
 have hc:=h.c
 by_cases h0:m=0
 ·subst h0
  rw [if_pos rfl] at hc
  rw [madeE,if_pos Zy,hc]
  exact ⟨rfl,Nat.zero_le _⟩
 ·rw [if_neg h0] at hc
  exact Xp (by omega) hc
theorem WI.init:WI cA 0 (fun _=>(1,0)):=by
 refine ⟨by rw [vA_p,if_pos rfl],vA_o _ (by decide),fun j h1 h2=>by omega,fun j _ h9=>?_,by rw [vA_o _ (by decide),if_pos rfl],by rw [vA_o _ (by decide)],fun i=>by rw [vA_o _ (by simp [gnm])],fun _=>.inl ⟨rfl,rfl⟩⟩
 rw [vA_p,if_neg (chK_o1 j h9)]
theorem WI.fork {cs:List Ch} {m:Nat} (h:WI cs m (fun _=>(1,0))) (hm:m<8):WI (frkC cs o1 (chK (m+1)) ⟨0,0,(m:Int)⟩ Zf) (m+1) (fun _=>(1,0)):=by
 have hv:=Yx (m+1) (by omega) (by omega)
 refine ⟨?_,?_,fun j h1 h2=>?_,fun j h1 h9=>?_,?_,?_,fun i=>?_,h.s⟩
 ·rw [vF_p hv,if_neg (fun e=>chK_o1 (m+1) (by omega) e.symm)];exact h.o
 ·rw [vF_o _ (by decide) (by decide)];exact h.e
 ·rw [vF_p hv]
  by_cases hj:j=m+1
  ·subst hj;rw [if_pos rfl];rfl
  ·rw [if_neg (fun e=>hj (chK_inj j (by omega) (m+1) (by omega) e))]
   exact h.k j h1 (by omega)
 ·rw [vF_p hv,if_neg (fun e=>by have:=chK_inj j h9 (m+1) (by omega) e;omega)]
  exact h.n j (by omega) h9
 ·rw [vF_c Zy,if_neg (by omega)]
  show (cvs ⟨0,0,(m:Int)+1⟩,true)=(cvs ⟨0,0,((m+1:Nat):Int)⟩,true)
  rw [show ((m+1:Nat):Int)=(m:Int)+1 by omega]
 ·rw [vF_o _ (by decide) (by decide)];exact h.r
 ·rw [vF_o _ (by simp [gnm]) (by simp [gnm])];exact h.g i
def updF (f:Nat→Int×Int) (k:Nat) (s:Int×Int):Nat→Int×Int:=fun j=>if j=k then s else f j
theorem WI.put {cs:List Ch} {f:Nat→Int×Int} (h:WI cs 8 f) {k:Nat} (h1:1≤k) (h8:k≤8) {s:Int×Int} (hs:SOK s):WI (cs++[⟨pnm (chK k),pencS (kidQ k s),false⟩]) 8 (updF f k s):=by
 have hne:∀n:Nm,n.kind≠1→pnm (chK k)≠n:=fun n hn e=>hn (by rw [←e];rfl)
 refine ⟨?_,?_,fun j j1 j8=>?_,fun j j1 j9=>?_,?_,?_,fun i=>?_,fun j=>?_⟩
 ·rw [Zn (fun e=>chK_o1 k (by omega) (by simpa [pnm] using e))];exact h.o
 ·rw [Zn (hne _ (by decide))];exact h.e
 ·by_cases hj:j=k
  ·subst hj
   rw [XA rfl (YF (Yx j j1 j8)),updF,if_pos rfl];rfl
  ·rw [Zn (fun e=>hj (chK_inj j (by omega) k (by omega) (by simpa [pnm] using e.symm))),updF,if_neg hj]
   exact h.k j j1 j8
 ·rw [Zn (fun e=>by have:=chK_inj k (by omega) j j9 (by simpa [pnm] using e);omega)]
  exact h.n j j1 j9
 ·rw [Zn (hne _ (by decide))];exact h.c
 ·rw [Zn (hne _ (by decide))];exact h.r
 ·rw [Zn (hne _ (by simp [gnm]))];exact h.g i
 ·unfold updF;split
  ·exact hs
  ·exact h.s j
def blf (b:Bool):List Value:=[.bool b]
def arL {α:Type} (g:Nat→α):List α:=[g 0,g 1,g 2,g 3,g 4,g 5,g 6,g 7,g 8]
theorem arL_get {α:Type} (g:Nat→α):∀k:Nat,k≤8→(arL g)[k]? = some (g k)
 | 0,_=>rfl|1,_=>rfl|2,_=>rfl|3,_=>rfl|4,_=>rfl|5,_=>rfl|6,_=>rfl|7,_=>rfl|8,_=>rfl
theorem arL_set {α:Type} (g:Nat→α) (x:α):∀k:Nat,k≤8→(arL g).set k x=arL (fun j=>if j=k then x else g j)
 | 0,_=>by simp [arL]|1,_=>by simp [arL]|2,_=>by simp [arL]|3,_=>by simp [arL]|4,_=>by simp [arL]|5,_=>by simp [arL]|6,_=>by simp [arL]|7,_=>by simp [arL]|8,_=>by simp [arL]
theorem Xh {α:Type} {g g':Nat→α} (h:∀j,j≤8→g j=g' j):arL g=arL g':=by
 unfold arL
 rw [h 0 (by decide),h 1 (by decide),h 2 (by decide),h 3 (by decide),h 4 (by decide),h 5 (by decide),h 6 (by decide),h 7 (by decide),h 8 (by decide)]
def g1 (m j:Nat):Int:=if 1≤j∧j≤m then -1 else 0
def cG (f:Nat→Int×Int) (j:Nat):Int:=if j=0 then 0 else if (f j).1=1 then -1 else (f j).2
def sG (f:Nat→Int×Int) (j:Nat):Bool:=if j=0 then false else decide ((f j).1=3)
theorem g1_set {m:Nat} (h:m<8):(arL (g1 m)).set (m+1) (-1)=arL (g1 (m+1)):=by
 rw [arL_set _ _ _ (by omega)]
 refine Xh fun j hj=>?_
 unfold g1
 split<;>split<;>first|rfl|omega|(split<;>first|rfl|omega)
theorem g1_cG:arL (g1 8)=arL (cG fun _=>(1,0)):=Xh fun j hj=>by
 unfold g1 cG
 dsimp only
 split<;>split<;>first|rfl|omega|simp_all
theorem sG_0:arL (fun _=>false)=arL (sG fun _=>(1,0)):=Xh fun j hj=>by
 unfold sG
 split<;>simp
theorem cG_set {f:Nat→Int×Int} {k:Nat} (h1:1≤k) (h8:k≤8) (s:Int×Int) (hs:s.1≠1):(arL (cG f)).set k s.2=arL (cG (updF f k s)):=by
 rw [arL_set _ _ _ h8]
 refine Xh fun j hj=>?_
 unfold cG updF
 by_cases hj:j=k
 ·subst hj
  rw [if_pos rfl,if_neg (by omega),if_pos rfl,if_neg hs]
 ·rw [if_neg hj,if_neg hj]
theorem sG_set {f:Nat→Int×Int} {k:Nat} (h1:1≤k) (h8:k≤8) (s:Int×Int) (b:Bool) (hs:b=decide (s.1=3)):(arL (sG f)).set k b=arL (sG (updF f k s)):=by
 rw [arL_set _ _ _ h8]
 refine Xh fun j hj=>?_
 unfold sG updF
 by_cases hj:j=k
 ·subst hj
  rw [if_pos rfl,if_neg (by omega),if_pos rfl,hs]
 ·rw [if_neg hj,if_neg hj]
theorem cG_upd {f:Nat→Int×Int} {k:Nat} (s:Int×Int) (h:cG (updF f k s) k=cG f k):arL (cG (updF f k s))=arL (cG f):=Xh fun j hj=>by
 by_cases hj:j=k
 ·subst hj;exact h
 ·unfold cG updF;rw [if_neg hj]
theorem sG_upd {f:Nat→Int×Int} {k:Nat} (s:Int×Int) (h:sG (updF f k s) k=sG f k):arL (sG (updF f k s))=arL (sG f):=Xh fun j hj=>by
 by_cases hj:j=k
 ·subst hj;exact h
 ·unfold sG updF;rw [if_neg hj]
theorem set_same {α:Type} {l:List α} {k:Nat} {x:α} (h:l[k]? = some x):l.set k x=l:=by
 obtain ⟨h1,h2⟩:=List.getElem?_eq_some_iff.1 h
 rw [←h2,List.set_getElem_self]
section
variable {cs:List Ch} {m:Nat} {f:Nat→Int×Int}
theorem o1_ne:isE o1=false:=by simp [isE,o1,Zg]
theorem forkS (h:WI cs m fun _=>(1,0)) (hm:m<8) (hl:cs.length≤900000) (v s:Nat) (rs:List (Nm×Ch)):Enters 11∧Spec prog 11 #[.pointer (some ⟨v,0,none⟩),.string o1] [St (some ⟨s,0,none⟩) [],Usg,P10] [Vw v (some ⟨s,0,none⟩) rs cs]
  ⟨List (Nm×Ch),fun _=>.tuple #[.string (chK (m+1)),.int .i64 0],fun _=>True,fun _=>[],fun rs'=>[Vw v (some ⟨s,0,none⟩) rs' (frkC cs o1 (chK (m+1)) ⟨0,0,(m:Int)⟩ Zf)]⟩:=by
 have e1:chN o1 ((Ct.mk 0 0 (m:Int)).c+1)=chK (m+1):=by
  have:=chN_K (m+1) (by omega) (by omega)
  rwa [show ((m+1:Nat):Int)=(m:Int)+1 by omega] at this
 have e2:=itoa_K (m+1) (by omega) (by omega)
 rw [show ((m+1:Nat):Int)=(m:Int)+1 by omega] at e2
 have hmd:=h.made (by omega)
 have:=fork2_ok (fork_ok v (some ⟨s,0,none⟩) [] rs cs o1 Zf h.at1 rfl rfl ⟨0,0,(m:Int)⟩ hmd.1 hmd.2 ⟨Int.le_refl 0,by show (0:Int)≤1048576;decide,Int.le_refl 0,by show (0:Int)≤1048576;decide,by show (0:Int)≤(m:Int);omega,by show (m:Int)≤1048576;omega⟩ (by show (m:Int)+1≤999999;omega) YN o1_ne e2
  (by rw [e1];exact Yx (m+1) (by omega) (by omega)) (by rw [e1,chK_size];decide) (by rw [e1];exact h.n (m+1) (by omega) (by omega)) h.r h.g hl)
 rwa [e1] at this
theorem exitS (h:WI cs 8 f) {k:Nat} (h1:1≤k) (h8:k≤8) (hr:(f k).1=1) (hl:cs.length≤900000) {i:Int} (hi:0≤i∧i≤410) (v s:Nat) (rs:List (Nm×Ch)):Enters 13∧Spec prog 13 #[.pointer (some ⟨v,0,none⟩),.string (chK k),.int .i64 i] [St (some ⟨s,0,none⟩) [],Usg] [Vw v (some ⟨s,0,none⟩) rs cs]
  ⟨Unit,fun _=>.int .i64 0,fun _=>True,fun _=>[],fun _=>[Vw v (some ⟨s,0,none⟩) (pgR [] rs cs (chK k)) (cs++[⟨pnm (chK k),pencS (kidQ k (2,i)),false⟩])]⟩:=
 proExit_ok v (some ⟨s,0,none⟩) [] rs cs (chK k) (kidQ k (f k)) (h.atK h1 h8 h8) hr i hi (kidQ_chk (s:=(2,i)) h1 h8 (.inr ⟨.inl rfl,hi⟩)) (by omega)
theorem exitN (h:WI cs 8 f) {k:Nat} (h1:1≤k) (h8:k≤8) (hr:(f k).1≠1) {i:Int} (v s:Nat) (rs:List (Nm×Ch)):Enters 13∧Spec prog 13 #[.pointer (some ⟨v,0,none⟩),.string (chK k),.int .i64 i] [St (some ⟨s,0,none⟩) [],Usg] [Vw v (some ⟨s,0,none⟩) rs cs]
  ⟨Unit,fun _=>.int .i64 10,fun _=>True,fun _=>[],fun _=>[Vw v (some ⟨s,0,none⟩) (pgR [] rs cs (chK k)) cs]⟩:=
 proExitSt_ok v (some ⟨s,0,none⟩) [] rs cs (chK k) (kidQ k (f k)) (h.atK h1 h8 h8) hr i
theorem waitS (h:WI cs 8 f) {k:Nat} (h1:1≤k) (h8:k≤8) (hl:cs.length≤900000) (v s:Nat) (rs:List (Nm×Ch)):∃rs',Enters 14∧Spec prog 14 #[.pointer (some ⟨v,0,none⟩),.string o1,.int .i64 (k:Int)] [St (some ⟨s,0,none⟩) [],Usg,P10] [Vw v (some ⟨s,0,none⟩) rs cs]
  ⟨Unit,fun _=>.tuple #[.int .i64 (if (f k).1=2 then (f k).2 else 0),.int .i64 (if (f k).1=1 then 19 else if (f k).1=3 then 10 else 0)],fun _=>True,fun _=>[],fun _=>[Vw v (some ⟨s,0,none⟩) rs' (if (f k).1=2 then cs++[⟨pnm (chK k),pencS (kidQ k (3,(f k).2)),false⟩] else cs)]⟩:=by
 have hmd:=h.made (by omega)
 have e1:=chN_K k h1 h8
 have hs:=h.s k
 have:=Y6 v (some ⟨s,0,none⟩) [] rs cs o1 Zf h.at1 ⟨0,0,((8:Nat):Int)⟩ hmd.1 hmd.2 (k:Int) ⟨by omega,by show (k:Int)≤((8:Nat):Int);omega⟩ (by omega) YN o1_ne (itoa_K k h1 h8) (kidQ k (f k)) (by rw [e1];exact h.atK h1 h8 h8) (by omega)
  (fun h2=>kidQ_chk (s:=(3,(f k).2)) h1 h8 (.inr ⟨.inr rfl,by
   have h2':(f k).1=2:=h2
   unfold SOK at hs
   omega⟩))
 rw [e1] at this
 exact ⟨_,this⟩
theorem waitN (h:WI cs 8 f) (k:Int) (hk:k<1∨8<k) (v s:Nat) (rs:List (Nm×Ch)):Enters 14∧Spec prog 14 #[.pointer (some ⟨v,0,none⟩),.string o1,.int .i64 k] [St (some ⟨s,0,none⟩) [],Usg] [Vw v (some ⟨s,0,none⟩) rs cs]
  ⟨Unit,fun _=>.tuple #[.int .i64 0,.int .i64 22],fun _=>True,fun _=>[],fun _=>[Vw v (some ⟨s,0,none⟩) (madeR [] (pgR [] rs cs o1) cs o1) cs]⟩:=by
 have hmd:=h.made (by omega)
 exact proWaitNo_ok v (some ⟨s,0,none⟩) [] rs cs o1 Zf h.at1 ⟨0,0,((8:Nat):Int)⟩ hmd.1 hmd.2 k hk
theorem childS {k:Nat} (h1:1≤k) (h8:k≤8):Enters 12∧Spec prog 12 #[.string o1,.int .i64 (k:Int)] [P10] [] (RetV (.tuple #[.string (chK k),.int .i64 0])):=by
 have:=child_ok o1 (k:Int) Zy (by decide) ⟨by omega,by omega⟩ YN o1_ne (itoa_K k h1 h8)
 rwa [chN_K k h1 h8] at this
end
def WJ (i:Nat) (cs:List Ch) (lc:List Int) (lb:List Bool):Prop:=∃f,WI cs 8 f∧lc=arL (cG f)∧lb=arL (sG f)∧cs.length≤17+i
def X2:=Nat×List (Nm×Ch)×List Ch×List Int×List Bool
set_option maxHeartbeats 4000000 in
theorem lawPWaits_ok (o:Option Addr) (cap:Nat) (es:List UInt8) (_hl:es.length≤1099511627776):Enters 3∧Spec prog 3 #[.slice o es.length cap] [Sl 5 bf o cap es,Usg,P10] [] (RetV (.bool true)):=by
 have n0:=begun_ok
 have n1:=ZP
 generalize hcA:cA=cs0 at *
 refine ZI [_] func3 ntmps3 fun G w hp=>?_
 repeat' (first|refine ZC ?_|refine ZB ?_|refine ZS ?_|refine ZD ?_|refine ZR ?_|refine Zr ?_|refine ZV ?_|refine ZO (fun b=>?_)|refine YE (fun b=>?_)|refine ZL ?_|refine ZG ?_|refine Zj ?_|refine ZA (n0) (fun _ _=>?_)|refine l_call0 (n0) (fun _ _=>?_)|refine ZA (n1) (fun _ _=>?_)|refine l_call0 (n1) (fun _ _=>?_)|(refine ZN (fun hc=>?_) (fun hc=>?_)<;>(try simp at hc)<;>(try omega))|(refine ZJ (fun hc=>?_) (fun hc=>?_)<;>(try simp at hc)<;>(try omega)))
 rename_i q _ _ _
 generalize b=bc at *
 obtain ⟨v,s,rs0⟩:=q
 dsimp only
 refine k_lp (X:={q:Nat×List (Nm×Ch)×List Ch×List Int // q.1≤8∧WI q.2.2.1 q.1 (fun _=>(1,0))∧q.2.2.2=arL (g1 q.1)∧q.2.2.1.length≤1+2 * q.1}) (fun q=>[(0,.slice o es.length cap),(3,.pointer (some ⟨v,0,none⟩)),(5,.pointer (some ⟨bc,0,none⟩)),(6,.int .i64 ((q.1.1:Int)+1))]) (fun _=>[Sl 5 bf o cap es,St (some ⟨s,0,none⟩) [],Usg,P10]) (fun q=>[Vw v (some ⟨s,0,none⟩) q.1.2.1 q.1.2.2.1,Ar 27 zf bc q.1.2.2.2]) (fun q=>8 - q.1.1) ⟨(0,rs0,cs0,[0,0,0,0,0,0,0,0,0]),Nat.zero_le _,hcA ▸ WI.init,rfl,by subst hcA;show cA.length≤1+2 * 0;decide⟩ ⟨rfl,rfl,rfl,rfl,trivial⟩ ?_
 rintro ⟨⟨m,rs,cs,lc⟩,hm8,hW,hc1,hlen⟩
 dsimp only at hm8 hW hc1 hlen ⊢
 by_cases hm:m<8
 ·have f1:=forkS hW hm (by omega) v s rs
  have hW2:=hW.fork hm
  have hl2:(frkC cs o1 (chK (m+1)) ⟨0,0,(m:Int)⟩ Zf).length≤1+2 * (m+1):=by unfold frkC;simp;omega
  have hc2:=g1_set hm
  rw [←hc1] at hc2
  obtain ⟨x,hx⟩:∃x,lc[m+1]? = some x:=by rw [hc1];exact ⟨_,arL_get _ _ (by omega)⟩
  generalize frkC cs o1 (chK (m+1)) ⟨0,0,(m:Int)⟩ Zf=cs2 at *
  repeat' (first|refine ZC ?_|refine ZB ?_|refine ZS ?_|refine ZD ?_|refine ZR ?_|refine Zr ?_|refine ZV ?_|refine ZO (fun b=>?_)|refine YE (fun b=>?_)|refine ZL ?_|refine ZG ?_|refine ZA (f1) (fun _ _=>?_)|refine l_call0 (f1) (fun _ _=>?_)|refine l_ixA (m:=9) (sz:=1) (m+1) (by omega) ?_|refine l_stA 1 (m+1) 0 (-1) hx ?_|(refine ZN (fun hc=>?_) (fun hc=>?_)<;>(try simp at hc)<;>(try omega))|(refine ZJ (fun hc=>?_) (fun hc=>?_)<;>(try simp at hc)<;>(try omega)))
  rename_i rs2 _
  rw [wrapi (z:=(m:Int)+1+1) (by omega) (by omega)]
  exact Zi ⟨(m+1,rs2,cs2,lc.set (m+1) (-1)),by omega,hW2,hc2,hl2⟩ (by show 8 - (m+1)<8 - m;omega) ⟨rfl,rfl,rfl,(by show _=some (Value.int .i64 (((m+1:Nat):Int)+1));rw [Int.natCast_add];rfl),trivial⟩
 obtain rfl:m=8:=by omega
 rw [g1_cG] at hc1
 have hJ:WJ 0 cs lc [false,false,false,false,false,false,false,false,false]:=⟨fun _=>(1,0),hW,hc1,sG_0,by omega⟩
 repeat' (first|refine ZC ?_|refine ZB ?_|refine ZS ?_|refine ZD ?_|refine ZR ?_|refine Zr ?_|refine ZV ?_|refine ZO (fun b=>?_)|refine YE (fun b=>?_)|refine ZL ?_|refine ZG ?_|refine Zj ?_|(refine ZN (fun hc=>?_) (fun hc=>?_)<;>(try simp at hc)<;>(try omega))|(refine ZJ (fun hc=>?_) (fun hc=>?_)<;>(try simp at hc)<;>(try omega)))
 generalize b=bs at *
 refine k_lp (X:={q:Nat×List (Nm×Ch)×List Ch×List Int×List Bool // q.1≤es.length∧q.1≤40∧WJ q.1 q.2.2.1 q.2.2.2.1 q.2.2.2.2}) (fun q=>[(0,.slice o es.length cap),(3,.pointer (some ⟨v,0,none⟩)),(5,.pointer (some ⟨bc,0,none⟩)),(9,.pointer (some ⟨bs,0,none⟩)),(10,.int .i64 (q.1.1:Int))]) (fun _=>[Sl 5 bf o cap es,St (some ⟨s,0,none⟩) [],Usg,P10]) (fun q=>[Vw v (some ⟨s,0,none⟩) q.1.2.1 q.1.2.2.1,Ar 27 zf bc q.1.2.2.2.1,Ar 32 blf bs q.1.2.2.2.2]) (fun q=>41 - q.1.1) ⟨(0,rs,cs,lc,_),Nat.zero_le _,Nat.zero_le _,hJ⟩ ⟨rfl,rfl,rfl,rfl,rfl,trivial⟩ ?_
 rintro ⟨⟨i,rs,cs,lc,lb⟩,hi1,hi2,f,hW,hc1,hb1,hlen⟩
 dsimp only at hi1 hi2 hW hc1 hb1 hlen ⊢
 by_cases hgo:i<es.length∧i<40
 ·obtain ⟨hgo1,hgo2⟩:=hgo
  obtain ⟨c,hgt⟩:∃c,es[i]? = some c:=⟨_,List.getElem?_eq_getElem hgo1⟩
  have hn8:c.toNat % 8<8:=Nat.mod_lt _ (by decide)
  have hcl:=c.toNat_lt
  have t1:(c.toNat:Int).tmod 8=((c.toNat % 8:Nat):Int):=by rw [Int.tmod_eq_emod_of_nonneg (Int.natCast_nonneg _)];exact (Int.natCast_emod _ 8).symm
  have t2:(c.toNat:Int).tdiv 8=((c.toNat / 8:Nat):Int):=by rw [Int.tdiv_eq_ediv_of_nonneg (Int.natCast_nonneg _)];exact (Int.natCast_ediv _ 8).symm
  have t3:((c.toNat / 8:Nat):Int).tmod 2=((c.toNat / 8 % 2:Nat):Int):=by rw [Int.tmod_eq_emod_of_nonneg (Int.natCast_nonneg _)];exact (Int.natCast_emod _ 2).symm
  have w2:IntKind.u8.wrap ((c.toNat / 8:Nat):Int)=((c.toNat / 8:Nat):Int):=wu8 (by omega) (by omega)
  obtain ⟨k,hk⟩:∃k,k=c.toNat % 8+1:=⟨_,rfl⟩
  have w0:IntKind.i64.wrap ((c.toNat % 8:Nat):Int)=((c.toNat % 8:Nat):Int):=wrapi (by omega) (by omega)
  have w1:IntKind.i64.wrap (1+((c.toNat % 8:Nat):Int))=(k:Int):=by rw [wrapi (by omega) (by omega)];omega
  have w9:IntKind.i64.wrap ((i:Int)+1)=((i+1:Nat):Int):=by rw [wrapi (by omega) (by omega)];omega
  have hk1:1≤k:=by omega
  have hk8:k≤8:=by omega
  clear hk
  have hx:lc[k]? = some (cG f k):=by rw [hc1];exact arL_get _ _ hk8
  have hy:lb[k]? = some (sG f k):=by rw [hb1];exact arL_get _ _ hk8
  have hS:=hW.s k
  unfold SOK at hS
  have n3:=childS hk1 hk8
  by_cases hbit:c.toNat / 8 % 2=0
  ·have b1:(((c.toNat / 8 % 2:Nat):Int) == 0)=true:=by rw [hbit];rfl
   by_cases h1:(f k).1=1
   ·have n4:=exitS hW hk1 hk8 h1 (by omega) (i:=(i:Int)) (by omega) v s rs
    have hW2:=hW.put hk1 hk8 (s:=(2,(i:Int))) (.inr ⟨.inl rfl,by omega⟩)
    have hc2:=cG_set (f:=f) hk1 hk8 (2,(i:Int)) (by show (2:Int)≠1;decide)
    have hb2:=sG_upd (f:=f) (k:=k) (2,(i:Int)) (by unfold sG updF;rw [if_pos rfl,h1];rfl)
    rw [←hc1] at hc2
    rw [←hb1] at hb2
    have hl2:(cs++[(⟨pnm (chK k),pencS (kidQ k (2,(i:Int))),false⟩:Ch)]).length≤17+(i+1):=by simp;omega
    have e1:cG f k = -1:=by unfold cG;rw [if_neg (by omega),if_pos h1]
    rw [e1] at hx
    generalize pgR [] rs cs (chK k)=rs2 at *
    generalize (cs++[⟨pnm (chK k),pencS (kidQ k (2,(i:Int))),false⟩]:List Ch)=cs2 at *
    generalize chK k=ch at *
    repeat' (first|refine ZC ?_|refine ZB ?_|refine ZS ?_|refine ZD ?_|refine ZR ?_|refine Zr ?_|refine ZV ?_|refine ZO (fun b=>?_)|refine YE (fun b=>?_)|refine ZL ?_|refine ZG ?_|refine ZA (n3) (fun _ _=>?_)|refine l_call0 (n3) (fun _ _=>?_)|refine ZA (n4) (fun _ _=>?_)|refine l_call0 (n4) (fun _ _=>?_)|rw [t1]|rw [t2]|rw [t3]|rw [w0]|rw [w1]|rw [w2]|rw [b1]|refine XF i c hgt (fun b off=>?_)|refine Z4 ?_|refine l_ixA (m:=9) (sz:=1) k (by omega) ?_|refine l_ldA 1 k 0 hx ?_|refine l_stA 1 k 0 (i:Int) hx ?_|(refine ZN (fun hc=>?_) (fun hc=>?_)<;>(try simp at hc)<;>(try omega))|(refine ZJ (fun hc=>?_) (fun hc=>?_)<;>(try simp at hc)<;>(try omega)))
    rw [w9]
    exact Zi ⟨(i+1,rs2,cs2,lc.set k (i:Int),lb),by dsimp only;omega,by dsimp only;omega,_,hW2,hc2,hb2.symm,hl2⟩ (by show 41 - (i+1)<41 - i;omega) ⟨rfl,rfl,rfl,rfl,rfl,trivial⟩
   ·have n4:=exitN hW hk1 hk8 h1 (i:=(i:Int)) v s rs
    have e1:0≤cG f k:=by unfold cG;rw [if_neg (by omega),if_neg h1];omega
    have hnx:WJ (i+1) cs lc lb:=⟨f,hW,hc1,hb1,by omega⟩
    generalize cG f k=z at *
    generalize pgR [] rs cs (chK k)=rs2 at *
    generalize chK k=ch at *
    repeat' (first|refine ZC ?_|refine ZB ?_|refine ZS ?_|refine ZD ?_|refine ZR ?_|refine Zr ?_|refine ZV ?_|refine ZO (fun b=>?_)|refine YE (fun b=>?_)|refine ZL ?_|refine ZG ?_|refine ZA (n3) (fun _ _=>?_)|refine l_call0 (n3) (fun _ _=>?_)|refine ZA (n4) (fun _ _=>?_)|refine l_call0 (n4) (fun _ _=>?_)|rw [t1]|rw [t2]|rw [t3]|rw [w0]|rw [w1]|rw [w2]|rw [b1]|refine XF i c hgt (fun b off=>?_)|refine Z4 ?_|refine l_ixA (m:=9) (sz:=1) k (by omega) ?_|refine l_ldA 1 k 0 hx ?_|(refine ZN (fun hc=>?_) (fun hc=>?_)<;>(try simp at hc)<;>(try omega))|(refine ZJ (fun hc=>?_) (fun hc=>?_)<;>(try simp at hc)<;>(try omega)))
    rw [w9]
    exact Zi ⟨(i+1,rs2,cs,lc,lb),by dsimp only;omega,by dsimp only;omega,hnx⟩ (by show 41 - (i+1)<41 - i;omega) ⟨rfl,rfl,rfl,rfl,rfl,trivial⟩
  ·have b1:(((c.toNat / 8 % 2:Nat):Int) == 0)=false:=by rw [beq_eq_false_iff_ne];omega
   obtain ⟨rs2,n4⟩:=waitS hW hk1 hk8 (by omega) v s rs
   have hnx:WJ (i+1) cs lc lb:=⟨f,hW,hc1,hb1,by omega⟩
   rcases (show (f k).1=1∨(f k).1=2∨(f k).1=3 by omega) with h1|h1|h1
   ·rw [h1] at n4
    simp only [show ¬(1:Int)=2 by decide,if_false,if_true] at n4
    have e1:cG f k = -1:=by unfold cG;rw [if_neg (by omega),if_pos h1]
    have e2:sG f k=false:=by unfold sG;rw [if_neg (by omega),h1];rfl
    rw [e1] at hx
    rw [e2] at hy
    have es2:=set_same hy
    generalize chK k=ch at *
    repeat' (first|refine ZC ?_|refine ZB ?_|refine ZS ?_|refine ZD ?_|refine ZR ?_|refine Zr ?_|refine ZV ?_|refine ZO (fun b=>?_)|refine YE (fun b=>?_)|refine ZL ?_|refine ZG ?_|refine ZA (n3) (fun _ _=>?_)|refine l_call0 (n3) (fun _ _=>?_)|refine ZA (n4) (fun _ _=>?_)|refine l_call0 (n4) (fun _ _=>?_)|rw [t1]|rw [t2]|rw [t3]|rw [w0]|rw [w1]|rw [w2]|rw [b1]|refine XF i c hgt (fun b off=>?_)|refine Z4 ?_|refine l_ixA (m:=9) (sz:=1) k (by omega) ?_|refine l_ldA 1 k 0 hx ?_|refine l_ldA 1 k 0 hy ?_|refine l_stA 1 k 0 false hy ?_|(refine ZN (fun hc=>?_) (fun hc=>?_)<;>(try simp at hc)<;>(try omega))|(refine ZJ (fun hc=>?_) (fun hc=>?_)<;>(try simp at hc)<;>(try omega)))
    rw [w9]
    exact Zi ⟨(i+1,rs2,cs,lc,lb.set k false),by dsimp only;omega,by dsimp only;omega,by rw [es2];exact hnx⟩ (by show 41 - (i+1)<41 - i;omega) ⟨rfl,rfl,rfl,rfl,rfl,trivial⟩
   ·rw [h1] at n4
    simp only [show ¬(2:Int)=1 by decide,show ¬(2:Int)=3 by decide,if_false,if_true] at n4
    have e1:cG f k=(f k).2:=by unfold cG;rw [if_neg (by omega),if_neg (by omega)]
    have e2:sG f k=false:=by unfold sG;rw [if_neg (by omega),h1];rfl
    have hW2:=hW.put hk1 hk8 (s:=(3,(f k).2)) (.inr ⟨.inr rfl,by show 0≤(f k).2∧(f k).2≤410;omega⟩)
    have hc2:=cG_upd (f:=f) (k:=k) (3,(f k).2) (by rw [e1];unfold cG updF;rw [if_neg (by omega),if_pos rfl,if_neg (by show ¬(3:Int)=1;decide)])
    have hb2:=sG_set (f:=f) hk1 hk8 (3,(f k).2) true rfl
    rw [←hc1] at hc2
    rw [←hb1] at hb2
    rw [e1] at hx
    rw [e2] at hy
    have hl2:(cs++[(⟨pnm (chK k),pencS (kidQ k (3,(f k).2)),false⟩:Ch)]).length≤17+(i+1):=by simp;omega
    have hnx2:WJ (i+1) (cs++[(⟨pnm (chK k),pencS (kidQ k (3,(f k).2)),false⟩:Ch)]) lc (lb.set k true):=⟨_,hW2,hc2.symm,hb2,hl2⟩
    have hz:0≤(f k).2:=by omega
    clear hc2 hb2 e1 hS hl2 hW2
    generalize (cs++[⟨pnm (chK k),pencS (kidQ k (3,(f k).2)),false⟩]:List Ch)=cs2 at *
    generalize chK k=ch at *
    generalize (f k).2=z at *
    repeat' (first|refine ZC ?_|refine ZB ?_|refine ZS ?_|refine ZD ?_|refine ZR ?_|refine Zr ?_|refine ZV ?_|refine ZO (fun b=>?_)|refine YE (fun b=>?_)|refine ZL ?_|refine ZG ?_|refine ZA (n3) (fun _ _=>?_)|refine l_call0 (n3) (fun _ _=>?_)|refine ZA (n4) (fun _ _=>?_)|refine l_call0 (n4) (fun _ _=>?_)|rw [t1]|rw [t2]|rw [t3]|rw [w0]|rw [w1]|rw [w2]|rw [b1]|refine XF i c hgt (fun b off=>?_)|refine Z4 ?_|refine l_ixA (m:=9) (sz:=1) k (by omega) ?_|refine l_ldA 1 k 0 hx ?_|refine l_ldA 1 k 0 hy ?_|refine l_stA 1 k 0 true hy ?_|(refine ZN (fun hc=>?_) (fun hc=>?_)<;>(try simp at hc)<;>(try omega))|(refine ZJ (fun hc=>?_) (fun hc=>?_)<;>(try simp at hc)<;>(try omega)))
    rw [w9]
    exact Zi ⟨(i+1,rs2,cs2,lc,lb.set k true),by dsimp only;omega,by dsimp only;omega,hnx2⟩ (by show 41 - (i+1)<41 - i;omega) ⟨rfl,rfl,rfl,rfl,rfl,trivial⟩
   ·rw [h1] at n4
    simp only [show ¬(3:Int)=2 by decide,show ¬(3:Int)=1 by decide,if_false,if_true] at n4
    have e1:cG f k=(f k).2:=by unfold cG;rw [if_neg (by omega),if_neg (by omega)]
    have e2:sG f k=true:=by unfold sG;rw [if_neg (by omega),h1];rfl
    rw [e1] at hx
    rw [e2] at hy
    have es2:=set_same hy
    have hz:0≤(f k).2:=by omega
    clear e1 hS
    generalize chK k=ch at *
    generalize (f k).2=z at *
    repeat' (first|refine ZC ?_|refine ZB ?_|refine ZS ?_|refine ZD ?_|refine ZR ?_|refine Zr ?_|refine ZV ?_|refine ZO (fun b=>?_)|refine YE (fun b=>?_)|refine ZL ?_|refine ZG ?_|refine ZA (n3) (fun _ _=>?_)|refine l_call0 (n3) (fun _ _=>?_)|refine ZA (n4) (fun _ _=>?_)|refine l_call0 (n4) (fun _ _=>?_)|rw [t1]|rw [t2]|rw [t3]|rw [w0]|rw [w1]|rw [w2]|rw [b1]|refine XF i c hgt (fun b off=>?_)|refine Z4 ?_|refine l_ixA (m:=9) (sz:=1) k (by omega) ?_|refine l_ldA 1 k 0 hx ?_|refine l_ldA 1 k 0 hy ?_|refine l_stA 1 k 0 true hy ?_|(refine ZN (fun hc=>?_) (fun hc=>?_)<;>(try simp at hc)<;>(try omega))|(refine ZJ (fun hc=>?_) (fun hc=>?_)<;>(try simp at hc)<;>(try omega)))
    rw [w9]
    exact Zi ⟨(i+1,rs2,cs,lc,lb.set k true),by dsimp only;omega,by dsimp only;omega,by rw [es2];exact hnx⟩ (by show 41 - (i+1)<41 - i;omega) ⟨rfl,rfl,rfl,rfl,rfl,trivial⟩
 ·have n6:=fun rs=>waitN hW 9 (.inr (by decide)) v s rs
  have n7:=fun rs=>waitN hW 0 (.inl (by decide)) v s rs
  repeat' (first|refine ZC ?_|refine ZB ?_|refine ZS ?_|refine ZD ?_|refine ZR ?_|refine Zr ?_|refine ZV ?_|refine ZO (fun b=>?_)|refine YE (fun b=>?_)|refine ZL ?_|refine ZG ?_|refine Zj ?_|refine ZA (n6 _) (fun _ _=>?_)|refine l_call0 (n6 _) (fun _ _=>?_)|refine ZA (n7 _) (fun _ _=>?_)|refine l_call0 (n7 _) (fun _ _=>?_)|(refine ZN (fun hc=>?_) (fun hc=>?_)<;>(try simp at hc)<;>(try omega))|(refine ZJ (fun hc=>?_) (fun hc=>?_)<;>(try simp at hc)<;>(try omega)))
  all_goals (refine ZF () ?_ trivial;simp [RetV,resV])
section
open Go.ChangeShapes Go.WideShapes Go.ChangeAt
theorem plU8:plainT prog 5 5=true:=by decide +kernel
theorem open_bytes {H:Type} {enc:TypeId×Value→H} {W:World} {base:Nat} {v:Value} {d:DataW H} {p:List MemPlace} (hv:Value.okWide prog W .any base 22 v) (h:DataW.Trod enc prog W 0 (fun _=>true) true 22 v d p) :
  ∃(o:Option Addr) (cap:Nat) (es:List UInt8),v = .slice o es.length cap∧(Sl 5 bf o cap es).p (fun b=>W.heap[b]?)∧es.length≤Rows.uptoBulk d∧
   ∀(W':World) (sp:Nat→Bool),Kept W W'→(∀b<W.heap.size,sp b=true)→DataW.Trod enc prog W' 0 sp true 22 v d p:=by
 obtain ⟨o,cap,es,h1,h2,h3,_,h4⟩:=open_sl (fa:=bf) (Q:=fun _ _=>True) 5 underlying22 plU8 (by decide +kernel) (fun _=>show 1=_ by decide +kernel) (fun n cs x hx=>by
  cases n with
  | zero=>simp [DataW.trod] at hx
  | succ n=>
   obtain ⟨z,rfl,_,hz⟩:=DataW.trod_int underlying5 hx
   obtain ⟨c,rfl⟩:=u8_of hz
   exact ⟨c,rfl,trivial⟩) (fun _ _ _ _ _=>trivial) hv h
 exact ⟨o,cap,es,h1,h2,h3,h4⟩
end
end Go.Proofs.YtgfohjbcccfolaaGreatDoor
