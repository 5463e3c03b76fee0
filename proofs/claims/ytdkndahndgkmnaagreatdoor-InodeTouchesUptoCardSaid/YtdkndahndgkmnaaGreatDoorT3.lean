/-
  Reversal, sifting down. (replevin/state.Change)
  Sorting by a heap. (replevin/state.Change)
  What a partition keeps while it goes on, without a program.
  Partitions. (replevin/state.Change)
  Insertion that gives up. (replevin/state.Change)
  pdqsort, whole. (replevin/state.Change)
  The contract of slices.SortFunc at replevin/state.Change, for at most 200 elements.
  The contracts of package view: Writes.
  The range over a function whose order is open.
  The contracts of package view: Reads.
  A call may read a block that is set aside while the order is drawn.
  The contract of view's Writes, for a view that is only read.
  The contracts of package view: After, for views whose writes fit.
  The counts of a process: EncodeCounts (for counts that fit), DecodeCounts.
  What is written is read again; no program in sight.
  The counts of a process: EncodeCounts, DecodeCounts, Made, SetMade.
  What a reader accepts is what a writer would have written.
  Contracts of the package inode: nodes; Check, Encode, Decode.
  Texts cut as far as they go.
  Arrays of bytes that are owned: parts of them as slices, copy of a text into one, one as a text.
  Contracts of the package inode: births, Get, file, put, NextBirth, Make, block.
  Contracts of the package inode: NextBirth, Make.
  Contracts of the package inode: parts, Write.
  What insertion does to the names of a kind and to the outputs of a state.
  What a state holds behind a view's changes.
  The example of layer 27, known.
  What a view holds of the counts of three processes that make nodes in turn.
  Contracts of the statements' own functions of layer 27: check, value.
  Entries as values, and their identities.
  The law InodeBirths, walked.
  The model of layer 27: make.
  Conditions: those that each theorem states.
-/
import Derived.Test.YtdkndahndgkmnaaGreatDoorT2
import Derived.Test.YtdkndahndgkmnaaGreatDoorT1
set_option maxRecDepth 10000
namespace Go.Proofs.YtdkndahndgkmnaaGreatDoor
open Go.RowKit Go.Proofs.Tryz
section
variable (bk cap:Nat) (q:List Value×(Nat×Nat)) (fv:FuncId) (Fc:Pf) (c:Ch→Ch→Int) (W:Wk0 c) (U:Ch→Prop) (hcmp:∀x y,U x→U y→Enters fv∧Spec prog fv #[x.v,y.v] [Fc] [] (RetV (.int .i64 (c x y))))
theorem revC_ok (l:List Ch) (n:Nat) (hn:n=l.length) (hn2:n≤1000000) (hq:AxOK (n * 7) q) (a b:Nat) (hab:a<b) (hb:b≤n) :
  Enters 177∧Spec prog 177 #[.slice (some ⟨bk,0,none⟩) n cap,.int .i64 (a:Int),.int .i64 (b:Int),.func (.func fv) #[] #[]] [Fc] [Ax 108 chf bk l q]
   ⟨{l':List Ch // Win a b l l'},fun _=>.tuple #[],fun _=>True,fun _=>[],fun l'=>[Ax 108 chf bk l'.1 q]⟩:=by
 have w0:IntKind.i64.wrap ((b:Int) - 1)=((b - 1:Nat):Int):=by rw [wrapi (by omega) (by omega)];omega
 refine ZM [_,_,_,_] func177 ntmps177 fun G w hp=>?_
 repeat' (first|refine ZE ?_|refine ZD ?_|refine ZF ?_|rw [w0]|fail)
 refine Z8 (X:={t:Nat×Nat×List Ch // a≤t.1∧t.2.1<b∧t.1≤t.2.1+1∧Win a b l t.2.2}) (fun t=>[(0,.slice (some ⟨bk,0,none⟩) n cap),(8,.int .i64 (t.1.1:Int)),(9,.int .i64 (t.1.2.1:Int))]) (fun _=>[Fc]) (fun t=>[Ax 108 chf bk t.1.2.2 q]) (fun t=>t.1.2.1+1 - t.1.1)
  ⟨(a,b - 1,l),by omega,by show b - 1<b;omega,by show a≤b - 1+1;omega,Win.refl⟩ ⟨rfl,rfl,rfl,trivial⟩ ?_
 rintro ⟨⟨i,j,m⟩,h1,h2,h3,h4⟩
 dsimp only at h1 h2 h3 h4 ⊢
 have hl:=h4.len
 by_cases hij:i<j
 ·have hi:i<n:=by omega
  have hj:j<n:=by omega
  have ki:i<m.length:=by omega
  have kj:j<m.length:=by omega
  have kj2:j<(m.set i (gt m j)).length:=by rw [List.length_set];exact kj
  have hq1:AxOK (m.length * 7) q:=by rw [hl,←hn];exact hq
  have hq2:AxOK ((m.set i (gt m j)).length * 7) q:=by rw [List.length_set];exact hq1
  have w1:IntKind.i64.wrap ((i:Int)+1)=((i+1:Nat):Int):=by rw [wrapi (by omega) (by omega)];omega
  have w2:IntKind.i64.wrap ((j:Int) - 1)=((j - 1:Nat):Int):=by rw [wrapi (by omega) (by omega)];omega
  repeat' (first|refine ZE ?_|refine ZD ?_|refine ZF ?_|refine ZT ?_|refine ZU ?_|refine ZY (m:=n) (i) hi ?_|refine ZY (m:=n) (j) hj ?_|refine Ze 7 (i) 0 (ZI ki) ?_|refine Ze 7 (j) 0 (ZI kj) ?_|refine Z3 7 (i) 0 (gt m (j)) (ZI ki) hq1 ?_|refine Zv 7 (j) 0 (gt m (i)) (ZI kj2) hq2 ?_|rw [w1]|rw [w2]|refine ZA 3 [Ax _ _ _ _ _] [(0,0),(1,0),(2,0),(3,0),(4,0),(5,0),(6,0),(8,0),(9,0),(10,0),(7,3),(11,3),(12,0),(13,4),(14,0)] [15] ?_|(refine ZG (fun hc=>?_) (fun hc=>?_)<;>(try simp at hc)<;>(try omega))|fail)
  exact Zb ⟨(i+1,j - 1,sw m i j),by show a≤i+1;omega,by show j - 1<b;omega,by show i+1≤j - 1+1;omega,h4.trans (Win.sw h1 (by omega) (by omega) h2 (by omega))⟩ (by show j - 1+1 - (i+1)<j+1 - i;omega) ⟨rfl,rfl,rfl,trivial⟩
 ·repeat' (first|refine ZE ?_|refine ZD ?_|refine ZF ?_|refine ZW ?_|(refine ZG (fun hc=>?_) (fun hc=>?_)<;>(try simp at hc)<;>(try omega))|fail)
  exact Yc ⟨m,h4⟩ rfl trivial
set_option maxHeartbeats 4000000 in
theorem brkC_ok (l:List Ch) (n:Nat) (hn:n=l.length) (hn2:n<256) (hq:AxOK (n * 7) q) (a bb:Nat) (hab:a+12<bb) (hb:bb≤n) :
  Enters 175∧Spec prog 175 #[.slice (some ⟨bk,0,none⟩) n cap,.int .i64 (a:Int),.int .i64 (bb:Int),.func (.func fv) #[] #[]] [Fc] [Ax 108 chf bk l q]
   ⟨{l':List Ch // Win a bb l l'},fun _=>.tuple #[],fun _=>True,fun _=>[],fun l'=>[Ax 108 chf bk l'.1 q]⟩:=by
 obtain ⟨N,hN⟩:∃N,N=bb - a:=⟨_,rfl⟩
 obtain ⟨p,hp⟩:∃p,p=N / 4:=⟨_,rfl⟩
 have w0:IntKind.i64.wrap ((bb:Int) - (a:Int))=(N:Int):=by rw [wrapi (by omega) (by omega)];omega
 have w1:IntKind.i64.wrap ((N:Int).tdiv 4)=(p:Int):=by
  have:(N:Int).tdiv 4=(p:Int):=by rw [hp];exact (Int.ofNat_tdiv _ _).symm
  rw [this,wrapi (by omega) (by omega)]
 have w2:IntKind.i64.wrap (IntKind.i64.wrap ((a:Int)+IntKind.i64.wrap ((p:Int) * 2)) - 1)=((a+2 * p - 1:Nat):Int):=by simp (disch:=omega) only [wrapi];omega
 have w3:IntKind.i64.wrap (IntKind.i64.wrap ((a:Int)+IntKind.i64.wrap ((p:Int) * 2))+1)=((a+2 * p+1:Nat):Int):=by simp (disch:=omega) only [wrapi];omega
 have w4:IntKind.u64.wrap (N:Int)=(N:Int):=Wc (by omega)
 have s1:=pow2_ok N (by omega)
 have s2:=xnext_ok
 refine ZM [_,_,_,_] func175 ntmps175 fun G w hp=>?_
 repeat' (first|refine ZE ?_|refine ZD ?_|refine ZF ?_|refine ZV ?_|refine ZR (fun b=>?_)|refine ZC (s1) (fun _ _=>?_)|rw [w0]|rw [w1]|rw [w2]|rw [w4]|(refine ZG (fun hc=>?_) (fun hc=>?_)<;>(try simp at hc)<;>(try omega))|fail)
 rename_i cc _
 obtain ⟨cc,hcc⟩:=cc
 dsimp only
 unfold LenP at hcc
 rw [Bool.and_eq_true,Bool.and_eq_true,Bool.or_eq_true] at hcc
 have hc8:cc≤8:=Nat.le_of_ble_eq_true hcc.1
 have hcN:N<2 ^ cc:=by
  have:=hcc.2.1
  unfold Nat.blt at this
  exact Nat.le_of_ble_eq_true this
 have hcN2:2 ^ cc≤2 * N:=by
  rcases hcc.2.2 with h|h
  ·exact Nat.le_of_ble_eq_true h
  ·have:=Nat.eq_of_beq_eq_true h;omega
 clear hcc
 generalize hM:2 ^ cc=M at hcN hcN2
 refine Z8 (X:={t:Nat×Int×List Ch // a+2 * p - 1≤t.1∧t.1≤a+2 * p+2∧Win a bb l t.2.2}) (fun t=>[(0,.slice (some ⟨bk,0,none⟩) n cap),(1,.int .i64 (a:Int)),(8,.int .i64 (N:Int)),(9,.pointer (some ⟨b,0,none⟩)),(10,.int .u64 (M:Int)),(11,.int .i64 (t.1.1:Int))]) (fun _=>[Fc]) (fun t=>[Ax 108 chf bk t.1.2.2 q,Pt b (.cells #[.int .u64 t.1.2.1] 330)]) (fun t=>a+2 * p+2 - t.1.1)
  ⟨(a+2 * p - 1,_,l),Nat.le_refl _,by show a+2 * p - 1≤_;omega,Win.refl⟩ ⟨rfl,rfl,rfl,rfl,rfl,rfl,trivial⟩ ?_
 rintro ⟨⟨i,z,m⟩,h1,h2,h3⟩
 dsimp only at h1 h2 h3 ⊢
 have hl:=h3.len
 by_cases hi0:i≤a+2 * p+1
 ·have w5:IntKind.i64.wrap ((i:Int)+1)=((i+1:Nat):Int):=by simp (disch:=omega) only [wrapi];omega
  have b0:decide ((i:Int)≤((a+2 * p+1:Nat):Int))=true:=decide_eq_true (by omega)
  repeat' (first|refine ZE ?_|refine ZD ?_|refine ZF ?_|refine ZH ?_|refine ZC (s2 _ _) (fun _ _=>?_)|rw [w1]|rw [w3]|rw [b0]|fail)
  rename_i z2 _
  obtain ⟨o,ho,he⟩:=and_low z2 (M:Int) cc hc8 (by rw [hM])
  rw [hM] at ho
  dsimp only
  rw [he]
  have hi:i<n:=by omega
  have ki:i<m.length:=by omega
  have hq1:AxOK (m.length * 7) q:=by rw [hl,←hn];exact hq
  have hq2:∀y,AxOK ((m.set i y).length * 7) q:=fun y=>by rw [List.length_set];exact hq1
  by_cases hoN:N≤o
  ·have w6:IntKind.i64.wrap ((o:Int) - (N:Int))=((o - N:Nat):Int):=by simp (disch:=omega) only [wrapi];omega
   have hj:a+(o - N)<n:=by omega
   have kj:a+(o - N)<m.length:=by omega
   have kj2:a+(o - N)<(m.set i (gt m (a+(o - N)))).length:=by rw [List.length_set];exact kj
   repeat' (first|refine ZE ?_|refine ZD ?_|refine ZF ?_|refine ZT ?_|refine ZU ?_|rw [w6]|rw [w5]|refine ZY (m:=n) (i) hi ?_|refine ZY (m:=n) (a+(o - N)) hj ?_|refine Ze 7 (i) 0 (ZI ki) ?_|refine Ze 7 (a+(o - N)) 0 (ZI kj) ?_|refine Z3 7 (i) 0 (gt m (a+(o - N))) (ZI ki) hq1 ?_|refine Zv 7 (a+(o - N)) 0 (gt m (i)) (ZI kj2) (hq2 _) ?_|refine ZA 10 [Ax _ _ _ _ _] [(0,0),(1,0),(2,0),(3,0),(4,0),(5,0),(6,0),(7,0),(8,0),(9,0),(10,0),(12,0),(13,0),(14,0),(11,3),(15,3),(16,0),(17,4),(18,0)] [19] ?_|(refine ZG (fun hc=>?_) (fun hc=>?_)<;>(try simp at hc)<;>(try omega))|fail)
   exact Zb ⟨(i+1,z2,sw m i (a+(o - N))),by show _≤i+1;omega,by show i+1≤_;omega,h3.trans (Win.sw (by omega) (by omega) (by omega) (by omega) (by omega))⟩ (by show a+2 * p+2 - (i+1)<a+2 * p+2 - i;omega) ⟨rfl,rfl,rfl,rfl,rfl,rfl,trivial⟩
  ·have hj:a+o<n:=by omega
   have kj:a+o<m.length:=by omega
   have kj2:a+o<(m.set i (gt m (a+o))).length:=by rw [List.length_set];exact kj
   repeat' (first|refine ZE ?_|refine ZD ?_|refine ZF ?_|refine ZT ?_|refine ZU ?_|rw [w5]|refine ZY (m:=n) (i) hi ?_|refine ZY (m:=n) (a+o) hj ?_|refine Ze 7 (i) 0 (ZI ki) ?_|refine Ze 7 (a+o) 0 (ZI kj) ?_|refine Z3 7 (i) 0 (gt m (a+o)) (ZI ki) hq1 ?_|refine Zv 7 (a+o) 0 (gt m (i)) (ZI kj2) (hq2 _) ?_|refine ZA 10 [Ax _ _ _ _ _] [(0,0),(1,0),(2,0),(3,0),(4,0),(5,0),(6,0),(7,0),(8,0),(9,0),(10,0),(12,0),(13,0),(14,0),(11,3),(15,3),(16,0),(17,4),(18,0)] [19] ?_|(refine ZG (fun hc=>?_) (fun hc=>?_)<;>(try simp at hc)<;>(try omega))|fail)
   exact Zb ⟨(i+1,z2,sw m i (a+o)),by show _≤i+1;omega,by show i+1≤_;omega,h3.trans (Win.sw (by omega) (by omega) (by omega) (by omega) (by omega))⟩ (by show a+2 * p+2 - (i+1)<a+2 * p+2 - i;omega) ⟨rfl,rfl,rfl,rfl,rfl,rfl,trivial⟩
 ·repeat' (first|refine ZE ?_|refine ZD ?_|refine ZF ?_|refine ZW ?_|rw [w1]|rw [w3]|(refine ZG (fun hc=>?_) (fun hc=>?_)<;>(try simp at hc)<;>(try omega))|fail)
  exact Yc ⟨m,h3⟩ rfl trivial
include hcmp W in
set_option maxHeartbeats 4000000 in
theorem siftC_ok (l:List Ch) (n:Nat) (hn:n=l.length) (hn2:n≤1000000) (hq:AxOK (n * 7) q) (hU:∀x ∈ l,U x) (lo hi f:Nat) (hlo:lo≤1000000) (hf:f+hi≤n) (hpp:Hp c f lo hi lo l) :
  Enters 210∧Spec prog 210 #[.slice (some ⟨bk,0,none⟩) n cap,.int .i64 (lo:Int),.int .i64 (hi:Int),.int .i64 (f:Int),.func (.func fv) #[] #[]] [Fc] [Ax 108 chf bk l q]
   ⟨{l':List Ch // Win f (f+hi) l l'∧He c f lo hi l'},fun _=>.tuple #[],fun _=>True,fun _=>[],fun l'=>[Ax 108 chf bk l'.1 q]⟩:=by
 refine ZM [_,_,_,_,_] func210 ntmps210 fun G w hp=>?_
 repeat' (first|refine ZE ?_|refine ZD ?_|refine ZF ?_|fail)
 refine Z8 (X:={t:Nat×List Ch // lo≤t.1∧t.1≤1000000∧Win f (f+hi) l t.2∧Hp c f lo hi t.1 t.2∧Hq c f lo hi t.1 t.2}) (fun t=>[(0,.slice (some ⟨bk,0,none⟩) n cap),(2,.int .i64 (hi:Int)),(3,.int .i64 (f:Int)),(4,.func (.func fv) #[] #[]),(10,.int .i64 (t.1.1:Int))]) (fun _=>[Fc]) (fun t=>[Ax 108 chf bk t.1.2 q]) (fun t=>hi - t.1.1)
  ⟨(lo,l),Nat.le_refl _,hlo,Win.refl,hpp,fun i j h1 h2 h3 h4=>by omega⟩ ⟨rfl,rfl,rfl,rfl,rfl,trivial⟩ ?_
 rintro ⟨⟨x,m⟩,h1,h2,h3,h4,h5⟩
 dsimp only at h1 h2 h3 h4 h5 ⊢
 have hl:=h3.len
 have w1:IntKind.i64.wrap (IntKind.i64.wrap (2 * (x:Int))+1)=((2 * x+1:Nat):Int):=by simp (disch:=omega) only [wrapi];omega
 have w2:IntKind.i64.wrap (((2 * x+1:Nat):Int)+1)=((2 * x+2:Nat):Int):=by simp (disch:=omega) only [wrapi];omega
 by_cases h0:2 * x+1<hi
 ·have hi0:f+x<n:=by omega
  have hi1:f+(2 * x+1)<n:=by omega
  have ki0:f+x<m.length:=by omega
  have ki1:f+(2 * x+1)<m.length:=by omega
  have hq1:AxOK (m.length * 7) q:=by rw [hl,←hn];exact hq
  have hUm:=h3.sub hU
  have hq2:∀y,AxOK ((m.set (f+x) y).length * 7) q:=fun y=>by rw [List.length_set];exact hq1
  have kx1:∀y,f+(2 * x+1)<(m.set (f+x) y).length:=fun y=>by rw [List.length_set];exact ki1
  have sp1:=hcmp (gt m (f+x)) (gt m (f+(2 * x+1))) (hUm _ (Zo ki0)) (hUm _ (Zo ki1))
  have fin:∀y,(y=2 * x+1∨y=2 * x+2)→y<hi→(∀z,(z=2 * x+1∨z=2 * x+2)→z<hi→¬c (gt m (f+y)) (gt m (f+z))<0)→
    (¬c (gt m (f+x)) (gt m (f+y))<0→He c f lo hi m)∧(c (gt m (f+x)) (gt m (f+y))<0→Win f (f+hi) l (sw m (f+x) (f+y))∧Hp c f lo hi y (sw m (f+x) (f+y))∧Hq c f lo hi y (sw m (f+x) (f+y))):=fun y hy hyh hmax=>
   ⟨fun hn=>h4.stop fun z hz hzh=>W.t _ _ _ (hmax z hz hzh) hn,fun hlt=>⟨h3.trans (Win.sw (by omega) (by omega) (by omega) (by omega) (by omega)),Hp.step W h4 h5 h1 hy hyh (by omega) hlt hmax⟩⟩
  by_cases h6:2 * x+2<hi
  ·have hi2:f+(2 * x+2)<n:=by omega
   have ki2:f+(2 * x+2)<m.length:=by omega
   have kx2:∀y,f+(2 * x+2)<(m.set (f+x) y).length:=fun y=>by rw [List.length_set];exact ki2
   have sp2:=hcmp (gt m (f+x)) (gt m (f+(2 * x+2))) (hUm _ (Zo ki0)) (hUm _ (Zo ki2))
   have sp3:=hcmp (gt m (f+(2 * x+1))) (gt m (f+(2 * x+2))) (hUm _ (Zo ki1)) (hUm _ (Zo ki2))
   by_cases h7:c (gt m (f+(2 * x+1))) (gt m (f+(2 * x+2)))<0
   ·obtain ⟨f1,f2⟩:=fin (2 * x+2) (.inr rfl) h6 (fun z hz hzh=>by
     rcases hz with rfl|rfl
     ·exact W.a _ _ h7
     ·exact W.i _)
    repeat' (first|refine ZE ?_|refine ZD ?_|refine ZF ?_|refine ZT ?_|refine ZZ ?_|refine ZU ?_|rw [w1]|rw [w2]|refine ZY (m:=n) (f+x) hi0 ?_|refine ZY (m:=n) (f+(2 * x+1)) hi1 ?_|refine ZY (m:=n) (f+(2 * x+2)) hi2 ?_|refine Zc 7 (f+x) 0 (ZI ki0) ?_|refine Zc 7 (f+(2 * x+1)) 0 (ZI ki1) ?_|refine Zc 7 (f+(2 * x+2)) 0 (ZI ki2) ?_|refine Ze 7 (f+x) 0 (ZI ki0) ?_|refine Ze 7 (f+(2 * x+2)) 0 (ZI ki2) ?_|refine Z3 7 (f+x) 0 (gt m (f+(2 * x+2))) (ZI ki0) hq1 ?_|refine Zv 7 (f+(2 * x+2)) 0 (gt m (f+x)) (ZI (kx2 _)) (hq2 _) ?_|refine Zi sp3 (fun _ _=>?_)|refine Zi sp2 (fun _ _=>?_)|(refine ZP (fun hc=>?_) (fun hc=>?_)<;>(try simp at hc)<;>(try omega))|refine ZA 3 [] [(0,0),(1,0),(2,0),(3,0),(4,0),(5,0),(6,0),(7,0),(8,0),(9,0),(10,0),(11,0),(12,0),(13,0),(14,0),(15,0),(16,0),(17,0),(18,0),(19,4),(20,0),(21,0)] [] ?_|refine ZA 5 [] [(0,0),(1,0),(2,0),(3,0),(4,0),(5,0),(6,0),(7,0),(8,0),(9,0),(10,0),(11,0),(12,0),(13,4),(14,0),(15,0)] [] ?_|refine ZA 6 [Ax _ _ _ _ _] [(0,0),(1,0),(2,0),(3,0),(4,0),(5,0),(6,0),(7,0),(8,0),(9,0),(10,0),(11,0),(12,0),(14,0),(15,0),(16,0),(17,0),(18,0),(13,3),(19,3),(20,0),(21,4),(22,0)] [23] ?_|(refine ZG (fun hc=>?_) (fun hc=>?_)<;>(try simp at hc)<;>(try omega))|fail)
    ·exact Ym (Yx (YD ⟨m,h3,f1 (by omega)⟩ rfl trivial))
    ·obtain ⟨g1,g2,g3⟩:=f2 (by omega)
     exact Zb ⟨(2 * x+2,sw m (f+x) (f+(2 * x+2))),by show lo≤2 * x+2;omega,by show 2 * x+2≤_;omega,g1,g2,g3⟩ (by show hi - (2 * x+2)<hi - x;omega) ⟨rfl,rfl,rfl,rfl,rfl,trivial⟩
   ·obtain ⟨f1,f2⟩:=fin (2 * x+1) (.inl rfl) h0 (fun z hz hzh=>by
     rcases hz with rfl|rfl
     ·exact W.i _
     ·exact h7)
    repeat' (first|refine ZE ?_|refine ZD ?_|refine ZF ?_|refine ZT ?_|refine ZZ ?_|refine ZU ?_|rw [w1]|rw [w2]|refine ZY (m:=n) (f+x) hi0 ?_|refine ZY (m:=n) (f+(2 * x+1)) hi1 ?_|refine ZY (m:=n) (f+(2 * x+2)) hi2 ?_|refine Zc 7 (f+x) 0 (ZI ki0) ?_|refine Zc 7 (f+(2 * x+1)) 0 (ZI ki1) ?_|refine Zc 7 (f+(2 * x+2)) 0 (ZI ki2) ?_|refine Ze 7 (f+x) 0 (ZI ki0) ?_|refine Ze 7 (f+(2 * x+1)) 0 (ZI ki1) ?_|refine Z3 7 (f+x) 0 (gt m (f+(2 * x+1))) (ZI ki0) hq1 ?_|refine Zv 7 (f+(2 * x+1)) 0 (gt m (f+x)) (ZI (kx1 _)) (hq2 _) ?_|refine Zi sp3 (fun _ _=>?_)|refine Zi sp1 (fun _ _=>?_)|(refine ZP (fun hc=>?_) (fun hc=>?_)<;>(try simp at hc)<;>(try omega))|refine ZA 3 [] [(0,0),(1,0),(2,0),(3,0),(4,0),(5,0),(6,0),(7,0),(8,0),(9,0),(10,0),(11,0),(12,0),(13,0),(14,0),(15,0),(16,0),(17,0),(18,0),(19,4),(20,0),(21,0)] [] ?_|refine ZA 5 [] [(0,0),(1,0),(2,0),(3,0),(4,0),(5,0),(6,0),(7,0),(8,0),(9,0),(10,0),(11,0),(12,0),(13,4),(14,0),(15,0)] [] ?_|refine ZA 6 [Ax _ _ _ _ _] [(0,0),(1,0),(2,0),(3,0),(4,0),(5,0),(6,0),(7,0),(8,0),(9,0),(10,0),(11,0),(12,0),(14,0),(15,0),(16,0),(17,0),(18,0),(13,3),(19,3),(20,0),(21,4),(22,0)] [23] ?_|(refine ZG (fun hc=>?_) (fun hc=>?_)<;>(try simp at hc)<;>(try omega))|fail)
    ·exact Ym (Yx (YD ⟨m,h3,f1 (by omega)⟩ rfl trivial))
    ·obtain ⟨g1,g2,g3⟩:=f2 (by omega)
     exact Zb ⟨(2 * x+1,sw m (f+x) (f+(2 * x+1))),by show lo≤2 * x+1;omega,by show 2 * x+1≤_;omega,g1,g2,g3⟩ (by show hi - (2 * x+1)<hi - x;omega) ⟨rfl,rfl,rfl,rfl,rfl,trivial⟩
  ·obtain ⟨f1,f2⟩:=fin (2 * x+1) (.inl rfl) h0 (fun z hz hzh=>by
    rcases hz with rfl|rfl
    ·exact W.i _
    ·omega)
   repeat' (first|refine ZE ?_|refine ZD ?_|refine ZF ?_|refine ZB ?_|refine ZT ?_|refine ZZ ?_|refine ZU ?_|rw [w1]|rw [w2]|refine ZY (m:=n) (f+x) hi0 ?_|refine ZY (m:=n) (f+(2 * x+1)) hi1 ?_|refine Zc 7 (f+x) 0 (ZI ki0) ?_|refine Zc 7 (f+(2 * x+1)) 0 (ZI ki1) ?_|refine Ze 7 (f+x) 0 (ZI ki0) ?_|refine Ze 7 (f+(2 * x+1)) 0 (ZI ki1) ?_|refine Z3 7 (f+x) 0 (gt m (f+(2 * x+1))) (ZI ki0) hq1 ?_|refine Zv 7 (f+(2 * x+1)) 0 (gt m (f+x)) (ZI (kx1 _)) (hq2 _) ?_|refine Zi sp1 (fun _ _=>?_)|(refine ZP (fun hc=>?_) (fun hc=>?_)<;>(try simp at hc)<;>(try omega))|refine ZA 3 [] [(0,0),(1,0),(2,0),(3,0),(4,0),(5,0),(6,0),(7,0),(8,0),(9,0),(10,0),(11,0),(12,0),(13,0),(14,0),(15,0),(16,0),(17,0),(18,0),(19,4),(20,0),(21,0)] [] ?_|refine ZA 5 [] [(0,0),(1,0),(2,0),(3,0),(4,0),(5,0),(6,0),(7,0),(8,0),(9,0),(10,0),(11,0),(12,0),(13,4),(14,0),(15,0)] [] ?_|refine ZA 6 [Ax _ _ _ _ _] [(0,0),(1,0),(2,0),(3,0),(4,0),(5,0),(6,0),(7,0),(8,0),(9,0),(10,0),(11,0),(12,0),(14,0),(15,0),(16,0),(17,0),(18,0),(13,3),(19,3),(20,0),(21,4),(22,0)] [23] ?_|(refine ZG (fun hc=>?_) (fun hc=>?_)<;>(try simp at hc)<;>(try omega))|fail)
   ·exact Ym (Yx (YD ⟨m,h3,f1 (by omega)⟩ rfl trivial))
   ·obtain ⟨g1,g2,g3⟩:=f2 (by omega)
    exact Zb ⟨(2 * x+1,sw m (f+x) (f+(2 * x+1))),by show lo≤2 * x+1;omega,by show 2 * x+1≤_;omega,g1,g2,g3⟩ (by show hi - (2 * x+1)<hi - x;omega) ⟨rfl,rfl,rfl,rfl,rfl,trivial⟩
 ·repeat' (first|refine ZE ?_|refine ZD ?_|refine ZF ?_|refine ZW ?_|rw [w1]|(refine ZG (fun hc=>?_) (fun hc=>?_)<;>(try simp at hc)<;>(try omega))|fail)
  exact Yc ⟨m,h3,h4.stop fun j h1 h2=>by omega⟩ rfl trivial
end
section
variable (bk cap:Nat) (q:List Value×(Nat×Nat)) (fv:FuncId) (Fc:Pf) (c:Ch→Ch→Int) (W:Wk0 c) (U:Ch→Prop) (hcmp:∀x y,U x→U y→Enters fv∧Spec prog fv #[x.v,y.v] [Fc] [] (RetV (.int .i64 (c x y))))
include hcmp W in
set_option maxHeartbeats 4000000 in
theorem heapC_ok (l:List Ch) (n:Nat) (hn:n=l.length) (hn2:n≤1000000) (hq:AxOK (n * 7) q) (hU:∀x ∈ l,U x) (a b:Nat) (hab:a<b) (hb:b≤n) :
  Enters 174∧Spec prog 174 #[.slice (some ⟨bk,0,none⟩) n cap,.int .i64 (a:Int),.int .i64 (b:Int),.func (.func fv) #[] #[]] [Fc] [Ax 108 chf bk l q]
   ⟨{l':List Ch // Win a b l l'∧Sw c a b l'},fun _=>.tuple #[],fun _=>True,fun _=>[],fun l'=>[Ax 108 chf bk l'.1 q]⟩:=by
 have w0:IntKind.i64.wrap ((b:Int) - (a:Int))=((b - a:Nat):Int):=by rw [wrapi (by omega) (by omega)];omega
 obtain ⟨N,hN⟩:∃N,N=b - a:=⟨_,rfl⟩
 rw [←hN] at w0
 have hbN:b=a+N:=by omega
 obtain ⟨p,hp⟩:∃p,p=(N - 1) / 2:=⟨_,rfl⟩
 have w1:IntKind.i64.wrap ((IntKind.i64.wrap ((N:Int) - 1)).tdiv 2)=(p:Int):=by
  rw [wrapi (z:=(N:Int) - 1) (by omega) (by omega)]
  have:((N:Int) - 1).tdiv 2=(p:Int):=by
   rw [show (N:Int) - 1=((N - 1:Nat):Int) by omega,hp];exact (Int.ofNat_tdiv _ _).symm
  rw [this,wrapi (by omega) (by omega)]
 refine ZM [_,_,_,_] func174 ntmps174 fun G w hp=>?_
 repeat' (first|refine ZE ?_|refine ZD ?_|refine ZF ?_|rw [w0]|rw [w1]|fail)
 refine Yw (Y:={m:List Ch // Win a b l m∧He c a 0 N m}) (X:={t:Nat×List Ch // t.1≤p+1∧Win a b l t.2∧He c a t.1 N t.2})
  (fun t=>[(0,.slice (some ⟨bk,0,none⟩) n cap),(3,.func (.func fv) #[] #[]),(8,.int .i64 (a:Int)),(9,.int .i64 0),(10,.int .i64 (N:Int)),(11,.int .i64 ((t.1.1:Int) - 1))]) (fun _=>[Fc]) (fun t=>[Ax 108 chf bk t.1.2 q]) (fun t=>t.1.1)
  (fun _=>[(0,.slice (some ⟨bk,0,none⟩) n cap),(3,.func (.func fv) #[] #[]),(8,.int .i64 (a:Int)),(9,.int .i64 0),(10,.int .i64 (N:Int))]) (fun _=>[Fc]) (fun m=>[Ax 108 chf bk m.1 q])
  ⟨(p+1,l),Nat.le_refl _,Win.refl,fun i j h1 h2 h3=>by omega⟩ ⟨rfl,rfl,rfl,rfl,rfl,(by show look _ _=some (Value.int .i64 (((p+1:Nat):Int) - 1));rw [show ((p+1:Nat):Int) - 1=(p:Int) by omega];rfl),trivial⟩ ?_ ?_
 rotate_left
 ·intro hx
  rintro ⟨⟨t,m⟩,h1,h2,h3⟩
  dsimp only at h1 h2 h3 ⊢
  have hl:=h2.len
  by_cases ht:t=0
  ·subst ht
   repeat' (first|refine ZE ?_|refine ZD ?_|refine ZF ?_|refine ZB ?_|fail)
   exact Z2 hx ⟨m,h2,h3⟩ ⟨rfl,rfl,rfl,rfl,rfl,trivial⟩
  ·obtain ⟨i,rfl⟩:∃i,t=i+1:=⟨t - 1,by omega⟩
   have e1:((i+1:Nat):Int) - 1=(i:Int):=by omega
   have w2:IntKind.i64.wrap ((i:Int) - 1)=(i:Int) - 1:=wrapi (by omega) (by omega)
   have s1:=siftC_ok bk cap q fv Fc c W U hcmp m n (by omega) hn2 hq (h2.sub hU) i N a (by omega) (by omega) (fun i' j' g1 g2 g3 g4=>h3 i' j' (by omega) g2 g3)
   rw [e1]
   repeat' (first|refine ZE ?_|refine ZD ?_|refine ZF ?_|refine ZH ?_|refine ZC (s1) (fun _ _=>?_)|rw [w2]|fail)
   rename_i l' _
   obtain ⟨l',g1,g2⟩:=l'
   exact Zb ⟨(i,l'),by show i≤p+1;omega,h2.trans (by rw [hbN];exact g1),g2⟩ (by show i<i+1;omega) ⟨rfl,rfl,rfl,rfl,rfl,rfl,trivial⟩
 rintro ⟨m,hm1,hm2⟩
 have w3:IntKind.i64.wrap ((N:Int) - 1)=(N:Int) - 1:=wrapi (by omega) (by omega)
 repeat' (first|refine ZE ?_|refine ZD ?_|refine ZF ?_|rw [w3]|fail)
 refine Z8 (X:={t:Nat×List Ch // t.1≤N∧Win a b l t.2∧Hs c a t.1 N t.2})
  (fun t=>[(0,.slice (some ⟨bk,0,none⟩) n cap),(3,.func (.func fv) #[] #[]),(8,.int .i64 (a:Int)),(9,.int .i64 0),(12,.int .i64 ((t.1.1:Int) - 1))]) (fun _=>[Fc]) (fun t=>[Ax 108 chf bk t.1.2 q]) (fun t=>t.1.1)
  ⟨(N,m),Nat.le_refl _,hm1,Hs.init hm2 (Nat.le_refl _)⟩ ⟨rfl,rfl,rfl,rfl,rfl,trivial⟩ ?_
 rintro ⟨⟨t,m'⟩,h1,h2,h3⟩
 dsimp only at h1 h2 h3 ⊢
 have hl:=h2.len
 by_cases ht:t=0
 ·subst ht
  repeat' (first|refine ZE ?_|refine ZD ?_|refine ZF ?_|refine ZB ?_|refine ZW ?_|fail)
  exact Yc ⟨m',h2,by rw [hbN];exact h3.done⟩ rfl trivial
 ·obtain ⟨i,rfl⟩:∃i,t=i+1:=⟨t - 1,by omega⟩
  have e1:((i+1:Nat):Int) - 1=(i:Int):=by omega
  have w2:IntKind.i64.wrap ((i:Int) - 1)=(i:Int) - 1:=wrapi (by omega) (by omega)
  have hi:a<n:=by omega
  have hj:a+i<n:=by omega
  have ki:a<m'.length:=by omega
  have kj:a+i<m'.length:=by omega
  have kj2:a+i<(m'.set a (gt m' (a+i))).length:=by rw [List.length_set];exact kj
  have hq1:AxOK (m'.length * 7) q:=by rw [hl,←hn];exact hq
  have hq2:AxOK ((m'.set a (gt m' (a+i))).length * 7) q:=by rw [List.length_set];exact hq1
  have hsw:Win a b l (sw m' a (a+i)):=h2.trans (Win.sw (by omega) hab (by omega) (by omega) (by omega))
  have s1:=siftC_ok bk cap q fv Fc c W U hcmp (sw m' a (a+i)) n (by rw [sw_len];omega) hn2 hq (hsw.sub hU) 0 i a (by omega) (by omega) (fun i' j' g1 g2 g3 g4=>by
   rw [WG ki kj,WG ki kj,if_neg (by omega),if_neg (by omega),if_neg (by omega),if_neg (by omega)]
   exact h3.he i' j' g1 g2 (by omega))
  rw [e1]
  repeat' (first|refine ZE ?_|refine ZD ?_|refine ZF ?_|refine ZH ?_|refine ZT ?_|refine ZU ?_|refine ZC (s1) (fun _ _=>?_)|refine ZY (m:=n) (a) hi ?_|refine ZY (m:=n) (a+i) hj ?_|refine Ze 7 (a) 0 (ZI ki) ?_|refine Ze 7 (a+i) 0 (ZI kj) ?_|refine Z3 7 (a) 0 (gt m' (a+i)) (ZI ki) hq1 ?_|refine Zv 7 (a+i) 0 (gt m' (a)) (ZI kj2) hq2 ?_|rw [w2]|refine ZA 10 [Ax _ _ _ _ _] [(0,0),(1,0),(2,0),(3,0),(4,0),(5,0),(6,0),(7,0),(8,0),(9,0),(10,0),(12,0),(13,0),(14,0),(11,3),(15,3),(16,0),(17,4),(18,0)] [19] ?_|fail)
  rename_i l' _
  obtain ⟨l',g1,g2⟩:=l'
  exact Zb ⟨(i,l'),by show i≤N;omega,hsw.trans (g1.mono (Nat.le_refl _) (by omega)),h3.pop W (by omega) (by omega) g1 g2⟩ (by show i<i+1;omega) ⟨rfl,rfl,rfl,rfl,rfl,trivial⟩
end
section
variable {α:Type} [Inhabited α] {a b i j:Nat} {P:α} {A:α→Prop} {l m:List α}
structure Pin (A:α→Prop) (a b i j:Nat) (P:α) (l m:List α):Prop where
 w:Win a b l m
 h1:a<i
 h2:i≤j+1
 h3:j<b
 pa:gt m a=P
 lo:∀k,a<k→k<i→A (gt m k)
 hi:∀k,j<k→k<b→¬A (gt m k)
theorem Pin.init {p:Nat} (hp1:a≤p) (hp2:p<b) (hb:b≤l.length) (h:a+1<b):Pin A a b (a+1) (b - 1) (gt l p) l (sw l a p) where
 w:=Win.sw (Nat.le_refl _) (by omega) hp1 hp2 hb
 h1:=by omega
 h2:=by omega
 h3:=by omega
 pa:=by
  rw [WG (by omega) (by omega)]
  split
  ·rename_i h;rw [h]
  ·rw [if_pos rfl]
 lo:=fun k h1 h2=>by omega
 hi:=fun k h1 h2=>by omega
theorem Pin.ii (h:Pin A a b i j P l m) (hij:i≤j) (hA:A (gt m i)):Pin A a b (i+1) j P l m:=
 ⟨h.w,by have:=h.h1;omega,by omega,h.h3,h.pa,fun k h1 h2=>by
  by_cases hk:k=i
  ·rw [hk];exact hA
  ·exact h.lo k h1 (by omega),h.hi⟩
theorem Pin.jj (h:Pin A a b i j P l m) (hij:i≤j) (hA:¬A (gt m j)):Pin A a b i (j - 1) P l m:=
 ⟨h.w,h.h1,by have:=h.h1;omega,by have:=h.h3;omega,h.pa,h.lo,fun k h1 h2=>by
  by_cases hk:k=j
  ·rw [hk];exact hA
  ·exact h.hi k (by have:=h.h1;omega) h2⟩
theorem Pin.sw (h:Pin A a b i j P l m) (hb:b≤l.length) (hij:i<j) (hi:¬A (gt m i)) (hj:A (gt m j)):Pin A a b (i+1) (j - 1) P l (sw m i j):=by
 have h1:=h.h1
 have h3:=h.h3
 have hl:=h.w.len
 have g:=fun k=>WG (l:=m) (i:=i) (j:=j) (k:=k) (by omega) (by omega)
 refine ⟨h.w.trans (Win.sw (by omega) (by omega) (by omega) h3 (by omega)),by omega,by omega,by omega,?_,fun k k1 k2=>?_,fun k k1 k2=>?_⟩
 ·rw [g,if_neg (by omega),if_neg (by omega)];exact h.pa
 ·rw [g,if_neg (by omega)]
  by_cases hk:k=i
  ·rw [if_pos hk];exact hj
  ·rw [if_neg hk];exact h.lo k k1 (by omega)
 ·rw [g]
  by_cases hk:k=j
  ·rw [if_pos hk];exact hi
  ·rw [if_neg hk,if_neg (by omega)];exact h.hi k (by omega) k2
theorem Pin.ne (_h:Pin A a b i j P l m) (hij:i≤j) (hi:¬A (gt m i)) (hj:A (gt m j)):i<j:=by
 by_cases he:i=j
 ·rw [he] at hi;exact absurd hj hi
 ·omega
theorem Pin.part {c:α→α→Int} (h:Pin (fun x=>c x P<0) a b i j P l m) (hb:b≤l.length) (hij:j<i):Win a b l (Go.Proofs.YtdkndahndgkmnaaGreatDoor.sw m j a)∧Pt0 c a b j (Go.Proofs.YtdkndahndgkmnaaGreatDoor.sw m j a):=by
 have h1:=h.h1
 have h2:=h.h2
 have h3:=h.h3
 have hl:=h.w.len
 have g:=fun k=>WG (l:=m) (i:=j) (j:=a) (k:=k) (by omega) (by omega)
 have gj:gt (Go.Proofs.YtdkndahndgkmnaaGreatDoor.sw m j a) j=P:=by
  rw [g]
  by_cases hja:j=a
  ·rw [if_pos hja,hja];exact h.pa
  ·rw [if_neg hja,if_pos rfl];exact h.pa
 refine ⟨h.w.trans (Win.sw (by omega) h3 (Nat.le_refl _) (by omega) (by omega)),by omega,h3,fun k k1 k2=>?_,fun k k1 k2=>?_⟩
 ·rw [gj,g]
  by_cases hka:k=a
  ·rw [if_pos hka];exact h.lo j (by omega) (by omega)
  ·rw [if_neg hka,if_neg (by omega)];exact h.lo k (by omega) (by omega)
 ·rw [gj,g,if_neg (by omega),if_neg (by omega)];exact h.hi k k1 k2
variable {c:α→α→Int} {l' m1 m2:List α}
theorem Lw.win (h:Lw c a b l) (hw:Win a b l l') (hb:b≤l.length):Lw c a b l':=fun h0 k h1 h2=>by
 rw [hw.out (a - 1) (by omega)]
 exact hw.all hb (P:=fun x=>¬c x (gt l (a - 1))<0) (fun k h3 h4=>h h0 k h3 h4) k h1 h2
theorem Sw.snoc (W:Wk0 c) (h:Sw c a i m) (hai:a<i) (hc:¬c (gt m i) (gt m (i - 1))<0):Sw c a (i+1) m:=fun p q h1 h2 h3=>by
 by_cases hq:q=i
 ·subst hq
  by_cases hp:p=q - 1
  ·rw [hp];exact hc
  ·exact W.t _ _ _ (h p (q - 1) h1 (by omega) (by omega)) hc
 ·exact h p q h1 h2 (by omega)
def Lsh (c:α→α→Int) (a i j:Nat) (m:List α):Prop:=∀p q,a≤p→p<q→q<i→q≠j→¬c (gt m q) (gt m p)<0
theorem Lsh.init (h:Sw c a i m) (hi:i<m.length) (_ha:a<i):Lsh c a i (i - 1) (Go.Proofs.YtdkndahndgkmnaaGreatDoor.sw m i (i - 1)):=fun p q h1 h2 h3 h4=>by
 rw [WG hi (by omega),WG hi (by omega),if_neg (by omega),if_neg (by omega),if_neg (by omega),if_neg (by omega)]
 exact h p q h1 h2 (by omega)
theorem Lsh.step (W:Wk0 c) (h:Lsh c a i j m) (ha:a<j) (hj:j<i) (hi:i≤m.length) (hc:c (gt m j) (gt m (j - 1))<0):Lsh c a i (j - 1) (Go.Proofs.YtdkndahndgkmnaaGreatDoor.sw m j (j - 1)):=fun p q h1 h2 h3 h4=>by
 have g:=fun k=>WG (l:=m) (i:=j) (j:=j - 1) (k:=k) (by omega) (by omega)
 rw [g p,g q,if_neg h4]
 by_cases hq:q=j
 ·subst hq
  rw [if_pos rfl]
  by_cases hp:p=q - 1
  ·rw [if_pos hp];exact W.a _ _ hc
  ·rw [if_neg hp,if_neg (by omega)]
   exact h p (q - 1) h1 (by omega) (by omega) (by omega)
 ·rw [if_neg hq]
  by_cases hp:p=j - 1
  ·rw [if_pos hp]
   exact h j q (by omega) (by omega) h3 (by omega)
  ·rw [if_neg hp]
   by_cases hp2:p=j
   ·rw [if_pos hp2]
    exact h (j - 1) q (by omega) (by omega) h3 (by omega)
   ·rw [if_neg hp2]
    exact h p q h1 h2 h3 (by omega)
theorem Lsh.stop (W:Wk0 c) (h:Lsh c a i j m) (hc:a<j→¬c (gt m j) (gt m (j - 1))<0):Sw c a i m:=fun p q h1 h2 h3=>by
 by_cases hq:q=j
 ·subst hq
  have h5:=hc (by omega)
  by_cases hp:p=q - 1
  ·rw [hp];exact h5
  ·exact W.t _ _ _ (h p (q - 1) h1 (by omega) (by omega) (by omega)) h5
 ·exact h p q h1 h2 h3 hq
theorem Sw.out (h:Sw c a i m1) (hw:Win i b m1 m2):Sw c a i m2:=fun p q h1 h2 h3=>by
 rw [hw.out p (by omega),hw.out q (by omega)]
 exact h p q h1 h2 h3
theorem Sw.srdn {n:Nat} (hn:l.length=n) (h:Sw c 0 n l):Srd c l:=by
 subst hn;exact h.srd
end
section
variable (bk cap:Nat) (q:List Value×(Nat×Nat)) (fv:FuncId) (Fc:Pf) (c:Ch→Ch→Int) (W:Wk0 c) (U:Ch→Prop) (hcmp:∀x y,U x→U y→Enters fv∧Spec prog fv #[x.v,y.v] [Fc] [] (RetV (.int .i64 (c x y))))
include hcmp in
set_option maxHeartbeats 8000000 in
theorem partC_ok (l:List Ch) (n:Nat) (hn:n=l.length) (hn2:n≤1000000) (hq:AxOK (n * 7) q) (hU:∀x ∈ l,U x) (a bb p:Nat) (hab:a+12<bb) (hb:bb≤n) (hp1:a≤p) (hp2:p<bb) :
  Enters 180∧Spec prog 180 #[.slice (some ⟨bk,0,none⟩) n cap,.int .i64 (a:Int),.int .i64 (bb:Int),.int .i64 (p:Int),.func (.func fv) #[] #[]] [Fc] [Ax 108 chf bk l q]
   ⟨{t:Nat×Bool×List Ch // Win a bb l t.2.2∧Pt0 c a bb t.1 t.2.2},fun t=>.tuple #[.int .i64 (t.1.1:Int),.bool t.1.2.1],fun _=>True,fun _=>[],fun t=>[Ax 108 chf bk t.1.2.2 q]⟩:=by
 have w0:IntKind.i64.wrap ((a:Int)+1)=((a+1:Nat):Int):=by simp (disch:=omega) only [wrapi];omega
 have w1:IntKind.i64.wrap ((bb:Int) - 1)=((bb - 1:Nat):Int):=by simp (disch:=omega) only [wrapi];omega
 have wi:∀i,i<n→IntKind.i64.wrap ((i:Int)+1)=((i+1:Nat):Int):=fun i hi=>by simp (disch:=omega) only [wrapi];omega
 have wj:∀j,0<j→j<n→IntKind.i64.wrap ((j:Int) - 1)=((j - 1:Nat):Int):=fun j h0 hi=>by simp (disch:=omega) only [wrapi];omega
 have hia:a<n:=by omega
 have hip:p<n:=by omega
 have kia:a<l.length:=by omega
 have kip:p<l.length:=by omega
 have kip2:p<(l.set a (gt l p)).length:=by rw [List.length_set];exact kip
 have hql:AxOK (l.length * 7) q:=by rw [←hn];exact hq
 have hql2:AxOK ((l.set a (gt l p)).length * 7) q:=by rw [List.length_set];exact hql
 have hUP:U (gt l p):=hU _ (Zo kip)
 have hin0:=fun A:Ch→Prop=>Pin.init (A:=A) (l:=l) (a:=a) (b:=bb) hp1 hp2 (by omega) (by omega)
 obtain ⟨P,hP⟩:∃P,P=gt l p:=⟨_,rfl⟩
 rw [←hP] at hUP hin0
 obtain ⟨m,hm0⟩:∃m,m=sw l a p:=⟨_,rfl⟩
 rw [←hm0] at hin0
 have hin:=hin0 (fun x=>c x P<0)
 clear hin0
 refine ZM [_,_,_,_,_] func180 ntmps180 fun G w hp=>?_
 repeat' (first|refine ZE ?_|refine ZD ?_|refine ZF ?_|refine ZT ?_|refine ZU ?_|refine ZY (m:=n) (a) hia ?_|refine ZY (m:=n) (p) hip ?_|refine Ze 7 (a) 0 (ZI kia) ?_|refine Ze 7 (p) 0 (ZI kip) ?_|refine Z3 7 (a) 0 (gt l (p)) (ZI kia) hql ?_|refine Zv 7 (p) 0 (gt l (a)) (ZI kip2) hql2 ?_|rw [w0]|rw [w1]|refine ZA 1 [Ax _ _ _ _ _] [(0,0),(1,0),(2,0),(3,0),(4,0),(5,0),(6,0),(8,0),(9,0),(10,0),(7,3),(11,3),(12,0),(13,4),(14,0)] [15] ?_|fail)
 refine k_ax m hm0.symm ?_
 clear hm0 kip2 hql2
 obtain ⟨jz,hjz⟩:∃jz,jz=(bb - 1):=⟨_,rfl⟩
 rw [←hjz] at hin
 have hm:=hin.w.len
 have ga:m[a]? = some P:=by rw [←hin.pa];exact ZI (by omega)
 have hUm:=hin.w.sub hU
 refine Yw (Y:={i:Nat // (a+1)≤i∧Pin (fun x=>c x P<0) a bb i jz P l m∧(i≤jz→¬(fun x=>c x P<0) (gt m i))}) (X:={i:Nat // (a+1)≤i∧Pin (fun x=>c x P<0) a bb i jz P l m}) (fun i=>[(0,.slice (some ⟨bk,0,none⟩) n cap),(1,.int .i64 (a:Int)),(4,.func (.func fv) #[] #[]),(12,.int .i64 ((i.1:Nat):Int)),(13,.int .i64 ((jz:Nat):Int))]) (fun _=>[Fc]) (fun _=>[Ax 108 chf bk m q]) (fun i=>bb+1 - i.1) (fun i=>[(0,.slice (some ⟨bk,0,none⟩) n cap),(1,.int .i64 (a:Int)),(4,.func (.func fv) #[] #[]),(12,.int .i64 ((i.1:Nat):Int)),(13,.int .i64 ((jz:Nat):Int))]) (fun _=>[Fc]) (fun _=>[Ax 108 chf bk m q]) ⟨(a+1),Nat.le_refl _,hin⟩ ⟨rfl,rfl,rfl,rfl,(by show look _ _=some (Value.int .i64 ((jz:Nat):Int));rw [hjz];rfl),trivial⟩ ?_ ?_
 rotate_left
 ·intro hx
  rintro ⟨i,hi0,hp⟩
  dsimp only at hi0 hp ⊢
  have k1:=hp.h1
  have k2:=hp.h2
  have k3:=hp.h3
  generalize jz=j at *
  by_cases hij:i≤j
  ·have hi:i<n:=by omega
   have hj:j<n:=by omega
   have ha:a<n:=by omega
   have gi:m[i]? = some (gt m i):=ZI (by omega)
   have gj:m[j]? = some (gt m j):=ZI (by omega)
   have sp:=hcmp (gt m i) P (hUm _ (Zo (by omega))) hUP
   by_cases hA:c (gt m i) P<0
   ·repeat' (first|refine ZE ?_|refine ZD ?_|refine ZF ?_|refine ZT ?_|refine ZZ ?_|refine ZU ?_|rw [wi i hi]|refine ZY (m:=n) (i) hi ?_|refine ZY (m:=n) (a) ha ?_|refine Zc 7 (i) 0 gi ?_|refine Zc 7 (a) 0 ga ?_|refine Zi sp (fun _ _=>?_)|(refine ZP (fun hc=>?_) (fun hc=>?_)<;>(try simp at hc)<;>(try omega))|refine ZA 3 [] [(0,0),(1,0),(2,0),(3,0),(4,0),(5,0),(6,0),(7,0),(8,0),(9,0),(10,0),(11,0),(12,0),(13,4),(14,0),(15,0)] [] ?_|(refine ZG (fun hc=>?_) (fun hc=>?_)<;>(try simp at hc)<;>(try omega))|fail)
    exact Zb ⟨i+1,by omega,hp.ii hij (hA)⟩ (by show bb+1 - (i+1)<bb+1 - i;omega) ⟨rfl,rfl,rfl,rfl,rfl,trivial⟩
   ·repeat' (first|refine ZD ?_|refine ZT ?_|refine ZZ ?_|refine ZU ?_|refine ZY (m:=n) (i) hi ?_|refine ZY (m:=n) (a) ha ?_|refine Zc 7 (i) 0 gi ?_|refine Zc 7 (a) 0 ga ?_|refine Zi sp (fun _ _=>?_)|(refine ZP (fun hc=>?_) (fun hc=>?_)<;>(try simp at hc)<;>(try omega))|refine ZA 3 [] [(0,0),(1,0),(2,0),(3,0),(4,0),(5,0),(6,0),(7,0),(8,0),(9,0),(10,0),(11,0),(12,0),(13,4),(14,0),(15,0)] [] ?_|(refine ZG (fun hc=>?_) (fun hc=>?_)<;>(try simp at hc)<;>(try omega))|fail)
    exact Z2 hx ⟨i,by omega,hp,fun _=>(hA)⟩ ⟨rfl,rfl,rfl,rfl,rfl,trivial⟩
  ·repeat' (first|refine ZD ?_|refine ZB ?_|refine ZT ?_|refine ZZ ?_|refine ZU ?_|(refine ZP (fun hc=>?_) (fun hc=>?_)<;>(try simp at hc)<;>(try omega))|refine ZA 3 [] [(0,0),(1,0),(2,0),(3,0),(4,0),(5,0),(6,0),(7,0),(8,0),(9,0),(10,0),(11,0),(12,0),(13,4),(14,0),(15,0)] [] ?_|fail)
   exact Z2 hx ⟨i,by omega,hp,fun h=>absurd h hij⟩ ⟨rfl,rfl,rfl,rfl,rfl,trivial⟩
 rintro ⟨i,hi0,hp0,hAi⟩
 dsimp only at hi0 hp0 hAi ⊢
 refine Yw (Y:={j:Nat // j≤jz∧Pin (fun x=>c x P<0) a bb i j P l m∧(i≤j→(fun x=>c x P<0) (gt m j))}) (X:={j:Nat // j≤jz∧Pin (fun x=>c x P<0) a bb i j P l m}) (fun j=>[(0,.slice (some ⟨bk,0,none⟩) n cap),(1,.int .i64 (a:Int)),(4,.func (.func fv) #[] #[]),(12,.int .i64 ((i:Nat):Int)),(13,.int .i64 ((j.1:Nat):Int))]) (fun _=>[Fc]) (fun _=>[Ax 108 chf bk m q]) (fun j=>j.1) (fun j=>[(0,.slice (some ⟨bk,0,none⟩) n cap),(1,.int .i64 (a:Int)),(4,.func (.func fv) #[] #[]),(12,.int .i64 ((i:Nat):Int)),(13,.int .i64 ((j.1:Nat):Int))]) (fun _=>[Fc]) (fun _=>[Ax 108 chf bk m q]) ⟨jz,Nat.le_refl _,hp0⟩ ⟨rfl,rfl,rfl,rfl,rfl,trivial⟩ ?_ ?_
 rotate_left
 ·intro hx
  rintro ⟨j,hj0,hp⟩
  dsimp only at hj0 hp ⊢
  have k1:=hp.h1
  have k2:=hp.h2
  have k3:=hp.h3
  by_cases hij:i≤j
  ·have hi:i<n:=by omega
   have hj:j<n:=by omega
   have ha:a<n:=by omega
   have gi:m[i]? = some (gt m i):=ZI (by omega)
   have gj:m[j]? = some (gt m j):=ZI (by omega)
   have sp:=hcmp (gt m j) P (hUm _ (Zo (by omega))) hUP
   by_cases hA:c (gt m j) P<0
   ·repeat' (first|refine ZD ?_|refine ZT ?_|refine ZZ ?_|refine ZU ?_|refine ZY (m:=n) (j) hj ?_|refine ZY (m:=n) (a) ha ?_|refine Zc 7 (j) 0 gj ?_|refine Zc 7 (a) 0 ga ?_|refine Zi sp (fun _ _=>?_)|(refine ZP (fun hc=>?_) (fun hc=>?_)<;>(try simp at hc)<;>(try omega))|refine ZA 5 [] [(0,0),(1,0),(2,0),(3,0),(4,0),(5,0),(6,0),(7,0),(8,0),(9,0),(10,0),(11,0),(12,0),(13,4),(14,0),(15,0),(16,0)] [] ?_|(refine ZG (fun hc=>?_) (fun hc=>?_)<;>(try simp at hc)<;>(try omega))|fail)
    exact Z2 hx ⟨j,by omega,hp,fun _=>(hA)⟩ ⟨rfl,rfl,rfl,rfl,rfl,trivial⟩
   ·repeat' (first|refine ZE ?_|refine ZD ?_|refine ZF ?_|refine ZT ?_|refine ZZ ?_|refine ZU ?_|rw [wj j (by omega) hj]|refine ZY (m:=n) (j) hj ?_|refine ZY (m:=n) (a) ha ?_|refine Zc 7 (j) 0 gj ?_|refine Zc 7 (a) 0 ga ?_|refine Zi sp (fun _ _=>?_)|(refine ZP (fun hc=>?_) (fun hc=>?_)<;>(try simp at hc)<;>(try omega))|refine ZA 5 [] [(0,0),(1,0),(2,0),(3,0),(4,0),(5,0),(6,0),(7,0),(8,0),(9,0),(10,0),(11,0),(12,0),(13,4),(14,0),(15,0),(16,0)] [] ?_|(refine ZG (fun hc=>?_) (fun hc=>?_)<;>(try simp at hc)<;>(try omega))|fail)
    exact Zb ⟨j - 1,by omega,hp.jj hij (hA)⟩ (by show j - 1<j;omega) ⟨rfl,rfl,rfl,rfl,rfl,trivial⟩
  ·repeat' (first|refine ZD ?_|refine ZB ?_|refine ZT ?_|refine ZZ ?_|refine ZU ?_|(refine ZP (fun hc=>?_) (fun hc=>?_)<;>(try simp at hc)<;>(try omega))|refine ZA 5 [] [(0,0),(1,0),(2,0),(3,0),(4,0),(5,0),(6,0),(7,0),(8,0),(9,0),(10,0),(11,0),(12,0),(13,4),(14,0),(15,0),(16,0)] [] ?_|fail)
   exact Z2 hx ⟨j,by omega,hp,fun h=>absurd h hij⟩ ⟨rfl,rfl,rfl,rfl,rfl,trivial⟩
 rintro ⟨j,hj0,hp,hAj⟩
 dsimp only at hj0 hp hAj ⊢
 have k1:=hp.h1
 have k2:=hp.h2
 have k3:=hp.h3
 have hj:j<n:=by omega
 have kj:j<m.length:=by omega
 have hqm:AxOK (m.length * 7) q:=by rw [hm,←hn];exact hq
 have hqm2:∀k y,AxOK ((m.set k y).length * 7) q:=fun k y=>by rw [List.length_set];exact hqm
 by_cases hij:i≤j
 ·have hij2:=hp.ne hij (hAi (by omega)) (hAj hij)
  have hi:i<n:=by omega
  have ki:i<m.length:=by omega
  have kj2:j<(m.set i (gt m j)).length:=by rw [List.length_set];exact kj
  repeat' (first|refine ZE ?_|refine ZD ?_|refine ZF ?_|refine ZT ?_|refine ZU ?_|rw [wi i hi]|rw [wj j (by omega) hj]|refine ZY (m:=n) (i) hi ?_|refine ZY (m:=n) (j) hj ?_|refine Ze 7 (i) 0 (ZI ki) ?_|refine Ze 7 (j) 0 (ZI kj) ?_|refine Z3 7 (i) 0 (gt m (j)) (ZI ki) hqm ?_|refine Zv 7 (j) 0 (gt m (i)) (ZI kj2) (hqm2 _ _) ?_|refine ZA 10 [Ax _ _ _ _ _] [(0,0),(1,0),(2,0),(3,0),(4,0),(5,0),(6,0),(8,0),(9,0),(10,0),(7,3),(11,3),(12,0),(13,4),(14,0)] [15] ?_|(refine ZG (fun hc=>?_) (fun hc=>?_)<;>(try simp at hc)<;>(try omega))|fail)
  refine Z8 (X:={t:Nat×Nat×List Ch // Pin (fun x=>c x P<0) a bb t.1 t.2.1 P l t.2.2}) (fun t=>[(0,.slice (some ⟨bk,0,none⟩) n cap),(1,.int .i64 (a:Int)),(4,.func (.func fv) #[] #[]),(12,.int .i64 (t.1.1:Int)),(13,.int .i64 (t.1.2.1:Int))]) (fun _=>[Fc]) (fun t=>[Ax 108 chf bk t.1.2.2 q]) (fun t=>t.1.2.1+1 - t.1.1) ⟨(i+1,j - 1,sw m i j),hp.sw (by omega) hij2 (hAi (by omega)) (hAj hij)⟩ ⟨rfl,rfl,rfl,rfl,rfl,trivial⟩ ?_
  clear hc hin ga hUm hi0 hp0 hAi hj0 hp hAj k1 k2 k3 hj kj hqm hqm2 hij hij2 hi ki kj2 hm hjz
  clear i j m jz
  rintro ⟨⟨i0,j0,m⟩,hin⟩
  dsimp only at hin ⊢
  have q1:=hin.h1
  have q2:=hin.h2
  have q3:=hin.h3
  repeat' (first|fail)
  obtain ⟨jz,hjz⟩:∃jz,jz=j0:=⟨_,rfl⟩
  rw [←hjz] at hin
  have hm:=hin.w.len
  have ga:m[a]? = some P:=by rw [←hin.pa];exact ZI (by omega)
  have hUm:=hin.w.sub hU
  refine Yw (Y:={i:Nat // i0≤i∧Pin (fun x=>c x P<0) a bb i jz P l m∧(i≤jz→¬(fun x=>c x P<0) (gt m i))}) (X:={i:Nat // i0≤i∧Pin (fun x=>c x P<0) a bb i jz P l m}) (fun i=>[(0,.slice (some ⟨bk,0,none⟩) n cap),(1,.int .i64 (a:Int)),(4,.func (.func fv) #[] #[]),(12,.int .i64 ((i.1:Nat):Int)),(13,.int .i64 ((jz:Nat):Int))]) (fun _=>[Fc]) (fun _=>[Ax 108 chf bk m q]) (fun i=>bb+1 - i.1) (fun i=>[(0,.slice (some ⟨bk,0,none⟩) n cap),(1,.int .i64 (a:Int)),(4,.func (.func fv) #[] #[]),(12,.int .i64 ((i.1:Nat):Int)),(13,.int .i64 ((jz:Nat):Int))]) (fun _=>[Fc]) (fun _=>[Ax 108 chf bk m q]) ⟨i0,Nat.le_refl _,hin⟩ ⟨rfl,rfl,rfl,rfl,(by show look _ _=some (Value.int .i64 ((jz:Nat):Int));rw [hjz];rfl),trivial⟩ ?_ ?_
  rotate_left
  ·intro hx
   rintro ⟨i,hi0,hp⟩
   dsimp only at hi0 hp ⊢
   have k1:=hp.h1
   have k2:=hp.h2
   have k3:=hp.h3
   generalize jz=j at *
   by_cases hij:i≤j
   ·have hi:i<n:=by omega
    have hj:j<n:=by omega
    have ha:a<n:=by omega
    have gi:m[i]? = some (gt m i):=ZI (by omega)
    have gj:m[j]? = some (gt m j):=ZI (by omega)
    have sp:=hcmp (gt m i) P (hUm _ (Zo (by omega))) hUP
    by_cases hA:c (gt m i) P<0
    ·repeat' (first|refine ZE ?_|refine ZD ?_|refine ZF ?_|refine ZT ?_|refine ZZ ?_|refine ZU ?_|rw [wi i hi]|refine ZY (m:=n) (i) hi ?_|refine ZY (m:=n) (a) ha ?_|refine Zc 7 (i) 0 gi ?_|refine Zc 7 (a) 0 ga ?_|refine Zi sp (fun _ _=>?_)|(refine ZP (fun hc=>?_) (fun hc=>?_)<;>(try simp at hc)<;>(try omega))|refine ZA 13 [] [(0,0),(1,0),(2,0),(3,0),(4,0),(5,0),(6,0),(7,0),(8,0),(9,0),(10,0),(11,0),(12,0),(13,4),(14,0),(15,0)] [] ?_|(refine ZG (fun hc=>?_) (fun hc=>?_)<;>(try simp at hc)<;>(try omega))|fail)
     exact Zb ⟨i+1,by omega,hp.ii hij (hA)⟩ (by show bb+1 - (i+1)<bb+1 - i;omega) ⟨rfl,rfl,rfl,rfl,rfl,trivial⟩
    ·repeat' (first|refine ZD ?_|refine ZT ?_|refine ZZ ?_|refine ZU ?_|refine ZY (m:=n) (i) hi ?_|refine ZY (m:=n) (a) ha ?_|refine Zc 7 (i) 0 gi ?_|refine Zc 7 (a) 0 ga ?_|refine Zi sp (fun _ _=>?_)|(refine ZP (fun hc=>?_) (fun hc=>?_)<;>(try simp at hc)<;>(try omega))|refine ZA 13 [] [(0,0),(1,0),(2,0),(3,0),(4,0),(5,0),(6,0),(7,0),(8,0),(9,0),(10,0),(11,0),(12,0),(13,4),(14,0),(15,0)] [] ?_|(refine ZG (fun hc=>?_) (fun hc=>?_)<;>(try simp at hc)<;>(try omega))|fail)
     exact Z2 hx ⟨i,by omega,hp,fun _=>(hA)⟩ ⟨rfl,rfl,rfl,rfl,rfl,trivial⟩
   ·repeat' (first|refine ZD ?_|refine ZB ?_|refine ZT ?_|refine ZZ ?_|refine ZU ?_|(refine ZP (fun hc=>?_) (fun hc=>?_)<;>(try simp at hc)<;>(try omega))|refine ZA 13 [] [(0,0),(1,0),(2,0),(3,0),(4,0),(5,0),(6,0),(7,0),(8,0),(9,0),(10,0),(11,0),(12,0),(13,4),(14,0),(15,0)] [] ?_|fail)
    exact Z2 hx ⟨i,by omega,hp,fun h=>absurd h hij⟩ ⟨rfl,rfl,rfl,rfl,rfl,trivial⟩
  rintro ⟨i,hi0,hp0,hAi⟩
  dsimp only at hi0 hp0 hAi ⊢
  refine Yw (Y:={j:Nat // j≤jz∧Pin (fun x=>c x P<0) a bb i j P l m∧(i≤j→(fun x=>c x P<0) (gt m j))}) (X:={j:Nat // j≤jz∧Pin (fun x=>c x P<0) a bb i j P l m}) (fun j=>[(0,.slice (some ⟨bk,0,none⟩) n cap),(1,.int .i64 (a:Int)),(4,.func (.func fv) #[] #[]),(12,.int .i64 ((i:Nat):Int)),(13,.int .i64 ((j.1:Nat):Int))]) (fun _=>[Fc]) (fun _=>[Ax 108 chf bk m q]) (fun j=>j.1) (fun j=>[(0,.slice (some ⟨bk,0,none⟩) n cap),(1,.int .i64 (a:Int)),(4,.func (.func fv) #[] #[]),(12,.int .i64 ((i:Nat):Int)),(13,.int .i64 ((j.1:Nat):Int))]) (fun _=>[Fc]) (fun _=>[Ax 108 chf bk m q]) ⟨jz,Nat.le_refl _,hp0⟩ ⟨rfl,rfl,rfl,rfl,rfl,trivial⟩ ?_ ?_
  rotate_left
  ·intro hx
   rintro ⟨j,hj0,hp⟩
   dsimp only at hj0 hp ⊢
   have k1:=hp.h1
   have k2:=hp.h2
   have k3:=hp.h3
   by_cases hij:i≤j
   ·have hi:i<n:=by omega
    have hj:j<n:=by omega
    have ha:a<n:=by omega
    have gi:m[i]? = some (gt m i):=ZI (by omega)
    have gj:m[j]? = some (gt m j):=ZI (by omega)
    have sp:=hcmp (gt m j) P (hUm _ (Zo (by omega))) hUP
    by_cases hA:c (gt m j) P<0
    ·repeat' (first|refine ZD ?_|refine ZT ?_|refine ZZ ?_|refine ZU ?_|refine ZY (m:=n) (j) hj ?_|refine ZY (m:=n) (a) ha ?_|refine Zc 7 (j) 0 gj ?_|refine Zc 7 (a) 0 ga ?_|refine Zi sp (fun _ _=>?_)|(refine ZP (fun hc=>?_) (fun hc=>?_)<;>(try simp at hc)<;>(try omega))|refine ZA 15 [] [(0,0),(1,0),(2,0),(3,0),(4,0),(5,0),(6,0),(7,0),(8,0),(9,0),(10,0),(11,0),(12,0),(13,4),(14,0),(15,0),(16,0)] [] ?_|(refine ZG (fun hc=>?_) (fun hc=>?_)<;>(try simp at hc)<;>(try omega))|fail)
     exact Z2 hx ⟨j,by omega,hp,fun _=>(hA)⟩ ⟨rfl,rfl,rfl,rfl,rfl,trivial⟩
    ·repeat' (first|refine ZE ?_|refine ZD ?_|refine ZF ?_|refine ZT ?_|refine ZZ ?_|refine ZU ?_|rw [wj j (by omega) hj]|refine ZY (m:=n) (j) hj ?_|refine ZY (m:=n) (a) ha ?_|refine Zc 7 (j) 0 gj ?_|refine Zc 7 (a) 0 ga ?_|refine Zi sp (fun _ _=>?_)|(refine ZP (fun hc=>?_) (fun hc=>?_)<;>(try simp at hc)<;>(try omega))|refine ZA 15 [] [(0,0),(1,0),(2,0),(3,0),(4,0),(5,0),(6,0),(7,0),(8,0),(9,0),(10,0),(11,0),(12,0),(13,4),(14,0),(15,0),(16,0)] [] ?_|(refine ZG (fun hc=>?_) (fun hc=>?_)<;>(try simp at hc)<;>(try omega))|fail)
     exact Zb ⟨j - 1,by omega,hp.jj hij (hA)⟩ (by show j - 1<j;omega) ⟨rfl,rfl,rfl,rfl,rfl,trivial⟩
   ·repeat' (first|refine ZD ?_|refine ZB ?_|refine ZT ?_|refine ZZ ?_|refine ZU ?_|(refine ZP (fun hc=>?_) (fun hc=>?_)<;>(try simp at hc)<;>(try omega))|refine ZA 15 [] [(0,0),(1,0),(2,0),(3,0),(4,0),(5,0),(6,0),(7,0),(8,0),(9,0),(10,0),(11,0),(12,0),(13,4),(14,0),(15,0),(16,0)] [] ?_|fail)
    exact Z2 hx ⟨j,by omega,hp,fun h=>absurd h hij⟩ ⟨rfl,rfl,rfl,rfl,rfl,trivial⟩
  rintro ⟨j,hj0,hp,hAj⟩
  dsimp only at hj0 hp hAj ⊢
  have k1:=hp.h1
  have k2:=hp.h2
  have k3:=hp.h3
  have hj:j<n:=by omega
  have kj:j<m.length:=by omega
  have hqm:AxOK (m.length * 7) q:=by rw [hm,←hn];exact hq
  have hqm2:∀k y,AxOK ((m.set k y).length * 7) q:=fun k y=>by rw [List.length_set];exact hqm
  by_cases hij:i≤j
  ·have hij2:=hp.ne hij (hAi (by omega)) (hAj hij)
   have hi:i<n:=by omega
   have ki:i<m.length:=by omega
   have kj2:j<(m.set i (gt m j)).length:=by rw [List.length_set];exact kj
   repeat' (first|refine ZE ?_|refine ZD ?_|refine ZF ?_|refine ZT ?_|refine ZU ?_|rw [wi i hi]|rw [wj j (by omega) hj]|refine ZY (m:=n) (i) hi ?_|refine ZY (m:=n) (j) hj ?_|refine Ze 7 (i) 0 (ZI ki) ?_|refine Ze 7 (j) 0 (ZI kj) ?_|refine Z3 7 (i) 0 (gt m (j)) (ZI ki) hqm ?_|refine Zv 7 (j) 0 (gt m (i)) (ZI kj2) (hqm2 _ _) ?_|refine ZA 18 [Ax _ _ _ _ _] [(0,0),(1,0),(2,0),(3,0),(4,0),(5,0),(6,0),(8,0),(9,0),(10,0),(7,3),(11,3),(12,0),(13,4),(14,0)] [15] ?_|(refine ZG (fun hc=>?_) (fun hc=>?_)<;>(try simp at hc)<;>(try omega))|fail)
   exact Zb ⟨(i+1,j - 1,sw m i j),hp.sw (by omega) hij2 (hAi (by omega)) (hAj hij)⟩ (by show j - 1+1 - (i+1)<j0+1 - i0;omega) ⟨rfl,rfl,rfl,rfl,rfl,trivial⟩
  ·obtain ⟨f1,f2⟩:=hp.part (by omega) (by omega)
   have ka:a<m.length:=by omega
   have ka2:a<(m.set j (gt m a)).length:=by rw [List.length_set];exact ka
   repeat' (first|refine ZE ?_|refine ZD ?_|refine ZF ?_|refine ZW ?_|refine ZT ?_|refine ZU ?_|refine ZY (m:=n) (j) hj ?_|refine ZY (m:=n) (a) hia ?_|refine Ze 7 (j) 0 (ZI kj) ?_|refine Ze 7 (a) 0 (ZI ka) ?_|refine Z3 7 (j) 0 (gt m (a)) (ZI kj) hqm ?_|refine Zv 7 (a) 0 (gt m (j)) (ZI ka2) (hqm2 _ _) ?_|refine ZA 21 [Ax _ _ _ _ _] [(0,0),(1,0),(2,0),(3,0),(4,0),(5,0),(6,0),(8,0),(9,0),(10,0),(7,3),(11,3),(12,0),(13,4),(14,0)] [15] ?_|(refine ZG (fun hc=>?_) (fun hc=>?_)<;>(try simp at hc)<;>(try omega))|fail)
   exact ZK ⟨(j,false,sw m j a),f1,f2⟩ rfl trivial
 ·obtain ⟨f1,f2⟩:=hp.part (by omega) (by omega)
  have ka:a<m.length:=by omega
  have ka2:a<(m.set j (gt m a)).length:=by rw [List.length_set];exact ka
  repeat' (first|refine ZE ?_|refine ZD ?_|refine ZF ?_|refine ZT ?_|refine ZU ?_|refine ZY (m:=n) (j) hj ?_|refine ZY (m:=n) (a) hia ?_|refine Ze 7 (j) 0 (ZI kj) ?_|refine Ze 7 (a) 0 (ZI ka) ?_|refine Z3 7 (j) 0 (gt m (a)) (ZI kj) hqm ?_|refine Zv 7 (a) 0 (gt m (j)) (ZI ka2) (hqm2 _ _) ?_|refine ZA 8 [Ax _ _ _ _ _] [(0,0),(1,0),(2,0),(3,0),(4,0),(5,0),(6,0),(8,0),(9,0),(10,0),(7,3),(11,3),(12,0),(13,4),(14,0)] [15] ?_|(refine ZG (fun hc=>?_) (fun hc=>?_)<;>(try simp at hc)<;>(try omega))|fail)
  exact ZK ⟨(j,true,sw m j a),f1,f2⟩ rfl trivial
include hcmp W in
set_option maxHeartbeats 8000000 in
theorem parEC_ok (l:List Ch) (n:Nat) (hn:n=l.length) (hn2:n≤1000000) (hq:AxOK (n * 7) q) (hU:∀x ∈ l,U x) (a bb p:Nat) (hab:a+12<bb) (hb:bb≤n) (hp1:a≤p) (hp2:p<bb) :
  Enters 179∧Spec prog 179 #[.slice (some ⟨bk,0,none⟩) n cap,.int .i64 (a:Int),.int .i64 (bb:Int),.int .i64 (p:Int),.func (.func fv) #[] #[]] [Fc] [Ax 108 chf bk l q]
   ⟨{t:Nat×List Ch // Win a bb l t.2∧a<t.1∧t.1≤bb∧gt t.2 a=gt l p∧∀k,a≤k→k<t.1→¬c (gt t.2 a) (gt t.2 k)<0},fun t=>.int .i64 (t.1.1:Int),fun _=>True,fun _=>[],fun t=>[Ax 108 chf bk t.1.2 q]⟩:=by
 have w0:IntKind.i64.wrap ((a:Int)+1)=((a+1:Nat):Int):=by simp (disch:=omega) only [wrapi];omega
 have w1:IntKind.i64.wrap ((bb:Int) - 1)=((bb - 1:Nat):Int):=by simp (disch:=omega) only [wrapi];omega
 have wi:∀i,i<n→IntKind.i64.wrap ((i:Int)+1)=((i+1:Nat):Int):=fun i hi=>by simp (disch:=omega) only [wrapi];omega
 have wj:∀j,0<j→j<n→IntKind.i64.wrap ((j:Int) - 1)=((j - 1:Nat):Int):=fun j h0 hi=>by simp (disch:=omega) only [wrapi];omega
 have hia:a<n:=by omega
 have hip:p<n:=by omega
 have kia:a<l.length:=by omega
 have kip:p<l.length:=by omega
 have kip2:p<(l.set a (gt l p)).length:=by rw [List.length_set];exact kip
 have hql:AxOK (l.length * 7) q:=by rw [←hn];exact hq
 have hql2:AxOK ((l.set a (gt l p)).length * 7) q:=by rw [List.length_set];exact hql
 have hUP:U (gt l p):=hU _ (Zo kip)
 have hin0:=fun A:Ch→Prop=>Pin.init (A:=A) (l:=l) (a:=a) (b:=bb) hp1 hp2 (by omega) (by omega)
 obtain ⟨P,hP⟩:∃P,P=gt l p:=⟨_,rfl⟩
 rw [←hP] at hUP hin0
 obtain ⟨m,hm0⟩:∃m,m=sw l a p:=⟨_,rfl⟩
 rw [←hm0] at hin0
 have hin:=hin0 (fun x=>¬c P x<0)
 clear hin0
 refine ZM [_,_,_,_,_] func179 ntmps179 fun G w hp=>?_
 repeat' (first|refine ZE ?_|refine ZD ?_|refine ZF ?_|refine ZT ?_|refine ZU ?_|refine ZY (m:=n) (a) hia ?_|refine ZY (m:=n) (p) hip ?_|refine Ze 7 (a) 0 (ZI kia) ?_|refine Ze 7 (p) 0 (ZI kip) ?_|refine Z3 7 (a) 0 (gt l (p)) (ZI kia) hql ?_|refine Zv 7 (p) 0 (gt l (a)) (ZI kip2) hql2 ?_|rw [w0]|rw [w1]|refine ZA 1 [Ax _ _ _ _ _] [(0,0),(1,0),(2,0),(3,0),(4,0),(5,0),(6,0),(8,0),(9,0),(10,0),(7,3),(11,3),(12,0),(13,4),(14,0)] [15] ?_|fail)
 refine k_ax m hm0.symm ?_
 clear hm0 kip2 hql2
 refine Z8 (X:={t:Nat×Nat×List Ch // Pin (fun x=>¬c P x<0) a bb t.1 t.2.1 P l t.2.2}) (fun t=>[(0,.slice (some ⟨bk,0,none⟩) n cap),(1,.int .i64 (a:Int)),(4,.func (.func fv) #[] #[]),(11,.int .i64 (t.1.1:Int)),(12,.int .i64 (t.1.2.1:Int))]) (fun _=>[Fc]) (fun t=>[Ax 108 chf bk t.1.2.2 q]) (fun t=>t.1.2.1+1 - t.1.1) ⟨(a+1,bb - 1,m),hin⟩ ⟨rfl,rfl,rfl,rfl,rfl,trivial⟩ ?_
 clear hin
 clear m
 rintro ⟨⟨i0,j0,m⟩,hin⟩
 dsimp only at hin ⊢
 have q1:=hin.h1
 have q2:=hin.h2
 have q3:=hin.h3
 repeat' (first|fail)
 obtain ⟨jz,hjz⟩:∃jz,jz=j0:=⟨_,rfl⟩
 rw [←hjz] at hin
 have hm:=hin.w.len
 have ga:m[a]? = some P:=by rw [←hin.pa];exact ZI (by omega)
 have hUm:=hin.w.sub hU
 refine Yw (Y:={i:Nat // i0≤i∧Pin (fun x=>¬c P x<0) a bb i jz P l m∧(i≤jz→¬(fun x=>¬c P x<0) (gt m i))}) (X:={i:Nat // i0≤i∧Pin (fun x=>¬c P x<0) a bb i jz P l m}) (fun i=>[(0,.slice (some ⟨bk,0,none⟩) n cap),(1,.int .i64 (a:Int)),(4,.func (.func fv) #[] #[]),(11,.int .i64 ((i.1:Nat):Int)),(12,.int .i64 ((jz:Nat):Int))]) (fun _=>[Fc]) (fun _=>[Ax 108 chf bk m q]) (fun i=>bb+1 - i.1) (fun i=>[(0,.slice (some ⟨bk,0,none⟩) n cap),(1,.int .i64 (a:Int)),(4,.func (.func fv) #[] #[]),(11,.int .i64 ((i.1:Nat):Int)),(12,.int .i64 ((jz:Nat):Int))]) (fun _=>[Fc]) (fun _=>[Ax 108 chf bk m q]) ⟨i0,Nat.le_refl _,hin⟩ ⟨rfl,rfl,rfl,rfl,(by show look _ _=some (Value.int .i64 ((jz:Nat):Int));rw [hjz];rfl),trivial⟩ ?_ ?_
 rotate_left
 ·intro hx
  rintro ⟨i,hi0,hp⟩
  dsimp only at hi0 hp ⊢
  have k1:=hp.h1
  have k2:=hp.h2
  have k3:=hp.h3
  generalize jz=j at *
  by_cases hij:i≤j
  ·have hi:i<n:=by omega
   have hj:j<n:=by omega
   have ha:a<n:=by omega
   have gi:m[i]? = some (gt m i):=ZI (by omega)
   have gj:m[j]? = some (gt m j):=ZI (by omega)
   have sp:=hcmp P (gt m i) hUP (hUm _ (Zo (by omega)))
   by_cases hA:c P (gt m i)<0
   ·repeat' (first|refine ZD ?_|refine ZT ?_|refine ZZ ?_|refine ZU ?_|refine ZY (m:=n) (i) hi ?_|refine ZY (m:=n) (a) ha ?_|refine Zc 7 (i) 0 gi ?_|refine Zc 7 (a) 0 ga ?_|refine Zi sp (fun _ _=>?_)|(refine ZP (fun hc=>?_) (fun hc=>?_)<;>(try simp at hc)<;>(try omega))|refine ZA 3 [] [(0,0),(1,0),(2,0),(3,0),(4,0),(5,0),(6,0),(7,0),(8,0),(9,0),(10,0),(11,0),(12,0),(13,4),(14,0),(15,0),(16,0)] [] ?_|(refine ZG (fun hc=>?_) (fun hc=>?_)<;>(try simp at hc)<;>(try omega))|fail)
    exact Z2 hx ⟨i,by omega,hp,fun _=>(fun h=>h hA)⟩ ⟨rfl,rfl,rfl,rfl,rfl,trivial⟩
   ·repeat' (first|refine ZE ?_|refine ZD ?_|refine ZF ?_|refine ZT ?_|refine ZZ ?_|refine ZU ?_|rw [wi i hi]|refine ZY (m:=n) (i) hi ?_|refine ZY (m:=n) (a) ha ?_|refine Zc 7 (i) 0 gi ?_|refine Zc 7 (a) 0 ga ?_|refine Zi sp (fun _ _=>?_)|(refine ZP (fun hc=>?_) (fun hc=>?_)<;>(try simp at hc)<;>(try omega))|refine ZA 3 [] [(0,0),(1,0),(2,0),(3,0),(4,0),(5,0),(6,0),(7,0),(8,0),(9,0),(10,0),(11,0),(12,0),(13,4),(14,0),(15,0),(16,0)] [] ?_|(refine ZG (fun hc=>?_) (fun hc=>?_)<;>(try simp at hc)<;>(try omega))|fail)
    exact Zb ⟨i+1,by omega,hp.ii hij (hA)⟩ (by show bb+1 - (i+1)<bb+1 - i;omega) ⟨rfl,rfl,rfl,rfl,rfl,trivial⟩
  ·repeat' (first|refine ZD ?_|refine ZB ?_|refine ZT ?_|refine ZZ ?_|refine ZU ?_|(refine ZP (fun hc=>?_) (fun hc=>?_)<;>(try simp at hc)<;>(try omega))|refine ZA 3 [] [(0,0),(1,0),(2,0),(3,0),(4,0),(5,0),(6,0),(7,0),(8,0),(9,0),(10,0),(11,0),(12,0),(13,4),(14,0),(15,0),(16,0)] [] ?_|fail)
   exact Z2 hx ⟨i,by omega,hp,fun h=>absurd h hij⟩ ⟨rfl,rfl,rfl,rfl,rfl,trivial⟩
 rintro ⟨i,hi0,hp0,hAi⟩
 dsimp only at hi0 hp0 hAi ⊢
 refine Yw (Y:={j:Nat // j≤jz∧Pin (fun x=>¬c P x<0) a bb i j P l m∧(i≤j→(fun x=>¬c P x<0) (gt m j))}) (X:={j:Nat // j≤jz∧Pin (fun x=>¬c P x<0) a bb i j P l m}) (fun j=>[(0,.slice (some ⟨bk,0,none⟩) n cap),(1,.int .i64 (a:Int)),(4,.func (.func fv) #[] #[]),(11,.int .i64 ((i:Nat):Int)),(12,.int .i64 ((j.1:Nat):Int))]) (fun _=>[Fc]) (fun _=>[Ax 108 chf bk m q]) (fun j=>j.1) (fun j=>[(0,.slice (some ⟨bk,0,none⟩) n cap),(1,.int .i64 (a:Int)),(4,.func (.func fv) #[] #[]),(11,.int .i64 ((i:Nat):Int)),(12,.int .i64 ((j.1:Nat):Int))]) (fun _=>[Fc]) (fun _=>[Ax 108 chf bk m q]) ⟨jz,Nat.le_refl _,hp0⟩ ⟨rfl,rfl,rfl,rfl,rfl,trivial⟩ ?_ ?_
 rotate_left
 ·intro hx
  rintro ⟨j,hj0,hp⟩
  dsimp only at hj0 hp ⊢
  have k1:=hp.h1
  have k2:=hp.h2
  have k3:=hp.h3
  by_cases hij:i≤j
  ·have hi:i<n:=by omega
   have hj:j<n:=by omega
   have ha:a<n:=by omega
   have gi:m[i]? = some (gt m i):=ZI (by omega)
   have gj:m[j]? = some (gt m j):=ZI (by omega)
   have sp:=hcmp P (gt m j) hUP (hUm _ (Zo (by omega)))
   by_cases hA:c P (gt m j)<0
   ·repeat' (first|refine ZE ?_|refine ZD ?_|refine ZF ?_|refine ZT ?_|refine ZZ ?_|refine ZU ?_|rw [wj j (by omega) hj]|refine ZY (m:=n) (j) hj ?_|refine ZY (m:=n) (a) ha ?_|refine Zc 7 (j) 0 gj ?_|refine Zc 7 (a) 0 ga ?_|refine Zi sp (fun _ _=>?_)|(refine ZP (fun hc=>?_) (fun hc=>?_)<;>(try simp at hc)<;>(try omega))|refine ZA 5 [] [(0,0),(1,0),(2,0),(3,0),(4,0),(5,0),(6,0),(7,0),(8,0),(9,0),(10,0),(11,0),(12,0),(13,4),(14,0),(15,0)] [] ?_|(refine ZG (fun hc=>?_) (fun hc=>?_)<;>(try simp at hc)<;>(try omega))|fail)
    exact Zb ⟨j - 1,by omega,hp.jj hij (fun h=>h hA)⟩ (by show j - 1<j;omega) ⟨rfl,rfl,rfl,rfl,rfl,trivial⟩
   ·repeat' (first|refine ZD ?_|refine ZT ?_|refine ZZ ?_|refine ZU ?_|refine ZY (m:=n) (j) hj ?_|refine ZY (m:=n) (a) ha ?_|refine Zc 7 (j) 0 gj ?_|refine Zc 7 (a) 0 ga ?_|refine Zi sp (fun _ _=>?_)|(refine ZP (fun hc=>?_) (fun hc=>?_)<;>(try simp at hc)<;>(try omega))|refine ZA 5 [] [(0,0),(1,0),(2,0),(3,0),(4,0),(5,0),(6,0),(7,0),(8,0),(9,0),(10,0),(11,0),(12,0),(13,4),(14,0),(15,0)] [] ?_|(refine ZG (fun hc=>?_) (fun hc=>?_)<;>(try simp at hc)<;>(try omega))|fail)
    exact Z2 hx ⟨j,by omega,hp,fun _=>(hA)⟩ ⟨rfl,rfl,rfl,rfl,rfl,trivial⟩
  ·repeat' (first|refine ZD ?_|refine ZB ?_|refine ZT ?_|refine ZZ ?_|refine ZU ?_|(refine ZP (fun hc=>?_) (fun hc=>?_)<;>(try simp at hc)<;>(try omega))|refine ZA 5 [] [(0,0),(1,0),(2,0),(3,0),(4,0),(5,0),(6,0),(7,0),(8,0),(9,0),(10,0),(11,0),(12,0),(13,4),(14,0),(15,0)] [] ?_|fail)
   exact Z2 hx ⟨j,by omega,hp,fun h=>absurd h hij⟩ ⟨rfl,rfl,rfl,rfl,rfl,trivial⟩
 rintro ⟨j,hj0,hp,hAj⟩
 dsimp only at hj0 hp hAj ⊢
 have k1:=hp.h1
 have k2:=hp.h2
 have k3:=hp.h3
 have hj:j<n:=by omega
 have kj:j<m.length:=by omega
 have hqm:AxOK (m.length * 7) q:=by rw [hm,←hn];exact hq
 have hqm2:∀k y,AxOK ((m.set k y).length * 7) q:=fun k y=>by rw [List.length_set];exact hqm
 by_cases hij:i≤j
 ·have hij2:=hp.ne hij (hAi (by omega)) (hAj hij)
  have hi:i<n:=by omega
  have ki:i<m.length:=by omega
  have kj2:j<(m.set i (gt m j)).length:=by rw [List.length_set];exact kj
  repeat' (first|refine ZE ?_|refine ZD ?_|refine ZF ?_|refine ZT ?_|refine ZU ?_|rw [wi i hi]|rw [wj j (by omega) hj]|refine ZY (m:=n) (i) hi ?_|refine ZY (m:=n) (j) hj ?_|refine Ze 7 (i) 0 (ZI ki) ?_|refine Ze 7 (j) 0 (ZI kj) ?_|refine Z3 7 (i) 0 (gt m (j)) (ZI ki) hqm ?_|refine Zv 7 (j) 0 (gt m (i)) (ZI kj2) (hqm2 _ _) ?_|refine ZA 8 [Ax _ _ _ _ _] [(0,0),(1,0),(2,0),(3,0),(4,0),(5,0),(6,0),(8,0),(9,0),(10,0),(7,3),(11,3),(12,0),(13,4),(14,0)] [15] ?_|(refine ZG (fun hc=>?_) (fun hc=>?_)<;>(try simp at hc)<;>(try omega))|fail)
  exact Zb ⟨(i+1,j - 1,sw m i j),hp.sw (by omega) hij2 (hAi (by omega)) (hAj hij)⟩ (by show j - 1+1 - (i+1)<j0+1 - i0;omega) ⟨rfl,rfl,rfl,rfl,rfl,trivial⟩
 ·repeat' (first|refine ZE ?_|refine ZD ?_|refine ZF ?_|refine ZW ?_|(refine ZG (fun hc=>?_) (fun hc=>?_)<;>(try simp at hc)<;>(try omega))|fail)
  exact ZK ⟨(i,m),hp.w,by omega,by omega,by rw [←hP];exact hp.pa,fun k h1 h2=>by
   by_cases hk:k=a
   ·rw [hk,hp.pa];exact W.i _
   ·rw [hp.pa];exact hp.lo k (by omega) h2⟩ rfl trivial
end
section
variable (bk cap:Nat) (q:List Value×(Nat×Nat)) (fv:FuncId) (Fc:Pf) (c:Ch→Ch→Int) (W:Wk0 c) (U:Ch→Prop) (hcmp:∀x y,U x→U y→Enters fv∧Spec prog fv #[x.v,y.v] [Fc] [] (RetV (.int .i64 (c x y))))
include hcmp W in
set_option maxHeartbeats 8000000 in
theorem pinsC_ok (l:List Ch) (n:Nat) (hn:n=l.length) (hn2:n≤1000000) (hq:AxOK (n * 7) q) (hU:∀x ∈ l,U x) (a bb:Nat) (hab:a<bb) (hb:bb≤n) (hlw:Lw c a bb l) :
  Enters 178∧Spec prog 178 #[.slice (some ⟨bk,0,none⟩) n cap,.int .i64 (a:Int),.int .i64 (bb:Int),.func (.func fv) #[] #[]] [Fc] [Ax 108 chf bk l q]
   ⟨{t:Bool×List Ch // Win a bb l t.2∧(t.1=true→Sw c a bb t.2)},fun t=>.bool t.1.1,fun _=>True,fun _=>[],fun t=>[Ax 108 chf bk t.1.2 q]⟩:=by
 have w0:IntKind.i64.wrap ((a:Int)+1)=((a+1:Nat):Int):=by simp (disch:=omega) only [wrapi];omega
 have wi:∀i,i<n→IntKind.i64.wrap ((i:Int)+1)=((i+1:Nat):Int):=fun i hi=>by simp (disch:=omega) only [wrapi];omega
 have wj:∀j,0<j→j<n→IntKind.i64.wrap ((j:Int) - 1)=((j - 1:Nat):Int):=fun j h0 hi=>by simp (disch:=omega) only [wrapi];omega
 have wba:IntKind.i64.wrap ((bb:Int) - (a:Int))=((bb - a:Nat):Int):=by simp (disch:=omega) only [wrapi];omega
 refine ZM [_,_,_,_] func178 ntmps178 fun G w hp=>?_
 repeat' (first|refine ZE ?_|refine ZD ?_|refine ZF ?_|rw [w0]|fail)
 refine Z8 (X:={t:Nat×Nat×List Ch // t.1≤5∧a<t.2.1∧t.2.1≤bb∧Win a bb l t.2.2∧Sw c a t.2.1 t.2.2}) (fun t=>[(0,.slice (some ⟨bk,0,none⟩) n cap),(1,.int .i64 (a:Int)),(2,.int .i64 (bb:Int)),(3,.func (.func fv) #[] #[]),(9,.int .i64 (t.1.2.1:Int)),(10,.int .i64 (t.1.1:Int))]) (fun _=>[Fc]) (fun t=>[Ax 108 chf bk t.1.2.2 q]) (fun t=>5 - t.1.1)
  ⟨(0,a+1,l),by omega,by show a<a+1;omega,by show a+1≤bb;omega,Win.refl,Sw.nil (Nat.le_refl _)⟩ ⟨rfl,rfl,rfl,rfl,rfl,rfl,trivial⟩ ?_
 rintro ⟨⟨r,i0,m⟩,hr,h1,h2,h3,h4⟩
 dsimp only at hr h1 h2 h3 h4 ⊢
 have hm:=h3.len
 have hUm:=h3.sub hU
 by_cases hr5:r<5
 rotate_left
 ·repeat' (first|refine ZE ?_|refine ZD ?_|refine ZF ?_|refine ZW ?_|(refine ZG (fun hc=>?_) (fun hc=>?_)<;>(try simp at hc)<;>(try omega))|fail)
  exact ZK ⟨(false,m),h3,fun h=>by cases h⟩ rfl trivial
 have wr:IntKind.i64.wrap ((r:Int)+1)=((r+1:Nat):Int):=by simp (disch:=omega) only [wrapi];omega
 repeat' (first|refine ZE ?_|refine ZD ?_|refine ZF ?_|(refine ZG (fun hc=>?_) (fun hc=>?_)<;>(try simp at hc)<;>(try omega))|fail)
 refine Yw (Y:={i:Nat // a<i∧i≤bb∧Sw c a i m∧(i<bb→c (gt m i) (gt m (i - 1))<0)}) (X:={i:Nat // a<i∧i≤bb∧Sw c a i m}) (fun i=>[(0,.slice (some ⟨bk,0,none⟩) n cap),(1,.int .i64 (a:Int)),(2,.int .i64 (bb:Int)),(3,.func (.func fv) #[] #[]),(9,.int .i64 (i.1:Int)),(10,.int .i64 (r:Int))]) (fun _=>[Fc]) (fun _=>[Ax 108 chf bk m q]) (fun i=>bb - i.1)
  (fun i=>[(0,.slice (some ⟨bk,0,none⟩) n cap),(1,.int .i64 (a:Int)),(2,.int .i64 (bb:Int)),(3,.func (.func fv) #[] #[]),(9,.int .i64 (i.1:Int)),(10,.int .i64 (r:Int))]) (fun _=>[Fc]) (fun _=>[Ax 108 chf bk m q]) ⟨i0,h1,h2,h4⟩ ⟨rfl,rfl,rfl,rfl,rfl,rfl,trivial⟩ ?_ ?_
 rotate_left
 ·intro hx
  rintro ⟨i,g1,g2,g3⟩
  dsimp only at g1 g2 g3 ⊢
  by_cases hib:i<bb
  ·have hi:i<n:=by omega
   have hj:i - 1<n:=by omega
   have ki:i<m.length:=by omega
   have kj:i - 1<m.length:=by omega
   have sp:=hcmp (gt m i) (gt m (i - 1)) (hUm _ (Zo ki)) (hUm _ (Zo kj))
   by_cases hc0:c (gt m i) (gt m (i - 1))<0
   ·repeat' (first|refine ZD ?_|refine ZT ?_|refine ZZ ?_|refine ZU ?_|refine ZY (m:=n) (i) hi ?_|refine ZY (m:=n) (i - 1) hj ?_|refine Zc 7 (i) 0 (ZI ki) ?_|refine Zc 7 (i - 1) 0 (ZI kj) ?_|refine Zi sp (fun _ _=>?_)|(refine ZP (fun hc=>?_) (fun hc=>?_)<;>(try simp at hc)<;>(try omega))|refine ZA 5 [] [(0,0),(1,0),(2,0),(3,0),(4,0),(5,0),(6,0),(7,0),(8,0),(9,0),(10,0),(11,0),(12,0),(13,0),(14,4),(15,0),(16,0),(17,0)] [] ?_|(refine ZG (fun hc=>?_) (fun hc=>?_)<;>(try simp at hc)<;>(try omega))|fail)
    exact Z2 hx ⟨i,g1,g2,g3,fun _=>hc0⟩ ⟨rfl,rfl,rfl,rfl,rfl,rfl,trivial⟩
   ·repeat' (first|refine ZE ?_|refine ZD ?_|refine ZF ?_|refine ZT ?_|refine ZZ ?_|refine ZU ?_|refine ZY (m:=n) (i) hi ?_|refine ZY (m:=n) (i - 1) hj ?_|refine Zc 7 (i) 0 (ZI ki) ?_|refine Zc 7 (i - 1) 0 (ZI kj) ?_|refine Zi sp (fun _ _=>?_)|rw [wi i hi]|(refine ZP (fun hc=>?_) (fun hc=>?_)<;>(try simp at hc)<;>(try omega))|refine ZA 5 [] [(0,0),(1,0),(2,0),(3,0),(4,0),(5,0),(6,0),(7,0),(8,0),(9,0),(10,0),(11,0),(12,0),(13,0),(14,4),(15,0),(16,0),(17,0)] [] ?_|(refine ZG (fun hc=>?_) (fun hc=>?_)<;>(try simp at hc)<;>(try omega))|fail)
    exact Zb ⟨i+1,by omega,by omega,g3.snoc W g1 hc0⟩ (by show bb - (i+1)<bb - i;omega) ⟨rfl,rfl,rfl,rfl,rfl,rfl,trivial⟩
  ·repeat' (first|refine ZD ?_|refine ZB ?_|refine ZT ?_|refine ZZ ?_|refine ZU ?_|(refine ZP (fun hc=>?_) (fun hc=>?_)<;>(try simp at hc)<;>(try omega))|refine ZA 5 [] [(0,0),(1,0),(2,0),(3,0),(4,0),(5,0),(6,0),(7,0),(8,0),(9,0),(10,0),(11,0),(12,0),(13,0),(14,4),(15,0),(16,0),(17,0)] [] ?_|fail)
   exact Z2 hx ⟨i,g1,g2,g3,fun h=>absurd h hib⟩ ⟨rfl,rfl,rfl,rfl,rfl,rfl,trivial⟩
 rintro ⟨i,g1,g2,g3,g4⟩
 dsimp only at g1 g2 g3 g4 ⊢
 by_cases hib:i=bb
 ·subst hib
  have e0:decide ((i:Int)=(i:Int))=true:=decide_eq_true rfl
  repeat' (first|refine ZE ?_|refine ZD ?_|refine ZF ?_|(refine ZG (fun hc=>?_) (fun hc=>?_)<;>(try simp at hc)<;>(try omega))|fail)
  exact Ym (Yx (YD ⟨(true,m),h3,fun _=>g3⟩ rfl trivial))
 by_cases h50:bb - a<50
 ·repeat' (first|refine ZE ?_|refine ZD ?_|refine ZF ?_|rw [wba]|(refine ZG (fun hc=>?_) (fun hc=>?_)<;>(try simp at hc)<;>(try omega))|fail)
  exact Ym (Yx (YD ⟨(false,m),h3,fun h=>by cases h⟩ rfl trivial))
 have hc0:=g4 (by omega)
 have hi:i<n:=by omega
 have hj:i - 1<n:=by omega
 have ki:i<m.length:=by omega
 have kj:i - 1<m.length:=by omega
 have kj2:i - 1<(m.set i (gt m (i - 1))).length:=by rw [List.length_set];exact kj
 have hqm:AxOK (m.length * 7) q:=by rw [hm,←hn];exact hq
 have hqm2:∀k y,AxOK ((m.set k y).length * 7) q:=fun k y=>by rw [List.length_set];exact hqm
 have wia:IntKind.i64.wrap ((i:Int) - (a:Int))=((i - a:Nat):Int):=by simp (disch:=omega) only [wrapi];omega
 have wbi:IntKind.i64.wrap ((bb:Int) - (i:Int))=((bb - i:Nat):Int):=by simp (disch:=omega) only [wrapi];omega
 have b1:((i:Int) == (bb:Int))=false:=by rw [beq_eq_false_iff_ne];omega
 have b2:decide (((bb - a:Nat):Int)<50)=false:=decide_eq_false (by omega)
 repeat' (first|refine ZE ?_|refine ZD ?_|refine ZF ?_|refine ZB ?_|refine ZT ?_|refine ZU ?_|refine ZY (m:=n) (i) hi ?_|refine ZY (m:=n) (i - 1) hj ?_|refine Ze 7 (i) 0 (ZI ki) ?_|refine Ze 7 (i - 1) 0 (ZI kj) ?_|refine Z3 7 (i) 0 (gt m (i - 1)) (ZI ki) hqm ?_|refine Zv 7 (i - 1) 0 (gt m (i)) (ZI kj2) (hqm2 _ _) ?_|rw [wba]|rw [wia]|rw [b1]|rw [b2]|refine ZA 11 [Ax _ _ _ _ _] [(0,0),(1,0),(2,0),(3,0),(4,0),(5,0),(6,0),(7,0),(8,0),(10,0),(11,0),(12,0),(9,3),(13,3),(14,0),(15,4),(16,0)] [17] ?_|fail)
 obtain ⟨m1,hm1⟩:∃m1,m1=sw m i (i - 1):=⟨_,rfl⟩
 have hw1:Win a bb l m1:=by rw [hm1];exact h3.trans (Win.sw (by omega) (by omega) (by omega) (by omega) (by omega))
 have hl1:Lsh c a i (i - 1) m1:=by rw [hm1];exact Lsh.init g3 (by omega) g1
 have hm1l:=hw1.len
 refine k_ax m1 hm1.symm ?_
 refine k_cut (Y:={m2:List Ch // Win a bb l m2∧Sw c a i m2}) (fun _=>[(0,.slice (some ⟨bk,0,none⟩) n cap),(1,.int .i64 (a:Int)),(2,.int .i64 (bb:Int)),(3,.func (.func fv) #[] #[]),(9,.int .i64 (i:Int)),(10,.int .i64 (r:Int))]) (fun _=>[Fc]) (fun m2=>[Ax 108 chf bk m2.1 q]) ?_ ?_
 ·rintro ⟨m2,hw2,hs2⟩
  dsimp only at hw2 hs2 ⊢
  have hm2l:=hw2.len
  by_cases hbi:bb - i<2
  ·repeat' (first|refine ZE ?_|refine ZD ?_|refine ZF ?_|rw [wbi]|rw [wr]|(refine ZG (fun hc=>?_) (fun hc=>?_)<;>(try simp at hc)<;>(try omega))|fail)
   exact Zb ⟨(r+1,i,m2),by show r+1≤5;omega,g1,g2,hw2,hs2⟩ (by show 5 - (r+1)<5 - r;omega) ⟨rfl,rfl,rfl,rfl,rfl,rfl,trivial⟩
  ·repeat' (first|refine ZE ?_|refine ZD ?_|refine ZF ?_|rw [wbi]|rw [wi i hi]|(refine ZG (fun hc=>?_) (fun hc=>?_)<;>(try simp at hc)<;>(try omega))|fail)
   refine Yw (Y:={m3:List Ch // Win i bb m2 m3}) (X:={t:Nat×List Ch // i<t.1∧t.1≤bb∧Win i bb m2 t.2}) (fun t=>[(0,.slice (some ⟨bk,0,none⟩) n cap),(1,.int .i64 (a:Int)),(2,.int .i64 (bb:Int)),(3,.func (.func fv) #[] #[]),(9,.int .i64 (i:Int)),(10,.int .i64 (r:Int)),(12,.int .i64 (t.1.1:Int))]) (fun _=>[Fc]) (fun t=>[Ax 108 chf bk t.1.2 q]) (fun t=>bb - t.1.1)
    (fun _=>[(0,.slice (some ⟨bk,0,none⟩) n cap),(1,.int .i64 (a:Int)),(2,.int .i64 (bb:Int)),(3,.func (.func fv) #[] #[]),(9,.int .i64 (i:Int)),(10,.int .i64 (r:Int))]) (fun _=>[Fc]) (fun m3=>[Ax 108 chf bk m3.1 q]) ⟨(i+1,m2),by show i<i+1;omega,by show i+1≤bb;omega,Win.refl⟩ ⟨rfl,rfl,rfl,rfl,rfl,rfl,rfl,trivial⟩ ?_ ?_
   rotate_left
   ·intro hx
    rintro ⟨⟨j,m3⟩,j1,j2,j3⟩
    dsimp only at j1 j2 j3 ⊢
    have hm3l:=j3.len
    by_cases hjb:j<bb
    ·have hja:j<n:=by omega
     have hjb2:j - 1<n:=by omega
     have kja:j<m3.length:=by omega
     have kjb:j - 1<m3.length:=by omega
     have kjb2:j - 1<(m3.set j (gt m3 (j - 1))).length:=by rw [List.length_set];exact kjb
     have hU3:=(hw2.trans (j3.mono (by omega) (Nat.le_refl _))).sub hU
     have hq3:AxOK (m3.length * 7) q:=by rw [hm3l,hm2l,←hn];exact hq
     have hq32:∀k y,AxOK ((m3.set k y).length * 7) q:=fun k y=>by rw [List.length_set];exact hq3
     have sp:=hcmp (gt m3 j) (gt m3 (j - 1)) (hU3 _ (Zo kja)) (hU3 _ (Zo kjb))
     by_cases hc1:c (gt m3 j) (gt m3 (j - 1))<0
     ·repeat' (first|refine ZE ?_|refine ZD ?_|refine ZF ?_|refine ZT ?_|refine ZU ?_|refine ZY (m:=n) (j) hja ?_|refine ZY (m:=n) (j - 1) hjb2 ?_|refine Ze 7 (j) 0 (ZI kja) ?_|refine Ze 7 (j - 1) 0 (ZI kjb) ?_|refine Z3 7 (j) 0 (gt m3 (j - 1)) (ZI kja) hq3 ?_|refine Zv 7 (j - 1) 0 (gt m3 (j)) (ZI kjb2) (hq32 _ _) ?_|refine Zc 7 (j) 0 (ZI kja) ?_|refine Zc 7 (j - 1) 0 (ZI kjb) ?_|refine Zi sp (fun _ _=>?_)|rw [wi j hja]|refine ZA 22 [] [(0,0),(1,0),(2,0),(3,0),(4,0),(5,0),(6,0),(7,0),(8,0),(9,0),(10,4),(11,0),(12,0)] [] ?_|refine ZA 23 [Ax _ _ _ _ _] [(0,0),(1,0),(2,0),(3,0),(4,0),(5,0),(6,0),(7,0),(8,0),(10,0),(11,0),(12,0),(9,3),(13,3),(14,0),(15,4),(16,0)] [17] ?_|(refine ZG (fun hc=>?_) (fun hc=>?_)<;>(try simp at hc)<;>(try omega))|fail)
      exact Zb ⟨(j+1,sw m3 j (j - 1)),by show i<j+1;omega,by show j+1≤bb;omega,j3.trans (Win.sw (by omega) hjb (by omega) (by omega) (by omega))⟩ (by show bb - (j+1)<bb - j;omega) ⟨rfl,rfl,rfl,rfl,rfl,rfl,rfl,trivial⟩
     ·repeat' (first|refine ZE ?_|refine ZD ?_|refine ZF ?_|refine ZT ?_|refine ZU ?_|refine ZY (m:=n) (j) hja ?_|refine ZY (m:=n) (j - 1) hjb2 ?_|refine Zc 7 (j) 0 (ZI kja) ?_|refine Zc 7 (j - 1) 0 (ZI kjb) ?_|refine Zi sp (fun _ _=>?_)|refine ZA 22 [] [(0,0),(1,0),(2,0),(3,0),(4,0),(5,0),(6,0),(7,0),(8,0),(9,0),(10,4),(11,0),(12,0)] [] ?_|(refine ZG (fun hc=>?_) (fun hc=>?_)<;>(try simp at hc)<;>(try omega))|fail)
      exact Z2 hx ⟨m3,j3⟩ ⟨rfl,rfl,rfl,rfl,rfl,rfl,trivial⟩
    ·repeat' (first|refine ZE ?_|refine ZD ?_|refine ZF ?_|(refine ZG (fun hc=>?_) (fun hc=>?_)<;>(try simp at hc)<;>(try omega))|fail)
     exact Z2 hx ⟨m3,j3⟩ ⟨rfl,rfl,rfl,rfl,rfl,rfl,trivial⟩
   rintro ⟨m3,j3⟩
   repeat' (first|refine ZE ?_|refine ZD ?_|refine ZF ?_|rw [wr]|fail)
   exact Zb ⟨(r+1,i,m3),by show r+1≤5;omega,g1,g2,hw2.trans (j3.mono (by omega) (Nat.le_refl _)),hs2.out j3⟩ (by show 5 - (r+1)<5 - r;omega) ⟨rfl,rfl,rfl,rfl,rfl,rfl,trivial⟩
 ·intro hcut
  by_cases hia:i - a<2
  ·repeat' (first|refine XJ ?_|refine Xb hcut ⟨m1,hw1,Sw.nil (by omega)⟩ ⟨rfl,rfl,rfl,rfl,rfl,rfl,trivial⟩|(refine ZG (fun hc=>?_) (fun hc=>?_)<;>(try simp at hc)<;>(try omega))|fail)
  ·repeat' (first|refine ZE ?_|refine ZD ?_|refine ZF ?_|rw [wj i (by omega) hi]|(refine ZG (fun hc=>?_) (fun hc=>?_)<;>(try simp at hc)<;>(try omega))|fail)
   refine Yw (Y:={m3:List Ch // Win a i m1 m3∧Sw c a i m3}) (X:={t:Nat×List Ch // a≤t.1∧t.1<i∧Win a i m1 t.2∧Lsh c a i t.1 t.2}) (fun t=>[(0,.slice (some ⟨bk,0,none⟩) n cap),(1,.int .i64 (a:Int)),(2,.int .i64 (bb:Int)),(3,.func (.func fv) #[] #[]),(9,.int .i64 (i:Int)),(10,.int .i64 (r:Int)),(11,.int .i64 (t.1.1:Int))]) (fun _=>[Fc]) (fun t=>[Ax 108 chf bk t.1.2 q]) (fun t=>t.1.1)
    (fun _=>[(0,.slice (some ⟨bk,0,none⟩) n cap),(1,.int .i64 (a:Int)),(2,.int .i64 (bb:Int)),(3,.func (.func fv) #[] #[]),(9,.int .i64 (i:Int)),(10,.int .i64 (r:Int))]) (fun _=>[Fc]) (fun m3=>[Ax 108 chf bk m3.1 q]) ⟨(i - 1,m1),by show a≤i - 1;omega,by show i - 1<i;omega,Win.refl,hl1⟩ ⟨rfl,rfl,rfl,rfl,rfl,rfl,rfl,trivial⟩ ?_ ?_
   rotate_left
   ·intro hx
    rintro ⟨⟨j,m3⟩,j1,j2,j3,j4⟩
    dsimp only at j1 j2 j3 j4 ⊢
    have hm3l:=j3.len
    have hw3:=hw1.trans (j3.mono (Nat.le_refl _) g2)
    by_cases hj0:1≤j
    ·have hja:j<n:=by omega
     have hjb2:j - 1<n:=by omega
     have kja:j<m3.length:=by omega
     have kjb:j - 1<m3.length:=by omega
     have kjb2:j - 1<(m3.set j (gt m3 (j - 1))).length:=by rw [List.length_set];exact kjb
     have hU3:=hw3.sub hU
     have hq3:AxOK (m3.length * 7) q:=by rw [hm3l,hm1l,←hn];exact hq
     have hq32:∀k y,AxOK ((m3.set k y).length * 7) q:=fun k y=>by rw [List.length_set];exact hq3
     have sp:=hcmp (gt m3 j) (gt m3 (j - 1)) (hU3 _ (Zo kja)) (hU3 _ (Zo kjb))
     by_cases hc1:c (gt m3 j) (gt m3 (j - 1))<0
     ·have haj:a<j:=by
       by_cases hj:j=a
       ·subst hj
        exact absurd hc1 (hlw.win hw3 (by omega) (by omega) j (Nat.le_refl _) hab)
       ·omega
      repeat' (first|refine ZE ?_|refine ZD ?_|refine ZF ?_|refine ZT ?_|refine ZU ?_|refine ZY (m:=n) (j) hja ?_|refine ZY (m:=n) (j - 1) hjb2 ?_|refine Ze 7 (j) 0 (ZI kja) ?_|refine Ze 7 (j - 1) 0 (ZI kjb) ?_|refine Z3 7 (j) 0 (gt m3 (j - 1)) (ZI kja) hq3 ?_|refine Zv 7 (j - 1) 0 (gt m3 (j)) (ZI kjb2) (hq32 _ _) ?_|refine Zc 7 (j) 0 (ZI kja) ?_|refine Zc 7 (j - 1) 0 (ZI kjb) ?_|refine Zi sp (fun _ _=>?_)|rw [wj j hj0 hja]|refine ZA 16 [] [(0,0),(1,0),(2,0),(3,0),(4,0),(5,0),(6,0),(7,0),(8,0),(9,0),(10,4),(11,0),(12,0)] [] ?_|refine ZA 17 [Ax _ _ _ _ _] [(0,0),(1,0),(2,0),(3,0),(4,0),(5,0),(6,0),(7,0),(8,0),(10,0),(11,0),(12,0),(9,3),(13,3),(14,0),(15,4),(16,0)] [17] ?_|(refine ZG (fun hc=>?_) (fun hc=>?_)<;>(try simp at hc)<;>(try omega))|fail)
      exact Zb ⟨(j - 1,sw m3 j (j - 1)),by show a≤j - 1;omega,by show j - 1<i;omega,j3.trans (Win.sw j1 j2 (by omega) (by omega) (by omega)),j4.step W haj j2 (by omega) hc1⟩ (by show j - 1<j;omega) ⟨rfl,rfl,rfl,rfl,rfl,rfl,rfl,trivial⟩
     ·repeat' (first|refine ZE ?_|refine ZD ?_|refine ZF ?_|refine ZT ?_|refine ZU ?_|refine ZY (m:=n) (j) hja ?_|refine ZY (m:=n) (j - 1) hjb2 ?_|refine Zc 7 (j) 0 (ZI kja) ?_|refine Zc 7 (j - 1) 0 (ZI kjb) ?_|refine Zi sp (fun _ _=>?_)|refine ZA 16 [] [(0,0),(1,0),(2,0),(3,0),(4,0),(5,0),(6,0),(7,0),(8,0),(9,0),(10,4),(11,0),(12,0)] [] ?_|(refine ZG (fun hc=>?_) (fun hc=>?_)<;>(try simp at hc)<;>(try omega))|fail)
      exact Z2 hx ⟨m3,j3,j4.stop W fun _=>hc1⟩ ⟨rfl,rfl,rfl,rfl,rfl,rfl,trivial⟩
    ·repeat' (first|refine ZE ?_|refine ZD ?_|refine ZF ?_|(refine ZG (fun hc=>?_) (fun hc=>?_)<;>(try simp at hc)<;>(try omega))|fail)
     exact Z2 hx ⟨m3,j3,j4.stop W fun h=>by omega⟩ ⟨rfl,rfl,rfl,rfl,rfl,rfl,trivial⟩
   rintro ⟨m3,j3,j4⟩
   dsimp only at j3 j4 ⊢
   exact Xb hcut ⟨m3,hw1.trans (j3.mono (Nat.le_refl _) g2),j4⟩ ⟨rfl,rfl,rfl,rfl,rfl,rfl,trivial⟩
end
section
variable (bk cap:Nat) (q:List Value×(Nat×Nat)) (fv:FuncId) (Fc:Pf) (c:Ch→Ch→Int) (W:Wk0 c) (U:Ch→Prop) (hcmp:∀x y,U x→U y→Enters fv∧Spec prog fv #[x.v,y.v] [Fc] [] (RetV (.int .i64 (c x y))))
include hcmp W in
theorem insSC_ok (l:List Ch) (n:Nat) (hn:n=l.length) (hn2:n≤1000000) (hq:AxOK (n * 7) q) (hU:∀x ∈ l,U x) (a bb:Nat) (hab:a≤bb) (hb:bb≤n) :
  Enters 173∧Spec prog 173 #[.slice (some ⟨bk,0,none⟩) n cap,.int .i64 (a:Int),.int .i64 (bb:Int),.func (.func fv) #[] #[]] [Fc] [Ax 108 chf bk l q]
   ⟨{l':List Ch // Win a bb l l'∧Sw c a bb l'},fun _=>.tuple #[],fun _=>True,fun _=>[],fun l'=>[Ax 108 chf bk l'.1 q]⟩:=by
 obtain ⟨A,M,B,hl,hA,hM⟩:∃A M B,l=A++(M++B)∧A.length=a∧M.length=bb - a:=⟨l.take a,(l.drop a).take (bb - a),(l.drop a).drop (bb - a),by rw [List.take_append_drop,List.take_append_drop],by rw [List.length_take];omega,by rw [List.length_take,List.length_drop];omega⟩
 subst hl hA
 have e:bb=A.length+M.length:=by omega
 subst e
 have s:=insWC_ok bk cap q fv Fc c U hcmp A M B n (by rw [hn];simp) hn2 hq hU
 have h:=sw_of (A:=A) (B:=B) (isR_srd W M)
 rw [isR_len] at h
 exact ⟨s.1,s.2.imp fun G w hp x w' hx hs=>⟨⟨A++(isR c M++B),win_of (W1 M),h⟩,rfl,trivial,hs⟩⟩
include hcmp W in
set_option maxHeartbeats 8000000 in
theorem pdqWC_ok:∀(N:Nat) (l:List Ch) (n:Nat) (_:n=l.length) (_:n<256) (_:AxOK (n * 7) q) (_:∀x ∈ l,U x) (a bb:Nat) (_:a≤bb) (_:bb≤n) (_:bb - a≤N) (_:Lw c a bb l) (lim:Int),
  Enters 130∧Spec prog 130 #[.slice (some ⟨bk,0,none⟩) n cap,.int .i64 (a:Int),.int .i64 (bb:Int),.int .i64 lim,.func (.func fv) #[] #[]] [Fc] [Ax 108 chf bk l q]
   ⟨{l':List Ch // Win a bb l l'∧Sw c a bb l'},fun _=>.tuple #[],fun _=>True,fun _=>[],fun l'=>[Ax 108 chf bk l'.1 q]⟩:=by
 intro N
 induction N using Nat.strongRecOn with
 | ind N ih=>
 intro l n hn hn2 hq hU a bb hab hb hN hlw lim
 have ih2:=fun (m:List Ch) (hm:n=m.length) (hUm:∀x ∈ m,U x) (a' b':Nat) (h1:a'≤b') (h2:b'≤n) (h3:b' - a'<bb - a) (h4:Lw c a' b' m) lim=>ih (b' - a') (by omega) m n hm hn2 hq hUm a' b' h1 h2 (Nat.le_refl _) h4 lim
 clear ih
 refine ZM [_,_,_,_,_] func130 ntmps130 fun G w hp=>?_
 repeat' (first|refine ZE ?_|refine ZD ?_|refine ZF ?_|fail)
 refine Z8 (X:={t:Nat×Nat×Int×Bool×Bool×List Ch // t.1≤t.2.1∧Jw c a bb t.1 t.2.1 l t.2.2.2.2.2}) (fun t=>[(0,.slice (some ⟨bk,0,none⟩) n cap),(1,.int .i64 (t.1.1:Int)),(2,.int .i64 (t.1.2.1:Int)),(3,.int .i64 t.1.2.2.1),(4,.func (.func fv) #[] #[]),(10,.bool t.1.2.2.2.1),(11,.bool t.1.2.2.2.2.1)]) (fun _=>[Fc]) (fun t=>[Ax 108 chf bk t.1.2.2.2.2.2 q]) (fun t=>t.1.2.1 - t.1.1)
  ⟨(a,bb,lim,true,true,l),hab,Jw.init⟩ ⟨rfl,rfl,rfl,rfl,rfl,rfl,rfl,trivial⟩ ?_
 rintro ⟨⟨a1,b1,li,wb,wp,m⟩,h1,hJ⟩
 dsimp only at h1 hJ ⊢
 have hm:=hJ.w.len
 have ha1:=hJ.h1
 have hb1:=hJ.h2
 have hUm:=hJ.w.sub hU
 have hbl:bb≤l.length:=by omega
 obtain ⟨L,hL⟩:∃L,L=b1 - a1:=⟨_,rfl⟩
 have w0:IntKind.i64.wrap ((b1:Int) - (a1:Int))=(L:Int):=by simp (disch:=omega) only [wrapi];omega
 by_cases h12:L≤12
 ·have s1:=insSC_ok bk cap q fv Fc c W U hcmp m n (by omega) (by omega) hq hUm a1 b1 h1 (by omega)
  repeat' (first|refine ZE ?_|refine ZD ?_|refine ZF ?_|refine ZC (s1) (fun _ _=>?_)|rw [w0]|(refine ZG (fun hc=>?_) (fun hc=>?_)<;>(try simp at hc)<;>(try omega))|fail)
  rename_i l' _
  obtain ⟨l',g1,g2⟩:=l'
  exact Ym (Yx (YD ⟨l',(hJ.win hbl g1).done g2⟩ rfl trivial))
 by_cases hli:li=0
 ·have s1:=heapC_ok bk cap q fv Fc c W U hcmp m n (by omega) (by omega) hq hUm a1 b1 (by omega) (by omega)
  repeat' (first|refine ZE ?_|refine ZD ?_|refine ZF ?_|refine ZC (s1) (fun _ _=>?_)|rw [w0]|(refine ZG (fun hc=>?_) (fun hc=>?_)<;>(try simp at hc)<;>(try omega))|fail)
  rename_i l' _
  obtain ⟨l',g1,g2⟩:=l'
  exact Ym (Yx (YD ⟨l',(hJ.win hbl g1).done g2⟩ rfl trivial))
 have e12:decide ((L:Int)≤12)=false:=decide_eq_false (by omega)
 have eli:(li == 0)=false:=by rw [beq_eq_false_iff_ne];exact hli
 repeat' (first|refine ZE ?_|refine ZD ?_|refine ZF ?_|refine ZB ?_|rw [w0]|rw [e12]|rw [eli]|fail)
 refine k_cut (Y:={t:Int×List Ch // Win a1 b1 m t.2}) (fun t=>[(0,.slice (some ⟨bk,0,none⟩) n cap),(1,.int .i64 (a1:Int)),(2,.int .i64 (b1:Int)),(3,.int .i64 t.1.1),(4,.func (.func fv) #[] #[]),(10,.bool wb),(11,.bool wp),(12,.int .i64 (L:Int))]) (fun _=>[Fc]) (fun t=>[Ax 108 chf bk t.1.2 q]) ?_ ?_
 rotate_left
 ·intro hcut
  cases wb with
  | true=>
   repeat' (first|refine XJ ?_|refine Xb hcut ⟨(li,m),Win.refl⟩ ⟨rfl,rfl,rfl,rfl,rfl,rfl,rfl,rfl,trivial⟩|refine ZB ?_|fail)
  | false=>
   have s1:=brkC_ok bk cap q fv Fc m n (by omega) hn2 hq a1 b1 (by omega) (by omega)
   repeat' (first|refine Xb hcut ⟨(_,_),?_⟩ ⟨rfl,rfl,rfl,rfl,rfl,rfl,rfl,rfl,trivial⟩|refine ZE ?_|refine ZD ?_|refine ZF ?_|refine ZH ?_|refine ZC (s1) (fun _ _=>?_)|fail)
   rename_i l' _
   exact l'.2
 rintro ⟨⟨li1,m1⟩,hw1⟩
 dsimp only at hw1 ⊢
 have hm1:=hw1.len
 have hJ1:=hJ.win hbl hw1
 have sp:=chpC_ok bk cap q fv Fc c U hcmp m1 n (by omega) (by omega) (hJ1.w.sub hU) a1 b1 (by omega) (by omega)
 repeat' (first|refine ZE ?_|refine ZD ?_|refine ZF ?_|refine ZC (sp) (fun _ _=>?_)|fail)
 rename_i p _
 obtain ⟨⟨p,z⟩,hp1,hp2,hz⟩:=p
 dsimp only at hp1 hp2 hz ⊢
 refine k_cut (Y:={t:Nat×Int×List Ch // a1≤t.1∧t.1<b1∧Win a1 b1 m1 t.2.2}) (fun t=>[(0,.slice (some ⟨bk,0,none⟩) n cap),(1,.int .i64 (a1:Int)),(2,.int .i64 (b1:Int)),(3,.int .i64 li1),(4,.func (.func fv) #[] #[]),(10,.bool wb),(11,.bool wp),(12,.int .i64 (L:Int)),(13,.int .i64 (t.1.1:Int)),(14,.int .i64 t.1.2.1)]) (fun _=>[Fc]) (fun t=>[Ax 108 chf bk t.1.2.2 q]) ?_ ?_
 rotate_left
 ·intro hcut
  by_cases hz2:z=2
  ·subst hz2
   have s1:=revC_ok bk cap q fv Fc m1 n (by omega) (by omega) hq a1 b1 (by omega) (by omega)
   have w1:IntKind.i64.wrap (IntKind.i64.wrap ((b1:Int) - 1) - IntKind.i64.wrap ((p:Int) - (a1:Int)))=((b1 - 1 - (p - a1):Nat):Int):=by simp (disch:=omega) only [wrapi];omega
   refine ZH ?_
   refine ZF ?_
   repeat' (first|refine ZE ?_|refine l_call0 s1 (fun _ _=>?_)|refine ZC s1 (fun _ _=>?_))
   refine ZD ?_
   refine ZF ?_
   repeat' (first|refine ZE ?_)
   rw [w1]
   refine ZD ?_
   refine ZF ?_
   repeat' (first|refine ZE ?_)
   refine ZD ?_
   rename_i l' _
   refine Xb hcut ⟨(b1 - 1 - (p - a1),_,_),?_⟩ ⟨rfl,rfl,rfl,rfl,rfl,rfl,rfl,rfl,rfl,rfl,trivial⟩
   exact ⟨by show a1≤b1 - 1 - (p - a1);omega,by show b1 - 1 - (p - a1)<b1;omega,l'.2⟩
  ·have ez:(z == 2)=false:=by rw [beq_eq_false_iff_ne];exact hz2
   rw [ez]
   repeat' (first|refine XJ ?_|refine Xb hcut ⟨(p,z,m1),hp1,hp2,Win.refl⟩ ⟨rfl,rfl,rfl,rfl,rfl,rfl,rfl,rfl,rfl,rfl,trivial⟩|refine ZB ?_|fail)
 rintro ⟨⟨p,z,m2⟩,hp1,hp2,hw2⟩
 dsimp only at hp1 hp2 hw2 ⊢
 have hm2:=hw2.len
 have hJ2:=hJ1.win hbl hw2
 have hlw2:=hJ2.low hbl hlw
 have sp:=pinsC_ok bk cap q fv Fc c W U hcmp m2 n (by omega) (by omega) hq (hJ2.w.sub hU) a1 b1 (by omega) (by omega) hlw2
 refine Vc (Y:={m3:List Ch // Win a1 b1 m2 m3}) 1 (fun _=>[(0,.slice (some ⟨bk,0,none⟩) n cap),(1,.int .i64 (a1:Int)),(2,.int .i64 (b1:Int)),(3,.int .i64 li1),(4,.func (.func fv) #[] #[]),(10,.bool wb),(11,.bool wp),(12,.int .i64 (L:Int)),(13,.int .i64 (p:Int))]) (fun _=>[Fc]) (fun m3=>[Ax 108 chf bk m3.1 q]) ?_ ?_
 rotate_left
 ·intro hcut
  repeat' (first|refine XJ ?_|refine Xb hcut ⟨_,?_⟩ ⟨rfl,rfl,rfl,rfl,rfl,rfl,rfl,rfl,rfl,trivial⟩|refine ZE ?_|refine ZD ?_|refine ZL ?_|refine ZF ?_|refine ZB ?_|refine ZC (sp) (fun _ _=>?_)|(refine ZJ (fun hc=>?_) (fun hc=>?_)<;>(try simp at hc))|(refine ZG (fun hc=>?_) (fun hc=>?_)<;>(try simp at hc))|fail)
  ·rename_i x _
   obtain ⟨⟨f,m3⟩,g1,g2⟩:=x
   obtain rfl:f=true:=hc
   exact Ym (Yx (YD ⟨m3,(hJ2.win hbl g1).done (g2 rfl)⟩ rfl trivial))
  ·rename_i x _
   exact x.2.1
  all_goals exact Win.refl
 rintro ⟨m3,hw3⟩
 dsimp only at hw3 ⊢
 have hm3:=hw3.len
 have hJ3:=hJ2.win hbl hw3
 have hlw3:=hJ3.low hbl hlw
 have hU3:=hJ3.w.sub hU
 have hn3:n=m3.length:=by omega
 have hp:p<n:=by omega
 have kp:p<m3.length:=by omega
 have ga:=fun (h:0<a1)=>ZI (l:=m3) (i:=a1 - 1) (by omega)
 have wa1:0<a1→IntKind.i64.wrap ((a1:Int) - 1)=((a1 - 1:Nat):Int):=fun h=>by simp (disch:=omega) only [wrapi];omega
 by_cases h0:0<a1∧¬c (gt m3 (a1 - 1)) (gt m3 p)<0
 ·have g1:=ga h0.1
  have hh1:a1 - 1<n:=by omega
  have sp2:=hcmp (gt m3 (a1 - 1)) (gt m3 p) (hU3 _ (Zo (by omega))) (hU3 _ (Zo kp))
  have s1:=parEC_ok bk cap q fv Fc c W U hcmp m3 n hn3 (by omega) hq hU3 a1 b1 p (by omega) (by omega) hp1 hp2
  have h01:=h0.1
  have h02:=h0.2
  repeat' (first|refine ZE ?_|refine ZD ?_|refine ZF ?_|refine ZT ?_|refine ZZ ?_|refine ZU ?_|refine ZC (s1) (fun _ _=>?_)|rw [wa1 h01]|refine ZY (m:=n) (a1 - 1) hh1 ?_|refine ZY (m:=n) p hp ?_|refine Zc 7 (a1 - 1) 0 g1 ?_|refine Zc 7 p 0 (ZI kp) ?_|refine Zi sp2 (fun _ _=>?_)|(refine ZP (fun hc=>?_) (fun hc=>?_)<;>(try simp at hc)<;>(try omega))|refine ZA 17 [] [(0,0),(1,0),(2,0),(3,0),(4,0),(5,0),(6,0),(7,0),(8,0),(9,0),(10,0),(11,0),(12,0),(13,4),(14,0),(15,0),(16,0)] [] ?_|(refine ZG (fun hc=>?_) (fun hc=>?_)<;>(try simp at hc)<;>(try omega))|fail)
  rename_i x _
  obtain ⟨⟨mid,m4⟩,f1,f2,f3,f4,f5⟩:=x
  dsimp only at f1 f2 f3 f4 f5 ⊢
  have hlow:∀k,a1≤k→k<b1→¬c (gt m4 k) (gt m4 a1)<0:=fun k k1 k2=>by
   rw [f4]
   exact f1.all (by omega) (P:=fun x=>¬c x (gt m3 p)<0) (fun k k1 k2=>W.t _ _ _ h02 (hlw3 h01 k k1 k2)) k k1 k2
  exact Zb ⟨(mid,b1,li1,wb,wp,m4),f3,(hJ3.win hbl f1).shrink (by omega) (Nat.le_refl _) (eq_shrink W hlow f5)⟩ (by show b1 - mid<b1 - a1;omega) ⟨rfl,rfl,rfl,rfl,rfl,rfl,rfl,trivial⟩
 ·have s1:=partC_ok bk cap q fv Fc c U hcmp m3 n hn3 (by omega) hq hU3 a1 b1 p (by omega) (by omega) hp1 hp2
  have w8:IntKind.i64.wrap ((L:Int).tdiv 8)=((L / 8:Nat):Int):=by
   have:(L:Int).tdiv 8=((L / 8:Nat):Int):=(Int.ofNat_tdiv _ _).symm
   rw [this,wrapi (by omega) (by omega)]
  have key:∀(mid:Nat) (ap:Bool) (m4:List Ch),Win a1 b1 m3 m4→Pt0 c a1 b1 mid m4→True:=fun _ _ _ _ _=>trivial
  clear key
  refine Vc (Y:={t:Nat×Bool×List Ch // Win a1 b1 m3 t.2.2∧Pt0 c a1 b1 t.1 t.2.2}) 2 (fun t=>[(0,.slice (some ⟨bk,0,none⟩) n cap),(1,.int .i64 (a1:Int)),(2,.int .i64 (b1:Int)),(3,.int .i64 li1),(4,.func (.func fv) #[] #[]),(12,.int .i64 (L:Int)),(16,.int .i64 (t.1.1:Int)),(17,.bool t.1.2.1)]) (fun _=>[Fc]) (fun t=>[Ax 108 chf bk t.1.2.2 q]) ?_ ?_
  rotate_left
  ·intro hcut
   by_cases h01:0<a1
   ·have g1:=ga h01
    have hh1:a1 - 1<n:=by omega
    have sp2:=hcmp (gt m3 (a1 - 1)) (gt m3 p) (hU3 _ (Zo (by omega))) (hU3 _ (Zo kp))
    have h02:c (gt m3 (a1 - 1)) (gt m3 p)<0:=Classical.byContradiction fun h=>h0 ⟨h01,h⟩
    repeat' (first|refine XJ ?_|refine Xb hcut ⟨(_,_,_),?_⟩ ⟨rfl,rfl,rfl,rfl,rfl,rfl,rfl,rfl,trivial⟩|refine ZE ?_|refine ZD ?_|refine ZF ?_|refine ZT ?_|refine ZZ ?_|refine ZU ?_|refine ZC (s1) (fun _ _=>?_)|rw [wa1 h01]|refine ZY (m:=n) (a1 - 1) hh1 ?_|refine ZY (m:=n) p hp ?_|refine Zc 7 (a1 - 1) 0 g1 ?_|refine Zc 7 p 0 (ZI kp) ?_|refine Zi sp2 (fun _ _=>?_)|(refine ZP (fun hc=>?_) (fun hc=>?_)<;>(try simp at hc)<;>(try omega))|refine ZA 17 [] [(0,0),(1,0),(2,0),(3,0),(4,0),(5,0),(6,0),(7,0),(8,0),(9,0),(10,0),(11,0),(12,0),(13,4),(14,0),(15,0),(16,0)] [] ?_|(refine ZG (fun hc=>?_) (fun hc=>?_)<;>(try simp at hc)<;>(try omega))|fail)
   ·repeat' (first|refine XJ ?_|refine Xb hcut ⟨(_,_,_),?_⟩ ⟨rfl,rfl,rfl,rfl,rfl,rfl,rfl,rfl,trivial⟩|refine ZE ?_|refine ZD ?_|refine ZF ?_|refine ZB ?_|refine ZT ?_|refine ZZ ?_|refine ZU ?_|refine ZC (s1) (fun _ _=>?_)|(refine ZP (fun hc=>?_) (fun hc=>?_)<;>(try simp at hc)<;>(try omega))|refine ZA 17 [] [(0,0),(1,0),(2,0),(3,0),(4,0),(5,0),(6,0),(7,0),(8,0),(9,0),(10,0),(11,0),(12,0),(13,4),(14,0),(15,0),(16,0)] [] ?_|fail)
  clear s1
  rintro ⟨⟨mid,ap,m4⟩,f1,f2⟩
  dsimp only at f1 f2 ⊢
  have f3:=f2.h1
  have f4:=f2.h2
  have hJ4:=hJ3.win hbl f1
  have hlw4:=hJ4.low hbl hlw
  have hm4:=f1.len
  have hU4:=hJ4.w.sub hU
  have w1:IntKind.i64.wrap ((mid:Int) - (a1:Int))=((mid - a1:Nat):Int):=by simp (disch:=omega) only [wrapi];omega
  have w2:IntKind.i64.wrap ((b1:Int) - (mid:Int))=((b1 - mid:Nat):Int):=by simp (disch:=omega) only [wrapi];omega
  have w3:IntKind.i64.wrap ((mid:Int)+1)=((mid+1:Nat):Int):=by simp (disch:=omega) only [wrapi];omega
  by_cases hlr:mid - a1<b1 - mid
  ·have s1:=ih2 m4 (by omega) hU4 a1 mid f3 (by omega) (by omega) (hlw4.sub (by omega)) li1
   repeat' (first|refine ZE ?_|refine ZD ?_|refine ZF ?_|refine ZC (s1) (fun _ _=>?_)|rw [w1]|rw [w2]|rw [w3]|rw [w8]|(refine ZG (fun hc=>?_) (fun hc=>?_)<;>(try simp at hc)<;>(try omega))|fail)
   rename_i x _
   obtain ⟨m5,k1,k2⟩:=x
   exact Zb ⟨(mid+1,b1,li1,_,ap,m5),by show mid+1≤b1;omega,(hJ4.win hbl (k1.mono (Nat.le_refl _) (by omega))).shrink (by omega) (Nat.le_refl _) (f2.left W (by omega) k1 k2)⟩ (by show b1 - (mid+1)<b1 - a1;omega) ⟨rfl,rfl,rfl,rfl,rfl,rfl,rfl,trivial⟩
  ·have s1:=ih2 m4 (by omega) hU4 (mid+1) b1 (by omega) (by omega) (by omega) f2.lw li1
   repeat' (first|refine ZE ?_|refine ZD ?_|refine ZF ?_|refine ZC (s1) (fun _ _=>?_)|rw [w1]|rw [w2]|rw [w3]|rw [w8]|(refine ZG (fun hc=>?_) (fun hc=>?_)<;>(try simp at hc)<;>(try omega))|fail)
   rename_i x _
   obtain ⟨m5,k1,k2⟩:=x
   exact Zb ⟨(a1,mid,li1,_,ap,m5),f3,(hJ4.win hbl (k1.mono (by omega) (Nat.le_refl _))).shrink (Nat.le_refl _) (by show mid≤b1;omega) (f2.right W (by omega) k1 k2)⟩ (by show mid - a1<b1 - a1;omega) ⟨rfl,rfl,rfl,rfl,rfl,rfl,rfl,trivial⟩
end
theorem insC0_ok (o:Option Addr) (cap:Nat) (fv:FuncId) :
  Enters 173∧Spec prog 173 #[.slice o 0 cap,.int .i64 0,.int .i64 0,.func (.func fv) #[] #[]] [] [] ⟨Unit,fun _=>.tuple #[],fun _=>True,fun _=>[],fun _=>[]⟩:=by
 refine ZM [_,_,_,_] func173 ntmps173 fun G w hp=>?_
 repeat' (first|refine ZE ?_|refine ZD ?_|refine ZF ?_|fail)
 refine Z8 (X:=Unit) (fun _=>[(2,.int .i64 0),(8,.int .i64 1)]) (fun _=>[]) (fun _=>[]) (fun _=>0) () ⟨rfl,rfl,trivial⟩ ?_
 rintro ⟨⟩
 repeat' (first|refine ZE ?_|refine ZD ?_|refine ZF ?_|refine ZB ?_|refine ZW ?_|fail)
 exact Yc () rfl trivial
theorem pdqC0_ok (o:Option Addr) (cap:Nat) (lim:Int) (fv:FuncId) :
  Enters 130∧Spec prog 130 #[.slice o 0 cap,.int .i64 0,.int .i64 0,.int .i64 lim,.func (.func fv) #[] #[]] [] [] ⟨Unit,fun _=>.tuple #[],fun _=>True,fun _=>[],fun _=>[]⟩:=by
 have s1:=insC0_ok o cap fv
 refine ZM [_,_,_,_,_] func130 ntmps130 fun G w hp=>?_
 repeat' (first|refine ZE ?_|refine ZD ?_|refine ZF ?_|fail)
 refine Z8 (X:=Unit) (fun _=>[(0,.slice o 0 cap),(1,.int .i64 0),(2,.int .i64 0),(3,.int .i64 lim),(4,.func (.func fv) #[] #[])]) (fun _=>[]) (fun _=>[]) (fun _=>0) () ⟨rfl,rfl,rfl,rfl,rfl,trivial⟩ ?_
 rintro ⟨⟩
 repeat' (first|refine ZE ?_|refine ZD ?_|refine ZF ?_|refine ZH ?_|refine ZC (s1) (fun _ _=>?_)|fail)
 exact Ym (Yx (YD () rfl trivial))
theorem Ww (o:Option Addr) (cap:Nat) (es:List Ch) (fv:FuncId) (Fc:Pf) (c:Ch→Ch→Int) (hn:es.length≤200)
  (ha:∀a b,c a b<0→¬c b a<0) (ht:∀a b d,¬c b a<0→¬c d b<0→¬c d a<0) (hcmp:∀x y,x ∈ es→y ∈ es→Enters fv∧Spec prog fv #[x.v,y.v] [Fc] [] (RetV (.int .i64 (c x y)))) :
  Enters 67∧Spec prog 67 #[.slice o es.length cap,.func (.func fv) #[] #[]] [Fc] [Row 108 7 o es.length cap (es.flatMap chf)]
   ⟨List Ch,fun _=>.tuple #[],fun l=>l.Perm es∧Srd c l,fun _=>[],fun l=>[Row 108 7 o es.length cap (l.flatMap chf)]⟩:=by
 have hu:IntKind.u64.wrap ((es.length:Nat):Int)=(es.length:Int):=Wc (by omega)
 have s2:=bitsLen_ok es.length (by omega)
 by_cases h0:es=[]
 ·subst h0
  refine ZM [_,_] func67 ntmps67 fun G w hp=>?_
  have s3:=fun lim=>pdqC0_ok o cap lim fv
  repeat' (first|refine ZE ?_|refine ZD ?_|refine ZF ?_|refine ZC (s2) (fun _ _=>?_)|refine ZC (s3 _) (fun _ _=>?_)|rw [hu]|fail)
  exact Yc [] rfl ⟨List.Perm.refl _,List.Pairwise.nil⟩
 ·have hlen:0<es.length:=List.length_pos_iff.2 h0
  refine ZM [_,_] func67 ntmps67 fun G w hp=>?_
  refine k_row hlen fun p hp=>?_
  have hq:AxOK (es.length * 7) p.2:=by
   rcases hp.f with h|h
   ·exact .inl h
   ·exact .inr (by rw [List.length_append,hp.l] at h;exact h)
  have ho:=hp.o
  subst ho
  have s4:=fun lim=>pdqWC_ok p.1 cap p.2 fv Fc c ⟨ha,fun x y z=>ht x y z⟩ (fun x=>x ∈ es) (fun x y hx hy=>hcmp x y hx hy) es.length es es.length rfl (by omega) hq (fun x hx=>hx) 0 es.length (Nat.zero_le _) (Nat.le_refl _) (Nat.le_refl _) (fun h=>absurd h (Nat.lt_irrefl _)) lim
  have s3:∀lim,Enters 130∧Spec prog 130 #[.slice (some ⟨p.1,0,none⟩) es.length cap,.int .i64 0,.int .i64 (es.length:Int),.int .i64 lim,.func (.func fv) #[] #[]] [Fc] [Ax 108 chf p.1 es p.2]
    ⟨List Ch,fun _=>.tuple #[],fun l=>l.Perm es∧Srd c l,fun _=>[],fun l=>[Ax 108 chf p.1 l p.2]⟩:=fun lim=>⟨(s4 lim).1,(s4 lim).2.imp fun G w hp x w' hx hs=>⟨x.1,rfl,⟨x.2.1.perm,Sw.srdn x.2.1.len x.2.2⟩,hs⟩⟩
  repeat' (first|refine ZE ?_|refine ZD ?_|refine ZF ?_|refine ZC (s2) (fun _ _=>?_)|refine ZC (s3 _) (fun _ _=>?_)|rw [hu]|fail)
  rename_i l hl
  have hll:=hl.1.length_eq
  refine Zs (r:=Row 108 7 (some ⟨p.1,0,none⟩) es.length cap (l.flatMap chf)) (Lx:=[Ax 108 chf p.1 l p.2]) (fun h hh=>WD (q:=p) ⟨rfl,by rw [Zy (f:=chf) (sz:=7) (fun _=>rfl),hll],by rw [←hp.c,List.length_append,List.length_append,Zy (f:=chf) (sz:=7) (fun _=>rfl),Zy (f:=chf) (sz:=7) (fun _=>rfl),hll],hp.m,by rw [List.length_append,Zy (f:=chf) (sz:=7) (fun _=>rfl),hll];rcases hp.f with h|h;exact .inl h;exact .inr (by rw [List.length_append,hp.l] at h;exact h)⟩ h hh) ?_
  exact Yc l rfl hl
def cmpC (a b:Ch):Int:=cmpO a.nm b.nm
theorem VU (a b:Ch) (h:cmpC a b<0):¬cmpC b a<0:=by
 have:=(Z1 a.nm b.nm).1 h
 unfold cmpC;omega
theorem cmpO_le {a b d:Nm} (h1:¬cmpO b a<0) (h2:¬cmpO d b<0):¬cmpO d a<0:=fun h=>by
 by_cases h3:cmpO a b<0
 ·exact h2 (YN h h3)
 ·have h4:¬0<cmpO a b:=fun h5=>h1 ((Z1 b a).2 h5)
  have h5:cmpO a b=0:=by omega
  obtain rfl:=(Z4 a b).1 h5
  exact h2 h
theorem cmpC_t (a b d:Ch) (h1:¬cmpC b a<0) (h2:¬cmpC d b<0):¬cmpC d a<0:=cmpO_le h1 h2
theorem Spec.more {P:Program} {f:FuncId} {args:Array Value} {F:List Pf} {R:List HP} {post:Post} (h:Spec P f args [] R post):Spec P f args F R post:=fun G w hp hs=>
 (h G w hp (hs.facts fun _ _ _ hx=>by cases hx))
theorem UM (a c:Ch) (ha:a.nm.owner.size≤1099511627770) (hc:c.nm.owner.size≤1099511627770):Enters 66∧Spec prog 66 #[a.v,c.v] [] [] (RetV (.int .i64 (cmpC a c))):=by
 have n1:=XW a.nm c.nm ha hc
 refine ZM [_,_] func66 ntmps66 fun G w hp=>?_
 repeat' (first|refine ZE ?_|refine ZD ?_|refine ZF ?_|refine ZS ?_|refine ZR (fun b=>?_)|refine ZC (n1) (fun _ _=>?_)|fail)
 exact ZK () rfl trivial
def Ch.z:Ch:=⟨⟨0,⟨#[]⟩,0,0,⟨#[]⟩⟩,⟨#[]⟩,false⟩
def chAt (cs:List Ch) (p:Nm×Nat):Ch:=(cs[p.2]?).getD Ch.z
def insC (c:Ch):List Ch→List Ch
 | []=>[c]
 | d::l=>if cmpC c d<0 then c::d::l else d::insC c l
def srtC (l:List Ch):List Ch:=l.foldr insC []
def vwr (cs:List Ch):List Ch:=srtC ((lastL cs).map (chAt cs))
theorem UL (c:Ch):∀l,(insC c l).Perm (c::l)
 | []=>List.Perm.refl _
 | d::l=>by
  unfold insC
  split
  ·exact List.Perm.refl _
  ·exact ((UL c l).cons d).trans (List.Perm.swap _ _ _)
theorem Yh:∀l,(srtC l).Perm l
 | []=>List.Perm.refl _
 | c::l=>(UL c _).trans ((Yh l).cons c)
theorem insC_srd (c:Ch):∀l,Srd cmpC l→Srd cmpC (insC c l)
 | [],_=>List.pairwise_singleton _ _
 | d::l,h=>by
  obtain ⟨h1,h2⟩:=List.pairwise_cons.1 h
  unfold insC
  split
  ·rename_i hlt
   refine List.pairwise_cons.2 ⟨fun x hx=>?_,h⟩
   rcases List.mem_cons.1 hx with rfl|hx
   ·exact VU _ _ hlt
   ·exact cmpC_t _ _ _ (VU _ _ hlt) (h1 x hx)
  ·rename_i hge
   refine List.pairwise_cons.2 ⟨fun x hx=>?_,insC_srd c l h2⟩
   rcases List.mem_cons.1 ((UL c l).mem_iff.1 hx) with rfl|hx
   ·exact hge
   ·exact h1 x hx
theorem W0:∀l,Srd cmpC (srtC l)
 | []=>List.Pairwise.nil
 | c::l=>insC_srd c _ (W0 l)
theorem srd_eq:∀(a b:List Ch),a.Perm b→Srd cmpC a→Srd cmpC b→(a.map (·.nm)).Nodup→a=b
 | [],b,hp,_,_,_=>(List.nil_perm.1 hp).symm
 | x::a,[],hp,_,_,_=>by have:=hp.length_eq;simp at this
 | x::a,y::b,hp,ha,hb,hn=>by
  obtain ⟨a1,a2⟩:=List.pairwise_cons.1 ha
  obtain ⟨b1,b2⟩:=List.pairwise_cons.1 hb
  have hxy:x=y:=by
   rcases List.mem_cons.1 (hp.mem_iff.1 (List.mem_cons_self (a:=x))) with h|h
   ·exact h
   ·rcases List.mem_cons.1 (hp.mem_iff.2 (List.mem_cons_self (a:=y))) with h'|h'
    ·exact h'.symm
    ·have h1:=a1 y h'
     have h2:=b1 x h
     have h3:cmpO x.nm y.nm=0:=by
      have:=Z1 x.nm y.nm
      have:=Z1 y.nm x.nm
      unfold cmpC at h1 h2
      omega
     have h4:=(Z4 _ _).1 h3
     simp only [List.map_cons,List.nodup_cons] at hn
     exact absurd (List.mem_map.2 ⟨y,h',h4.symm⟩) hn.1
  subst hxy
  simp only [List.map_cons,List.nodup_cons] at hn
  rw [srd_eq a b (List.Perm.cons_inv hp) a2 b2 hn.2]
theorem Xg {cs:List Ch} {p:Nm×Nat} (h:p ∈ lastL cs):cs[p.2]? = some (chAt cs p)∧(chAt cs p).nm=p.1:=by
 have h1:=(UD (lastL cs) (Yp cs) p.1 p.2).2 h
 obtain ⟨c,h2,h3⟩:=(Xk p.1 cs).1 p.2 h1
 unfold chAt
 rw [h2]
 exact ⟨rfl,(XX h3).1⟩
theorem vwr_eq {cs l:List Ch} (hp:l.Perm ((lastL cs).map (chAt cs))) (hs:Srd cmpC l):l=vwr cs:=by
 refine srd_eq _ _ (hp.trans (Yh _).symm) hs (W0 _) ?_
 have h1:=hp.map (·.nm)
 refine h1.nodup_iff.2 ?_
 rw [List.map_map]
 have h2:(lastL cs).map ((·.nm) ∘ chAt cs)=(lastL cs).map (·.1):=List.map_congr_left fun p hp=>(Xg hp).2
 rw [h2]
 exact Yp cs
def WrPost (b:Nat) (ps:Option Addr) (rs:List (Nm×Ch)) (cs:List Ch):Post:=⟨Option Addr×Nat,fun q=>.slice q.1 (vwr cs).length q.2,fun _=>True,fun _=>[],fun q=>[Vw b ps rs cs,Row 108 7 q.1 (vwr cs).length q.2 ((vwr cs).flatMap chf)]⟩
theorem Wm (cs:List Ch):(vwr cs).length=(lastL cs).length:=by
 unfold vwr;rw [(Yh _).length_eq,List.length_map]
set_option maxHeartbeats 2000000 in
theorem Ue (b:Nat) (ps:Option Addr) (rs:List (Nm×Ch)) (cs:List Ch) (hl:(lastL cs).length≤200) (hsz:∀c ∈ cs,c.nm.owner.size≤1099511627770) :
  Enters 25∧Spec prog 25 #[.pointer (some ⟨b,0,none⟩)] [Usg] [Vw b ps rs cs] (WrPost b ps rs cs):=by
 by_cases hcs:cs=[]
 ·subst hcs
  have n1:=Ww none 0 [] 66 Usg cmpC (by simp) VU cmpC_t (by simp)
  refine ZM [_] func25 ntmps25 fun G w hp=>?_
  refine k_vw fun q=>?_
  obtain ⟨r1,r2,o,cap⟩:=q
  repeat' (first|refine ZE ?_|refine ZD ?_|refine ZF ?_|refine ZS ?_|refine ZB ?_|refine l_rng (K:=Nm.v) (V:=iv) (fun it=>?_)|fail)
  refine Z8 (X:=Unit) (fun _=>[(0,.pointer (some ⟨b,0,none⟩)),(3,.slice none 0 0),(12,.pointer (some ⟨it,0,none⟩))]) (fun _=>[Usg]) (fun _=>[Pt b (.cells #[.pointer ps,.map (some r1),.slice o 0 cap,.map (some r2)] 143),Mp Nm.v Ch.v r1 rs,Row 108 7 o 0 cap [],MpI Nm.v iv r2 it [] []]) (fun _=>0) () ⟨rfl,rfl,rfl,trivial⟩ ?_
  rintro ⟨⟩
  refine Zs (r:=Row 108 7 none 0 0 []) (Lx:=[]) (fun h _=>Yj _ _ h) ?_
  repeat' (first|refine ZE ?_|refine ZD ?_|refine ZF ?_|refine ZH ?_|refine ZB ?_|refine ZW ?_|refine ZC (n1) (fun _ _=>?_)|refine l_nxt (K:=Nm.v) (V:=iv) (fun p hp=>?_) (fun hp=>?_)|fail)
  ·exfalso
   obtain ⟨rest,h⟩:=hp
   have:=h.length_eq
   simp at this
  ·rename_i l hl2
   obtain rfl:l=[]:=List.perm_nil.1 hl2.1
   refine k_rngE (r:=r2) (it:=it) (K:=Nm.v) (V:=iv) (m:=[]) ?_
   refine k_vw' (cs:=[]) (rs:=rs) ?_ rfl rfl rfl
   exact ZK (post:=WrPost b ps rs []) (none,0) rfl trivial
 ·have hpos:0<cs.length:=List.length_pos_iff.2 hcs
  refine ZM [_] func25 ntmps25 fun G w hp=>?_
  refine k_vw fun q=>?_
  obtain ⟨r1,r2,o,cap⟩:=q
  refine k_row (m:=cs.length) hpos fun p hp=>?_
  have ho:=hp.o
  subst ho
  have hsp:Ax 108 chf p.1 cs p.2=Pt p.1 (.cells (cs.flatMap chf++p.2.1).toArray 108 p.2.2):=rfl
  rw [←hsp]
  repeat' (first|refine ZE ?_|refine ZD ?_|refine ZF ?_|refine ZS ?_|refine ZB ?_|refine l_rng (K:=Nm.v) (V:=iv) (fun it=>?_)|fail)
  refine Zs (r:=Row 108 7 none 0 0 []) (Lx:=[]) (fun h _=>Yj _ _ h) ?_
  refine Z8 (X:={t:List (Nm×Nat)×Option Addr×Nat // ∃rest,(t.1++rest).Perm (lastL cs)}) (fun t=>[(0,.pointer (some ⟨b,0,none⟩)),(3,.slice t.1.2.1 (t.1.1.map (chAt cs)).length t.1.2.2),(12,.pointer (some ⟨it,0,none⟩))]) (fun _=>[Usg])
   (fun t=>[Pt b (.cells #[.pointer ps,.map (some r1),.slice (some ⟨p.1,0,none⟩) cs.length cap,.map (some r2)] 143),Mp Nm.v Ch.v r1 rs,Ax 108 chf p.1 cs p.2,MpI Nm.v iv r2 it (lastL cs) t.1.1,Row 108 7 t.1.2.1 (t.1.1.map (chAt cs)).length t.1.2.2 ((t.1.1.map (chAt cs)).flatMap chf)]) (fun t=>(lastL cs).length - t.1.1.length)
   ⟨([],none,0),lastL cs,by simp⟩ ⟨rfl,rfl,rfl,trivial⟩ ?_
  rintro ⟨⟨pre,o,oc⟩,rest,hrest⟩
  have hprel:=hrest.length_eq
  rw [List.length_append] at hprel
  dsimp only
  repeat' (first|refine ZE ?_|refine ZD ?_|refine ZF ?_|refine ZS ?_|refine ZH ?_|refine ZB ?_|refine ZW ?_|refine l_nxt (K:=Nm.v) (V:=iv) (fun e he=>?_) (fun he=>?_)|refine l_ent (K:=Nm.v) (V:=iv) e ?_|fail)
  ·have hem:e ∈ lastL cs:=by
    obtain ⟨rest',h⟩:=he
    exact h.mem_iff.1 (by simp)
   obtain ⟨he1,he2⟩:=Xg hem
   have hil:=(List.getElem?_eq_some_iff.1 he1).1
   have hlen2:pre.length<(lastL cs).length:=by
    obtain ⟨rest',h⟩:=he
    have:=h.length_eq
    simp at this;omega
   have hpl:(List.map (chAt cs) pre).length≤200:=by simp;omega
   repeat' (first|refine ZE ?_|refine ZD ?_|refine ZX (fun b=>?_)|refine l_ixS (m:=cs.length) e.2 hil ?_|refine Zn 7 e.2 0 he1 ?_|refine l_app1 (fun o' cap'=>?_)|fail)
   have e1:(List.map (chAt cs) pre).length+1=(List.map (chAt cs) (pre++[e])).length:=by simp
   have e2:List.flatMap chf (List.map (chAt cs) pre)++chf (chAt cs e)=List.flatMap chf (List.map (chAt cs) (pre++[e])):=by simp
   refine k_rowc (T:=108) (sz:=7) (o:=o') (cap:=cap') (m:=(List.map (chAt cs) pre).length+1) _ _ e1 e2 ?_
   exact Zb ⟨(pre++[e],o',cap'),he⟩ (by show (lastL cs).length - (pre++[e]).length<(lastL cs).length - pre.length;simp;omega) ⟨rfl,(by show look _ _=some (Value.slice o' (List.map (chAt cs) (pre++[e])).length cap');rw [←e1];rfl),rfl,trivial⟩
  ·have hpm:(pre.map (chAt cs)).Perm ((lastL cs).map (chAt cs)):=he.map _
   have n1:=Ww o oc (pre.map (chAt cs)) 66 Usg cmpC (by rw [hpm.length_eq,List.length_map];exact hl) VU cmpC_t (fun x y hx hy=>by
    have hz:∀x ∈ pre.map (chAt cs),x.nm.owner.size≤1099511627770:=fun x hx=>by
     obtain ⟨p,hp1,hp2⟩:=List.mem_map.1 (hpm.mem_iff.1 hx)
     rw [←hp2]
     exact hsz _ (List.mem_of_getElem? (Xg hp1).1)
    have:=UM x y (hz x hx) (hz y hy)
    exact ⟨this.1,this.2.more⟩)
   repeat' (first|refine ZE ?_|refine ZD ?_|refine ZF ?_|refine ZC (n1) (fun _ _=>?_)|fail)
   rename_i l hl2
   have hle:l=vwr cs:=vwr_eq (hl2.1.trans hpm) hl2.2
   subst hle
   have e3:(pre.map (chAt cs)).length=(vwr cs).length:=hl2.1.length_eq.symm
   refine k_rngE (r:=r2) (it:=it) (K:=Nm.v) (V:=iv) (m:=lastL cs) (pre:=pre) ?_
   refine Zs (r:=Row 108 7 (some ⟨p.1,0,none⟩) cs.length cap (cs.flatMap chf)) (Lx:=[Ax 108 chf p.1 cs p.2]) (fun h hh=>WD hp h hh) ?_
   refine k_vw' (cs:=cs) (rs:=rs) (o:=some ⟨p.1,0,none⟩) (m:=cs.length) (xs:=cs.flatMap chf) ?_ rfl rfl rfl
   refine k_rowc (T:=108) (sz:=7) (o:=o) (cap:=oc) (m:=(pre.map (chAt cs)).length) _ _ e3 rfl ?_
   exact ZK (post:=WrPost b ps rs cs) (o,oc) (by show resV [Value.slice o (pre.map (chAt cs)).length oc]=_;rw [e3];rfl) trivial
variable {n:Nat} {C:Cx} {Q:Exit→Act→World→Prop} {E E':List (Nat×Value)} {F F' F1 Fs F0:List Pf} {R R' R0 Rs N N' A:List HP} {k k':List Fr} {ops l:List Oper} {L L':List (Nat×Nat)} {Tl:List Nat} {i d:Nat} {t ty0:TypeId} {x y:Operand} {pos:String} {aft:Array Edge} {gd:Option (Nat×Bool)}
section
def IterU {α:Type} (gf:FuncId) (lb:List Value) (enc:α→Value) (Ok All:List α→Prop) (Fg:List Pf) (A A':List HP):Prop:=
 ∀(v:Value) (Y:Pf) (I Ix:List α→HP),(∀pre e,Ok (pre++[e])→SpecV v [enc e] [Y] [I pre] (YPost I Ix pre e))→
  Enters gf∧Spec prog gf (v::lb).toArray (Y::Fg) (I []::A) ⟨Option (List α)×List α,fun _=>.tuple #[],fun r=>match r.1 with|none=>All r.2|some _=>True,fun _=>[],fun r=>(match r.1 with|none=>I r.2|some pre=>Ix pre)::A'⟩
theorem k_rangeU {α:Type} {g:Operand} {p:Nat} {assign body:Code} {gf:FuncId} {lb:Array Value} {enc:α→Value} {Ok All:List α→Prop} {A':List HP} {Fg:List Pf} {G:H} {w0:World} {hp0:H} {ds:List Deferred} (J Jx:List α→HP) (hit:IterU gf lb.toList enc Ok All Fg A A')
  (hbody:∀(q:LR) (l:Nat) (pre:List α) (e:α),Ok (pre++[e])→∀G w0 hp0,Wk n ⟨some l,G,w0,hp0,[]⟩ [.c assign,.r l,.c body] (RQ q l G w0 hp0 (J (pre++[e])) (Jx (pre++[e]))) ((p,enc e)::E) F [Pt l (.loop (rcd q .ready none)),J pre])
  (hdone:∀D xs,All xs→Wk n ⟨none,G,w0,hp0,{target:=.collected D,args:=#[]}::ds⟩ k' Q E F (J xs::(A'++Pt D (.deferred (some []))::R')))
  (hstop:∀D pre,Wret n ⟨none,G,w0,hp0,{target:=.collected D,args:=#[]}::ds⟩ Q E F (Jx pre::(A'++Pt D (.deferred (some []))::R')))
  (h:nf 1000 k = .c (.rangeFunc g #[p] assign body)::k':=by rfl) (hg:ev E g=some (.func (.func gf) #[] lb):=by rfl) (hpn:Nat.blt p n=true:=by rfl) (hnr:noR k'=true:=by rfl)
  (sel:Sels (J []::A) R R':=by (repeat (first|exact Sels.nil|exact Sel.here|apply Sel.there|apply Sels.cons));first|done|fail) (hFg:EntF F Fg:=by (repeat (first|exact trivial|exact Sel.here|apply Sel.there|apply EntF.cons));first|done|fail):Wk n ⟨none,G,w0,hp0,ds⟩ k Q E F R:=fun a w ha hs=>XL 1000 k (by
 rw [h]
 show (Code.rangeFunc g #[p] assign body).wpIn (fz none) 0 prog (after none k' Q) a w
 refine wpIn_rangeFunc fun fn hfn=>?_
 let q:LR:=⟨fn,a.tmps,#[p],assign,body,w.heap.size⟩
 let lo:Obj:=.loop (rcd q .ready none)
 have hs1:Sat G w0 hp0 F (Pt (w.heap.size+1) lo::Pt w.heap.size (.deferred (some []))::J []::(A++R')) ((w.alloc (.deferred (some []))).alloc lo):=by
  have:=((hs.sels sel).alloc (.deferred (some []))).alloc lo
  simpa using this
 have hs2:Sat G w0 hp0 F (both (Pt (w.heap.size+1) lo) (J [])::Pt w.heap.size (.deferred (some []))::(A++R')) ((w.alloc (.deferred (some []))).alloc lo):=
  (hs1.sels (A:=[Pt (w.heap.size+1) lo,J []]) (.cons .here (.cons (.there .here) .nil))).shut (x:=both _ _) fun _ hh=>hh
 have hy:∀pre e,Ok (pre++[e])→SpecV (.func (.yield (w.heap.size+1)) #[] #[]) [enc e] _ _ _:=fun pre e hpre=>
  yield_ok (n:=n) (E:=E) (F:=F) (enc:=enc) (q:=q) (l:=w.heap.size+1) (p:=p) (J:=J) (Jx:=Jx) (pre:=pre) (e:=e) rfl (Nat.le_of_ble_eq_true hpn)
   (fun b hb hd=>⟨by rw [hb];exact ha.size,hd,fun t v hv=>by rw [hb];exact ha.slots t v hv⟩) (fun G w0 hp0=>hbody q _ pre e hpre G w0 hp0)
 obtain ⟨eg,hsp⟩:=hit _ _ _ _ hy
 have hev:=ha.ev (x:=g) (by rw [ZQ];exact hg)
 refine ⟨w.heap.size+1,[{target:=.collected w.heap.size,args:=#[]}],(w.alloc (.deferred (some []))).alloc lo,{target:=.fn (.func gf) lb,args:=#[.func (.yield (w.heap.size+1)) #[] #[]]},(w.alloc (.deferred (some []))).alloc lo,gf,#[.func (.yield (w.heap.size+1)) #[] #[]]++lb,(w.alloc (.deferred (some []))).alloc lo,run_enterLoop_outer _ _ _ _ _,?_,fun _ _=>trivial,?_,(fun hx=>by cases hx),?_⟩
 ·simp only [resolve,hev]
  simp [go_sem,Deferred.ofValue,Act.eval]
 ·simp only [invoke]
  exact eg _ _
 ·have e1 : #[Value.func (.yield (w.heap.size+1)) #[] #[]]++lb=(Value.func (.yield (w.heap.size+1)) #[] #[]::lb.toList).toArray:=by rw [←Array.toList_inj];simp
  rw [e1]
  refine Vf (Yn hsp hs2 (.cons .here (Vi A _ R')) (fun hp hF f hf=>?_) fun r w' hr hs3=>?_)
  ·rcases List.mem_cons.1 hf with rfl|hf
   ·exact hF
   ·exact hFg.all hp hF f hf
  ·have hds:({a with defers:=[{target:=.collected w.heap.size,args:=#[]}]++a.defers}:Act).defers={target:=.collected w.heap.size,args:=#[]}::ds:=by simp [ha.defers]
   have ha':Agree n ({target:=.collected w.heap.size,args:=#[]}::ds) (look E) {a with defers:=[{target:=.collected w.heap.size,args:=#[]}]++a.defers}:=⟨ha.size,hds,ha.slots⟩
   obtain ⟨r1,xs⟩:=r
   cases r1 with
   | none=>
    obtain ⟨_,h4⟩:=(show Sat G w0 hp0 F (both (Pt (w.heap.size+1) lo) (J xs)::(A'++Pt w.heap.size (.deferred (some []))::R')) w' from hs3).open' (X:=Unit) (L:=fun _=>[Pt (w.heap.size+1) lo,J xs]) fun _ hh=>⟨(),hh⟩
    refine ⟨none,_,run_endLoop (h4.pt Sel.here) (by simp [rcd]),?_⟩
    have h5:=YR (o':=.loop (rcd q .exhausted none)) h4
    exact hdone w.heap.size xs hr _ _ ha' (h5.res fun _ hh=>Wx hh)
   | some pre=>
    obtain ⟨_,h4⟩:=(show Sat G w0 hp0 F (both (Pt (w.heap.size+1) (.loop (rcd q .done (some .ret)))) (Jx pre)::(A'++Pt w.heap.size (.deferred (some []))::R')) w' from hs3).open' (X:=Unit) (L:=fun _=>[Pt (w.heap.size+1) (.loop (rcd q .done (some .ret))),Jx pre]) fun _ hh=>⟨(),hh⟩
    refine ⟨some .ret,_,run_endLoop (h4.pt Sel.here) (by simp [rcd]),?_⟩
    have h5:=YR (o':=.loop (rcd q .exhausted (some .ret))) h4
    refine wpIn_ret ?_
    rw [Xm hnr]
    exact hstop w.heap.size pre _ _ ha' (h5.res fun _ hh=>Wx hh))
end
theorem mapsValues_ok (r:Nat):Enters 65∧Spec prog 65 #[.map (some r)] [] []
  ⟨Nat,fun b=>.func (.func 129) #[] #[.pointer (some ⟨b,0,none⟩)],fun _=>True,fun b=>[Blk b (.cells #[.map (some r)] 140)],fun _=>[]⟩:=by
 refine ZM [_] func65 ntmps65 fun G w hp=>?_
 repeat' (first|refine ZE ?_|refine ZD ?_|refine ZF ?_|refine ZR (fun b=>?_)|fail)
 refine k_fz ?_
 exact ZK b rfl trivial
abbrev chv (p:Nm×Ch):Value:=p.2.v
def OkP {γ:Type} (m pre:List γ):Prop:=∃rest,(pre++rest).Perm m
theorem Up (b r:Nat) (m:List (Nm×Ch)):IterU 129 [.pointer (some ⟨b,0,none⟩)] chv (OkP m) (fun xs=>xs.Perm m) [Blk b (.cells #[.map (some r)] 140)] [Mp Nm.v Ch.v r m] [Mp Nm.v Ch.v r m]:=by
 intro v Y I Ix hy
 refine ZM [_,_] func129 ntmps129 fun G w hp=>?_
 repeat' (first|refine ZD ?_|refine ZF ?_|refine ZO ?_|refine l_rng (K:=Nm.v) (V:=Ch.v) (fun it=>?_)|fail)
 refine Z8 (X:={pre:List (Nm×Ch) // OkP m pre}) (fun _=>[(0,v),(6,.pointer (some ⟨it,0,none⟩))]) (fun _=>[Y]) (fun t=>[I t.1,MpI Nm.v Ch.v r it m t.1]) (fun t=>m.length - t.1.length) ⟨[],m,by simp⟩ ⟨rfl,rfl,trivial⟩ ?_
 rintro ⟨pre,hpre⟩
 dsimp only
 repeat' (first|refine ZE ?_|refine ZD ?_|refine ZF ?_|refine ZS ?_|refine ZV ?_|refine ZR (fun b=>?_)|refine ZH ?_|refine ZB ?_|refine ZW ?_|refine l_nxt (K:=Nm.v) (V:=Ch.v) (fun e he=>?_) (fun he=>?_)|refine l_ent (K:=Nm.v) (V:=Ch.v) e ?_|refine l_callV (hy pre e he) (fun x _=>?_)|(refine ZG (fun hc=>?_) (fun hc=>?_)<;>(try simp at hc))|fail)
 ·cases x with
  | true=>simp at hc
  | false=>
   refine k_rngE (r:=r) (it:=it) (K:=Nm.v) (V:=Ch.v) (m:=m) (pre:=pre++[e]) ?_
   exact Ym (Yx (YD (some (pre++[e]),[]) rfl trivial))
 ·cases x with
  | false=>simp at hc
  | true=>
   exact Zb ⟨pre++[e],he⟩ (by
    obtain ⟨rest,h⟩:=he
    have:=h.length_eq
    show m.length - (pre++[e]).length<m.length - pre.length
    simp at this ⊢;omega) ⟨rfl,rfl,trivial⟩
 ·refine k_rngE (r:=r) (it:=it) (K:=Nm.v) (V:=Ch.v) (m:=m) (pre:=pre) ?_
  exact Yc (none,pre) rfl he
theorem V9:∀A:List HP,Sels A A []
 | []=>.nil
 | _::A=>.cons .here (V9 A)
theorem sel_last (x:HP):∀A:List HP,Sel x (A++[x]) A
 | []=>.here
 | _::A=>.there (sel_last x A)
theorem sels_tl:∀(A:List HP) (X:HP),Sels A (X::A) [X]
 | [],_=>.nil
 | _::A,X=>.cons (.there .here) (sels_tl A X)
theorem sels_app0:∀A:List HP,Sels A (A++[]) []
 | []=>.nil
 | _::A=>.cons .here (sels_app0 A)
theorem entF_app:∀(F1 F0:List Pf),EntF (F0++F1) F1
 | [],_=>trivial
 | f::F1,F0=>⟨by
   induction F0 with
   | nil=>exact ⟨_,.here⟩
   | cons g F0 ih=>obtain ⟨F',s⟩:=ih;exact ⟨_,.there s⟩,by
   have:=entF_app F1 (F0++[f])
   rwa [List.append_assoc,List.singleton_append] at this⟩
theorem entF_self (F:List Pf):EntF F F:=by simpa using entF_app F []
abbrev JAL (b:Nat) (pre:List (Nm×Ch)) (q:Option Addr×Nat):List HP:=[Pt b (.cells #[.slice q.1 (pre.map (·.2)).length q.2] 42),Row 108 7 q.1 (pre.map (·.2)).length q.2 ((pre.map (·.2)).flatMap chf)]
def JA (b:Nat) (pre:List (Nm×Ch)):HP:=fun h=>∃q,True∧Sep (JAL b pre q) h
set_option maxHeartbeats 1000000 in
theorem appendSeq_ok (gf:FuncId) (lb:Array Value) (Ok All:List (Nm×Ch)→Prop) (Fg:List Pf) (A A':List HP) (hit:IterU gf lb.toList chv Ok All Fg A A') (hlen:∀pre,Ok pre→pre.length≤1000000) :
  Enters 172∧Spec prog 172 #[.slice none 0 0,.func (.func gf) #[] lb] Fg A
   ⟨List (Nm×Ch)×Option Addr×Nat,fun q=>.slice q.2.1 (q.1.map (·.2)).length q.2.2,fun q=>All q.1,fun _=>[],fun q=>Row 108 7 q.2.1 (q.1.map (·.2)).length q.2.2 ((q.1.map (·.2)).flatMap chf)::A'⟩:=by
 refine ⟨enters_of func172 (by kernel_rfl) rfl,Wz (vs:=[_,_]) func172 rfl ntmps172 rfl fun G w hp=>?_⟩
 repeat' (first|refine ZE ?_|refine ZD ?_|refine ZF ?_|refine ZR (fun b=>?_)|fail)
 generalize b=b2
 refine Zs (Lx:=[]) (r:=Row 108 7 none 0 0 []) (fun h _=>Yj _ _ h) ?_
 refine Zs (Lx:=JAL b2 [] (none,0)) (r:=JA b2 []) (fun h hh=>⟨(none,0),trivial,hh⟩) ?_
 refine k_rangeU (α:=Nm×Ch) (enc:=chv) (Ok:=Ok) (All:=All) (JA b2) (fun _ _=>False) hit ?_ ?_ ?_ (sel:=.cons .here (V9 A)) (hFg:=entF_self Fg)
 ·intro lr l pre e hpre G w0 hp0
  have hple:=hlen _ hpre
  simp only [List.length_append,List.length_singleton] at hple
  refine Z6 (X:=Option Addr×Nat) (Lx:=fun q=>JAL b2 pre q) (p:=fun _=>True) (r:=JA b2 pre) (.there .here) (fun h hh=>hh) (fun q _=>?_)
  have hpl:(List.map (·.2) pre).length≤1000000:=by simp;omega
  obtain ⟨o,cap⟩:=q
  repeat' (first|refine ZD ?_|refine ZF ?_|refine ZS ?_|refine ZV ?_|refine ZR (fun b=>?_)|refine ZX (fun b=>?_)|refine k_beg ?_|refine l_app1 (fun o' cap'=>?_)|fail)
  have e1:(List.map (·.2) pre).length+1=(List.map (·.2) (pre++[e])).length:=by simp
  have e2:List.flatMap chf (List.map (·.2) pre)++chf e.2=List.flatMap chf (List.map (·.2) (pre++[e])):=by simp
  refine k_rowc (T:=108) (sz:=7) (o:=o') (cap:=cap') (m:=(List.map (·.2) pre).length+1) _ _ e1 e2 ?_
  rw [e1]
  refine Zs (Lx:=JAL b2 (pre++[e]) (o',cap')) (r:=JA b2 (pre++[e])) (fun h hh=>⟨(o',cap'),trivial,hh⟩) ?_
  exact k_rn
 ·intro D xs hxs
  refine Z6 (X:=Option Addr×Nat) (Lx:=fun q=>JAL b2 xs q) (p:=fun _=>True) (r:=JA b2 xs) .here (fun h hh=>hh) (fun q _=>?_)
  dsimp only [JAL]
  repeat' (first|refine ZE ?_|refine ZD ?_|refine ZF ?_|refine ZS ?_|fail)
  obtain ⟨o,cap⟩:=q
  exact Vd (xs,o,cap) rfl hxs (hD:=.there (.there (sel_last _ A'))) (hR:=.cons (.there .here) (sels_tl A' _))
 ·intro D pre
  exact w_open (X:=Empty) (Lx:=fun _=>[]) (p:=fun _=>False) .here (fun h hh=>hh.elim) (fun q hq=>hq.elim)
theorem collect_ok (gf:FuncId) (lb:Array Value) (Ok All:List (Nm×Ch)→Prop) (Fg:List Pf) (A A':List HP) (hit:IterU gf lb.toList chv Ok All Fg A A') (hlen:∀pre,Ok pre→pre.length≤1000000) :
  Enters 128∧Spec prog 128 #[.func (.func gf) #[] lb] Fg A
   ⟨List (Nm×Ch)×Option Addr×Nat,fun q=>.slice q.2.1 (q.1.map (·.2)).length q.2.2,fun q=>All q.1,fun _=>[],fun q=>Row 108 7 q.2.1 (q.1.map (·.2)).length q.2.2 ((q.1.map (·.2)).flatMap chf)::A'⟩:=by
 have n1:=appendSeq_ok gf lb Ok All Fg A A' hit hlen
 refine ZM [_] func128 ntmps128 fun G w hp=>?_
 repeat' (first|refine ZE ?_|refine ZD ?_|refine ZF ?_|fail)
 refine ZC n1 (fun q hq=>?_) (sel:=V9 A) (hF:=entF_self Fg)
 repeat' (first|refine ZE ?_|refine ZD ?_|fail)
 exact ZK q rfl hq (R0:=[]) (hR:=sels_app0 _)
structure RdOK (rs:List (Nm×Ch)):Prop where
 nd:(rs.map (·.1)).Nodup
 nm:∀p ∈ rs,p.2.nm=p.1
 sz:∀p ∈ rs,p.1.owner.size≤1099511627770
def vrd (rs:List (Nm×Ch)):List Ch:=srtC (rs.map (·.2))
theorem vrd_len (rs:List (Nm×Ch)):(vrd rs).length=rs.length:=by
 unfold vrd;rw [(Yh _).length_eq,List.length_map]
theorem vrd_eq {rs:List (Nm×Ch)} {l:List Ch} (h:RdOK rs) (hp:l.Perm (rs.map (·.2))) (hs:Srd cmpC l):l=vrd rs:=by
 refine srd_eq _ _ (hp.trans (Yh _).symm) hs (W0 _) ?_
 refine (hp.map (·.nm)).nodup_iff.2 ?_
 rw [List.map_map]
 have h2:rs.map ((·.nm) ∘ (·.2))=rs.map (·.1):=List.map_congr_left fun p hp=>h.nm p hp
 rw [h2]
 exact h.nd
theorem sortedFunc_ok (b r:Nat) (rs:List (Nm×Ch)) (h:RdOK rs) (hl:rs.length≤200) :
  Enters 64∧Spec prog 64 #[.func (.func 129) #[] #[.pointer (some ⟨b,0,none⟩)],.func (.func 66) #[] #[]]
   [Blk b (.cells #[.map (some r)] 140),Usg] [Mp Nm.v Ch.v r rs]
   ⟨Option Addr×Nat,fun q=>.slice q.1 (vrd rs).length q.2,fun _=>True,fun _=>[],fun q=>[Row 108 7 q.1 (vrd rs).length q.2 ((vrd rs).flatMap chf),Mp Nm.v Ch.v r rs]⟩:=by
 have n1:=collect_ok 129 #[.pointer (some ⟨b,0,none⟩)] _ _ _ _ _ (Up b r rs) (fun pre hp=>by
  obtain ⟨rest,hp⟩:=hp
  have:=hp.length_eq
  simp at this;omega)
 refine ZM [_,_] func64 ntmps64 fun G w hp=>?_
 repeat' (first|refine ZE ?_|refine ZD ?_|refine ZF ?_|refine ZC (n1) (fun _ _=>?_)|fail)
 rename_i q hq
 obtain ⟨xs,o,cap⟩:=q
 have hpm:(xs.map (·.2)).Perm (rs.map (·.2)):=List.Perm.map _ hq
 have n2:=Ww o cap (xs.map (·.2)) 66 Usg cmpC (by rw [hpm.length_eq,List.length_map];exact hl) VU cmpC_t (fun x y hx hy=>by
  have hz:∀x ∈ xs.map (·.2),x.nm.owner.size≤1099511627770:=fun x hx=>by
   obtain ⟨p,hp1,hp2⟩:=List.mem_map.1 (hpm.mem_iff.1 hx)
   rw [←hp2,h.nm p hp1]
   exact h.sz p hp1
  have:=UM x y (hz x hx) (hz y hy)
  exact ⟨this.1,this.2.more⟩)
 repeat' (first|refine ZE ?_|refine ZD ?_|refine ZF ?_|refine ZC (n2) (fun _ _=>?_)|fail)
 rename_i l hl2
 have hle:l=vrd rs:=vrd_eq h (hl2.1.trans hpm) hl2.2
 subst hle
 have e3:(xs.map (·.2)).length=(vrd rs).length:=hl2.1.length_eq.symm
 refine k_rowc (T:=108) (sz:=7) (o:=o) (cap:=cap) (m:=(xs.map (·.2)).length) _ _ e3 rfl ?_
 exact ZK (o,cap) (by show resV [Value.slice o (xs.map (·.2)).length cap]=_;rw [e3];rfl) trivial
theorem vwReads_ok (b:Nat) (ps:Option Addr) (rs:List (Nm×Ch)) (cs:List Ch) (h:RdOK rs) (hl:rs.length≤200) :
  Enters 23∧Spec prog 23 #[.pointer (some ⟨b,0,none⟩)] [Usg] [Vw b ps rs cs]
   ⟨Option Addr×Nat,fun q=>.slice q.1 (vrd rs).length q.2,fun _=>True,fun _=>[],fun q=>[Vw b ps rs cs,Row 108 7 q.1 (vrd rs).length q.2 ((vrd rs).flatMap chf)]⟩:=by
 have n2:=fun (r:Nat) (c:Nat)=>sortedFunc_ok c r rs h hl
 refine ZM [_] func23 ntmps23 fun G w hp=>?_
 refine k_vw fun q=>?_
 obtain ⟨r1,r2,o,cap⟩:=q
 repeat' (first|refine ZE ?_|refine ZD ?_|refine ZF ?_|refine ZS ?_|refine ZB ?_|refine ZC (mapsValues_ok _) (fun _ _=>?_)|refine ZC (n2 r1 _) (fun _ _=>?_)|fail)
 rename_i q2 _
 refine k_vw' (cs:=cs) (rs:=rs) (o:=o) (m:=cs.length) (xs:=cs.flatMap chf) ?_ rfl rfl rfl
 exact ZK q2 rfl trivial
section
def less (G:H) (b:Nat):H:=fun c=>if c=b then none else G c
theorem W7 (G:H) (b:Nat):Sub (less G b) G:=fun c o e=>by
 unfold less at e
 split at e
 ·cases e
 ·exact e
theorem Vv {G:H} {b c:Nat} (h:c≠b):less G b c=G c:=by unfold less;rw [if_neg h]
theorem less_eq (G:H) (b:Nat):less G b b=none:=by unfold less;rw [if_pos rfl]
theorem Sat.lend {G:H} {w0 w:World} {hp0:H} {F:List Pf} {R:List HP} {b:Nat} {o:Obj} (hG:G b=some o) (h:Sat G w0 hp0 F R w) :
  ∃hp1,Sat (less G b) w hp1 (Blk b o::F) R w∧∀F' R' w',Sat (less G b) w hp1 F' R' w'→Sat G w0 hp0 F R' w':=by
 obtain ⟨hp,hr,t⟩:=h
 have hpb:hp b=none:=by
  rcases t.d2 b with h|h
  ·exact h
  ·rw [hG] at h;cases h
 have hrb:hr b=none:=by
  rcases t.d3 b with h|h
  ·exact h
  ·rw [hG] at h;cases h
 have hs1:Sub hp (un hp (one b o)):=Zh _ _
 have e1:un hp (one b o) b=some o:=by unfold un one;simp [hpb]
 refine ⟨un hp (one b o),⟨un hp (one b o),hr,In.un t.inp (fun c x e=>?_),t.inr,t.ing.sub (W7 G b),YC.2 ⟨t.d1,fun c=>?_⟩,YC.2 ⟨(t.d2.symm.sub (W7 G b)).symm,fun c=>?_⟩,(t.d3.symm.sub (W7 G b)).symm,Sub.refl _,fun x hx=>?_,t.r,Same.refl _⟩,fun F' R' w' hs=>?_⟩
 ·unfold one at e
  split at e
  ·rename_i hc;subst hc;cases e;exact t.ing _ _ hG
  ·cases e
 ·by_cases hc:c=b
  ·subst hc;exact .inr hrb
  ·exact .inl (by unfold one;simp [hc])
 ·by_cases hc:c=b
  ·subst hc;exact .inr (less_eq _ _)
  ·exact .inl (by unfold one;simp [hc])
 ·rcases List.mem_cons.1 hx with rfl|hx
  ·exact e1
  ·exact x.m _ _ hs1 (t.f x hx)
 ·obtain ⟨hp',hr',t'⟩:=hs
  have hb':hp' b=some o:=t'.sub b o e1
  have hrb':hr' b=none:=by
   rcases t'.d1 b with h|h
   ·rw [hb'] at h;cases h
   ·exact h
  have hs2:Sub hp (less hp' b):=fun c x e=>by
   have hc:c≠b:=fun h=>by subst h;rw [hpb] at e;cases e
   rw [Vv hc]
   exact t'.sub c x (hs1 c x e)
  refine ⟨less hp' b,hr',t'.inp.sub (W7 _ _),t'.inr,fun c x e=>?_,t'.d1.sub (W7 _ _),fun c=>?_,fun c=>?_,t.sub.trans hs2,fun x hx=>x.m _ _ hs2 (t.f x hx),t'.r,t.same.trans t'.same⟩
  ·by_cases hc:c=b
   ·subst hc;rw [hG] at e;cases e;exact t'.inp _ _ hb'
   ·exact t'.ing c x (by rw [Vv hc];exact e)
  ·by_cases hc:c=b
   ·subst hc;exact .inl (less_eq _ _)
   ·rw [Vv hc]
    rcases t'.d2 c with h|h
    ·exact .inl h
    ·rw [Vv hc] at h;exact .inr h
  ·by_cases hc:c=b
   ·subst hc;exact .inl hrb'
   ·rcases t'.d3 c with h|h
    ·exact .inl h
    ·rw [Vv hc] at h;exact .inr h
variable {b:Nat} {o:Obj}
theorem r_callS {f:FuncId} {args:Array Operand} {tys:Array TypeId} {vs:List Value} {post:Post} (spec:Enters f∧Spec prog f vs.toArray (Blk b o::F1) A post) (_hpF:∀x,post.F x=[])
  (nx:∀x,post.pure x→Wr n C ops k Q Tl Fs R L ((d,post.val x)::E) F (post.R x++N')) (ho:nth ops i=some ⟨some d,.call ⟨.value (.func f),args,tys⟩,ty0,pos,aft,gd⟩:=by rfl)
  (hw:wantL ops E ⟨some d,.call ⟨.value (.func f),args,tys⟩,ty0,pos,aft,gd⟩=some true:=by rfl) (hargs:evs (ev E) args.toList some=some vs:=by rfl)
  (hb:Sel (Pt b o) R R0:=by (repeat (first|exact Sel.here|apply Sel.there));first|done|fail)
  (sel:Sels A N N':=by (repeat (first|exact Sels.nil|exact Sel.here|apply Sel.there|apply Sels.cons));first|done|fail)
  (hF:EntF F F1:=by (repeat (first|exact trivial|exact Sel.here|apply Sel.there|apply EntF.cons));first|done|fail):Wr n C ops k Q Tl Fs R ((i,4)::L) E F N:=
 Ye ho fun hp hr w st hz sb=>by
  simp only [Zt hw]
  refine ⟨⟨post.X,post.val,post.pure,fun _=>F,fun x=>post.R x++N'⟩,fun a G w hp' ha hsub hsat=>?_,fun x hx=>nx x hx hp hr w st hz sb⟩
  unfold OpRes
  rw [UC spec.1 hargs ha w]
  have hzb:un G hp' b=some o:=hsub _ _ (sb _ _ (stat_pt st hb))
  have hF1:∀(Fx:List Pf) hp,(∀x ∈ Blk b o::F,x.p hp)→∀x ∈ Blk b o::F1,x.p hp:=fun _ hp hf x hx=>by
   rcases List.mem_cons.1 hx with rfl|hx
   ·exact hf _ List.mem_cons_self
   ·exact hF.all hp (fun y hy=>hf y (List.mem_cons_of_mem _ hy)) x hx
  cases hGb:G b with
  | some o'=>
   obtain rfl:o'=o:=by
    have:un G hp' b=some o':=Zh _ _ _ _ hGb
    rw [hzb] at this;exact (Option.some.inj this).symm
   obtain ⟨hp1,h1,h2⟩:=hsat.lend hGb
   exact Yn spec.2 h1 sel (hF1 []) fun x w' hx hs'=>⟨x,rfl,hx,h2 _ _ _ hs'⟩
  | none=>
   have hpb:hp' b=some o:=by
    rcases un_or hzb with h|h
    ·rw [hGb] at h;cases h
    ·exact h
   have h1:Sat G w hp' (Blk b o::F) N w:=by
    obtain ⟨hp2,hr2,t2⟩:=hsat
    exact ⟨hp2,hr2,t2.inp,t2.inr,t2.ing,t2.d1,t2.d2,t2.d3,t2.sub,fun y hy=>by
     rcases List.mem_cons.1 hy with rfl|hy
     ·exact t2.sub _ _ hpb
     ·exact t2.f y hy,t2.r,t2.same⟩
   exact Yn spec.2 h1 sel (hF1 []) fun x w' hx hs'=>⟨x,rfl,hx,hs'.facts fun hp hf y hy=>hf y (List.mem_append_right _ (List.mem_cons_of_mem _ hy))⟩
end
def WrPostF (r2:Nat) (o:Option Addr) (cap:Nat) (cs:List Ch):Post:=⟨Option Addr×Nat,fun q=>.slice q.1 (vwr cs).length q.2,fun _=>True,fun _=>[],fun q=>[Row 108 7 o cs.length cap (cs.flatMap chf),Mp Nm.v iv r2 (lastL cs),Row 108 7 q.1 (vwr cs).length q.2 ((vwr cs).flatMap chf)]⟩
set_option maxHeartbeats 2000000 in
theorem Vk (b:Nat) (ps:Option Addr) (r1 r2:Nat) (o:Option Addr) (cap:Nat) (cs:List Ch) (hl:(lastL cs).length≤200) (hsz:∀c ∈ cs,c.nm.owner.size≤1099511627770) :
  Enters 25∧Spec prog 25 #[.pointer (some ⟨b,0,none⟩)] [Blk b (.cells #[.pointer ps,.map (some r1),.slice o cs.length cap,.map (some r2)] 143),Usg] [Row 108 7 o cs.length cap (cs.flatMap chf),Mp Nm.v iv r2 (lastL cs)] (WrPostF r2 o cap cs):=by
 by_cases hcs:cs=[]
 ·subst hcs
  have n1:=Ww none 0 [] 66 Usg cmpC (by simp) VU cmpC_t (by simp)
  refine ZM [_] func25 ntmps25 fun G w hp=>?_
  repeat' (first|refine ZE ?_|refine ZD ?_|refine ZF ?_|refine ZO ?_|refine ZB ?_|refine l_rng (K:=Nm.v) (V:=iv) (fun it=>?_)|fail)
  refine Z8 (X:=Unit) (fun _=>[(0,.pointer (some ⟨b,0,none⟩)),(3,.slice none 0 0),(12,.pointer (some ⟨it,0,none⟩))]) (fun _=>[Usg]) (fun _=>[Row 108 7 o 0 cap [],MpI Nm.v iv r2 it [] []]) (fun _=>0) () ⟨rfl,rfl,rfl,trivial⟩ ?_
  rintro ⟨⟩
  refine Zs (r:=Row 108 7 none 0 0 []) (Lx:=[]) (fun h _=>Yj _ _ h) ?_
  repeat' (first|refine ZE ?_|refine ZD ?_|refine ZF ?_|refine ZH ?_|refine ZB ?_|refine ZW ?_|refine ZC (n1) (fun _ _=>?_)|refine l_nxt (K:=Nm.v) (V:=iv) (fun p hp=>?_) (fun hp=>?_)|fail)
  ·exfalso
   obtain ⟨rest,h⟩:=hp
   have:=h.length_eq
   simp at this
  ·rename_i l hl2
   obtain rfl:l=[]:=List.perm_nil.1 hl2.1
   refine k_rngE (r:=r2) (it:=it) (K:=Nm.v) (V:=iv) (m:=[]) ?_
   exact ZK (post:=WrPostF r2 o cap []) (none,0) rfl trivial
 ·have hpos:0<cs.length:=List.length_pos_iff.2 hcs
  refine ZM [_] func25 ntmps25 fun G w hp=>?_
  refine k_row (m:=cs.length) hpos fun p hp=>?_
  have ho:=hp.o
  subst ho
  have hsp:Ax 108 chf p.1 cs p.2=Pt p.1 (.cells (cs.flatMap chf++p.2.1).toArray 108 p.2.2):=rfl
  rw [←hsp]
  repeat' (first|refine ZE ?_|refine ZD ?_|refine ZF ?_|refine ZO ?_|refine ZB ?_|refine l_rng (K:=Nm.v) (V:=iv) (fun it=>?_)|fail)
  refine Zs (r:=Row 108 7 none 0 0 []) (Lx:=[]) (fun h _=>Yj _ _ h) ?_
  refine Z8 (X:={t:List (Nm×Nat)×Option Addr×Nat // ∃rest,(t.1++rest).Perm (lastL cs)}) (fun t=>[(0,.pointer (some ⟨b,0,none⟩)),(3,.slice t.1.2.1 (t.1.1.map (chAt cs)).length t.1.2.2),(12,.pointer (some ⟨it,0,none⟩))]) (fun _=>[Blk b (.cells #[.pointer ps,.map (some r1),.slice (some ⟨p.1,0,none⟩) cs.length cap,.map (some r2)] 143),Usg])
   (fun t=>[Ax 108 chf p.1 cs p.2,MpI Nm.v iv r2 it (lastL cs) t.1.1,Row 108 7 t.1.2.1 (t.1.1.map (chAt cs)).length t.1.2.2 ((t.1.1.map (chAt cs)).flatMap chf)]) (fun t=>(lastL cs).length - t.1.1.length)
   ⟨([],none,0),lastL cs,by simp⟩ ⟨rfl,rfl,rfl,trivial⟩ ?_
  rintro ⟨⟨pre,o,oc⟩,rest,hrest⟩
  have hprel:=hrest.length_eq
  rw [List.length_append] at hprel
  dsimp only
  repeat' (first|refine ZE ?_|refine ZD ?_|refine ZF ?_|refine ZO ?_|refine ZH ?_|refine ZB ?_|refine ZW ?_|refine l_nxt (K:=Nm.v) (V:=iv) (fun e he=>?_) (fun he=>?_)|refine l_ent (K:=Nm.v) (V:=iv) e ?_|fail)
  ·have hem:e ∈ lastL cs:=by
    obtain ⟨rest',h⟩:=he
    exact h.mem_iff.1 (by simp)
   obtain ⟨he1,he2⟩:=Xg hem
   have hil:=(List.getElem?_eq_some_iff.1 he1).1
   have hlen2:pre.length<(lastL cs).length:=by
    obtain ⟨rest',h⟩:=he
    have:=h.length_eq
    simp at this;omega
   have hpl:(List.map (chAt cs) pre).length≤200:=by simp;omega
   repeat' (first|refine ZE ?_|refine ZD ?_|refine ZX (fun b=>?_)|refine l_ixS (m:=cs.length) e.2 hil ?_|refine Zn 7 e.2 0 he1 ?_|refine l_app1 (fun o' cap'=>?_)|fail)
   have e1:(List.map (chAt cs) pre).length+1=(List.map (chAt cs) (pre++[e])).length:=by simp
   have e2:List.flatMap chf (List.map (chAt cs) pre)++chf (chAt cs e)=List.flatMap chf (List.map (chAt cs) (pre++[e])):=by simp
   refine k_rowc (T:=108) (sz:=7) (o:=o') (cap:=cap') (m:=(List.map (chAt cs) pre).length+1) _ _ e1 e2 ?_
   exact Zb ⟨(pre++[e],o',cap'),he⟩ (by show (lastL cs).length - (pre++[e]).length<(lastL cs).length - pre.length;simp;omega) ⟨rfl,(by show look _ _=some (Value.slice o' (List.map (chAt cs) (pre++[e])).length cap');rw [←e1];rfl),rfl,trivial⟩
  ·have hpm:(pre.map (chAt cs)).Perm ((lastL cs).map (chAt cs)):=he.map _
   have n1:=Ww o oc (pre.map (chAt cs)) 66 Usg cmpC (by rw [hpm.length_eq,List.length_map];exact hl) VU cmpC_t (fun x y hx hy=>by
    have hz:∀x ∈ pre.map (chAt cs),x.nm.owner.size≤1099511627770:=fun x hx=>by
     obtain ⟨p,hp1,hp2⟩:=List.mem_map.1 (hpm.mem_iff.1 hx)
     rw [←hp2]
     exact hsz _ (List.mem_of_getElem? (Xg hp1).1)
    have:=UM x y (hz x hx) (hz y hy)
    exact ⟨this.1,this.2.more⟩)
   repeat' (first|refine ZE ?_|refine ZD ?_|refine ZF ?_|refine ZC (n1) (fun _ _=>?_)|fail)
   rename_i l hl2
   have hle:l=vwr cs:=vwr_eq (hl2.1.trans hpm) hl2.2
   subst hle
   have e3:(pre.map (chAt cs)).length=(vwr cs).length:=hl2.1.length_eq.symm
   refine k_rngE (r:=r2) (it:=it) (K:=Nm.v) (V:=iv) (m:=lastL cs) (pre:=pre) ?_
   refine Zs (r:=Row 108 7 (some ⟨p.1,0,none⟩) cs.length cap (cs.flatMap chf)) (Lx:=[Ax 108 chf p.1 cs p.2]) (fun h hh=>WD hp h hh) ?_
   refine k_rowc (T:=108) (sz:=7) (o:=o) (cap:=oc) (m:=(pre.map (chAt cs)).length) _ _ e3 rfl ?_
   exact ZK (post:=WrPostF r2 (some ⟨p.1,0,none⟩) cap cs) (o,oc) (by show resV [Value.slice o (pre.map (chAt cs)).length oc]=_;rw [e3];rfl) trivial
theorem r_frz {n:Nat} {C:Cx} {Q:Exit→Act→World→Prop} {E:List (Nat×Value)} {F Fs:List Pf} {R N N':List HP} {k:List Fr} {ops:List Oper} {L:List (Nat×Nat)} {Tl:List Nat} {α:Type} {T sz:Nat} {f:α→List Value} {o:Option Addr} {m cap:Nat} {xs:List Value} (es:List α)
  (t:Wr n C ops k Q Tl Fs R L E (Sl T f o cap es::F) N') (hx:xs=es.flatMap f) (hm:m=es.length) (hs:Sel (Row T sz o m cap xs) N N':=by (repeat (first|exact Sel.here|apply Sel.there));first|done|fail) (h5:(L.all fun y=>y.2 != 5)=true:=by rfl):Wr n C ops k Q Tl Fs R L E F N:=
 r_imp (fun _ _ _ _ h=>Vx hx hm hs h) t h5
structure FitC (c:Ch):Prop where
 ok:nchk c.nm=0
 val:c.val.size≤65536
 abs:c.abs=false
 own:c.nm.owner.size≤1099511627770
 txt:c.nm.text.size≤1099511627776
def applyE (es:Al) (l:List Ch):Al:=l.foldl (fun es c=>insO c.nm c.val es) es
theorem Uk (es:Al) (l:List Ch) (c:Ch):applyE es (l++[c])=insO c.nm c.val (applyE es l):=by simp [applyE]
theorem VY (es:Al) (l:List Ch):(applyE es l).length≤es.length+l.length:=by
 refine Xs (P:=fun l=>(applyE es l).length≤es.length+l.length) (by simp [applyE]) (fun l c ih=>?_) l
 rw [Uk]
 have:=V8 c.nm c.val (applyE es l)
 simp;omega
set_option maxHeartbeats 1000000 in
theorem apply_ok (bs:Nat) (es:Al) (o:Option Addr) (cap:Nat) (l:List Ch) (hf:∀c ∈ l,FitC c) (hl:es.length+l.length≤65536) :
  Enters 22∧Spec prog 22 #[.pointer (some ⟨bs,0,none⟩),.slice o l.length cap] [St (some ⟨bs,0,none⟩) es,Sl 108 chf o cap l,Usg] []
   ⟨Nat,fun b=>.tuple #[.pointer (some ⟨b,0,none⟩),.int .i64 0],fun _=>True,fun b=>[St (some ⟨b,0,none⟩) (applyE es l)],fun _=>[]⟩:=by
 refine ZM [_,_] func22 ntmps22 fun G w hp=>?_
 repeat' (first|refine ZE ?_|refine ZD ?_|refine ZF ?_|refine ZB ?_|fail)
 refine Z8 (X:={t:Nat×Nat // t.1≤l.length}) (fun t=>[(0,.pointer (some ⟨t.1.2,0,none⟩)),(11,.slice o l.length cap),(12,.int .i64 (l.length:Int)),(13,.int .i64 (t.1.1:Int))]) (fun t=>[St (some ⟨t.1.2,0,none⟩) (applyE es (l.take t.1.1)),Sl 108 chf o cap l,Usg]) (fun _=>[]) (fun t=>l.length - t.1.1)
  ⟨(0,bs),by simp⟩ ⟨rfl,rfl,rfl,rfl,trivial⟩ ?_
 rintro ⟨⟨i,b1⟩,hi⟩
 dsimp only at hi ⊢
 by_cases hlt:i<l.length
 ·have hgt:=List.getElem?_eq_getElem hlt
  obtain ⟨c,hcc⟩:∃c,l[i]=c:=⟨_,rfl⟩
  rw [hcc] at hgt
  have hm:c ∈ l:=by rw [←hcc];exact List.getElem_mem hlt
  have fc:=hf c hm
  have he:withE (applyE es (l.take i)) c.nm c.val=0:=by
   have h1:=VY es (l.take i)
   have h2:(l.take i).length=i:=by simp;omega
   have h3:=fc.ok
   have h4:=fc.val
   unfold withE
   rw [if_neg (by simp [h3]),if_neg (by omega),if_neg (fun h=>by omega)]
  have n1:=Vy (some ⟨b1,0,none⟩) (applyE es (l.take i)) c.nm c.val fc.own fc.txt
  rw [he] at n1
  have ea:=fc.abs
  repeat' (first|refine ZE ?_|refine ZD ?_|refine ZF ?_|refine ZS ?_|refine ZV ?_|refine ZR (fun b=>?_)|refine ZB ?_|refine ZC (n1) (fun _ _=>?_)|refine l_ixe i c hgt (fun b off=>?_)|refine XV ?_|rw [ea]|(refine ZG (fun hc=>?_) (fun hc=>?_)<;>(try simp at hc)<;>(try omega))|fail)
  rename_i q _
  refine XQ (X:=Nat) (Fx:=fun b=>[St (some ⟨b,0,none⟩) (applyE es (l.take (i+1)))]) (p:=fun b=>q=some ⟨b,0,none⟩) (f:=StR q 0 (insO c.nm c.val (applyE es (l.take i)))) .here (fun h hh=>?_) (fun b2 hb2=>?_)
  ·have hh':(St q (insO c.nm c.val (applyE es (l.take i)))).p h:=hh
   obtain ⟨tr,g1,g2,b3,p3,g3,g4⟩:=hh'
   subst g3
   refine ⟨b3,rfl,fun g hg=>?_⟩
   obtain rfl:=List.mem_singleton.1 hg
   rw [List.take_succ_eq_append_getElem hlt,hcc,Uk]
   exact ⟨tr,g1,g2,b3,p3,rfl,g4⟩
  ·subst hb2
   rw [wrapi (z:=(i:Int)+1) (by omega) (by omega)]
   exact Zb ⟨(i+1,b2),by simp;omega⟩ (by show l.length - (i+1)<l.length - i;omega) ⟨rfl,rfl,rfl,rfl,trivial⟩
 ·repeat' (first|refine ZE ?_|refine ZD ?_|refine ZF ?_|refine ZW ?_|(refine ZG (fun hc=>?_) (fun hc=>?_)<;>(try simp at hc)<;>(try omega))|fail)
  obtain rfl:i=l.length:=by omega
  rw [List.take_length]
  exact ZK b1 rfl trivial
theorem vcs_fit {cs:List Ch} (h:∀c ∈ cs,FitC c):∀c ∈ vwr cs,FitC c:=fun c hc=>by
 have h1:=(Yh _).mem_iff.1 hc
 obtain ⟨p,hp1,hp2⟩:=List.mem_map.1 h1
 rw [←hp2]
 exact h _ (List.mem_of_getElem? (Xg hp1).1)
set_option maxHeartbeats 1000000 in
theorem vwAfter_ok (b bs:Nat) (es:Al) (rs:List (Nm×Ch)) (cs:List Ch) (hl:(lastL cs).length≤200) (hf:∀c ∈ cs,FitC c) (hes:es.length≤65000) :
  Enters 49∧Spec prog 49 #[.pointer (some ⟨b,0,none⟩)] [St (some ⟨bs,0,none⟩) es,Usg] [Vw b (some ⟨bs,0,none⟩) rs cs]
   ⟨Nat,fun q=>.tuple #[.pointer (some ⟨q,0,none⟩),.int .i64 0],fun _=>True,fun q=>[St (some ⟨q,0,none⟩) (applyE es (vwr cs))],fun _=>[Vw b (some ⟨bs,0,none⟩) rs cs]⟩:=by
 have n1:=fun (r1 r2:Nat) (o:Option Addr) (cap:Nat)=>Vk b (some ⟨bs,0,none⟩) r1 r2 o cap cs hl (fun c hc=>(hf c hc).own)
 have hw:=Wm cs
 have n2:=fun (q:Option Addr×Nat)=>apply_ok bs es q.1 q.2 (vwr cs) (vcs_fit hf) (by omega)
 refine ZM [_] func49 ntmps49 fun G w hp=>?_
 refine k_vw fun q=>?_
 obtain ⟨r1,r2,o,cap⟩:=q
 repeat' (first|refine ZE ?_|refine ZD ?_|refine ZF ?_|refine ZB ?_|refine ZT ?_|refine Zf ?_|refine r_callS (n1 r1 r2 o cap) (fun _=>rfl) (fun q _=>?_)|refine ZA 3 [Row _ _ _ _ _ _,Mp Nm.v iv _ _] [(0,0),(1,0),(2,0),(3,0),(4,0),(5,4),(6,4),(7,0),(8,0),(9,0),(10,0)] [] ?_|fail)
 obtain ⟨qo,qc⟩:=q
 have n2':=n2 (qo,qc)
 refine r_frz (T:=108) (sz:=7) (f:=chf) (o:=qo) (cap:=qc) (m:=(vwr cs).length) (xs:=(vwr cs).flatMap chf) (vwr cs) ?_ rfl rfl (hs:=.there (.there .here))
 repeat' (first|refine ZN n2' (fun _ _=>?_)|refine ZD ?_|refine ZT ?_|refine ZU ?_|fail)
 rename_i b' _
 refine k_vw' (cs:=cs) (rs:=rs) (o:=o) (m:=cs.length) (xs:=cs.flatMap chf) ?_ rfl rfl rfl
 exact ZK b' rfl trivial
structure Ct where
 b:Int
 o:Int
 c:Int
 deriving DecidableEq
def Ct.v (c:Ct):Value:=.agg #[.int .i64 c.b,.int .i64 c.o,.int .i64 c.c]
def Ct.z:Ct:=⟨0,0,0⟩
structure CtOK (c:Ct):Prop where
 b0:0≤c.b
 b1:c.b≤1048576
 o0:0≤c.o
 o1:c.o≤1048576
 c0:0≤c.c
 c1:c.c≤1048576
def cenc (c:Ct):List UInt8:=venc c.b.toNat++venc c.o.toNat++venc c.c.toNat
theorem Z9 (x m:Int):Enters 106∧Spec prog 106 #[.int .i64 x,.int .i64 m] [] [] (RetV (.bool (decide (0≤x) && decide (x≤m)))):=by
 refine ZM [_,_] func106 ntmps106 fun G w hp=>?_
 repeat' (first|refine ZE ?_|refine ZD ?_|refine ZL ?_|refine ZF ?_|(refine ZJ (fun hc=>?_) (fun hc=>?_)<;>(try simp at hc))|fail)
 all_goals (refine ZK () ?_ trivial;simp_all [RetV,resV]<;>omega)
def cchk (c:Ct):Int:=if 0≤c.b∧c.b≤1048576∧0≤c.o∧c.o≤1048576∧0≤c.c∧c.c≤1048576 then 0 else 2
theorem cchk_ok {c:Ct} (h:CtOK c):cchk c=0:=by
 unfold cchk;rw [if_pos ⟨h.b0,h.b1,h.o0,h.o1,h.c0,h.c1⟩]
theorem cntCheck_ok (c:Ct):Enters 222∧Spec prog 222 #[c.v] [] [] (RetV (.int .i64 (cchk c))):=by
 have n1:=Z9 c.b 1048576
 have n2:=Z9 c.o 1048576
 have n3:=Z9 c.c 1048576
 refine ZM [_] func222 ntmps222 fun G w hp=>?_
 repeat' (first|refine ZE ?_|refine ZD ?_|refine ZL ?_|refine ZF ?_|refine ZS ?_|refine ZR (fun b=>?_)|refine ZH ?_|refine ZC (n1) (fun _ _=>?_)|refine ZC (n2) (fun _ _=>?_)|refine ZC (n3) (fun _ _=>?_)|(refine ZJ (fun hc=>?_) (fun hc=>?_)<;>(try simp at hc))|(refine ZG (fun hc=>?_) (fun hc=>?_)<;>(try simp at hc))|fail)
 all_goals (refine ZK () ?_ trivial;simp_all [RetV,resV,cchk]<;>omega)
abbrev EncL (b bw:Nat) (e:Int) (bs:List UInt8):List HP:=[Pt b (.cells #[.pointer (some ⟨bw,0,none⟩),.int .i64 e] 323),Wtr bw bs]
theorem XT (e:Int):Enters 203∧Spec prog 203 #[.int .i64 e] [] [] ⟨Nat×Nat,fun q=>.pointer (some ⟨q.1,0,none⟩),fun _=>True,fun _=>[],fun q=>EncL q.1 q.2 e []⟩:=by
 refine ZM [_] func203 ntmps203 fun G w hp=>?_
 repeat' (first|refine ZE ?_|refine ZD ?_|refine ZF ?_|refine ZR (fun b=>?_)|refine ZC (newWriter_ok) (fun _ _=>?_)|fail)
 rename_i bw _
 exact ZK (b,bw) rfl trivial
theorem VN:∀l:List Int,(∀z ∈ l,0≤z∧z≤4294967296)→(l.flatMap fun z=>venc z.toNat).length≤l.length * 10
 | [],_=>by simp
 | z::l,h=>by
  have h1:=XA z.toNat (by have:=h z (by simp);omega)
  have h2:=VN l (fun y hy=>h y (by simp [hy]))
  simp only [List.flatMap_cons,List.length_append,List.length_cons]
  omega
theorem numbers_ok (b bw:Nat) (e:Int) (bs:List UInt8) (o:Option Addr) (cap:Nat) (l:List Int) (hl:l.length≤1000) (hz:∀z ∈ l,0≤z∧z≤4294967296) (hb:bs.length≤1000000) :
  Enters 204∧Spec prog 204 #[.pointer (some ⟨b,0,none⟩),.slice o l.length cap] [Sl 3 zf o cap l] (EncL b bw e bs)
   ⟨Unit,fun _=>.tuple #[],fun _=>True,fun _=>[],fun _=>EncL b bw e (bs++l.flatMap fun z=>venc z.toNat)⟩:=by
 refine ZM [_,_] func204 ntmps204 fun G w hp=>?_
 repeat' (first|refine ZE ?_|refine ZD ?_|refine ZF ?_|fail)
 refine Z8 (X:={i:Nat // i≤l.length}) (fun i=>[(0,.pointer (some ⟨b,0,none⟩)),(6,.slice o l.length cap),(7,.int .i64 (l.length:Int)),(8,.int .i64 (i.1:Int))]) (fun _=>[Sl 3 zf o cap l]) (fun i=>EncL b bw e (bs++(l.take i.1).flatMap fun z=>venc z.toNat)) (fun i=>l.length - i.1) ⟨0,by omega⟩ ⟨rfl,rfl,rfl,rfl,trivial⟩ ?_ (hr:=by simp only [List.take_zero,List.flatMap_nil,List.append_nil];exact Sels.cons .here (.cons .here .nil))
 rintro ⟨i,hi⟩
 dsimp only at hi ⊢
 by_cases hlt:i<l.length
 ·have hgt:=List.getElem?_eq_getElem hlt
  obtain ⟨z,hzz⟩:∃z,l[i]=z:=⟨_,rfl⟩
  rw [hzz] at hgt
  have hm:z ∈ l:=by rw [←hzz];exact List.getElem_mem hlt
  obtain ⟨z0,z1⟩:=hz z hm
  have hlen:=VN (l.take i) (fun y hy=>hz y (List.mem_of_mem_take hy))
  have h2:(l.take i).length=i:=by simp;omega
  have n1:=wtrNumber_ok bw (bs++(l.take i).flatMap fun z=>venc z.toNat) z.toNat (by omega) (by rw [List.length_append];omega)
  rw [show ((z.toNat:Nat):Int)=z by omega] at n1
  repeat' (first|refine ZE ?_|refine ZD ?_|refine ZF ?_|refine ZS ?_|refine ZC (n1) (fun _ _=>?_)|refine l_ixe i z hgt (fun b off=>?_)|refine XV ?_|(refine ZG (fun hc=>?_) (fun hc=>?_)<;>(try simp at hc)<;>(try omega))|fail)
  rw [wrapi (z:=(i:Int)+1) (by omega) (by omega)]
  have e1:bs++((l.take i).flatMap fun z=>venc z.toNat)++venc z.toNat=bs++(l.take (i+1)).flatMap fun z=>venc z.toNat:=by
   rw [List.take_succ_eq_append_getElem hlt,hzz];simp
  rw [e1]
  exact Zb ⟨i+1,by omega⟩ (by show l.length - (i+1)<l.length - i;omega) ⟨rfl,rfl,rfl,rfl,trivial⟩
 ·obtain rfl:i=l.length:=by omega
  rw [List.take_length]
  repeat' (first|refine ZE ?_|refine ZD ?_|refine ZF ?_|refine ZW ?_|(refine ZG (fun hc=>?_) (fun hc=>?_)<;>(try simp at hc)<;>(try omega))|fail)
  exact Yc () rfl trivial
theorem venc_props:∀(k u:Nat),u≤k→∃init last,venc u=init++[last]∧(∀b ∈ init,128≤b.toNat)∧last.toNat<128∧(0<u→last.toNat≠0)∧(init≠[]→0<u)∧dval (venc u)=u:=by
 intro k
 induction k with
 | zero=>
  intro u hu
  obtain rfl:u=0:=by omega
  refine ⟨[],0,?_,by simp,by decide,by simp,by simp,?_⟩
  ·rw [venc];simp
  ·rw [venc];simp [dval]
 | succ k ih=>
  intro u hu
  by_cases h:u<128
  ·have hv:venc u=[UInt8.ofNat u]:=by rw [venc,if_pos h]
   have ht:(UInt8.ofNat u).toNat=u:=by simp;omega
   refine ⟨[],UInt8.ofNat u,by rw [hv];rfl,by simp,by omega,fun h0=>by omega,by simp,?_⟩
   rw [hv,dval,dval,ht];omega
  ·have hv:venc u=UInt8.ofNat (u % 128+128)::venc (u / 128):=by rw [venc,if_neg h]
   have ht:(UInt8.ofNat (u % 128+128)).toNat=u % 128+128:=by simp;omega
   obtain ⟨init,last,h1,h2,h3,h4,h5,h6⟩:=ih (u / 128) (by omega)
   refine ⟨UInt8.ofNat (u % 128+128)::init,last,by rw [hv,h1];rfl,fun b hb=>?_,h3,fun _=>h4 (by omega),fun _=>by omega,?_⟩
   ·rcases List.mem_cons.1 hb with rfl|hb
    ·omega
    ·exact h2 b hb
   ·rw [hv,dval,h6,ht];omega
theorem pnat_venc (u:Nat) (hu:u<9223372036854775808) (rest:List UInt8):pnat (venc u++rest) 9=(u,(venc u).length,0):=by
 obtain ⟨init,last,h1,h2,h3,h4,h5,h6⟩:=venc_props u u (Nat.le_refl _)
 have hl:(venc u).length≤9:=venc_len 8 u (by simpa using hu)
 have hlen:(venc u).length=init.length+1:=by rw [h1];simp
 have hlast:lastN (venc u++rest) 9=init.length:=by
  refine Ws (by simp;omega) (by omega) (fun i hi=>?_) (.inr (.inr ⟨last,?_,h3⟩))
  ·refine ⟨init[i],?_,h2 _ (List.getElem_mem hi)⟩
   rw [h1,List.append_assoc,List.getElem?_append_left hi]
   exact List.getElem?_eq_getElem hi
  ·rw [h1,List.append_assoc,List.getElem?_append_right (Nat.le_refl _)]
   simp
 have hget:(venc u++rest)[init.length]? = some last:=by
  rw [h1,List.append_assoc,List.getElem?_append_right (Nat.le_refl _)];simp
 have htk:(venc u++rest).take (init.length+1)=venc u:=by rw [←hlen];simp
 unfold pnat
 dsimp only
 rw [hlast,if_neg (by omega),hget]
 dsimp only
 rw [if_neg,if_neg (by omega),htk,h6,hlen,Nat.mod_eq_of_lt (by omega)]
 rintro ⟨g1,g2⟩
 exact h4 (h5 (fun e=>by rw [e] at g1;simp at g1)) g2
theorem Yu (u:Nat) (hu:u<9223372036854775808) (rest:List UInt8) (pos:Nat) (most:Int) (hm:(u:Int)≤most):rnum ⟨venc u++rest,pos,0⟩ most=((u:Int),⟨rest,pos+(venc u).length,0⟩):=by
 have hp:pnum (venc u++rest) most=((u:Int),(venc u).length,0):=by
  unfold pnum
  rw [pnat_venc u hu rest]
  dsimp only
  rw [if_neg (by omega)]
 unfold rnum rstep
 dsimp only
 rw [hp]
 simp
theorem rtext_venc (s:ByteArray) (rest:List UInt8) (pos:Nat) (most:Int) (hm:(s.size:Int)≤most) (h2:s.size≤16777216):rtext ⟨venc s.size++s.data.toList++rest,pos,0⟩ most=(s,⟨rest,pos+((venc s.size).length+s.size),0⟩):=by
 have hs:s.data.toList.length=s.size:=by simp
 have e1:(venc s.size++(s.data.toList++rest)).drop ((venc s.size).length+s.size)=rest:=by
  rw [←List.append_assoc,←hs,←List.length_append,List.drop_left]
 have e2:((venc s.size++(s.data.toList++rest)).take ((venc s.size).length+s.size)).drop (venc s.size).length=s.data.toList:=by
  rw [←List.append_assoc,←hs,←List.length_append,List.take_left,List.drop_left]
 have hp:ptext (venc s.size++(s.data.toList++rest)) most=(s,(venc s.size).length+s.size,0):=by
  unfold ptext
  rw [pnat_venc s.size (by omega) (s.data.toList++rest)]
  dsimp only
  rw [if_neg (by simp),if_neg (by omega),if_neg (by simp only [List.length_append];omega),e2]
 unfold rtext rstep
 dsimp only
 rw [List.append_assoc,hp,if_neg (by simp),if_neg (by simp)]
 dsimp only
 rw [e1]
theorem Uh (b bw s:Nat) (e:Int) (bs:List UInt8) (l:List Int) (hl:l.length≤1000) (hz:∀z ∈ l,0≤z∧z≤4294967296) (hb:bs.length≤1000000) :
  Enters 204∧Spec prog 204 #[.pointer (some ⟨b,0,none⟩),.slice (some ⟨s,0,none⟩) l.length l.length] [] (Pt s (.cells (l.flatMap zf).toArray 3)::EncL b bw e bs)
   ⟨Unit,fun _=>.tuple #[],fun _=>True,fun _=>[],fun _=>EncL b bw e (bs++l.flatMap fun z=>venc z.toNat)⟩:=by
 have h:=numbers_ok b bw e bs (some ⟨s,0,none⟩) l.length l hl hz hb
 refine ⟨h.1,fun G w hp hs=>?_⟩
 have h1:=(hs.shut (L:=[Pt s (.cells (l.flatMap zf).toArray 3)]) (x:=Row 3 1 (some ⟨s,0,none⟩) l.length l.length (l.flatMap zf)) fun h hh=>by
  obtain ⟨h1,h2,_,s1,_,hx,_⟩:=hh
  exact .inr ⟨s,[],(0,0),rfl,by have:=s1 _ _ hx;simpa using this,by rw [Zy (f:=zf) (sz:=1) (fun _=>rfl)],by rw [List.append_nil,Zy (f:=zf) (sz:=1) (fun _=>rfl)],Nat.le_refl _,.inl rfl⟩)
 have h2:=Vx (f:=zf) (es:=l) rfl rfl Sel.here h1
 refine Yn h.2 h2 (V9 _) (fun hp hF f hf=>by simp at hf;subst hf;exact hF _ (by simp)) fun x w' hx h3=>⟨x,rfl,hx,?_⟩
 exact (h3.facts (F':=[]) (fun _ _ _ h=>by cases h)).res fun k hk=>by simpa using hk
theorem Ua (b bw:Nat) (bs:List UInt8) (hl:bs.length≤1000000) :
  Enters 205∧Spec prog 205 #[.pointer (some ⟨b,0,none⟩)] [] (EncL b bw 0 bs) (RetV (.tuple #[.string ⟨bs.toArray⟩,.int .i64 0])):=by
 refine ZM [_] func205 ntmps205 fun G w hp=>?_
 repeat' (first|refine ZE ?_|refine ZD ?_|refine ZF ?_|refine ZS ?_|refine ZV ?_|refine ZH ?_|refine ZB ?_|refine ZC (wtrBytes_ok _ bs (by omega)) (fun _ _=>?_)|fail)
 refine l_frz (sz:=1) (f:=bf) bs ?_ (Xw _) rfl
 refine l_b2s ?_
 repeat' (first|refine ZE ?_|refine ZD ?_|fail)
 exact ZK () rfl trivial
theorem cenc_len {c:Ct} (h:CtOK c):(cenc c).length≤30:=by
 have l1:=XA c.b.toNat (by have:=h.b1;omega)
 have l2:=XA c.o.toNat (by have:=h.o1;omega)
 have l3:=XA c.c.toNat (by have:=h.c1;omega)
 simp only [cenc,List.length_append];omega
theorem Uo (c:Ct) (h:CtOK c):Enters 202∧Spec prog 202 #[c.v] [] [] (RetV (.tuple #[.string ⟨(cenc c).toArray⟩,.int .i64 0])):=by
 have n1:=cntCheck_ok c
 rw [cchk_ok h] at n1
 have e:([c.b,c.o,c.c].flatMap fun z=>venc z.toNat)=cenc c:=by simp [cenc]
 have n2:=fun b bw s=>Uh b bw s 0 [] [c.b,c.o,c.c] (by simp) (fun z hz=>by
  simp only [List.mem_cons,List.not_mem_nil,or_false] at hz
  have:=h.b0;have:=h.b1;have:=h.o0;have:=h.o1;have:=h.c0;have:=h.c1
  rcases hz with rfl|rfl|rfl<;>omega) (by simp)
 rw [e,List.nil_append] at n2
 have hl:=cenc_len h
 have n3:=fun b bw=>Ua b bw (cenc c) (by omega)
 refine ZM [_] func202 ntmps202 fun G w hp=>?_
 repeat' (first|refine ZE ?_|refine ZD ?_|refine ZF ?_|refine ZS ?_|refine ZR (fun b=>?_)|refine ZX (fun b=>?_)|refine ZC (n1) (fun _ _=>?_)|refine ZC (XT _) (fun _ _=>?_)|refine ZC (n2 _ _ _) (fun _ _=>?_)|refine ZC (n3 _ _) (fun _ _=>?_)|fail)
 exact ZK () rfl trivial
def cread (s:RS):Ct×RS:=
 let (b,s1):=rnum s 1048576
 let (o,s2):=rnum s1 1048576
 let (c,s3):=rnum s2 1048576
 (⟨b,o,c⟩,s3)
def cdec (s:ByteArray):Option Ct:=
 let r:=cread ⟨s.data.toList,0,0⟩
 if r.2.err=0∧r.2.rest=[] then some r.1 else none
set_option maxHeartbeats 1000000 in
theorem Uq (s:ByteArray) (hs:s.size≤1099511627776):Enters 201∧Spec prog 201 #[.string s] [] [] (RetV (.tuple #[((cdec s).getD Ct.z).v,.int .i64 (if (cdec s).isSome then 0 else 3)])):=by
 have hsz:s.data.toList.length=s.size:=by simp
 generalize hd:cdec s=d
 unfold cdec cread at hd
 generalize h0:(⟨s.data.toList,0,0⟩:RS)=s0 at hd
 have g0:s0.pos+s0.rest.length≤1099511627776:=by subst h0;dsimp only;omega
 have g1:=rstep_le 0 s0 (pnum s0.rest 1048576) (pnum_le _ _)
 have n1:=fun b o cap=>YG b o cap s0 1048576 g0
 generalize hr1:rnum s0 1048576=r1 at *
 obtain ⟨v1,s1⟩:=r1
 have g1:s1.pos+s1.rest.length≤1099511627776:=by
  have:(rnum s0 1048576).2.pos+(rnum s0 1048576).2.rest.length≤s0.pos+s0.rest.length:=g1
  rw [hr1] at this;dsimp only at this;omega
 have g2:=rstep_le 0 s1 (pnum s1.rest 1048576) (pnum_le _ _)
 have n2:=fun b o cap=>YG b o cap s1 1048576 g1
 dsimp only at *
 generalize hr2:rnum s1 1048576=r2 at *
 obtain ⟨v2,s2⟩:=r2
 have g2:s2.pos+s2.rest.length≤1099511627776:=by
  have:(rnum s1 1048576).2.pos+(rnum s1 1048576).2.rest.length≤s1.pos+s1.rest.length:=g2
  rw [hr2] at this;dsimp only at this;omega
 have n3:=fun b o cap=>YG b o cap s2 1048576 g2
 dsimp only at *
 generalize hr3:rnum s2 1048576=r3 at *
 obtain ⟨v3,s3⟩:=r3
 dsimp only at *
 have n4:=fun b o cap=>UW b o cap s3
 have n0:=fun o cap=>Vz o cap s.data.toList (by omega)
 rw [h0] at n0
 have e0:s.data.toList=s0.rest:=by rw [←h0]
 rw [e0] at n0
 refine ZM [_] func201 ntmps201 fun G w hp=>?_
 repeat' (first|refine ZE ?_|refine ZD ?_|refine ZF ?_|refine ZS ?_|refine ZV ?_|refine ZR (fun b=>?_)|refine ZC (n0 _ _) (fun _ _=>?_)|refine ZC (n1 _ _ _) (fun _ _=>?_)|refine ZC (n2 _ _ _) (fun _ _=>?_)|refine ZC (n3 _ _ _) (fun _ _=>?_)|refine ZC (n4 _ _ _) (fun _ _=>?_)|refine l_s2b (fun o cap=>?_)|rw [e0]|refine ZG (fun hc=>?_) (fun hc=>?_)|fail)
 ·have hne:¬(s3.err=0∧s3.rest=[]):=fun h=>by rw [(close0 _ _).2 h] at hc;simp at hc
  rw [if_neg hne] at hd;subst hd;exact ZK () rfl trivial
 ·have h1:=(close0 _ _).1 (by simpa using hc)
  rw [if_pos h1] at hd;subst hd;exact ZK () rfl trivial
def cnm (who:ByteArray):Nm:=⟨5,who,0,0,⟨#[]⟩⟩
theorem WZ (who:ByteArray):Enters 69∧Spec prog 69 #[.string who] [] [] (RetV (cnm who).v):=by
 refine ZM [_] func69 ntmps69 fun G w hp=>?_
 repeat' (first|refine ZE ?_|refine ZD ?_|refine ZF ?_|refine ZV ?_|refine ZR (fun b=>?_)|fail)
 exact ZK () rfl trivial
def madeE (es:Al) (cs:List Ch) (who:ByteArray):Ct×Int:=
 if lvalid who.data.toList then (if (vget es cs (cnm who)).2 then ((cdec (vget es cs (cnm who)).1).getD Ct.z,if (cdec (vget es cs (cnm who)).1).isSome then 0 else 3) else (Ct.z,0)) else (Ct.z,12)
def madeR (es:Al) (rs:List (Nm×Ch)) (cs:List Ch) (who:ByteArray):List (Nm×Ch):=if lvalid who.data.toList then vread es rs cs (cnm who) else rs
set_option maxHeartbeats 1000000 in
theorem made_ok (b:Nat) (ps:Option Addr) (es:Al) (rs:List (Nm×Ch)) (cs:List Ch) (who:ByteArray) (hw:who.size≤1099511627770) (hv:(vget es cs (cnm who)).1.size≤1099511627776) :
  Enters 154∧Spec prog 154 #[.pointer (some ⟨b,0,none⟩),.string who] [St ps es,Usg] [Vw b ps rs cs] ⟨Unit,fun _=>.tuple #[(madeE es cs who).1.v,.int .i64 (madeE es cs who).2],fun _=>True,fun _=>[],fun _=>[Vw b ps (madeR es rs cs who) cs]⟩:=by
 have n1:=YW who (by omega)
 have n2:=WZ who
 have n3:=vwGet_ok b ps es rs cs (cnm who) hw (Nat.zero_le _)
 have n4:=Uq (vget es cs (cnm who)).1 hv
 generalize hm:madeE es cs who=m
 generalize hr:madeR es rs cs who=r
 unfold madeE at hm
 unfold madeR at hr
 cases h1:lvalid who.data.toList with
 | false=>
  rw [h1] at n1 hm hr
  simp only [Bool.false_eq_true,if_false] at hm hr
  subst hm;subst hr
  refine ZM [_,_] func154 ntmps154 fun G w hp=>?_
  repeat' (first|refine ZE ?_|refine ZD ?_|refine ZF ?_|refine ZV ?_|refine ZR (fun b=>?_)|refine ZH ?_|refine ZB ?_|refine ZC (n1) (fun _ _=>?_)|fail)
  exact ZK () rfl trivial
 | true=>
  rw [h1] at n1 hm hr
  simp only [if_true] at hm hr
  subst hr
  cases h2:(vget es cs (cnm who)).2 with
  | false=>
   rw [h2] at n3 hm
   simp only [Bool.false_eq_true,if_false] at hm
   subst hm
   refine ZM [_,_] func154 ntmps154 fun G w hp=>?_
   repeat' (first|refine ZE ?_|refine ZD ?_|refine ZF ?_|refine ZV ?_|refine ZR (fun b=>?_)|refine ZH ?_|refine ZB ?_|refine ZC (n1) (fun _ _=>?_)|refine ZC (n2) (fun _ _=>?_)|refine ZC (n3) (fun _ _=>?_)|fail)
   exact ZK () rfl trivial
  | true=>
   rw [h2] at n3 hm
   simp only [if_true] at hm
   subst hm
   refine ZM [_,_] func154 ntmps154 fun G w hp=>?_
   repeat' (first|refine ZE ?_|refine ZD ?_|refine ZF ?_|refine ZV ?_|refine ZR (fun b=>?_)|refine ZB ?_|refine ZC (n1) (fun _ _=>?_)|refine ZC (n2) (fun _ _=>?_)|refine ZC (n3) (fun _ _=>?_)|refine ZC (n4) (fun _ _=>?_)|fail)
   exact ZK () rfl trivial
theorem setMade_ok (b:Nat) (ps:Option Addr) (rs:List (Nm×Ch)) (cs:List Ch) (who:ByteArray) (c:Ct) (hw:who.size≤1099511627770) (hv:lvalid who.data.toList=true) (hc0:CtOK c) (hl:cs.length≤1000000) :
  Enters 155∧Spec prog 155 #[.pointer (some ⟨b,0,none⟩),.string who,c.v] [Usg] [Vw b ps rs cs] ⟨Unit,fun _=>.int .i64 (vset cs (cnm who) ⟨(cenc c).toArray⟩).1,fun _=>True,fun _=>[],fun _=>[Vw b ps rs (vset cs (cnm who) ⟨(cenc c).toArray⟩).2]⟩:=by
 have n1:=YW who (by omega)
 rw [hv] at n1
 have n2:=WZ who
 have n3:=Uo c hc0
 have n4:=Wu b ps rs cs (cnm who) ⟨(cenc c).toArray⟩ (by show who.size≤_;omega) (Nat.zero_le _) hl
 refine ZM [_,_,_] func155 ntmps155 fun G w hp=>?_
 repeat' (first|refine ZE ?_|refine ZD ?_|refine ZF ?_|refine ZS ?_|refine ZR (fun b=>?_)|refine ZB ?_|refine ZC (n1) (fun _ _=>?_)|refine ZC (n2) (fun _ _=>?_)|refine ZC (n3) (fun _ _=>?_)|refine ZC (n4) (fun _ _=>?_)|fail)
 exact ZK () rfl trivial
theorem mem_tw {α:Type} {p:α→Bool}:∀{l:List α} {x:α},x ∈ l.takeWhile p→p x=true
 | [],_,h=>by cases h
 | a::l,x,h=>by
  rw [List.takeWhile_cons] at h
  split at h
  ·rename_i ha
   rcases List.mem_cons.1 h with rfl|h
   ·exact ha
   ·exact mem_tw h
  ·cases h
theorem dval_pos:∀(init:List UInt8) (b:UInt8),b.toNat<128→0<b.toNat→0<dval (init++[b])
 | [],b,h,h0=>by simp [dval];omega
 | c::init,b,h,h0=>by
  have:=dval_pos init b h h0
  simp only [List.cons_append,dval];omega
theorem venc_dval:∀(init:List UInt8) (b:UInt8),(∀c ∈ init,128≤c.toNat)→b.toNat<128→(init≠[]→b.toNat≠0)→venc (dval (init++[b]))=init++[b]
 | [],b,_,h,_=>by
  have h1:dval ([]++[b])=b.toNat:=by simp [dval];omega
  rw [h1,venc,if_pos h];simp
 | c::init,b,hc,h,h0=>by
  have hb:0<b.toNat:=Nat.pos_of_ne_zero (h0 (by simp))
  have hp:=dval_pos init b h hb
  have ih:=venc_dval init b (fun x hx=>hc x (by simp [hx])) h (fun _=>by omega)
  have hc1:128≤c.toNat:=hc c (by simp)
  have hc2:c.toNat<256:=c.toNat_lt
  simp only [List.cons_append,dval]
  rw [venc,if_neg (by omega)]
  have e1:(c.toNat % 128+128 * dval (init++[b])) / 128=dval (init++[b]):=by omega
  have e2:(c.toNat % 128+128 * dval (init++[b])) % 128+128=c.toNat:=by omega
  rw [e1,e2,ih];simp
theorem pnat_inv (bs:List UInt8) (h:(pnat bs 9).2.2=0):bs.take (pnat bs 9).2.1=venc (pnat bs 9).1:=by
 have hle:=lastN_le bs 9
 unfold pnat at h ⊢
 dsimp only at h ⊢
 have hall:∀c ∈ bs.take (lastN bs 9),128≤c.toNat:=by
  intro c hc
  have h1:bs.take (lastN bs 9)=(bs.take 9).takeWhile fun b=>decide (128≤b.toNat):=by
   have h2:(bs.take 9).takeWhile (fun b=>decide (128≤b.toNat)) <+: bs:=(List.takeWhile_prefix _).trans (List.take_prefix _ _)
   exact (List.prefix_iff_eq_take.1 h2).symm
  rw [h1] at hc
  simpa using mem_tw hc
 by_cases h9:lastN bs 9=9
 ·simp [h9] at h
 ·rw [if_neg h9] at h ⊢
  cases hb:bs[lastN bs 9]? with
  | none=>simp [hb] at h
  | some b=>
   simp only [hb] at h ⊢
   by_cases hc:0<lastN bs 9∧b.toNat=0
   ·rw [if_pos hc] at h;cases h
   ·rw [if_neg hc] at h ⊢
    have h8:¬(lastN bs 9=9∧1<b.toNat):=fun h=>h9 h.1
    rw [if_neg h8]
    have hlt:lastN bs 9<bs.length:=(List.getElem?_eq_some_iff.1 hb).1
    have ht:bs.take (lastN bs 9+1)=bs.take (lastN bs 9)++[b]:=by rw [List.take_add_one,hb];rfl
    have hbl:b.toNat<128:=by
     have h1:lastN bs 9<(bs.take 9).length:=by simp;omega
     have h3:(bs.take 9)[lastN bs 9]? = some b:=by rw [List.getElem?_take];rw [if_pos (by omega)];exact hb
     have h4:((bs.take 9).takeWhile fun b=>decide (128≤b.toNat)).length=lastN bs 9:=rfl
     by_cases hx:128≤b.toNat
     ·exfalso
      have h5:(bs.take 9).take (lastN bs 9+1)=(bs.take 9).take (lastN bs 9)++[b]:=by rw [List.take_add_one,h3];rfl
      have h6:((bs.take 9).takeWhile fun b=>decide (128≤b.toNat))=(bs.take 9).take (lastN bs 9):=List.prefix_iff_eq_take.1 (List.takeWhile_prefix _)
      have h7:bs.take 9=((bs.take 9).take (lastN bs 9)++[b])++(bs.take 9).drop (lastN bs 9+1):=by rw [←h5,List.take_append_drop]
      have h8:∀c ∈ (bs.take 9).take (lastN bs 9)++[b],decide (128≤c.toNat)=true:=by
       intro c hc
       rcases List.mem_append.1 hc with hc|hc
       ·rw [←h6] at hc;exact mem_tw (p:=fun b:UInt8=>decide (128≤b.toNat)) hc
       ·simp only [List.mem_singleton] at hc;subst hc;simpa using hx
      have h9:((bs.take 9).take (lastN bs 9)++[b]).length≤((bs.take 9).takeWhile fun b=>decide (128≤b.toNat)).length:=by
       conv=>rhs;rw [h7]
       rw [List.takeWhile_append_of_pos h8]
       simp only [List.length_append];omega
      rw [h4] at h9
      simp at h9;omega
     ·omega
    show bs.take (lastN bs 9+1)=venc (dval (bs.take (lastN bs 9+1)) % 18446744073709551616)
    have hd:=dval_lt (bs.take (lastN bs 9+1))
    have hl:(bs.take (lastN bs 9+1)).length≤9:=by simp;omega
    have h128:128 ^ (bs.take (lastN bs 9+1)).length≤128 ^ 9:=Nat.pow_le_pow_right (by decide) hl
    rw [Nat.mod_eq_of_lt (Nat.lt_of_lt_of_le (Nat.lt_of_lt_of_le hd h128) (by decide)),ht]
    exact (venc_dval _ b hall hbl (fun hne hb0=>hc ⟨by
     rcases Nat.eq_zero_or_pos (lastN bs 9) with h0|h0
     ·rw [h0] at hne;exact absurd rfl hne
     ·exact h0,hb0⟩)).symm
theorem rstep_err {α:Type} (z:α) (s:RS) (p:α×Nat×Int) (h:(rstep z s p).2.err=0):s.err=0∧p.2.2=0∧rstep z s p=(p.1,⟨s.rest.drop p.2.1,s.pos+p.2.1,0⟩):=by
 unfold rstep at h ⊢
 by_cases h1:s.err=0
 ·rw [if_neg (by simp [h1])] at h ⊢
  by_cases h2:p.2.2=0
  ·rw [if_neg (by simp [h2])];exact ⟨h1,h2,rfl⟩
  ·rw [if_pos h2] at h;exact absurd h h2
 ·rw [if_pos h1] at h;exact absurd h h1
theorem WM {s:RS} {most:Int} (h:(rnum s most).2.err=0):s.err=0∧0≤(rnum s most).1∧(rnum s most).1≤most∧(rnum s most).1<9223372036854775808∧s.rest=venc (rnum s most).1.toNat++(rnum s most).2.rest:=by
 obtain ⟨h1,h2,h3⟩:=rstep_err _ _ _ h
 have h4:rnum s most=_:=h3
 have hlt:=(V3 s.rest).1
 unfold pnum at h2
 dsimp only at h2
 have h5:(pnat s.rest 9).2.2=0∧¬most<((pnat s.rest 9).1:Int):=by
  split at h2
  ·cases h2
  ·rename_i hn
   exact ⟨h2,fun hm=>hn ⟨h2,hm⟩⟩
 rw [h4]
 refine ⟨h1,by simp [pnum],by simp only [pnum];omega,by simp only [pnum];omega,?_⟩
 have h6:=pnat_inv s.rest h5.1
 show s.rest=venc (((pnat s.rest 9).1:Int)).toNat++s.rest.drop (pnat s.rest 9).2.1
 rw [Int.toNat_natCast,←h6,List.take_append_drop]
theorem rtext_inv {s:RS} {most:Int} (h:(rtext s most).2.err=0):s.err=0∧((rtext s most).1.size:Int)≤most∧(rtext s most).1.size≤16777216∧s.rest=venc (rtext s most).1.size++(rtext s most).1.data.toList++(rtext s most).2.rest:=by
 obtain ⟨h1,h2,h3⟩:=rstep_err _ _ _ h
 have h4:rtext s most=_:=h3
 rw [h4]
 unfold ptext at h2 ⊢
 by_cases ha:(pnat s.rest 9).2.2=0
 ·rw [if_neg (by simp [ha])] at h2 ⊢
  by_cases hb:most<((pnat s.rest 9).1:Int)∨16777216<(pnat s.rest 9).1
  ·rw [if_pos hb] at h2;cases h2
  ·rw [if_neg hb] at h2 ⊢
   by_cases hc:s.rest.length<(pnat s.rest 9).2.1+(pnat s.rest 9).1
   ·rw [if_pos hc] at h2;cases h2
   ·rw [if_neg hc]
    have hsz:(ByteArray.mk ((s.rest.take ((pnat s.rest 9).2.1+(pnat s.rest 9).1)).drop (pnat s.rest 9).2.1).toArray).size=(pnat s.rest 9).1:=by
     show (List.toArray _).size=_
     simp;omega
    refine ⟨h1,by dsimp only;rw [hsz];omega,by dsimp only;rw [hsz];omega,?_⟩
    dsimp only
    rw [hsz]
    have h6:=pnat_inv s.rest ha
    generalize (pnat s.rest 9).2.1=a at *
    generalize (pnat s.rest 9).1=m at *
    rw [←h6]
    show s.rest=s.rest.take a++(List.toArray ((s.rest.take (a+m)).drop a)).toList++s.rest.drop (a+m)
    have e1:(s.rest.take (a+m)).take a=s.rest.take a:=by rw [List.take_take];congr 1;omega
    have e2:s.rest.take a++(s.rest.take (a+m)).drop a=s.rest.take (a+m):=by rw [←e1,List.take_append_drop]
    rw [List.toList_toArray,e2,List.take_append_drop]
 ·rw [if_pos ha] at h2;exact absurd h2 ha
structure Ino where
 kd:Int
 ow:Int
 gr:Int
 md:Int
 sz:Int
 lk:Int
 tg:ByteArray
 deriving DecidableEq
def inf (n:Ino):List Value:=[.int .i64 n.kd,.int .i64 n.ow,.int .i64 n.gr,.int .i64 n.md,.int .i64 n.sz,.int .i64 n.lk,.string n.tg]
def Ino.v (n:Ino):Value:=.agg #[.int .i64 n.kd,.int .i64 n.ow,.int .i64 n.gr,.int .i64 n.md,.int .i64 n.sz,.int .i64 n.lk,.string n.tg]
def Ino.z:Ino:=⟨0,0,0,0,0,0,⟨#[]⟩⟩
def badt (c:UInt8):Bool:=decide ((c.toNat:Int)<32) || ((c.toNat:Int) == 127)
def tchk (s:ByteArray):Int:=if isE s then 4 else if 256<s.size then 5 else if s.data.toList.any badt then 6 else 0
theorem checkTarget_ok (s:ByteArray):Enters 153∧Spec prog 153 #[.string s] [] [] (RetV (.int .i64 (tchk s))):=by
 have hsz:s.data.toList.length=s.size:=by simp
 generalize hr:tchk s=r
 unfold tchk at hr
 refine ZM [_] func153 ntmps153 fun G w hp=>?_
 repeat' (first|refine ZE ?_|refine ZD ?_|refine ZL ?_|refine ZF ?_|refine ZS ?_|refine ZO ?_|refine ZV ?_|refine ZR (fun b=>?_)|refine ZX (fun b=>?_)|refine ZH ?_|refine ZB ?_|refine ZW ?_|(refine ZJ (fun hc=>?_) (fun hc=>?_)<;>(try simp at hc))|(refine ZG (fun hc=>?_) (fun hc=>?_)<;>(try simp at hc)))
 ·have hc:isE s=true:=by simpa [isE] using hc
  rw [if_pos hc] at hr;subst hr;exact ZK () rfl trivial
 ·rename_i h1
  have h1:isE s=false:=by simpa [isE] using h1
  rw [if_neg (by simp [h1]),if_pos (by omega)] at hr;subst hr;exact ZK () rfl trivial
 rename_i h1
 have h1:isE s=false:=by simpa [isE] using h1
 rw [if_neg (by simp [h1]),if_neg (by omega)] at hr
 refine Z8 (X:={i:Nat // i≤s.size∧∀j,j<i→∀c,s.data.toList[j]? = some c→badt c=false}) (fun i=>[(0,.string s),(12,.int .i64 (s.size:Int)),(13,.int .i64 (i.1:Int))]) (fun _=>[]) (fun _=>[]) (fun i=>s.size - i.1) ⟨0,by omega,fun j hj=>by omega⟩ ⟨rfl,rfl,rfl,trivial⟩ ?_
 rintro ⟨i,hi1,hi2⟩
 dsimp only
 by_cases hlt:i<s.data.toList.length
 ·obtain ⟨c,hcc⟩:∃c,s.data.toList[i]? = some c:=⟨_,List.getElem?_eq_getElem hlt⟩
  have bad:badt c=true→r=6:=fun hb=>by
   rw [←hr,if_pos]
   rw [List.any_eq_true]
   exact ⟨c,List.mem_of_getElem? hcc,hb⟩
  repeat' (first|refine ZE ?_|refine ZD ?_|refine ZL ?_|refine ZF ?_|refine ZS ?_|refine ZO ?_|refine ZV ?_|refine ZR (fun b=>?_)|refine ZX (fun b=>?_)|refine ZH ?_|refine ZB ?_|refine l_six (s:=s) i c hcc ?_|(refine ZJ (fun hc=>?_) (fun hc=>?_)<;>(try simp at hc)<;>(try omega))|(refine ZG (fun hc=>?_) (fun hc=>?_)<;>(try simp at hc)<;>(try omega)))
  all_goals try (
   have e:=bad (by simp [badt];omega)
   exact Ym (Yx (w_rv (congrArg (Value.int .i64) e) (YD () rfl trivial))))
  rw [wrapi (z:=(i:Int)+1) (by omega) (by omega)]
  refine Zb ⟨i+1,by omega,fun j hj c' hc'=>?_⟩ (by show s.size - (i+1)<s.size - i;omega) ⟨rfl,rfl,rfl,trivial⟩
  by_cases hij:j=i
  ·subst hij
   obtain rfl:=Option.some.inj (hcc.symm.trans hc')
   simp [badt];omega
  ·exact hi2 j (by omega) c' hc'
 ·have e:¬(s.data.toList.any badt=true):=by
   rw [List.any_eq_true]
   rintro ⟨c,hc,hb⟩
   obtain ⟨j,hj,rfl⟩:=List.mem_iff_getElem.1 hc
   rw [hi2 j (by omega) _ (List.getElem?_eq_getElem hj)] at hb
   cases hb
  rw [if_neg e] at hr
  subst hr
  repeat' (first|refine ZE ?_|refine ZD ?_|refine ZL ?_|refine ZF ?_|refine ZS ?_|refine ZO ?_|refine ZV ?_|refine ZR (fun b=>?_)|refine ZX (fun b=>?_)|refine ZH ?_|refine ZB ?_|refine ZW ?_|(refine ZJ (fun hc=>?_) (fun hc=>?_)<;>(try simp at hc)<;>(try omega))|(refine ZG (fun hc=>?_) (fun hc=>?_)<;>(try simp at hc)<;>(try omega)))
  exact ZK () rfl trivial
def ifit (n:Ino):Prop:=0≤n.ow∧n.ow≤65535∧0≤n.gr∧n.gr≤65535∧0≤n.md∧n.md≤2047∧0≤n.sz∧n.sz≤4096∧0≤n.lk∧n.lk≤1000
instance (n:Ino):Decidable (ifit n):=by unfold ifit;infer_instance
def ichk (n:Ino):Int:=
 if n.kd<1∨3<n.kd then 11
 else if ¬ifit n then 2
 else if (n.kd≠1∧n.sz≠0)∨(n.kd≠3∧isE n.tg=false) then 3
 else if n.kd≠3 then 0
 else tchk n.tg
set_option maxHeartbeats 2000000 in
theorem X3 (n:Ino):Enters 102∧Spec prog 102 #[n.v] [] [] (RetV (.int .i64 (ichk n))):=by
 have n1:=Z9 n.ow 65535
 have n2:=Z9 n.gr 65535
 have n3:=Z9 n.md 2047
 have n4:=Z9 n.sz 4096
 have n5:=Z9 n.lk 1000
 have n6:=checkTarget_ok n.tg
 generalize hr:ichk n=r
 unfold ichk ifit at hr
 have hE:(n.tg.toList == ByteArray.toList ⟨#[]⟩)=isE n.tg:=rfl
 refine ZM [_] func102 ntmps102 fun G w hp=>?_
 repeat' (first|refine ZE ?_|refine ZD ?_|refine ZL ?_|refine ZF ?_|refine ZS ?_|refine ZO ?_|refine ZV ?_|refine ZR (fun b=>?_)|refine ZX (fun b=>?_)|refine ZH ?_|refine ZB ?_|refine ZW ?_|refine ZC (n1) (fun _ _=>?_)|refine l_call0 (n1) (fun _ _=>?_)|refine ZC (n2) (fun _ _=>?_)|refine l_call0 (n2) (fun _ _=>?_)|refine ZC (n3) (fun _ _=>?_)|refine l_call0 (n3) (fun _ _=>?_)|refine ZC (n4) (fun _ _=>?_)|refine l_call0 (n4) (fun _ _=>?_)|refine ZC (n5) (fun _ _=>?_)|refine l_call0 (n5) (fun _ _=>?_)|refine ZC (n6) (fun _ _=>?_)|refine l_call0 (n6) (fun _ _=>?_)|(refine ZJ (fun hc=>?_) (fun hc=>?_)<;>(try simp at hc)<;>(try omega))|(refine ZG (fun hc=>?_) (fun hc=>?_)<;>(try simp at hc)<;>(try omega)))
 all_goals (refine ZK () ?_ trivial;refine congrArg (Value.int .i64) ?_)
 all_goals first
  | (rw [←hr,if_pos (by omega)];done)
  | (rw [←hr,if_neg (by omega),if_pos (by omega)];done)
  | (rw [←hr,if_neg (by omega),if_neg (by omega),if_pos (.inl ⟨by omega,by omega⟩)];done)
  | (rw [←hr,if_neg (by omega),if_neg (by omega),if_pos (.inr ⟨by omega,by simpa [isE] using hc⟩)];done)
  | (rw [←hr,if_neg (by omega),if_neg (by omega),if_neg (by rintro (⟨h1,h2⟩|⟨h1,h2⟩)<;>first|omega|(simp [isE] at h2;simp_all)),if_pos (by omega)];done)
  | (rw [←hr,if_neg (by omega),if_neg (by omega),if_neg (by rintro (⟨h1,h2⟩|⟨h1,h2⟩)<;>first|omega|(simp [isE] at h2;simp_all)),if_neg (by omega)];done)
def ienc (n:Ino):List UInt8:=([n.kd,n.ow,n.gr,n.md,n.sz,n.lk].flatMap fun z=>venc z.toNat)++venc n.tg.size++n.tg.data.toList
def iencS (n:Ino):ByteArray:=if ichk n=0 then ⟨(ienc n).toArray⟩ else ⟨#[]⟩
theorem Yi {n:Ino} (h:ichk n=0):(1≤n.kd∧n.kd≤3)∧ifit n∧n.tg.size≤256:=by
 unfold ichk at h
 split at h
 ·cases h
 ·split at h
  ·cases h
  ·rename_i h1 h2
   split at h
   ·cases h
   ·rename_i h3
    refine ⟨by omega,by simpa using h2,?_⟩
    split at h
    ·rename_i h4
     have:isE n.tg=true:=by
      cases hE:isE n.tg with
      | true=>rfl
      | false=>exact absurd (.inr ⟨h4,hE⟩) h3
     rw [isE_eq] at this
     rw [of_decide_eq_true this];exact Nat.zero_le _
    ·unfold tchk at h
     split at h
     ·cases h
     ·split at h
      ·cases h
      ·omega
theorem ienc_len {n:Ino} (h:ichk n=0):(ienc n).length≤400:=by
 obtain ⟨h1,h2,h3⟩:=Yi h
 have h4:=VN [n.kd,n.ow,n.gr,n.md,n.sz,n.lk] (fun z hz=>by
  unfold ifit at h2
  simp only [List.mem_cons,List.not_mem_nil,or_false] at hz
  rcases hz with rfl|rfl|rfl|rfl|rfl|rfl<;>omega)
 have h5:=XA n.tg.size (by omega)
 have s1:n.tg.data.toList.length=n.tg.size:=by simp
 simp only [ienc,List.length_append,List.length_cons,List.length_nil] at h4 ⊢
 omega
theorem Zw (n:Ino):(iencS n).size≤400:=by
 unfold iencS
 split
 ·rename_i h
  have:=ienc_len h
  show (ienc n).toArray.size≤_
  rw [List.size_toArray];exact this
 ·exact Nat.zero_le _
set_option maxHeartbeats 1000000 in
theorem inoEncode_ok (n:Ino) (h:ichk n=0):Enters 156∧Spec prog 156 #[n.v] [] [] (RetV (.tuple #[.string (iencS n),.int .i64 0])):=by
 have n1:=X3 n
 rw [h] at n1
 obtain ⟨h1,h2,h3⟩:=Yi h
 have hz:∀z ∈ [n.kd,n.ow,n.gr,n.md,n.sz,n.lk],0≤z∧z≤4294967296:=fun z hz=>by
  unfold ifit at h2
  simp only [List.mem_cons,List.not_mem_nil,or_false] at hz
  rcases hz with rfl|rfl|rfl|rfl|rfl|rfl<;>omega
 have hl:=VN _ hz
 simp only [List.length_cons,List.length_nil] at hl
 have n2:=fun b bw s=>Uh b bw s 0 [] [n.kd,n.ow,n.gr,n.md,n.sz,n.lk] (by simp) hz (by simp)
 have hil:=ienc_len h
 rw [iencS,if_pos h]
 unfold ienc at hil ⊢
 rw [show ∀X:List UInt8,[]++X=X from List.nil_append] at n2
 generalize ([n.kd,n.ow,n.gr,n.md,n.sz,n.lk].flatMap fun z=>venc z.toNat)=B at *
 have n3:=fun bw=>wtrText_ok bw B n.tg (by omega) (by omega)
 have n4:=fun b bw=>Ua b bw (B++venc n.tg.size++n.tg.data.toList) (by omega)
 refine ZM [_] func156 ntmps156 fun G w hp=>?_
 repeat' (first|refine ZE ?_|refine ZD ?_|refine ZL ?_|refine ZF ?_|refine ZS ?_|refine ZO ?_|refine ZV ?_|refine ZR (fun b=>?_)|refine ZX (fun b=>?_)|refine ZH ?_|refine ZB ?_|refine ZW ?_|refine ZT ?_|refine ZZ ?_|refine Zf ?_|refine Za ?_|refine Zd ?_|refine Zj (fun b=>?_)|refine Zm (fun b=>?_)|refine Zk ?_|refine ZU ?_|refine ZC (n1) (fun _ _=>?_)|refine l_call0 (n1) (fun _ _=>?_)|refine ZN (n1) (fun _ _=>?_)|refine ZC (XT _) (fun _ _=>?_)|refine l_call0 (XT _) (fun _ _=>?_)|refine ZN (XT _) (fun _ _=>?_)|refine ZC (n2 _ _ _) (fun _ _=>?_)|refine l_call0 (n2 _ _ _) (fun _ _=>?_)|refine ZN (n2 _ _ _) (fun _ _=>?_)|refine ZC (n3 _) (fun _ _=>?_)|refine l_call0 (n3 _) (fun _ _=>?_)|refine ZN (n3 _) (fun _ _=>?_)|refine ZC (n4 _ _) (fun _ _=>?_)|refine l_call0 (n4 _ _) (fun _ _=>?_)|refine ZN (n4 _ _) (fun _ _=>?_)|(refine ZJ (fun hc=>?_) (fun hc=>?_)<;>(try simp at hc))|(refine ZP (fun hc=>?_) (fun hc=>?_)<;>(try simp at hc))|refine ZA 3 [Wtr _ _] [(0,0),(1,0),(2,0),(3,0),(4,0),(5,0),(6,4)] [] ?_|(refine ZG (fun hc=>?_) (fun hc=>?_)<;>(try simp at hc)))
 exact ZK () rfl trivial
def iread (s:RS):Ino×RS:=
 let (a1,s1):=rnum s 3
 let (a2,s2):=rnum s1 65535
 let (a3,s3):=rnum s2 65535
 let (a4,s4):=rnum s3 2047
 let (a5,s5):=rnum s4 4096
 let (a6,s6):=rnum s5 1000
 let (a7,s7):=rtext s6 256
 (⟨a1,a2,a3,a4,a5,a6,a7⟩,s7)
def idec (s:ByteArray):Option Ino:=
 let r:=iread ⟨s.data.toList,0,0⟩
 if r.2.err=0∧r.2.rest=[]∧ichk r.1=0 then some r.1 else none
theorem WO (s:RS) (m:Int):(rnum s m).2.pos+(rnum s m).2.rest.length≤s.pos+s.rest.length:=rstep_le 0 s _ (pnum_le _ _)
set_option maxHeartbeats 1000000 in
theorem inoDecode_ok (s:ByteArray) (hs:s.size≤1099511627776):Enters 56∧Spec prog 56 #[.string s] [] [] (RetV (.tuple #[((idec s).getD Ino.z).v,.int .i64 (if (idec s).isSome then 0 else 3)])):=by
 have hsz:s.data.toList.length=s.size:=by simp
 have n0:=fun o cap=>Vz o cap s.data.toList (by omega)
 generalize hd:idec s=d
 unfold idec iread at hd
 dsimp only at hd
 generalize h0:(⟨s.data.toList,0,0⟩:RS)=s0 at hd n0
 have g0:s0.pos+s0.rest.length≤1099511627776:=by subst h0;dsimp only;omega
 have e0:s.data.toList=s0.rest:=by rw [←h0]
 rw [e0] at n0
 have g1:=WO s0 3
 have n1:=fun b o cap=>YG b o cap s0 3 (by omega)
 have g2:=WO (rnum s0 3).2 65535
 have n2:=fun b o cap=>YG b o cap (rnum s0 3).2 65535 (by omega)
 have g3:=WO (rnum (rnum s0 3).2 65535).2 65535
 have n3:=fun b o cap=>YG b o cap (rnum (rnum s0 3).2 65535).2 65535 (by omega)
 have g4:=WO (rnum (rnum (rnum s0 3).2 65535).2 65535).2 2047
 have n4:=fun b o cap=>YG b o cap (rnum (rnum (rnum s0 3).2 65535).2 65535).2 2047 (by omega)
 have g5:=WO (rnum (rnum (rnum (rnum s0 3).2 65535).2 65535).2 2047).2 4096
 have n5:=fun b o cap=>YG b o cap (rnum (rnum (rnum (rnum s0 3).2 65535).2 65535).2 2047).2 4096 (by omega)
 have g6:=WO (rnum (rnum (rnum (rnum (rnum s0 3).2 65535).2 65535).2 2047).2 4096).2 1000
 have n6:=fun b o cap=>YG b o cap (rnum (rnum (rnum (rnum (rnum s0 3).2 65535).2 65535).2 2047).2 4096).2 1000 (by omega)
 have n7:=fun b o cap=>rdrText_ok b o cap (rnum (rnum (rnum (rnum (rnum (rnum s0 3).2 65535).2 65535).2 2047).2 4096).2 1000).2 256 (by omega)
 generalize hn:(⟨(rnum s0 3).1,(rnum (rnum s0 3).2 65535).1,(rnum (rnum (rnum s0 3).2 65535).2 65535).1,(rnum (rnum (rnum (rnum s0 3).2 65535).2 65535).2 2047).1,(rnum (rnum (rnum (rnum (rnum s0 3).2 65535).2 65535).2 2047).2 4096).1,(rnum (rnum (rnum (rnum (rnum (rnum s0 3).2 65535).2 65535).2 2047).2 4096).2 1000).1,(rtext (rnum (rnum (rnum (rnum (rnum (rnum s0 3).2 65535).2 65535).2 2047).2 4096).2 1000).2 256).1⟩:Ino)=nd at hd
 have n9:=X3 nd
 generalize hs7:(rtext (rnum (rnum (rnum (rnum (rnum (rnum s0 3).2 65535).2 65535).2 2047).2 4096).2 1000).2 256).2=s7 at hd n7
 have n8:=fun b o cap=>UW b o cap s7
 rw [←hn] at n9 hd
 refine ZM [_] func56 ntmps56 fun G w hp=>?_
 repeat' (first|refine ZE ?_|refine ZD ?_|refine ZL ?_|refine ZF ?_|refine ZS ?_|refine ZO ?_|refine ZV ?_|refine ZR (fun b=>?_)|refine ZX (fun b=>?_)|refine ZH ?_|refine ZB ?_|refine ZW ?_|refine ZC (n0 _ _) (fun _ _=>?_)|refine l_call0 (n0 _ _) (fun _ _=>?_)|refine ZC (n1 _ _ _) (fun _ _=>?_)|refine l_call0 (n1 _ _ _) (fun _ _=>?_)|refine ZC (n2 _ _ _) (fun _ _=>?_)|refine l_call0 (n2 _ _ _) (fun _ _=>?_)|refine ZC (n3 _ _ _) (fun _ _=>?_)|refine l_call0 (n3 _ _ _) (fun _ _=>?_)|refine ZC (n4 _ _ _) (fun _ _=>?_)|refine l_call0 (n4 _ _ _) (fun _ _=>?_)|refine ZC (n5 _ _ _) (fun _ _=>?_)|refine l_call0 (n5 _ _ _) (fun _ _=>?_)|refine ZC (n6 _ _ _) (fun _ _=>?_)|refine l_call0 (n6 _ _ _) (fun _ _=>?_)|refine ZC (n7 _ _ _) (fun _ _=>?_)|refine l_call0 (n7 _ _ _) (fun _ _=>?_)|refine ZC (n8 _ _ _) (fun _ _=>?_)|refine l_call0 (n8 _ _ _) (fun _ _=>?_)|refine ZC (n9) (fun _ _=>?_)|refine l_call0 (n9) (fun _ _=>?_)|refine l_s2b (fun o cap=>?_)|rw [e0]|refine ZJ (fun hc=>?_) (fun hc=>?_)|refine ZG (fun hc=>?_) (fun hc=>?_))
 ·have hc:¬(s7.err=0∧s7.rest=[]):=fun h=>by rw [(close0 _ _).2 h] at hc;simp at hc
  rw [if_neg fun h=>hc ⟨h.1,h.2.1⟩] at hd;subst hd;exact ZK () rfl trivial
 ·rename_i h1 _ _
  have h1:=(close0 _ _).1 (by simpa using h1)
  rw [if_neg fun h=>by simp [h.2.2] at hc] at hd;subst hd;exact ZK () rfl trivial
 ·rename_i h1 _ _
  have h1:=(close0 _ _).1 (by simpa using h1)
  rw [if_pos ⟨h1.1,h1.2,by simpa using hc⟩] at hd;subst hd;exact ZK () rfl trivial
theorem idec_inv {s:ByteArray} {n:Ino} (h:idec s=some n):ichk n=0∧s.data.toList=ienc n:=by
 unfold idec at h
 dsimp only at h
 split at h
 ·rename_i hc
  obtain ⟨h1,h2,h3⟩:=hc
  obtain rfl:=Option.some.inj h
  refine ⟨h3,?_⟩
  unfold iread at h1 h2 ⊢
  dsimp only at h1 h2 ⊢
  obtain ⟨a1,a2,a3,a4⟩:=rtext_inv h1
  obtain ⟨b1,b2,b3,b4,b5⟩:=WM a1
  obtain ⟨c1,c2,c3,c4,c5⟩:=WM b1
  obtain ⟨d1,d2,d3,d4,d5⟩:=WM c1
  obtain ⟨e1,e2,e3,e4,e5⟩:=WM d1
  obtain ⟨f1,f2,f3,f4,f5⟩:=WM e1
  obtain ⟨g1,g2,g3,g4,g5⟩:=WM f1
  rw [h2] at a4
  refine Eq.trans (show s.data.toList=_ from g5) ?_
  rw [f5,e5,d5,c5,b5,a4]
  simp [ienc]
 ·cases h
theorem idec_enc {n:Ino} (h:ichk n=0):idec (iencS n)=some n:=by
 obtain ⟨h1,h2,h3⟩:=Yi h
 unfold ifit at h2
 have e1:((n.kd.toNat:Nat):Int)=n.kd:=by omega
 have e2:((n.ow.toNat:Nat):Int)=n.ow:=by omega
 have e3:((n.gr.toNat:Nat):Int)=n.gr:=by omega
 have e4:((n.md.toNat:Nat):Int)=n.md:=by omega
 have e5:((n.sz.toNat:Nat):Int)=n.sz:=by omega
 have e6:((n.lk.toNat:Nat):Int)=n.lk:=by omega
 have hl:ienc n=venc n.kd.toNat++(venc n.ow.toNat++(venc n.gr.toNat++(venc n.md.toNat++(venc n.sz.toNat++(venc n.lk.toNat++(venc n.tg.size++n.tg.data.toList++[])))))):=by simp [ienc]
 have r1:=fun p=>Yu n.kd.toNat (by omega) (venc n.ow.toNat++(venc n.gr.toNat++(venc n.md.toNat++(venc n.sz.toNat++(venc n.lk.toNat++(venc n.tg.size++n.tg.data.toList++[])))))) p 3 (by omega)
 have r2:=fun p=>Yu n.ow.toNat (by omega) (venc n.gr.toNat++(venc n.md.toNat++(venc n.sz.toNat++(venc n.lk.toNat++(venc n.tg.size++n.tg.data.toList++[]))))) p 65535 (by omega)
 have r3:=fun p=>Yu n.gr.toNat (by omega) (venc n.md.toNat++(venc n.sz.toNat++(venc n.lk.toNat++(venc n.tg.size++n.tg.data.toList++[])))) p 65535 (by omega)
 have r4:=fun p=>Yu n.md.toNat (by omega) (venc n.sz.toNat++(venc n.lk.toNat++(venc n.tg.size++n.tg.data.toList++[]))) p 2047 (by omega)
 have r5:=fun p=>Yu n.sz.toNat (by omega) (venc n.lk.toNat++(venc n.tg.size++n.tg.data.toList++[])) p 4096 (by omega)
 have r6:=fun p=>Yu n.lk.toNat (by omega) (venc n.tg.size++n.tg.data.toList++[]) p 1000 (by omega)
 have r7:=fun p=>rtext_venc n.tg [] p 256 (by omega) (by omega)
 rw [iencS,if_pos h]
 unfold idec iread
 simp only [hl,r1,r2,r3,r4,r5,r6,r7,e1,e2,e3,e4,e5,e6]
 rw [if_pos ⟨trivial,trivial,h⟩]
section
variable {t2:TypeId}
theorem run_scut {s:ByteArray} {z:Int} {rs:TRow} {w:World} (hi:Nat) (hle:hi≤s.size) (hts:lookT tab t=some rs) (hrs:rs.k = .str) (hz:z=(hi:Int)):(Instr.sliceAt t (.string s) none (some (.int .i64 z)) none).run prog w = .ok (.string (s.extract 0 hi)) w:=by
 subst hz
 have hu:=Y2 (w:=w) hts hrs
 have hb:(Instr.sliceBound (.int .i64 (hi:Int)) s.size .sliceAlen).run prog w = .ok hi w:=by
  simp only [Instr.sliceBound,asIntOf,Sem.run_bind,Sem.run_pure,Result.andThen]
  rw [if_pos ⟨by omega,by omega⟩]
  simp
 simp [Instr.sliceAt,Instr.slice,Instr.sliceBounds,Sem.run_bind,hu,Result.andThen,hb]
theorem minS (m j:Nat):(if (j:Int)<(m:Int) then (j:Int) else (m:Int))=((min m j:Nat):Int):=by split<;>omega
def cutS (s:ByteArray) (m:Nat):ByteArray:=s.extract 0 (min s.size m)
theorem cutS_size (s:ByteArray) (m:Nat):(cutS s m).size≤m:=by
 unfold cutS;rw [ByteArray.size_extract];omega
theorem l_cutS {s:ByteArray} {z:Int} {rs:TRow} (hi:Nat) (nx:Wl n C ops.toArray k Q l ((d,.string (cutS s hi))::E) F R)
  (hw:wantL ops E ⟨some d,.slice t x none (some y) none,ty0,pos,aft,gd⟩=some true:=by rfl) (hn:Nat.blt d n=true:=by rfl) (hx:ev E x=some (.string s):=by rfl) (hy:ev E y=some (.int .i64 z):=by rfl)
  (hts:lookT tab t=some rs:=by rfl) (hrs:rs.k = .str:=by rfl) (hz:z=(if (hi:Int)<(s.size:Int) then (hi:Int) else (s.size:Int)):=by rfl):Wl n C ops.toArray k Q (⟨some d,.slice t x none (some y) none,ty0,pos,aft,gd⟩::l) E F R:=
 l_q (fun a w ha=>by
  simp only [execOp,Option.map_some,Option.map_none,ha.ev (x:=x) (by rw [ZQ];exact hx),ha.ev (x:=y) (by rw [ZQ];exact hy),Sem.run_bind,run_scut (w:=w) (min s.size hi) (Nat.min_le_left _ _) hts hrs (hz.trans (minS _ _)),Result.andThen,Sem.run_pure,cutS]) nx (by intro c h;cases h) hw hn
end
def By (T b:Nat) (L:List UInt8):HP:=Pt b (.cells (byt L).toArray T (0,0))
def cpy (L:List UInt8) (off:Nat) (s:ByteArray) (dl:Nat):List UInt8:=L.take off++s.data.toList.take (min s.size dl)++L.drop (off+min s.size dl)
theorem Vt {L:List UInt8} {off dl:Nat} {s:ByteArray} (h:off+dl≤L.length):(cpy L off s dl).length=L.length:=by
 have:s.data.toList.length=s.size:=by simp
 simp only [cpy,List.length_append,List.length_take,List.length_drop];omega
section
variable {b:Nat}
theorem run_undA {m T:Nat} {w:World} {rs:TRow} (hts:lookT tab t=some rs) (hrs:rs.k = .arr m T):(underlying t).run prog w = .ok (.array m T) w:=by
 obtain ⟨d1,hd1,hk1⟩:=Zq.und hts
 rw [hrs] at hk1
 cases d1<;>simp [chkKind] at hk1
 obtain ⟨rfl,rfl⟩:=hk1
 simp [underlying,hd1,go_sem]
theorem run_sla {T m lo hi:Nat} {z1 z2:Int} {w:World} {rs tr:TRow} (hlo:lo<hi) (hhi:hi≤m) (hts:lookT tab t=some rs) (hrs:rs.k = .arr m T) (hT:lookT tab T=some tr) (hsz:tr.size=1) (hz1:z1=(lo:Int)) (hz2:z2=(hi:Int)) :
  (Instr.sliceAt t (.pointer (some ⟨b,0,none⟩)) (some (.int .i64 z1)) (some (.int .i64 z2)) none).run prog w = .ok (.slice (some ⟨b,lo,none⟩) (hi - lo) (m - lo)) w:=by
 subst hz1 hz2
 have hs1:=Zq.sizeOf hT w
 rw [hsz] at hs1
 have c1:(0:Int)≤(hi:Int)∧(hi:Int)≤(m:Int):=⟨by omega,by omega⟩
 have c2:(0:Int)≤(lo:Int)∧(lo:Int)≤(hi:Int):=⟨by omega,by omega⟩
 simp only [Instr.sliceAt,run_undA hts hrs,Instr.sureAddr,Instr.sliceBounds,Instr.sliceBound,asIntOf,Sem.run_bind,Sem.run_pure,Result.andThen,if_pos c1,if_pos c2,hs1,Int.toNat_natCast]
 rw [if_neg (by omega),Y9 (b:=b) (p:=0) rfl]
 simp
theorem run_sla0 {T m:Nat} {w:World} {rs tr:TRow} (hts:lookT tab t=some rs) (hrs:rs.k = .arr m T) (hT:lookT tab T=some tr) (hsz:tr.size=1) :
  (Instr.sliceAt t (.pointer (some ⟨b,0,none⟩)) none none none).run prog w = .ok (.slice (some ⟨b,0,none⟩) m m) w:=by
 have hs1:=Zq.sizeOf hT w
 rw [hsz] at hs1
 simp only [Instr.sliceAt,run_undA hts hrs,Instr.sureAddr,Instr.sliceBounds,Sem.run_bind,Sem.run_pure,Result.andThen,hs1]
 split
 ·simp
 ·rw [Y9 (b:=b) (p:=0) rfl];simp
theorem r_sla {T m:Nat} {z1 z2:Int} {y2:Operand} {rs tr:TRow} (lo hi:Nat) (hlo:lo<hi) (hhi:hi≤m) (nx:Wr n C ops k Q Tl Fs R L ((d,.slice (some ⟨b,lo,none⟩) (hi - lo) (m - lo))::E) F N)
  (ho:nth ops i=some ⟨some d,.slice t x (some y) (some y2) none,ty0,pos,aft,gd⟩:=by rfl) (hw:wantL ops E ⟨some d,.slice t x (some y) (some y2) none,ty0,pos,aft,gd⟩=some true:=by rfl) (hx:ev E x=some (.pointer (some ⟨b,0,none⟩)):=by rfl) (hy:ev E y=some (.int .i64 z1):=by rfl) (hy2:ev E y2=some (.int .i64 z2):=by rfl)
  (hts:lookT tab t=some rs:=by rfl) (hrs:rs.k = .arr m T:=by rfl) (hT:lookT tab T=some tr:=by rfl) (hsz:tr.size=1:=by rfl) (hz1:z1=(lo:Int):=by first|rfl|omega) (hz2:z2=(hi:Int):=by first|rfl|omega):Wr n C ops k Q Tl Fs R ((i,0)::L) E F N:=
 r_q (fun a w ha=>by
  simp only [execOp,Option.map_some,Option.map_none,ha.ev (x:=x) (by rw [ZQ];exact hx),ha.ev (x:=y) (by rw [ZQ];exact hy),ha.ev (x:=y2) (by rw [ZQ];exact hy2),Sem.run_bind,run_sla (b:=b) (w:=w) hlo hhi hts hrs hT hsz hz1 hz2,Result.andThen,Sem.run_pure]) nx ho hw
theorem r_sla0 {T m:Nat} {rs tr:TRow} (nx:Wr n C ops k Q Tl Fs R L ((d,.slice (some ⟨b,0,none⟩) m m)::E) F N)
  (ho:nth ops i=some ⟨some d,.slice t x none none none,ty0,pos,aft,gd⟩:=by rfl) (hw:wantL ops E ⟨some d,.slice t x none none none,ty0,pos,aft,gd⟩=some true:=by rfl) (hx:ev E x=some (.pointer (some ⟨b,0,none⟩)):=by rfl)
  (hts:lookT tab t=some rs:=by rfl) (hrs:rs.k = .arr m T:=by rfl) (hT:lookT tab T=some tr:=by rfl) (hsz:tr.size=1:=by rfl):Wr n C ops k Q Tl Fs R ((i,0)::L) E F N:=
 r_q (fun a w ha=>by
  simp only [execOp,Option.map_none,ha.ev (x:=x) (by rw [ZQ];exact hx),Sem.run_bind,run_sla0 (b:=b) (w:=w) hts hrs hT hsz,Result.andThen,Sem.run_pure]) nx ho hw
theorem l_sla0 {T m:Nat} {rs tr:TRow} (nx:Wl n C ops.toArray k Q l ((d,.slice (some ⟨b,0,none⟩) m m)::E) F R)
  (hw:wantL ops E ⟨some d,.slice t x none none none,ty0,pos,aft,gd⟩=some true:=by rfl) (hn:Nat.blt d n=true:=by rfl) (hx:ev E x=some (.pointer (some ⟨b,0,none⟩)):=by rfl)
  (hts:lookT tab t=some rs:=by rfl) (hrs:rs.k = .arr m T:=by rfl) (hT:lookT tab T=some tr:=by rfl) (hsz:tr.size=1:=by rfl):Wl n C ops.toArray k Q (⟨some d,.slice t x none none none,ty0,pos,aft,gd⟩::l) E F R:=
 l_q (fun a w ha=>by
  simp only [execOp,Option.map_none,ha.ev (x:=x) (by rw [ZQ];exact hx),Sem.run_bind,run_sla0 (b:=b) (w:=w) hts hrs hT hsz,Result.andThen,Sem.run_pure]) nx (by intro c h;cases h) hw hn
theorem run_send {s:ByteArray} {z:Int} {rs:TRow} {w:World} (lo:Nat) (hle:lo≤s.size) (hts:lookT tab t=some rs) (hrs:rs.k = .str) (hz:z=(lo:Int)):(Instr.sliceAt t (.string s) (some (.int .i64 z)) none none).run prog w = .ok (.string (s.extract lo s.size)) w:=by
 subst hz
 have hu:=Y2 (w:=w) hts hrs
 have hb:(Instr.sliceBound (.int .i64 (lo:Int)) s.size .sliceB).run prog w = .ok lo w:=by
  simp only [Instr.sliceBound,asIntOf,Sem.run_bind,Sem.run_pure,Result.andThen]
  rw [if_pos ⟨by omega,by omega⟩]
  simp
 simp [Instr.sliceAt,Instr.slice,Instr.sliceBounds,Sem.run_bind,hu,Result.andThen,hb]
theorem r_send {s:ByteArray} {z:Int} {rs:TRow} (lo:Nat) (hle:lo≤s.size) (nx:Wr n C ops k Q Tl Fs R L ((d,.string (s.extract lo s.size))::E) F N)
  (ho:nth ops i=some ⟨some d,.slice t x (some y) none none,ty0,pos,aft,gd⟩:=by rfl) (hw:wantL ops E ⟨some d,.slice t x (some y) none none,ty0,pos,aft,gd⟩=some true:=by rfl) (hx:ev E x=some (.string s):=by rfl) (hy:ev E y=some (.int .i64 z):=by rfl)
  (hts:lookT tab t=some rs:=by rfl) (hrs:rs.k = .str:=by rfl) (hz:z=(lo:Int):=by first|rfl|omega):Wr n C ops k Q Tl Fs R ((i,0)::L) E F N:=
 r_q (fun a w ha=>by
  simp only [execOp,Option.map_some,Option.map_none,ha.ev (x:=x) (by rw [ZQ];exact hx),ha.ev (x:=y) (by rw [ZQ];exact hy),Sem.run_bind,run_send (w:=w) lo hle hts hrs hz,Result.andThen,Sem.run_pure]) nx ho hw
theorem run_copyS {T T0 b off dl c:Nat} {Lb:List UInt8} {s:ByteArray} {ts tx:TypeId} {rs tr:TRow} {w:World} (hts:lookT tab ts=some rs) (hrs:rs.k = .slice T0) (hT:lookT tab T0=some tr) (hsz:tr.size=1)
  (hb:w.heap[b]? = some (.cells (byt Lb).toArray T (0,0))) (hle:off+dl≤Lb.length) :
  ∃w',(Builtin.copy_ #[ts,tx] ty0 #[.slice (some ⟨b,off,none⟩) dl c,.string s]).run prog w = .ok (.int .i64 ((min s.size dl:Nat):Int)) w'∧w'.heap[b]? = some (.cells (byt (cpy Lb off s dl)).toArray T (0,0))∧Same w w'∧∀e,e≠b→w'.heap[e]? = w.heap[e]?:=by
 have hs1:=Zq.sizeOf hT w
 rw [hsz] at hs1
 have hds:s.data.toList.length=s.size:=by simp
 have hcells:((s.extract 0 (min s.size dl)).data.map fun b=>Value.int .u8 b.toNat).toList=byt (s.data.toList.take (min s.size dl)):=by
  simp [byt]
 obtain ⟨w',g1,g2,g3,g4⟩:=Yf (P:=prog) (b:=b) (ty:=T) off (byt (s.data.toList.take (min s.size dl))) 0 w (byt Lb) hb (.inl rfl) (Vr _) (by simp only [X8,List.length_take];omega)
 refine ⟨w',?_,?_,g3,g4⟩
 ·have hn:Nat.min s.size dl=min s.size dl:=rfl
  simp only [Builtin.copy_,List.getElem?_toArray,List.getElem?_cons_zero,List.getElem?_cons_succ,Sem.run_bind,Xx hts hrs,Result.andThen,Builtin.lenOf,Sem.run_pure,hs1,Builtin.firstCells,hn]
  rw [hcells,g1]
  rfl
 ·rw [g2]
  congr 3
  have e1:(byt (s.data.toList.take (min s.size dl))).length=min s.size dl:=by simp only [X8,List.length_take];omega
  rw [Nat.add_zero,e1,cpy,XB,XB]
  simp [byt,List.map_take,List.map_drop]
theorem l_copyS {T T0 b off dl c:Nat} {Lb:List UInt8} {s:ByteArray} {ts tx:TypeId} {rs tr:TRow} (nx:Wl n C ops.toArray k Q l ((d,.int .i64 ((min s.size dl:Nat):Int))::E) F (By T b (cpy Lb off s dl)::R0)) (hle:off+dl≤Lb.length)
  (hw:wantL ops E ⟨some d,.call ⟨.builtin .copy,#[x,y],#[ts,tx]⟩,ty0,pos,aft,gd⟩=some true:=by rfl) (hn:Nat.blt d n=true:=by rfl) (hx:ev E x=some (.slice (some ⟨b,off,none⟩) dl c):=by rfl) (hy:ev E y=some (.string s):=by rfl)
  (hts:lookT tab ts=some rs:=by rfl) (hrs:rs.k = .slice T0:=by rfl) (hT:lookT tab T0=some tr:=by rfl) (hsz:tr.size=1:=by rfl) (hs:Sel (By T b Lb) R R0:=by (repeat (first|exact Sel.here|apply Sel.there));first|done|fail) :
  Wl n C ops.toArray k Q (⟨some d,.call ⟨.builtin .copy,#[x,y],#[ts,tx]⟩,ty0,pos,aft,gd⟩::l) E F R:=
 YB (fun t ht=>by cases ht;exact Nat.le_of_ble_eq_true hn) (fun c hc=>by cases hc) hw fun a w ha hsat=>by
  obtain ⟨w',g1,g2,g3,g4⟩:=run_copyS (ty0:=ty0) (tx:=tx) (c:=c) (s:=s) hts hrs hT hsz (hsat.pt hs) hle
  have hse:Sat C.G C.w0 C.hp0 F (By T b (cpy Lb off s dl)::R0) w':=(show Sat C.G C.w0 C.hp0 F (Pt b (.cells (byt Lb).toArray T (0,0))::R0) w from hsat.sel hs).write g3 g2 fun e he _=>g4 e he
  unfold OpRes
  have e1:=ha.ev (x:=x) (by rw [ZQ];exact hx)
  have e2:=ha.ev (x:=y) (by rw [ZQ];exact hy)
  simp only [execOp,resolve,Sem.run_bind,Sem.run_pure,Result.andThen,invoke,builtin,List.map_toArray,List.map_cons,List.map_nil,e1,e2,g1]
  exact fun a' ha'=>nx a' w' ha' hse
theorem r_copyS {T T0 b off dl c:Nat} {Lb:List UInt8} {s:ByteArray} {ts tx:TypeId} {rs tr:TRow} (nx:Wr n C ops k Q Tl Fs R L ((d,.int .i64 ((min s.size dl:Nat):Int))::E) F (By T b (cpy Lb off s dl)::N')) (hle:off+dl≤Lb.length)
  (ho:nth ops i=some ⟨some d,.call ⟨.builtin .copy,#[x,y],#[ts,tx]⟩,ty0,pos,aft,gd⟩:=by rfl) (hw:wantL ops E ⟨some d,.call ⟨.builtin .copy,#[x,y],#[ts,tx]⟩,ty0,pos,aft,gd⟩=some true:=by rfl) (hx:ev E x=some (.slice (some ⟨b,off,none⟩) dl c):=by rfl) (hy:ev E y=some (.string s):=by rfl)
  (hts:lookT tab ts=some rs:=by rfl) (hrs:rs.k = .slice T0:=by rfl) (hT:lookT tab T0=some tr:=by rfl) (hsz:tr.size=1:=by rfl) (hs:Sel (By T b Lb) N N':=by (repeat (first|exact Sel.here|apply Sel.there));first|done|fail) :
  Wr n C ops k Q Tl Fs R ((i,4)::L) E F N:=
 Ye ho fun hp hr w st hz sb=>by
  simp only [Zt hw]
  refine ⟨⟨Unit,fun _=>.int .i64 ((min s.size dl:Nat):Int),fun _=>True,fun _=>F,fun _=>By T b (cpy Lb off s dl)::N'⟩,fun a G w hp' ha hsub hsat=>?_,fun _ _=>nx hp hr w st hz sb⟩
  obtain ⟨w',g1,g2,g3,g4⟩:=run_copyS (ty0:=ty0) (tx:=tx) (c:=c) (s:=s) hts hrs hT hsz (hsat.pt hs) hle
  unfold OpRes
  have e1:=ha.ev (x:=x) (by rw [ZQ];exact hx)
  have e2:=ha.ev (x:=y) (by rw [ZQ];exact hy)
  simp only [execOp,resolve,Sem.run_bind,Sem.run_pure,Result.andThen,invoke,builtin,List.map_toArray,List.map_cons,List.map_nil,e1,e2,g1]
  exact ⟨(),trivial,trivial,(show Sat G w hp' F (Pt b (.cells (byt Lb).toArray T (0,0))::N') w from hsat.sel hs).write g3 g2 fun e he _=>g4 e he⟩
theorem run_b2sB {T b m c:Nat} {Lb:List UInt8} {w:World} (hb:w.heap[b]? = some (.cells (byt Lb).toArray T (0,0))) (hm:m=Lb.length) :
  (Conv.bytesToString (.slice (some ⟨b,0,none⟩) m c)).run prog w = .ok (.string ⟨Lb.toArray⟩) w:=by
 subst hm
 rw [run_bytesToString (ns:=Lb.map fun b=>(b.toNat:Int))]
 ·rw [UR];simp
 ·unfold loadCells
  rw [YL hb 0 Lb.length 0 #[] (by simp [byt])]
  simp [byt]
  rw [List.take_of_length_le (by simp)]
  rfl
theorem r_b2sB {T T1 b m c:Nat} {Lb:List UInt8} {td:TypeId} {rs tr rd:TRow} (nx:Wr n C ops k Q Tl Fs R L ((d,.string ⟨Lb.toArray⟩)::E) F N) (hm:m=Lb.length)
  (ho:nth ops i=some ⟨some d,.convert t td x,ty0,pos,aft,gd⟩:=by rfl) (hw:wantL ops E ⟨some d,.convert t td x,ty0,pos,aft,gd⟩=some true:=by rfl) (hx:ev E x=some (.slice (some ⟨b,0,none⟩) m c):=by rfl)
  (hs:Sel (By T b Lb) R R0:=by (repeat (first|exact Sel.here|apply Sel.there));first|done|fail) (hts:lookT tab t=some rs:=by rfl) (hrs:rs.k = .slice T1:=by rfl) (hT:lookT tab T1=some tr:=by rfl) (hTk:tr.k = .int .u8:=by rfl) (htd:lookT tab td=some rd:=by rfl) (hrd:rd.k = .str:=by rfl) :
  Wr n C ops k Q Tl Fs R ((i,0)::L) E F N:=
 Ye ho fun hp hr w st hz sb=>by
  simp only [Zt hw]
  refine ⟨.string ⟨Lb.toArray⟩,fun a w ha hin=>?_,nx hp hr w st hz sb⟩
  have hr1:=run_b2sB (c:=c) (hin _ _ (sb _ _ (stat_pt st (show Sel (Pt b (.cells (byt Lb).toArray T (0,0))) R R0 from hs)))) hm
  simp only [execOp,ha.ev (x:=x) (by rw [ZQ];exact hx),convert,Xx hts hrs,Y2 htd hrd,V0 hT hTk,Sem.run_bind,Result.andThen,Sem.run_pure,hr1]
theorem l_b2sB {T T1 b m c:Nat} {Lb:List UInt8} {td:TypeId} {rs tr rd:TRow} (nx:Wl n C ops.toArray k Q l ((d,.string ⟨Lb.toArray⟩)::E) F R) (hm:m=Lb.length)
  (hw:wantL ops E ⟨some d,.convert t td x,ty0,pos,aft,gd⟩=some true:=by rfl) (hn:Nat.blt d n=true:=by rfl) (hx:ev E x=some (.slice (some ⟨b,0,none⟩) m c):=by rfl)
  (hs:Sel (By T b Lb) R R0:=by (repeat (first|exact Sel.here|apply Sel.there));first|done|fail) (hts:lookT tab t=some rs:=by rfl) (hrs:rs.k = .slice T1:=by rfl) (hT:lookT tab T1=some tr:=by rfl) (hTk:tr.k = .int .u8:=by rfl) (htd:lookT tab td=some rd:=by rfl) (hrd:rd.k = .str:=by rfl) :
  Wl n C ops.toArray k Q (⟨some d,.convert t td x,ty0,pos,aft,gd⟩::l) E F R:=
 YB (fun t ht=>by cases ht;exact Nat.le_of_ble_eq_true hn) (fun c hc=>by cases hc) hw fun a w ha hsat=>by
  have hr1:=run_b2sB (c:=c) (hsat.pt (show Sel (Pt b (.cells (byt Lb).toArray T (0,0))) R R0 from hs)) hm
  unfold OpRes
  simp only [execOp,ha.ev (x:=x) (by rw [ZQ];exact hx),convert,Xx hts hrs,Y2 htd hrd,V0 hT hTk,Sem.run_bind,Result.andThen,Sem.run_pure,hr1]
  exact fun a' ha'=>nx a' w ha' hsat
theorem UN {β:Type}:∀(l:List Value) (o m:Nat) (k:List Value→Option β),o+m≤l.length→cutF l o m k=k ((l.drop o).take m)
 | l,o,0,k,_=>by cases l<;>cases o<;>simp [cutF]
 | [],o,m+1,k,h=>by simp at h
 | a::l,0,m+1,k,h=>by
  rw [cutF,UN l 0 m _ (by simp at h ⊢;omega)]
  simp
 | a::l,o+1,m+1,k,h=>by
  rw [cutF,UN l o (m+1) k (by simp at h ⊢;omega)]
  simp
def arv (Lb:List UInt8):Value:=.agg (byt Lb).toArray
theorem ldv_arr {m T1:Nat} {Lb:List UInt8} {rs:TRow} (hts:lookT tab t=some rs) (hrs:rs.k = .arr m T1) (hsz:rs.size=Lb.length):ldv t (byt Lb) 0=some (arv Lb):=by
 obtain ⟨kk,sz,by1,z⟩:=rs
 dsimp only at hrs hsz
 subst hrs hsz
 unfold ldv
 rw [hts]
 dsimp only
 rw [UN _ _ _ _ (by simp [byt])]
 have:((byt Lb).drop 0).take Lb.length=byt Lb:=by rw [List.drop_zero,←X8 Lb,List.take_length]
 rw [this];rfl
theorem l_ldB {T b m T1:Nat} {Lb:List UInt8} {rs:TRow} (nx:Wl n C ops.toArray k Q l ((d,arv Lb)::E) F R) (hm:m=Lb.length)
  (hw:wantL ops E ⟨some d,.load t x,ty0,pos,aft,gd⟩=some true:=by rfl) (hn:Nat.blt d n=true:=by rfl) (hx:ev E x=some (.pointer (some ⟨b,0,none⟩)):=by rfl)
  (hs:Sel (By T b Lb) R R0:=by (repeat (first|exact Sel.here|apply Sel.there));first|done|fail) (hts:lookT tab t=some rs:=by rfl) (hrs:rs.k = .arr m T1:=by rfl) (hsz:rs.size=m:=by rfl) :
  Wl n C ops.toArray k Q (⟨some d,.load t x,ty0,pos,aft,gd⟩::l) E F R:=
 ZS (cs:=(byt Lb).toArray) (ty:=T) (fzn:=(0,0)) nx hw hn hx (show Sel (Pt b (.cells (byt Lb).toArray T (0,0))) R R0 from hs) (by rw [List.toList_toArray];exact ldv_arr hts hrs (hsz.trans hm))
theorem l_stB {T b m:Nat} {L0 Lb:List UInt8} {rs:TRow} (nx:Wl n C ops.toArray k Q l E F (By T b Lb::R0)) (hm:m=Lb.length) (hm0:L0.length=Lb.length)
  (hw:wantL ops E ⟨none,.store t x y,ty0,pos,aft,gd⟩=some true:=by rfl) (hx:ev E x=some (.pointer (some ⟨b,0,none⟩)):=by rfl) (hy:ev E y=some (arv Lb):=by rfl)
  (hs:Sel (By T b L0) R R0:=by (repeat (first|exact Sel.here|apply Sel.there));first|done|fail) (hts:lookT tab t=some rs:=by rfl) (hsz:rs.size=m:=by rfl) :
  Wl n C ops.toArray k Q (⟨none,.store t x y,ty0,pos,aft,gd⟩::l) E F R:=
 ZV (cs:=(byt L0).toArray) (ty:=T) (cs':=byt Lb) nx hw hx hy (show Sel (Pt b (.cells (byt L0).toArray T (0,0))) R R0 from hs) (by
  unfold stv
  rw [hts,List.toList_toArray]
  show (bif Nat.beq (byt Lb).toArray.toList.length rs.size && (byt Lb).toArray.toList.all one1 then putF (byt L0) 0 (byt Lb).toArray.toList some else none)=_
  rw [List.toList_toArray,Vr,X8,hsz,hm,Nat.beq_refl]
  show putF (byt L0) 0 (byt Lb) some=_
  rw [VM _ _ _ _ (by simp only [X8];omega)]
  simp [byt,List.drop_eq_nil_of_le,hm0])
theorem l_by {T b:Nat} {cs:Array Value} {Lb:List UInt8} (h:cs=(byt Lb).toArray) (nx:Wl n C ops.toArray k Q l E F (By T b Lb::R0)) (hs:Sel (Pt b (.cells cs T (0,0))) R R0:=by (repeat (first|exact Sel.here|apply Sel.there));first|done|fail):Wl n C ops.toArray k Q l E F R:=by
 subst h;exact fun a w ha hsat=>nx a w ha (hsat.sel hs)
theorem k_by {T b:Nat} {cs:Array Value} {Lb:List UInt8} (h:cs=(byt Lb).toArray) (nx:Wk n C k Q E F (By T b Lb::R0)) (hs:Sel (Pt b (.cells cs T (0,0))) R R0:=by (repeat (first|exact Sel.here|apply Sel.there));first|done|fail):Wk n C k Q E F R:=by
 subst h;exact fun a w ha hsat=>nx a w ha (hsat.sel hs)
end
structure Bi where
 mkr:ByteArray
 nu:Int
 deriving DecidableEq
def Bi.v (b:Bi):Value:=.agg #[.string b.mkr,.int .i64 b.nu]
def Bi.z:Bi:=⟨⟨#[]⟩,0⟩
def bchk (b:Bi):Int:=if lvalid b.mkr.data.toList=false then 12 else if 0≤b.nu∧b.nu≤1073741824 then 0 else 2
def nnm (b:Bi):Nm:=⟨7,b.mkr,b.nu,0,⟨#[]⟩⟩
def bnm (b:Bi) (i:Int):Nm:=⟨8,b.mkr,b.nu,i,⟨#[]⟩⟩
theorem WA (b:Bi) (hb:b.mkr.size≤1099511627776):Enters 53∧Spec prog 53 #[b.v] [] [] (RetV (.int .i64 (bchk b))):=by
 have n1:=YW b.mkr hb
 have n2:=Xl b.nu 1073741824
 generalize hr:bchk b=r
 unfold bchk at hr
 cases hv:lvalid b.mkr.data.toList
 all_goals rw [hv] at n1 hr
 all_goals simp only [Bool.true_eq_false,if_true,if_false] at hr
 all_goals refine ZM [_] func53 ntmps53 fun G w hp=>?_
 all_goals repeat' (first|refine ZE ?_|refine ZD ?_|refine ZF ?_|refine ZS ?_|refine ZR (fun b=>?_)|refine ZH ?_|refine ZB ?_|refine ZC (n1) (fun _ _=>?_)|refine ZC (n2) (fun _ _=>?_)|(refine ZG (fun hc=>?_) (fun hc=>?_)<;>(try simp at hc)<;>(try omega))|fail)
 all_goals first
  | (subst hr;exact ZK () rfl trivial)
  | (rw [if_pos (by simp_all)] at hr;subst hr;exact ZK () rfl trivial)
  | (rw [if_neg (by simp_all;omega)] at hr;subst hr;exact ZK () rfl trivial)
theorem ofBirth_ok (k:Int) (b:Bi):Enters 116∧Spec prog 116 #[.int .i64 k,b.v] [] [] (RetV (Nm.v ⟨k,b.mkr,b.nu,0,⟨#[]⟩⟩)):=by
 refine ZM [_,_] func116 ntmps116 fun G w hp=>?_
 repeat' (first|refine ZE ?_|refine ZD ?_|refine ZL ?_|refine ZF ?_|refine ZS ?_|refine ZO ?_|refine ZV ?_|refine ZR (fun b=>?_)|refine ZX (fun b=>?_)|refine ZH ?_|refine ZB ?_|refine ZW ?_|(refine ZJ (fun hc=>?_) (fun hc=>?_)<;>(try simp at hc))|(refine ZG (fun hc=>?_) (fun hc=>?_)<;>(try simp at hc)))
 exact ZK () rfl trivial
theorem YF (b:Bi):Enters 55∧Spec prog 55 #[b.v] [] [] (RetV (nnm b).v):=by
 have n1:=ofBirth_ok 7 b
 refine ZM [_] func55 ntmps55 fun G w hp=>?_
 repeat' (first|refine ZE ?_|refine ZD ?_|refine ZL ?_|refine ZF ?_|refine ZS ?_|refine ZO ?_|refine ZV ?_|refine ZR (fun b=>?_)|refine ZX (fun b=>?_)|refine ZH ?_|refine ZB ?_|refine ZW ?_|refine ZC (n1) (fun _ _=>?_)|refine l_call0 (n1) (fun _ _=>?_)|(refine ZJ (fun hc=>?_) (fun hc=>?_)<;>(try simp at hc))|(refine ZG (fun hc=>?_) (fun hc=>?_)<;>(try simp at hc)))
 exact ZK () rfl trivial
theorem YM (b:Bi) (i:Int):Enters 73∧Spec prog 73 #[b.v,.int .i64 i] [] [] (RetV (bnm b i).v):=by
 have n1:=ofBirth_ok 8 b
 refine ZM [_,_] func73 ntmps73 fun G w hp=>?_
 repeat' (first|refine ZE ?_|refine ZD ?_|refine ZL ?_|refine ZF ?_|refine ZS ?_|refine ZO ?_|refine ZV ?_|refine ZR (fun b=>?_)|refine ZX (fun b=>?_)|refine ZH ?_|refine ZB ?_|refine ZW ?_|refine ZC (n1) (fun _ _=>?_)|refine l_call0 (n1) (fun _ _=>?_)|(refine ZJ (fun hc=>?_) (fun hc=>?_)<;>(try simp at hc))|(refine ZG (fun hc=>?_) (fun hc=>?_)<;>(try simp at hc)))
 exact ZK () rfl trivial
def iget (es:Al) (cs:List Ch) (b:Bi):Ino×Int:=
 if bchk b≠0 then (Ino.z,bchk b) else if (vget es cs (nnm b)).2 then ((idec (vget es cs (nnm b)).1).getD Ino.z,if (idec (vget es cs (nnm b)).1).isSome then 0 else 3) else (Ino.z,8)
def igetR (es:Al) (rs:List (Nm×Ch)) (cs:List Ch) (b:Bi):List (Nm×Ch):=if bchk b≠0 then rs else vread es rs cs (nnm b)
set_option maxHeartbeats 1000000 in
theorem UJ (b:Nat) (ps:Option Addr) (es:Al) (rs:List (Nm×Ch)) (cs:List Ch) (bi:Bi) (hw:bi.mkr.size≤1099511627770) (hv:(vget es cs (nnm bi)).1.size≤1099511627776) :
  Enters 17∧Spec prog 17 #[.pointer (some ⟨b,0,none⟩),bi.v] [St ps es,Usg] [Vw b ps rs cs] ⟨Unit,fun _=>.tuple #[(iget es cs bi).1.v,.int .i64 (iget es cs bi).2],fun _=>True,fun _=>[],fun _=>[Vw b ps (igetR es rs cs bi) cs]⟩:=by
 have n1:=WA bi (by omega)
 have n2:=YF bi
 have n3:=vwGet_ok b ps es rs cs (nnm bi) hw (Nat.zero_le _)
 have n4:=inoDecode_ok (vget es cs (nnm bi)).1 hv
 by_cases h0:bchk bi=0
 ·have eR:igetR es rs cs bi=vread es rs cs (nnm bi):=by rw [igetR,if_neg (by simp [h0])]
  rw [h0] at n1
  rw [eR]
  cases hp:(vget es cs (nnm bi)).2 with
  | false=>
   have eG:iget es cs bi=(Ino.z,8):=by rw [iget,if_neg (by simp [h0]),hp];rfl
   rw [hp] at n3
   rw [eG]
   refine ZM [_,_] func17 ntmps17 fun G w hp=>?_
   repeat' (first|refine ZE ?_|refine ZD ?_|refine ZL ?_|refine ZF ?_|refine ZS ?_|refine ZO ?_|refine ZV ?_|refine ZR (fun b=>?_)|refine ZX (fun b=>?_)|refine ZH ?_|refine ZB ?_|refine ZW ?_|refine ZC (n1) (fun _ _=>?_)|refine l_call0 (n1) (fun _ _=>?_)|refine ZC (n2) (fun _ _=>?_)|refine l_call0 (n2) (fun _ _=>?_)|refine ZC (n3) (fun _ _=>?_)|refine l_call0 (n3) (fun _ _=>?_)|(refine ZJ (fun hc=>?_) (fun hc=>?_)<;>(try simp at hc)<;>(try omega))|(refine ZG (fun hc=>?_) (fun hc=>?_)<;>(try simp at hc)<;>(try omega)))
   exact ZK () rfl trivial
  | true=>
   have eG:iget es cs bi=((idec (vget es cs (nnm bi)).1).getD Ino.z,if (idec (vget es cs (nnm bi)).1).isSome then 0 else 3):=by rw [iget,if_neg (by simp [h0]),hp];rfl
   rw [hp] at n3
   rw [eG]
   refine ZM [_,_] func17 ntmps17 fun G w hp=>?_
   repeat' (first|refine ZE ?_|refine ZD ?_|refine ZL ?_|refine ZF ?_|refine ZS ?_|refine ZO ?_|refine ZV ?_|refine ZR (fun b=>?_)|refine ZX (fun b=>?_)|refine ZH ?_|refine ZB ?_|refine ZW ?_|refine ZC (n1) (fun _ _=>?_)|refine l_call0 (n1) (fun _ _=>?_)|refine ZC (n2) (fun _ _=>?_)|refine l_call0 (n2) (fun _ _=>?_)|refine ZC (n3) (fun _ _=>?_)|refine l_call0 (n3) (fun _ _=>?_)|refine ZC (n4) (fun _ _=>?_)|refine l_call0 (n4) (fun _ _=>?_)|(refine ZJ (fun hc=>?_) (fun hc=>?_)<;>(try simp at hc)<;>(try omega))|(refine ZG (fun hc=>?_) (fun hc=>?_)<;>(try simp at hc)<;>(try omega)))
   exact ZK () rfl trivial
 ·have eR:igetR es rs cs bi=rs:=by rw [igetR,if_pos h0]
  have eG:iget es cs bi=(Ino.z,bchk bi):=by rw [iget,if_pos h0]
  rw [eR,eG]
  generalize bchk bi=e at *
  refine ZM [_,_] func17 ntmps17 fun G w hp=>?_
  repeat' (first|refine ZE ?_|refine ZD ?_|refine ZL ?_|refine ZF ?_|refine ZS ?_|refine ZO ?_|refine ZV ?_|refine ZR (fun b=>?_)|refine ZX (fun b=>?_)|refine ZH ?_|refine ZB ?_|refine ZW ?_|refine ZC (n1) (fun _ _=>?_)|refine l_call0 (n1) (fun _ _=>?_)|(refine ZJ (fun hc=>?_) (fun hc=>?_)<;>(try simp at hc)<;>(try omega))|(refine ZG (fun hc=>?_) (fun hc=>?_)<;>(try simp at hc)<;>(try omega)))
  exact ZK () rfl trivial
def ifile (es:Al) (cs:List Ch) (b:Bi):Ino×Int:=
 if (iget es cs b).2≠0 then (Ino.z,(iget es cs b).2) else if (iget es cs b).1.kd=2 then (Ino.z,15) else if (iget es cs b).1.kd=3 then (Ino.z,11) else ((iget es cs b).1,0)
set_option maxHeartbeats 1000000 in
theorem XN (b:Nat) (ps:Option Addr) (es:Al) (rs:List (Nm×Ch)) (cs:List Ch) (bi:Bi) (hw:bi.mkr.size≤1099511627770) (hv:(vget es cs (nnm bi)).1.size≤1099511627776) :
  Enters 105∧Spec prog 105 #[.pointer (some ⟨b,0,none⟩),bi.v] [St ps es,Usg] [Vw b ps rs cs] ⟨Unit,fun _=>.tuple #[(ifile es cs bi).1.v,.int .i64 (ifile es cs bi).2],fun _=>True,fun _=>[],fun _=>[Vw b ps (igetR es rs cs bi) cs]⟩:=by
 have n1:=UJ b ps es rs cs bi hw hv
 unfold ifile
 generalize iget es cs bi=g at *
 obtain ⟨nd,e⟩:=g
 dsimp only at n1 ⊢
 by_cases h0:e=0
 ·subst h0
  rw [if_neg (by simp)]
  by_cases h2:nd.kd=2
  ·rw [if_pos h2]
   refine ZM [_,_] func105 ntmps105 fun G w hp=>?_
   repeat' (first|refine ZE ?_|refine ZD ?_|refine ZL ?_|refine ZF ?_|refine ZS ?_|refine ZO ?_|refine ZV ?_|refine ZR (fun b=>?_)|refine ZX (fun b=>?_)|refine ZH ?_|refine ZB ?_|refine ZW ?_|refine ZC (n1) (fun _ _=>?_)|refine l_call0 (n1) (fun _ _=>?_)|(refine ZJ (fun hc=>?_) (fun hc=>?_)<;>(try simp at hc)<;>(try omega))|(refine ZG (fun hc=>?_) (fun hc=>?_)<;>(try simp at hc)<;>(try omega)))
   exact ZK () rfl trivial
  ·rw [if_neg h2]
   by_cases h3:nd.kd=3
   ·rw [if_pos h3]
    refine ZM [_,_] func105 ntmps105 fun G w hp=>?_
    repeat' (first|refine ZE ?_|refine ZD ?_|refine ZL ?_|refine ZF ?_|refine ZS ?_|refine ZO ?_|refine ZV ?_|refine ZR (fun b=>?_)|refine ZX (fun b=>?_)|refine ZH ?_|refine ZB ?_|refine ZW ?_|refine ZC (n1) (fun _ _=>?_)|refine l_call0 (n1) (fun _ _=>?_)|(refine ZJ (fun hc=>?_) (fun hc=>?_)<;>(try simp at hc)<;>(try omega))|(refine ZG (fun hc=>?_) (fun hc=>?_)<;>(try simp at hc)<;>(try omega)))
    exact ZK () rfl trivial
   ·rw [if_neg h3]
    refine ZM [_,_] func105 ntmps105 fun G w hp=>?_
    repeat' (first|refine ZE ?_|refine ZD ?_|refine ZL ?_|refine ZF ?_|refine ZS ?_|refine ZO ?_|refine ZV ?_|refine ZR (fun b=>?_)|refine ZX (fun b=>?_)|refine ZH ?_|refine ZB ?_|refine ZW ?_|refine ZC (n1) (fun _ _=>?_)|refine l_call0 (n1) (fun _ _=>?_)|(refine ZJ (fun hc=>?_) (fun hc=>?_)<;>(try simp at hc)<;>(try omega))|(refine ZG (fun hc=>?_) (fun hc=>?_)<;>(try simp at hc)<;>(try omega)))
    exact ZK () rfl trivial
 ·rw [if_pos h0]
  refine ZM [_,_] func105 ntmps105 fun G w hp=>?_
  repeat' (first|refine ZE ?_|refine ZD ?_|refine ZL ?_|refine ZF ?_|refine ZS ?_|refine ZO ?_|refine ZV ?_|refine ZR (fun b=>?_)|refine ZX (fun b=>?_)|refine ZH ?_|refine ZB ?_|refine ZW ?_|refine ZC (n1) (fun _ _=>?_)|refine l_call0 (n1) (fun _ _=>?_)|(refine ZJ (fun hc=>?_) (fun hc=>?_)<;>(try simp at hc)<;>(try omega))|(refine ZG (fun hc=>?_) (fun hc=>?_)<;>(try simp at hc)<;>(try omega)))
  exact ZK () rfl trivial
theorem UK (b:Nat) (ps:Option Addr) (rs:List (Nm×Ch)) (cs:List Ch) (bi:Bi) (nd:Ino) (h:ichk nd=0) (hw:bi.mkr.size≤1099511627776) (hl:cs.length≤1000000) :
  Enters 104∧Spec prog 104 #[.pointer (some ⟨b,0,none⟩),bi.v,nd.v] [Usg] [Vw b ps rs cs] ⟨Unit,fun _=>.int .i64 (vset cs (nnm bi) (iencS nd)).1,fun _=>True,fun _=>[],fun _=>[Vw b ps rs (vset cs (nnm bi) (iencS nd)).2]⟩:=by
 have n1:=inoEncode_ok nd h
 have n2:=YF bi
 have n3:=Wu b ps rs cs (nnm bi) (iencS nd) hw (Nat.zero_le _) hl
 refine ZM [_,_,_] func104 ntmps104 fun G w hp=>?_
 repeat' (first|refine ZE ?_|refine ZD ?_|refine ZL ?_|refine ZF ?_|refine ZS ?_|refine ZO ?_|refine ZV ?_|refine ZR (fun b=>?_)|refine ZX (fun b=>?_)|refine ZH ?_|refine ZB ?_|refine ZW ?_|refine ZC (n1) (fun _ _=>?_)|refine l_call0 (n1) (fun _ _=>?_)|refine ZC (n2) (fun _ _=>?_)|refine l_call0 (n2) (fun _ _=>?_)|refine ZC (n3) (fun _ _=>?_)|refine l_call0 (n3) (fun _ _=>?_)|(refine ZJ (fun hc=>?_) (fun hc=>?_)<;>(try simp at hc)<;>(try omega))|(refine ZG (fun hc=>?_) (fun hc=>?_)<;>(try simp at hc)<;>(try omega)))
 exact ZK () rfl trivial
theorem VS (b:Nat) (ps:Option Addr) (rs:List (Nm×Ch)) (cs:List Ch) (bi:Bi) (nd:Ino) (z:Int) (h:ichk {nd with sz:=z}=0) (hw:bi.mkr.size≤1099511627776) (hl:cs.length≤1000000) :
  Enters 110∧Spec prog 110 #[.pointer (some ⟨b,0,none⟩),bi.v,nd.v,.int .i64 z] [Usg] [Vw b ps rs cs] ⟨Unit,fun _=>.int .i64 (vset cs (nnm bi) (iencS {nd with sz:=z})).1,fun _=>True,fun _=>[],fun _=>[Vw b ps rs (vset cs (nnm bi) (iencS {nd with sz:=z})).2]⟩:=by
 have n3:=UK b ps rs cs bi {nd with sz:=z} h hw hl
 refine ZM [_,_,_,_] func110 ntmps110 fun G w hp=>?_
 repeat' (first|refine ZE ?_|refine ZD ?_|refine ZL ?_|refine ZF ?_|refine ZS ?_|refine ZO ?_|refine ZV ?_|refine ZR (fun b=>?_)|refine ZX (fun b=>?_)|refine ZH ?_|refine ZB ?_|refine ZW ?_|refine ZC (n3) (fun _ _=>?_)|refine l_call0 (n3) (fun _ _=>?_)|(refine ZJ (fun hc=>?_) (fun hc=>?_)<;>(try simp at hc)<;>(try omega))|(refine ZG (fun hc=>?_) (fun hc=>?_)<;>(try simp at hc)<;>(try omega)))
 exact ZK () rfl trivial
def Yg (s:ByteArray):List UInt8:=cpy (List.replicate 64 0) 0 s 64
theorem Ya (s:ByteArray):(Yg s).length=64:=by rw [Yg,Vt (by simp)];simp
set_option maxHeartbeats 1000000 in
theorem block_ok (b:Nat) (ps:Option Addr) (es:Al) (rs:List (Nm×Ch)) (cs:List Ch) (bi:Bi) (i:Int) (hw:bi.mkr.size≤1099511627770) :
  Enters 108∧Spec prog 108 #[.pointer (some ⟨b,0,none⟩),bi.v,.int .i64 i] [St ps es,Usg] [Vw b ps rs cs] ⟨Unit,fun _=>.tuple #[arv (Yg (vget es cs (bnm bi i)).1),.bool (vget es cs (bnm bi i)).2],fun _=>True,fun _=>[],fun _=>[Vw b ps (vread es rs cs (bnm bi i)) cs]⟩:=by
 have n2:=YM bi i
 have n3:=vwGet_ok b ps es rs cs (bnm bi i) hw (Nat.zero_le _)
 generalize b=bv at *
 refine ZM [_,_,_] func108 ntmps108 fun G w hp=>?_
 repeat' (first|refine ZE ?_|refine ZD ?_|refine ZL ?_|refine ZF ?_|refine ZS ?_|refine ZO ?_|refine ZV ?_|refine ZR (fun b=>?_)|refine ZX (fun b=>?_)|refine ZH ?_|refine ZB ?_|refine ZW ?_|refine ZC (n2) (fun _ _=>?_)|refine l_call0 (n2) (fun _ _=>?_)|refine ZC (n3) (fun _ _=>?_)|refine l_call0 (n3) (fun _ _=>?_)|refine l_sla0 ?_|(refine ZJ (fun hc=>?_) (fun hc=>?_)<;>(try simp at hc)<;>(try omega))|(refine ZG (fun hc=>?_) (fun hc=>?_)<;>(try simp at hc)<;>(try omega)))
 rename_i b6 _ _ _ _
 refine l_by (T:=215) (b:=b) (Lb:=List.replicate 64 0) rfl ?_
 refine l_by (T:=215) (b:=b6) (Lb:=List.replicate 64 0) rfl ?_
 refine l_copyS (T:=215) (off:=0) (dl:=64) (Lb:=List.replicate 64 0) ?_ (by simp)
 have hp:=Ya (vget es cs (bnm bi i)).1
 unfold Yg at hp ⊢
 generalize cpy (List.replicate 64 0) 0 (vget es cs (bnm bi i)).1 64=P at *
 repeat' (first|refine ZE ?_|refine ZD ?_|refine ZL ?_|refine ZF ?_|refine ZS ?_|refine ZO ?_|refine ZV ?_|refine ZR (fun b=>?_)|refine ZX (fun b=>?_)|refine ZH ?_|refine ZB ?_|refine ZW ?_|refine l_ldB (Lb:=P) ?_ hp.symm|refine l_stB (L0:=List.replicate 64 0) (Lb:=P) ?_ hp.symm (by simp [hp])|(refine ZJ (fun hc=>?_) (fun hc=>?_)<;>(try simp at hc))|(refine ZG (fun hc=>?_) (fun hc=>?_)<;>(try simp at hc)))
 exact ZK () (vs:=[arv P,.bool (vget es cs (bnm bi i)).2]) rfl trivial (hr:=.cell rfl (show Sel (Pt b6 (.cells (byt P).toArray 215 (0,0))) _ _ from .here) (by rw [List.toList_toArray];exact ldv_arr rfl rfl hp.symm) (.tmp rfl .nil))
def cvs (c:Ct):ByteArray:=⟨(cenc c).toArray⟩
theorem W2 {c:Ct} (h:CtOK c):(cvs c).size≤30:=by
 have:=cenc_len h
 show (cenc c).toArray.size≤_
 rw [List.size_toArray];exact this
theorem Wb {who:ByteArray} (h:lvalid who.data.toList=true):nchk (cnm who)=0:=by
 have h2:isE ⟨#[]⟩=true:=by simp [isE]
 rw [nchk,if_pos (by simp [cnm])]
 show uchk ⟨_,true,false,false,false,0⟩ (cnm who)=0
 have h1:lvalid (cnm who).owner.data.toList=true:=h
 simp [uchk,h,h2,cnm]
theorem Zx {b:Bi} (h:bchk b=0):nchk (nnm b)=0:=by
 unfold bchk at h
 split at h
 ·cases h
 ·rename_i hv
  split at h
  ·rename_i hn
   have hv:lvalid b.mkr.data.toList=true:=by simpa using hv
   have h2:isE ⟨#[]⟩=true:=by simp [isE]
   rw [nchk,if_pos (by simp [nnm])]
   show uchk ⟨_,true,true,false,false,0⟩ (nnm b)=0
   simp [uchk,nnm,hv,h2,within,hn]
  ·cases h
theorem YJ {b:Bi} {i:Int} (h:bchk b=0) (hi:0≤i∧i≤63):nchk (bnm b i)=0:=by
 unfold bchk at h
 split at h
 ·cases h
 ·rename_i hv
  split at h
  ·rename_i hn
   have hv:lvalid b.mkr.data.toList=true:=by simpa using hv
   have h2:isE ⟨#[]⟩=true:=by simp [isE]
   rw [nchk,if_pos (by simp [bnm])]
   show uchk ⟨_,true,true,true,false,63⟩ (bnm b i)=0
   simp [uchk,bnm,hv,h2,within,hn,hi]
  ·cases h
theorem enc_cdec {c:Ct} (h:CtOK c):cdec (cvs c)=some c:=by
 obtain ⟨h1,h2,h3,h4,h5,h6⟩:=h
 have e1:((c.b.toNat:Nat):Int)=c.b:=by omega
 have e2:((c.o.toNat:Nat):Int)=c.o:=by omega
 have e3:((c.c.toNat:Nat):Int)=c.c:=by omega
 unfold cdec cread cvs
 have r1:=Yu c.b.toNat (by omega) (venc c.o.toNat++venc c.c.toNat) 0 1048576 (by omega)
 have hl:cenc c=venc c.b.toNat++(venc c.o.toNat++venc c.c.toNat):=by simp [cenc]
 have r2:=Yu c.o.toNat (by omega) (venc c.c.toNat) (0+(venc c.b.toNat).length) 1048576 (by omega)
 have r3:=Yu c.c.toNat (by omega) [] (0+(venc c.b.toNat).length+(venc c.o.toNat).length) 1048576 (by omega)
 rw [List.append_nil] at r3
 simp only [hl,r1,r2,r3,e1,e2,e3]
 simp
theorem rnum_in (s:RS) (m:Int) (hm:0≤m):0≤(rnum s m).1∧(rnum s m).1≤m:=by
 unfold rnum rstep
 split
 ·exact ⟨Int.le_refl _,hm⟩
 ·split
  ·exact ⟨Int.le_refl _,hm⟩
  ·rename_i h
   simp only [ne_eq,Decidable.not_not] at h
   unfold pnum at h ⊢
   dsimp only at h ⊢
   refine ⟨Int.natCast_nonneg _,?_⟩
   split at h
   ·cases h
   ·rename_i h2
    rw [h] at h2
    simp at h2;omega
theorem cdec_ok {s:ByteArray} {c:Ct} (h:cdec s=some c):CtOK c:=by
 unfold cdec at h
 dsimp only at h
 split at h
 ·obtain rfl:=Option.some.inj h
  unfold cread
  dsimp only
  have h1:=rnum_in ⟨s.data.toList,0,0⟩ 1048576 (by decide)
  have h2:=rnum_in (rnum ⟨s.data.toList,0,0⟩ 1048576).2 1048576 (by decide)
  have h3:=rnum_in (rnum (rnum ⟨s.data.toList,0,0⟩ 1048576).2 1048576).2 1048576 (by decide)
  exact ⟨h1.1,h1.2,h2.1,h2.2,h3.1,h3.2⟩
 ·cases h
theorem made_fit {es:Al} {cs:List Ch} {who:ByteArray} (h:(madeE es cs who).2=0):lvalid who.data.toList=true∧CtOK (madeE es cs who).1:=by
 unfold madeE at h ⊢
 split at h
 ·rename_i hv
  rw [if_pos hv]
  refine ⟨hv,?_⟩
  split at h
  ·rename_i hp
   rw [if_pos hp]
   dsimp only at h ⊢
   cases hd:cdec (vget es cs (cnm who)).1 with
   | none=>rw [hd] at h;cases h
   | some c=>exact cdec_ok hd
  ·rename_i hp
   rw [if_neg hp]
   exact ⟨by decide,by decide,by decide,by decide,by decide,by decide⟩
 ·cases h
def nbE (es:Al) (cs:List Ch) (who:ByteArray):Bi×Int:=
 if (madeE es cs who).2≠0 then (Bi.z,(madeE es cs who).2) else if (madeE es cs who).1.b=1048576 then (Bi.z,9) else (⟨who,(madeE es cs who).1.b⟩,0)
def nbC (es:Al) (cs:List Ch) (who:ByteArray):List Ch:=
 if (nbE es cs who).2=0 then cs++[⟨cnm who,cvs {(madeE es cs who).1 with b:=(madeE es cs who).1.b+1},false⟩] else cs
set_option maxHeartbeats 2000000 in
theorem nextBirth_ok (b:Nat) (ps:Option Addr) (es:Al) (rs:List (Nm×Ch)) (cs:List Ch) (who:ByteArray) (hw:who.size≤1099511627770) (hv:(vget es cs (cnm who)).1.size≤1099511627776) (hl:cs.length≤1000000) :
  Enters 103∧Spec prog 103 #[.pointer (some ⟨b,0,none⟩),.string who] [St ps es,Usg] [Vw b ps rs cs] ⟨Unit,fun _=>.tuple #[(nbE es cs who).1.v,.int .i64 (nbE es cs who).2],fun _=>True,fun _=>[],fun _=>[Vw b ps (madeR es rs cs who) (nbC es cs who)]⟩:=by
 have n1:=made_ok b ps es rs cs who hw hv
 unfold nbC
 have hm:=fun h=>made_fit (es:=es) (cs:=cs) (who:=who) h
 unfold nbE
 generalize madeE es cs who=m at *
 obtain ⟨c,e⟩:=m
 dsimp only at *
 by_cases h0:e=0
 ·subst h0
  obtain ⟨hlv,hc⟩:=hm rfl
  rw [if_neg (by simp)]
  by_cases h1:c.b=1048576
  ·rw [if_pos h1]
   refine ZM [_,_] func103 ntmps103 fun G w hp=>?_
   repeat' (first|refine ZE ?_|refine ZD ?_|refine ZL ?_|refine ZF ?_|refine ZS ?_|refine ZO ?_|refine ZV ?_|refine ZR (fun b=>?_)|refine ZX (fun b=>?_)|refine ZH ?_|refine ZB ?_|refine ZW ?_|refine ZC (n1) (fun _ _=>?_)|refine l_call0 (n1) (fun _ _=>?_)|(refine ZJ (fun hc=>?_) (fun hc=>?_)<;>(try simp at hc)<;>(try omega))|(refine ZG (fun hc=>?_) (fun hc=>?_)<;>(try simp at hc)<;>(try omega)))
   exact ZK () rfl trivial
  ·rw [if_neg h1]
   have hc2:CtOK {c with b:=c.b+1}:=⟨by have:=hc.b0;show 0≤c.b+1;omega,by have:=hc.b1;show c.b+1≤_;omega,hc.o0,hc.o1,hc.c0,hc.c1⟩
   have n2:=setMade_ok b ps (madeR es rs cs who) cs who {c with b:=c.b+1} hw hlv hc2 hl
   have hcl:=cenc_len hc2
   have e9:vset cs (cnm who) ⟨(cenc {c with b:=c.b+1}).toArray⟩=(0,cs++[⟨cnm who,cvs {c with b:=c.b+1},false⟩]):=by
    unfold vset
    rw [if_neg (by simp [Wb hlv]),if_neg (by show ¬65536<(cenc {c with b:=c.b+1}).toArray.size;rw [List.size_toArray];omega)]
    rfl
   rw [e9] at n2
   have w1:IntKind.i64.wrap (c.b+1)=c.b+1:=by have:=hc.b0;have:=hc.b1;exact wrapi (by omega) (by omega)
   refine ZM [_,_] func103 ntmps103 fun G w hp=>?_
   repeat' (first|refine ZE ?_|refine ZD ?_|refine ZL ?_|refine ZF ?_|refine ZS ?_|refine ZO ?_|refine ZV ?_|refine ZR (fun b=>?_)|refine ZX (fun b=>?_)|refine ZH ?_|refine ZB ?_|refine ZW ?_|refine ZC (n1) (fun _ _=>?_)|refine l_call0 (n1) (fun _ _=>?_)|refine ZC (n2) (fun _ _=>?_)|refine l_call0 (n2) (fun _ _=>?_)|rw [w1]|(refine ZJ (fun hc=>?_) (fun hc=>?_)<;>(try simp at hc)<;>(try omega))|(refine ZG (fun hc=>?_) (fun hc=>?_)<;>(try simp at hc)<;>(try omega)))
   exact ZK () rfl trivial
 ·rw [if_pos h0]
  refine ZM [_,_] func103 ntmps103 fun G w hp=>?_
  repeat' (first|refine ZE ?_|refine ZD ?_|refine ZL ?_|refine ZF ?_|refine ZS ?_|refine ZO ?_|refine ZV ?_|refine ZR (fun b=>?_)|refine ZX (fun b=>?_)|refine ZH ?_|refine ZB ?_|refine ZW ?_|refine ZC (n1) (fun _ _=>?_)|refine l_call0 (n1) (fun _ _=>?_)|(refine ZJ (fun hc=>?_) (fun hc=>?_)<;>(try simp at hc)<;>(try omega))|(refine ZG (fun hc=>?_) (fun hc=>?_)<;>(try simp at hc)<;>(try omega)))
  rw [if_neg h0]
  exact ZK () rfl trivial
def mkE (es:Al) (cs:List Ch) (who:ByteArray) (nd:Ino):Bi×Int:=
 if ichk nd≠0 then (Bi.z,ichk nd) else if nd.sz≠0 then (Bi.z,2) else nbE es cs who
def mkC (es:Al) (cs:List Ch) (who:ByteArray) (nd:Ino):List Ch:=
 if (mkE es cs who nd).2=0 then nbC es cs who++[⟨nnm (mkE es cs who nd).1,iencS nd,false⟩] else cs
def mkR (es:Al) (rs:List (Nm×Ch)) (cs:List Ch) (who:ByteArray) (nd:Ino):List (Nm×Ch):=if ichk nd=0∧nd.sz=0 then madeR es rs cs who else rs
theorem nb_bchk {es:Al} {cs:List Ch} {who:ByteArray} (h:(nbE es cs who).2=0):bchk (nbE es cs who).1=0∧(nbE es cs who).1.mkr=who:=by
 unfold nbE at h ⊢
 split at h
 ·rename_i h1;exact absurd h h1
 ·rename_i h1
  rw [if_neg h1]
  split at h
  ·cases h
  ·rename_i h2
   rw [if_neg h2]
   obtain ⟨hv,hc⟩:=made_fit (by simpa using h1)
   have:=hc.b0
   have:=hc.b1
   refine ⟨?_,rfl⟩
   unfold bchk
   rw [if_neg (by simp [hv]),if_pos (by constructor<;>dsimp only<;>omega)]
theorem nb_z {es:Al} {cs:List Ch} {who:ByteArray} (h:(nbE es cs who).2≠0):(nbE es cs who).1=Bi.z:=by
 unfold nbE at h ⊢
 split
 ·rfl
 ·rename_i h1
  rw [if_neg h1] at h
  split
  ·rfl
  ·rename_i h2
   rw [if_neg h2] at h
   exact absurd rfl h
set_option maxHeartbeats 2000000 in
theorem make_ok (b:Nat) (ps:Option Addr) (es:Al) (rs:List (Nm×Ch)) (cs:List Ch) (who:ByteArray) (nd:Ino) (hw:who.size≤1099511627770) (hv:(vget es cs (cnm who)).1.size≤1099511627776) (hl:cs.length≤900000) :
  Enters 50∧Spec prog 50 #[.pointer (some ⟨b,0,none⟩),.string who,nd.v] [St ps es,Usg] [Vw b ps rs cs] ⟨Unit,fun _=>.tuple #[(mkE es cs who nd).1.v,.int .i64 (mkE es cs who nd).2],fun _=>True,fun _=>[],fun _=>[Vw b ps (mkR es rs cs who nd) (mkC es cs who nd)]⟩:=by
 have n1:=X3 nd
 have n2:=nextBirth_ok b ps es rs cs who hw hv (by omega)
 have hnb:=fun h=>nb_bchk (es:=es) (cs:=cs) (who:=who) h
 by_cases h0:ichk nd=0
 ·rw [h0] at n1
  by_cases h1:nd.sz=0
  ·have eE:mkE es cs who nd=nbE es cs who:=by rw [mkE,if_neg (by simp [h0]),if_neg (by simp [h1])]
   have eR:mkR es rs cs who nd=madeR es rs cs who:=by rw [mkR,if_pos ⟨h0,h1⟩]
   rw [mkC,eE,eR]
   have hle:(nbC es cs who).length≤cs.length+1:=by unfold nbC;split<;>simp
   have n3:=fun bi hb=>UK b ps (madeR es rs cs who) (nbC es cs who) bi nd h0 hb (by omega)
   by_cases h2:(nbE es cs who).2=0
   ·obtain ⟨g1,g2⟩:=hnb h2
    rw [if_pos h2]
    generalize nbC es cs who=cs' at *
    generalize nbE es cs who=m at *
    obtain ⟨bi,e⟩:=m
    dsimp only at *
    subst h2
    have n4:=n3 bi (by rw [g2];omega)
    have e9:vset cs' (nnm bi) (iencS nd)=(0,cs'++[⟨nnm bi,iencS nd,false⟩]):=by
     unfold vset
     have:=Zw nd
     rw [if_neg (by simp [Zx g1]),if_neg (by omega)]
    rw [e9] at n4
    refine ZM [_,_,_] func50 ntmps50 fun G w hp=>?_
    repeat' (first|refine ZE ?_|refine ZD ?_|refine ZL ?_|refine ZF ?_|refine ZS ?_|refine ZO ?_|refine ZV ?_|refine ZR (fun b=>?_)|refine ZX (fun b=>?_)|refine ZH ?_|refine ZB ?_|refine ZW ?_|refine ZC (n1) (fun _ _=>?_)|refine l_call0 (n1) (fun _ _=>?_)|refine ZC (n2) (fun _ _=>?_)|refine l_call0 (n2) (fun _ _=>?_)|refine ZC (n4) (fun _ _=>?_)|refine l_call0 (n4) (fun _ _=>?_)|(refine ZJ (fun hc=>?_) (fun hc=>?_)<;>(try simp at hc)<;>(try omega))|(refine ZG (fun hc=>?_) (fun hc=>?_)<;>(try simp at hc)<;>(try omega)))
    exact ZK () rfl trivial
   ·rw [if_neg h2]
    have hc:nbC es cs who=cs:=by rw [nbC,if_neg h2]
    rw [hc] at n2
    have hz:=nb_z h2
    generalize nbE es cs who=m at *
    obtain ⟨bi,e⟩:=m
    dsimp only at *
    subst hz
    refine ZM [_,_,_] func50 ntmps50 fun G w hp=>?_
    repeat' (first|refine ZE ?_|refine ZD ?_|refine ZL ?_|refine ZF ?_|refine ZS ?_|refine ZO ?_|refine ZV ?_|refine ZR (fun b=>?_)|refine ZX (fun b=>?_)|refine ZH ?_|refine ZB ?_|refine ZW ?_|refine ZC (n1) (fun _ _=>?_)|refine l_call0 (n1) (fun _ _=>?_)|refine ZC (n2) (fun _ _=>?_)|refine l_call0 (n2) (fun _ _=>?_)|(refine ZJ (fun hc=>?_) (fun hc=>?_)<;>(try simp at hc)<;>(try omega))|(refine ZG (fun hc=>?_) (fun hc=>?_)<;>(try simp at hc)<;>(try omega)))
    exact ZK () rfl trivial
  ·have eE:mkE es cs who nd=(Bi.z,2):=by rw [mkE,if_neg (by simp [h0]),if_pos h1]
   have eR:mkR es rs cs who nd=rs:=by rw [mkR,if_neg (fun h=>h1 h.2)]
   rw [mkC,eE,eR,if_neg (by decide)]
   refine ZM [_,_,_] func50 ntmps50 fun G w hp=>?_
   repeat' (first|refine ZE ?_|refine ZD ?_|refine ZL ?_|refine ZF ?_|refine ZS ?_|refine ZO ?_|refine ZV ?_|refine ZR (fun b=>?_)|refine ZX (fun b=>?_)|refine ZH ?_|refine ZB ?_|refine ZW ?_|refine ZC (n1) (fun _ _=>?_)|refine l_call0 (n1) (fun _ _=>?_)|(refine ZJ (fun hc=>?_) (fun hc=>?_)<;>(try simp at hc)<;>(try omega))|(refine ZG (fun hc=>?_) (fun hc=>?_)<;>(try simp at hc)<;>(try omega)))
   exact ZK () rfl trivial
 ·have eE:mkE es cs who nd=(Bi.z,ichk nd):=by rw [mkE,if_pos h0]
  have eR:mkR es rs cs who nd=rs:=by rw [mkR,if_neg (fun h=>h0 h.1)]
  rw [mkC,eE,eR,if_neg h0]
  generalize ichk nd=e at *
  refine ZM [_,_,_] func50 ntmps50 fun G w hp=>?_
  repeat' (first|refine ZE ?_|refine ZD ?_|refine ZL ?_|refine ZF ?_|refine ZS ?_|refine ZO ?_|refine ZV ?_|refine ZR (fun b=>?_)|refine ZX (fun b=>?_)|refine ZH ?_|refine ZB ?_|refine ZW ?_|refine ZC (n1) (fun _ _=>?_)|refine l_call0 (n1) (fun _ _=>?_)|(refine ZJ (fun hc=>?_) (fun hc=>?_)<;>(try simp at hc)<;>(try omega))|(refine ZG (fun hc=>?_) (fun hc=>?_)<;>(try simp at hc)<;>(try omega)))
  exact ZK () rfl trivial
structure Pp where
 bl:Nat
 fr:Nat
 to:Nat
def Pp.v (p:Pp):Value:=.agg #[.int .i64 (p.bl:Int),.int .i64 (p.fr:Int),.int .i64 (p.to:Int)]
def pts (a t:Nat):List Pp:=
 if a<t then ⟨a / 64,a - a / 64 * 64,min t (a / 64 * 64+64) - a / 64 * 64⟩::pts (min t (a / 64 * 64+64)) t else []
termination_by t - a
decreasing_by omega
theorem Va (b1 b2 f t:Nat) (hf:f≤1000000000) (ht:t≤1000000000):Iter 157 [.pointer (some ⟨b1,0,none⟩),.pointer (some ⟨b2,0,none⟩)] Pp.v (pts f t) [Blk b1 (.cells #[.int .i64 (f:Int)] 3),Blk b2 (.cells #[.int .i64 (t:Int)] 3)] []:=by
 intro v Y I Ix hy
 refine ZM [_,_,_] func157 ntmps157 fun G w hp=>?_
 repeat' (first|refine ZE ?_|refine ZD ?_|refine ZL ?_|refine ZF ?_|refine ZS ?_|refine ZO ?_|refine ZV ?_|refine ZR (fun b=>?_)|refine ZX (fun b=>?_)|refine ZH ?_|refine ZB ?_|refine ZW ?_|(refine ZJ (fun hc=>?_) (fun hc=>?_)<;>(try simp at hc))|(refine ZG (fun hc=>?_) (fun hc=>?_)<;>(try simp at hc)))
 refine Z8 (X:={q:Nat×List Pp // q.1≤1000000000∧q.2++pts q.1 t=pts f t}) (fun q=>[(0,v),(1,.pointer (some ⟨b1,0,none⟩)),(2,.pointer (some ⟨b2,0,none⟩)),(4,.int .i64 (q.1.1:Int))]) (fun _=>[Y,Blk b1 (.cells #[.int .i64 (f:Int)] 3),Blk b2 (.cells #[.int .i64 (t:Int)] 3)]) (fun q=>[I q.1.2]) (fun q=>t - q.1.1) ⟨(f,[]),hf,rfl⟩ ⟨rfl,rfl,rfl,rfl,trivial⟩ ?_
 rintro ⟨⟨a,pre⟩,ha,he⟩
 dsimp only at ha he ⊢
 by_cases hlt:a<t
 ·have d1:(a:Int).tdiv 64=((a / 64:Nat):Int):=by rw [Int.tdiv_eq_ediv_of_nonneg (Int.natCast_nonneg a)];exact (Int.natCast_ediv a 64).symm
  have w1:IntKind.i64.wrap ((a / 64:Nat):Int)=((a / 64:Nat):Int):=wrapi (by omega) (by omega)
  have w2:IntKind.i64.wrap (((a / 64:Nat):Int) * 64)=((a / 64 * 64:Nat):Int):=by rw [wrapi (by omega) (by omega)];omega
  have w3:IntKind.i64.wrap (((a / 64 * 64:Nat):Int)+64)=((a / 64 * 64+64:Nat):Int):=by rw [wrapi (by omega) (by omega)];omega
  have w4:(if ((a / 64 * 64+64:Nat):Int)<(t:Int) then ((a / 64 * 64+64:Nat):Int) else (t:Int))=((min t (a / 64 * 64+64):Nat):Int):=by split<;>omega
  have w5:IntKind.i64.wrap ((a:Int) - ((a / 64 * 64:Nat):Int))=((a - a / 64 * 64:Nat):Int):=by rw [wrapi (by omega) (by omega)];omega
  have w6:IntKind.i64.wrap (((min t (a / 64 * 64+64):Nat):Int) - ((a / 64 * 64:Nat):Int))=((min t (a / 64 * 64+64) - a / 64 * 64:Nat):Int):=by rw [wrapi (by omega) (by omega)];omega
  rw [pts,if_pos hlt] at he
  generalize hp:(⟨a / 64,a - a / 64 * 64,min t (a / 64 * 64+64) - a / 64 * 64⟩:Pp)=p at he
  have hpre:pre++[p] <+: pts f t:=⟨pts (min t (a / 64 * 64+64)) t,by rw [←he];simp⟩
  repeat' (first|refine ZE ?_|refine ZD ?_|refine ZL ?_|refine ZF ?_|refine ZS ?_|refine ZO ?_|refine ZV ?_|refine ZR (fun b=>?_)|refine ZX (fun b=>?_)|refine ZH ?_|refine ZB ?_|rw [d1]|rw [w1]|rw [w2]|rw [w3]|rw [w4]|rw [w5]|rw [w6]|(refine ZJ (fun hc=>?_) (fun hc=>?_)<;>(try simp at hc)<;>(try omega))|(refine ZG (fun hc=>?_) (fun hc=>?_)<;>(try simp at hc)<;>(try omega)))
  refine l_callV (vs:=[p.v]) (hy pre p hpre) (fun bb _=>?_) (hargs:=by rw [←hp];rfl)
  cases bb with
  | false=>
   repeat' (first|refine ZE ?_|refine ZD ?_|refine ZL ?_|refine ZF ?_|refine ZS ?_|refine ZO ?_|refine ZV ?_|refine ZR (fun b=>?_)|refine ZX (fun b=>?_)|refine ZH ?_|refine ZB ?_|(refine ZJ (fun hc=>?_) (fun hc=>?_)<;>(try simp at hc))|(refine ZG (fun hc=>?_) (fun hc=>?_)<;>(try simp at hc)))
   exact Ym (Yx (YD (some (pre++[p])) rfl (fun q hq=>by cases hq;exact hpre)))
  | true=>
   repeat' (first|refine ZE ?_|refine ZD ?_|refine ZL ?_|refine ZF ?_|refine ZS ?_|refine ZO ?_|refine ZV ?_|refine ZR (fun b=>?_)|refine ZX (fun b=>?_)|refine ZH ?_|refine ZB ?_|(refine ZJ (fun hc=>?_) (fun hc=>?_)<;>(try simp at hc))|(refine ZG (fun hc=>?_) (fun hc=>?_)<;>(try simp at hc)))
   exact Zb ⟨(min t (a / 64 * 64+64),pre++[p]),by dsimp only;omega,by rw [←he];simp⟩ (by show t - min t (a / 64 * 64+64)<t - a;omega) ⟨rfl,rfl,rfl,rfl,trivial⟩
 ·rw [pts,if_neg hlt,List.append_nil] at he
  subst he
  repeat' (first|refine ZE ?_|refine ZD ?_|refine ZL ?_|refine ZF ?_|refine ZS ?_|refine ZO ?_|refine ZV ?_|refine ZR (fun b=>?_)|refine ZX (fun b=>?_)|refine ZH ?_|refine ZB ?_|refine ZW ?_|(refine ZJ (fun hc=>?_) (fun hc=>?_)<;>(try simp at hc)<;>(try omega))|(refine ZG (fun hc=>?_) (fun hc=>?_)<;>(try simp at hc)<;>(try omega)))
  exact Yc none rfl (fun q hq=>by cases hq)
theorem partsF_ok (f t:Int):Enters 107∧Spec prog 107 #[.int .i64 f,.int .i64 t] [] []
  ⟨Nat×Nat,fun q=>.func (.func 157) #[] #[.pointer (some ⟨q.1,0,none⟩),.pointer (some ⟨q.2,0,none⟩)],fun _=>True,fun q=>[Blk q.1 (.cells #[.int .i64 f] 3),Blk q.2 (.cells #[.int .i64 t] 3)],fun _=>[]⟩:=by
 refine ZM [_,_] func107 ntmps107 fun G w hp=>?_
 repeat' (first|refine ZE ?_|refine ZD ?_|refine ZL ?_|refine ZF ?_|refine ZS ?_|refine ZO ?_|refine ZV ?_|refine ZR (fun b=>?_)|refine ZX (fun b=>?_)|refine ZH ?_|refine ZB ?_|refine ZW ?_|(refine ZJ (fun hc=>?_) (fun hc=>?_)<;>(try simp at hc))|(refine ZG (fun hc=>?_) (fun hc=>?_)<;>(try simp at hc)))
 rename_i b1
 refine k_fz (b:=b1) ?_
 refine k_fz (b:=b) ?_
 exact ZK (b1,b) rfl trivial
def wnew (es:Al) (cs:List Ch) (bi:Bi) (f:Nat) (s:ByteArray) (p:Pp):List UInt8:=
 cpy (if p.to - p.fr<64 then Yg (vget es cs (bnm bi p.bl)).1 else List.replicate 64 0) p.fr (s.extract (p.bl * 64+p.fr - f) s.size) (p.to - p.fr)
def wstep (es:Al) (bi:Bi) (f:Nat) (s:ByteArray) (q:List (Nm×Ch)×List Ch) (p:Pp):List (Nm×Ch)×List Ch:=
 (if p.to - p.fr<64 then vread es q.1 q.2 (bnm bi p.bl) else q.1,q.2++[⟨bnm bi p.bl,⟨(wnew es q.2 bi f s p).toArray⟩,false⟩])
def wfold (es:Al) (bi:Bi) (f:Nat) (s:ByteArray) (q:List (Nm×Ch)×List Ch) (l:List Pp):List (Nm×Ch)×List Ch:=l.foldl (wstep es bi f s) q
theorem wfold_snoc (es:Al) (bi:Bi) (f:Nat) (s:ByteArray) (q:List (Nm×Ch)×List Ch) (l:List Pp) (p:Pp):wfold es bi f s q (l++[p])=wstep es bi f s (wfold es bi f s q l) p:=by simp [wfold]
theorem WJ (es:Al) (bi:Bi) (f:Nat) (s:ByteArray):∀(l:List Pp) (q:List (Nm×Ch)×List Ch),(wfold es bi f s q l).2.length=q.2.length+l.length
 | [],q=>rfl
 | p::l,q=>by
  show (wfold es bi f s (wstep es bi f s q p) l).2.length=_
  rw [WJ es bi f s l]
  simp [wstep];omega
theorem Xy:∀(k a t:Nat),t - a≤k→∀p ∈ pts a t,a≤p.bl * 64+p.fr∧p.fr<p.to∧p.to≤64∧p.bl * 64+p.to≤t
 | 0,a,t,hk,p,hp=>by
  rw [pts,if_neg (by omega)] at hp
  cases hp
 | k+1,a,t,hk,p,hp=>by
  rw [pts] at hp
  split at hp
  ·rename_i hlt
   rcases List.mem_cons.1 hp with rfl|hp
   ·dsimp only;omega
   ·have:=Xy k (min t (a / 64 * 64+64)) t (by omega) p hp
    omega
  ·cases hp
theorem Wp:∀(k a t:Nat),t - a≤k→(pts a t).length≤t - a
 | 0,a,t,hk=>by rw [pts,if_neg (by omega)];simp
 | k+1,a,t,hk=>by
  rw [pts]
  split
  ·have:=Wp k (min t (a / 64 * 64+64)) t (by omega)
   simp only [List.length_cons];omega
  ·simp
theorem XR {nd:Ino} {z:Int} (h:ichk nd=0) (hk:nd.kd≠2) (hk3:nd.kd≠3) (hz:0≤z∧z≤4096):ichk {nd with sz:=z}=0:=by
 obtain ⟨h1,h2,h3⟩:=Yi h
 have hk1:nd.kd=1:=by omega
 unfold ichk at h ⊢
 unfold ifit at *
 dsimp only at *
 rw [if_neg (by omega),if_neg (by omega)] at h ⊢
 split at h
 ·cases h
 ·rename_i h4
  rw [if_neg (fun h5=>h4 (by rcases h5 with ⟨h5,_⟩|h5;exact absurd hk1 h5;exact .inr h5)),if_pos (by omega)]
theorem W5 {es:Al} {cs:List Ch} {bi:Bi} (h:(ifile es cs bi).2=0):bchk bi=0∧ichk (ifile es cs bi).1=0∧(ifile es cs bi).1.kd≠2∧(ifile es cs bi).1.kd≠3:=by
 unfold ifile at h ⊢
 split at h
 ·rename_i h1;exact absurd h h1
 ·rename_i h1
  rw [if_neg h1]
  split at h
  ·cases h
  ·rename_i h2
   rw [if_neg h2]
   split at h
   ·cases h
   ·rename_i h3
    rw [if_neg h3]
    simp only [ne_eq,Decidable.not_not] at h1
    unfold iget at h1 h2 h3 ⊢
    split at h1
    ·rename_i h4;exact absurd h1 h4
    ·rename_i h4
     rw [if_neg h4] at h2 h3 ⊢
     split at h1
     ·rename_i h5
      rw [if_pos h5] at h2 h3 ⊢
      dsimp only at h1 h2 h3 ⊢
      cases hd:idec (vget es cs (nnm bi)).1 with
      | none=>rw [hd] at h1;cases h1
      | some nd=>
       rw [hd] at h2 h3
       exact ⟨by simpa using h4,(idec_inv hd).1,h2,h3⟩
     ·cases h1
abbrev JWL (b:Nat) (ps:Option Addr) (q:List (Nm×Ch)×List Ch):List HP:=[Vw b ps q.1 q.2]
def JW (b:Nat) (ps:Option Addr) (es:Al) (bi:Bi) (f:Nat) (s:ByteArray) (q:List (Nm×Ch)×List Ch) (pre:List Pp):HP:=Vw b ps (wfold es bi f s q pre).1 (wfold es bi f s q pre).2
def iwE (es:Al) (cs:List Ch) (bi:Bi) (f:Int) (s:ByteArray):Int×Int:=
 if (ifile es cs bi).2≠0 then (0,(ifile es cs bi).2) else if f<0∨4096<f then (0,2) else if f=4096∧isE s=false then (0,26) else ((min s.size (4096 - f.toNat):Nat),0)
def iwQ (es:Al) (rs:List (Nm×Ch)) (cs:List Ch) (bi:Bi) (f:Nat) (s:ByteArray):List (Nm×Ch)×List Ch:=wfold es bi f s (igetR es rs cs bi,cs) (pts f (f+min s.size (4096 - f)))
def iwN (es:Al) (cs:List Ch) (bi:Bi) (f:Nat) (s:ByteArray):List Ch:=
 if 0<min s.size (4096 - f)∧(ifile es cs bi).1.sz<((f+min s.size (4096 - f):Nat):Int) then [⟨nnm bi,iencS {(ifile es cs bi).1 with sz:=((f+min s.size (4096 - f):Nat):Int)},false⟩] else []
set_option maxHeartbeats 4000000 in
theorem write_ok (b:Nat) (ps:Option Addr) (es:Al) (rs:List (Nm×Ch)) (cs:List Ch) (bi:Bi) (f:Nat) (s:ByteArray) (hw:bi.mkr.size≤1099511627770) (hv:(vget es cs (nnm bi)).1.size≤1099511627776) (hs:s.size≤1099511627776) (hl:cs.length≤900000)
  (h0:(ifile es cs bi).2=0) (hf:f≤4096) (hfe:f=4096→isE s=true) :
  Enters 51∧Spec prog 51 #[.pointer (some ⟨b,0,none⟩),bi.v,.int .i64 (f:Int),.string s] [St ps es,Usg] [Vw b ps rs cs]
   ⟨Unit,fun _=>.tuple #[.int .i64 ((min s.size (4096 - f):Nat):Int),.int .i64 0],fun _=>True,fun _=>[],fun _=>[Vw b ps (iwQ es rs cs bi f s).1 ((iwQ es rs cs bi f s).2++iwN es cs bi f s)]⟩:=by
 have n1:=XN b ps es rs cs bi hw hv
 obtain ⟨g1,g2,g3,g4⟩:=W5 h0
 have n2:=Z9 (f:Int) 4096
 rw [show (decide ((0:Int)≤(f:Int)) && decide ((f:Int)≤4096))=true by simp;omega] at n2
 have w1:IntKind.i64.wrap (4096 - (f:Int))=((4096 - f:Nat):Int):=by rw [wrapi (by omega) (by omega)];omega
 have w2:(if ((4096 - f:Nat):Int)<(s.size:Int) then ((4096 - f:Nat):Int) else (s.size:Int))=((min s.size (4096 - f):Nat):Int):=by split<;>omega
 unfold iwQ iwN
 rw [h0] at n1
 generalize (ifile es cs bi).1=nd at *
 generalize hc:min s.size (4096 - f)=cnt at *
 have w3:IntKind.i64.wrap ((f:Int)+(cnt:Int))=((f+cnt:Nat):Int):=by rw [wrapi (by omega) (by omega)];omega
 have n3:=partsF_ok (f:Int) ((f+cnt:Nat):Int)
 have hE:isE s=true→s.toList=[]:=fun h=>by rw [isE_eq] at h;rw [of_decide_eq_true h];simp [Z0]
 have hcn:cnt≤s.size∧cnt≤4096 - f:=by omega
 generalize b=bv at *
 refine ⟨enters_of func51 (by kernel_rfl) rfl,Wz (vs:=[_,_,_,_]) func51 rfl ntmps51 rfl fun G w hp=>?_⟩
 repeat' (first|refine ZE ?_|refine ZD ?_|refine ZL ?_|refine ZF ?_|refine ZS ?_|refine ZO ?_|refine ZV ?_|refine ZR (fun b=>?_)|refine ZX (fun b=>?_)|refine ZH ?_|refine ZB ?_|refine ZW ?_|refine ZT ?_|refine ZZ ?_|refine Zf ?_|refine Za ?_|refine Zd ?_|refine Zj (fun b=>?_)|refine Zm (fun b=>?_)|refine Zk ?_|refine ZU ?_|refine ZC (n1) (fun _ _=>?_)|refine l_call0 (n1) (fun _ _=>?_)|refine ZN (n1) (fun _ _=>?_)|refine ZC (n2) (fun _ _=>?_)|refine l_call0 (n2) (fun _ _=>?_)|refine ZN (n2) (fun _ _=>?_)|refine ZC (n3) (fun _ _=>?_)|refine l_call0 (n3) (fun _ _=>?_)|refine ZN (n3) (fun _ _=>?_)|rw [w1]|rw [w2]|rw [w3]|(refine ZJ (fun hc=>?_) (fun hc=>?_)<;>(try simp at hc)<;>(try omega))|(refine ZP (fun hc=>?_) (fun hc=>?_)<;>(try simp at hc)<;>(try omega))|refine ZA 14 [] [(0,0),(1,0),(2,0),(3,0),(4,0),(5,0),(6,0),(7,0),(8,0),(9,0),(10,0),(11,0),(12,0),(13,0),(14,0),(15,4)] [] ?_|refine ZA 15 [] [(0,0),(1,0),(2,0),(3,0),(5,0),(6,0),(4,4),(7,4),(8,0)] [] ?_|(refine ZG (fun hc=>?_) (fun hc=>?_)<;>(try simp at hc)<;>(try omega)))
 ·rename_i hf4
  exact absurd (hE (hfe (by omega))) hc
 ·rename_i b4 b5 b6 b7 b8 b9 _ _ _ _ hc1 q _
  obtain ⟨p1,p2⟩:=q
  refine k_fz (b:=b4) ?_
  refine k_fz (b:=b5) ?_
  refine k_fz (b:=b6) ?_
  refine k_fz (b:=b7) ?_
  refine UB (α:=Pp) (enc:=Pp.v) (xs:=pts f (f+cnt)) (fun pre=>Vw bv ps (wfold es bi f s (igetR es rs cs bi,cs) pre).1 (wfold es bi f s (igetR es rs cs bi,cs) pre).2) (fun _ _=>False) (Va p1 p2 f (f+cnt) (by omega) (by omega)) ?_ ?_ ?_
  ·intro lr l pre e hpre G w0 hp0
   exfalso
   have hpm:=Xy (f+cnt - f) f (f+cnt) (Nat.le_refl _) e (hpre.subset (by simp))
   omega
  ·intro D
   dsimp only
   have hql:(wfold es bi f s (igetR es rs cs bi,cs) (pts f (f+cnt))).2.length≤910000:=by
    rw [WJ]
    have:=Wp (f+cnt - f) f (f+cnt) (Nat.le_refl _)
    dsimp only;omega
   generalize wfold es bi f s (igetR es rs cs bi,cs) (pts f (f+cnt))=Q at *
   obtain ⟨rs',cs'⟩:=Q
   dsimp only at *
   have hg:¬(0<cnt∧nd.sz<((f+cnt:Nat):Int)):=by omega
   ·rw [if_neg hg,List.append_nil]
    repeat' (first|refine ZE ?_|refine ZD ?_|refine ZL ?_|refine ZF ?_|refine ZS ?_|refine ZO ?_|refine ZV ?_|refine ZR (fun b=>?_)|refine ZX (fun b=>?_)|refine ZH ?_|refine ZB ?_|refine ZW ?_|refine ZT ?_|refine ZZ ?_|refine Zf ?_|refine Za ?_|refine Zd ?_|refine Zj (fun b=>?_)|refine Zm (fun b=>?_)|refine Zk ?_|refine ZU ?_|rw [w3]|(refine ZJ (fun hc=>?_) (fun hc=>?_)<;>(try simp at hc)<;>(try omega))|(refine ZP (fun hc=>?_) (fun hc=>?_)<;>(try simp at hc)<;>(try omega))|refine ZA 14 [] [(0,0),(1,0),(2,0),(3,0),(4,0),(5,0),(6,0),(7,0),(8,0),(9,0),(10,0),(11,0),(12,0),(13,0),(14,0),(15,4)] [] ?_|refine ZA 15 [] [(0,0),(1,0),(2,0),(3,0),(5,0),(6,0),(4,4),(7,4),(8,0)] [] ?_|(refine ZG (fun hc=>?_) (fun hc=>?_)<;>(try simp at hc)<;>(try omega)))
    all_goals exact Vd () rfl trivial
  ·intro D pre hpre
   exact w_open (X:=Empty) (Lx:=fun _=>[]) (p:=fun _=>False) .here (fun h hh=>hh.elim) (fun q hq=>hq.elim)
 ·rename_i b4 b5 b6 b7 b8 b9 _ _ _ _ q _
  obtain ⟨p1,p2⟩:=q
  refine k_fz (b:=b4) ?_
  refine k_fz (b:=b5) ?_
  refine k_fz (b:=b6) ?_
  refine k_fz (b:=b7) ?_
  refine UB (α:=Pp) (enc:=Pp.v) (xs:=pts f (f+cnt)) (fun pre=>Vw bv ps (wfold es bi f s (igetR es rs cs bi,cs) pre).1 (wfold es bi f s (igetR es rs cs bi,cs) pre).2) (fun _ _=>False) (Va p1 p2 f (f+cnt) (by omega) (by omega)) ?_ ?_ ?_
  ·intro lr l pre e hpre G w0 hp0
   dsimp only
   have hpm:=Xy (f+cnt - f) f (f+cnt) (Nat.le_refl _) e (hpre.subset (by simp))
   have hpl:pre.length≤4096:=by
    have h1:=hpre.length_le
    have h2:=Wp (f+cnt - f) f (f+cnt) (Nat.le_refl _)
    simp only [List.length_append,List.length_singleton] at h1;omega
   have hsn:=wfold_snoc es bi f s (igetR es rs cs bi,cs) pre e
   have hql:(wfold es bi f s (igetR es rs cs bi,cs) pre).2.length≤910000:=by rw [WJ];dsimp only;omega
   rw [hsn]
   generalize wfold es bi f s (igetR es rs cs bi,cs) pre=Q at *
   obtain ⟨rs',cs'⟩:=Q
   obtain ⟨bl,fr,to⟩:=e
   dsimp only at hpm hql ⊢
   have hb:=YJ g1 (i:=(bl:Int)) (by omega)
   have m1:=block_ok bv ps es rs' cs' bi (bl:Int) hw
   have m2:=YM bi (bl:Int)
   have ws:IntKind.i64.wrap ((to:Int) - (fr:Int))=((to - fr:Nat):Int):=by rw [wrapi (by omega) (by omega)];omega
   have wa:IntKind.i64.wrap ((bl:Int) * 64)=((bl * 64:Nat):Int):=by rw [wrapi (by omega) (by omega)];omega
   have wb:IntKind.i64.wrap (((bl * 64:Nat):Int)+(fr:Int))=((bl * 64+fr:Nat):Int):=by rw [wrapi (by omega) (by omega)];omega
   have wc:IntKind.i64.wrap (((bl * 64+fr:Nat):Int) - (f:Int))=((bl * 64+fr - f:Nat):Int):=by rw [wrapi (by omega) (by omega)];omega
   by_cases hfull:to - fr<64
   ·have ho:=Ya (vget es cs' (bnm bi (bl:Int))).1
    generalize hP:Yg (vget es cs' (bnm bi (bl:Int))).1=P at *
    have hwn:wnew es cs' bi f s ⟨bl,fr,to⟩=cpy (P) fr (s.extract (bl * 64+fr - f) s.size) (to - fr):=by unfold wnew;dsimp only;rw [if_pos hfull];rw [hP]
    have hnl:(cpy (P) fr (s.extract (bl * 64+fr - f) s.size) (to - fr)).length=64:=by rw [Vt (by simp [ho];omega)];simp [ho]
    have hst:wstep es bi f s (rs',cs') ⟨bl,fr,to⟩=(vread es rs' cs' (bnm bi (bl:Int)),cs'++[⟨bnm bi (bl:Int),⟨(cpy (P) fr (s.extract (bl * 64+fr - f) s.size) (to - fr)).toArray⟩,false⟩]):=by unfold wstep;rw [hwn];dsimp only;rw [if_pos hfull]
    rw [hst]
    have m3:=Wu bv ps (vread es rs' cs' (bnm bi (bl:Int))) cs' (bnm bi (bl:Int)) ⟨(cpy (P) fr (s.extract (bl * 64+fr - f) s.size) (to - fr)).toArray⟩ (by show bi.mkr.size≤_;omega) (Nat.zero_le _) (by omega)
    have e9:vset cs' (bnm bi (bl:Int)) ⟨(cpy (P) fr (s.extract (bl * 64+fr - f) s.size) (to - fr)).toArray⟩=(0,cs'++[⟨bnm bi (bl:Int),⟨(cpy (P) fr (s.extract (bl * 64+fr - f) s.size) (to - fr)).toArray⟩,false⟩]):=by
     unfold vset
     rw [if_neg (by simp [hb]),if_neg (by show ¬65536<(List.toArray _).size;rw [List.size_toArray,hnl];omega)]
    rw [e9] at m3
    repeat' (first|refine ZE ?_|refine ZD ?_|refine ZL ?_|refine ZF ?_|refine ZS ?_|refine ZO ?_|refine ZV ?_|refine ZR (fun b=>?_)|refine ZX (fun b=>?_)|refine ZH ?_|refine ZB ?_|refine ZW ?_|refine ZT ?_|refine ZZ ?_|refine Zf ?_|refine Za ?_|refine Zd ?_|refine Zj (fun b=>?_)|refine Zm (fun b=>?_)|refine Zk ?_|refine ZU ?_|refine ZC (m1) (fun _ _=>?_)|refine l_call0 (m1) (fun _ _=>?_)|refine ZN (m1) (fun _ _=>?_)|refine k_beg ?_|rw [ws]|(refine ZJ (fun hc=>?_) (fun hc=>?_)<;>(try simp at hc)<;>(try omega))|(refine ZP (fun hc=>?_) (fun hc=>?_)<;>(try simp at hc)<;>(try omega))|refine ZA 14 [By _ _ _] [(0,0),(1,0),(2,0),(3,0),(4,0),(5,0),(6,0),(7,0),(8,0),(9,0),(10,0),(11,0),(12,0),(13,0),(14,0),(15,4)] [] ?_|refine ZA 15 [Vw _ _ _ _] [(0,0),(1,0),(2,0),(3,0),(5,0),(6,0),(4,4),(7,4),(8,0)] [] ?_|(refine ZG (fun hc=>?_) (fun hc=>?_)<;>(try simp at hc)<;>(try omega)))
    refine l_by (T:=215) (b:=b) (Lb:=List.replicate 64 0) rfl ?_
    refine l_stB (L0:=List.replicate 64 0) (Lb:=P) ?_ ho.symm (by simp [ho])
    repeat' (first|refine ZE ?_|refine ZD ?_|refine ZL ?_|refine ZF ?_|refine ZS ?_|refine ZO ?_|refine ZV ?_|refine ZR (fun b=>?_)|refine ZX (fun b=>?_)|refine ZH ?_|refine ZB ?_|refine ZW ?_|refine ZT ?_|refine ZZ ?_|refine Zf ?_|refine Za ?_|refine Zd ?_|refine Zj (fun b=>?_)|refine Zm (fun b=>?_)|refine Zk ?_|refine ZU ?_|refine ZC (m2) (fun _ _=>?_)|refine l_call0 (m2) (fun _ _=>?_)|refine ZN (m2) (fun _ _=>?_)|refine ZC (m3) (fun _ _=>?_)|refine l_call0 (m3) (fun _ _=>?_)|refine ZN (m3) (fun _ _=>?_)|rw [wa]|rw [wb]|rw [wc]|refine r_sla (m:=64) fr to (by omega) (by omega) ?_|refine r_send (s:=s) (bl * 64+fr - f) (by omega) ?_|refine r_copyS (off:=fr) (dl:=to - fr) (Lb:=P) ?_ (by simp [ho];omega)|refine r_sla0 ?_|refine r_b2sB (Lb:=cpy (P) fr (s.extract (bl * 64+fr - f) s.size) (to - fr)) ?_ hnl.symm|(refine ZJ (fun hc=>?_) (fun hc=>?_)<;>(try simp at hc)<;>(try omega))|(refine ZP (fun hc=>?_) (fun hc=>?_)<;>(try simp at hc)<;>(try omega))|refine ZA 14 [By _ _ _] [(0,0),(1,0),(2,0),(3,0),(4,0),(5,0),(6,0),(7,0),(8,0),(9,0),(10,0),(11,0),(12,0),(13,0),(14,0),(15,4)] [] ?_|refine ZA 15 [Vw _ _ _ _] [(0,0),(1,0),(2,0),(3,0),(5,0),(6,0),(4,4),(7,4),(8,0)] [] ?_|(refine ZG (fun hc=>?_) (fun hc=>?_)<;>(try simp at hc)<;>(try omega)))
    exact k_rn
   ·have hwn:wnew es cs' bi f s ⟨bl,fr,to⟩=cpy (List.replicate 64 0) fr (s.extract (bl * 64+fr - f) s.size) (to - fr):=by unfold wnew;dsimp only;rw [if_neg hfull]
    have hnl:(cpy (List.replicate 64 0) fr (s.extract (bl * 64+fr - f) s.size) (to - fr)).length=64:=by rw [Vt (by simp;omega)];simp
    have hst:wstep es bi f s (rs',cs') ⟨bl,fr,to⟩=(rs',cs'++[⟨bnm bi (bl:Int),⟨(cpy (List.replicate 64 0) fr (s.extract (bl * 64+fr - f) s.size) (to - fr)).toArray⟩,false⟩]):=by unfold wstep;rw [hwn];dsimp only;rw [if_neg hfull]
    rw [hst]
    have m3:=Wu bv ps (rs') cs' (bnm bi (bl:Int)) ⟨(cpy (List.replicate 64 0) fr (s.extract (bl * 64+fr - f) s.size) (to - fr)).toArray⟩ (by show bi.mkr.size≤_;omega) (Nat.zero_le _) (by omega)
    have e9:vset cs' (bnm bi (bl:Int)) ⟨(cpy (List.replicate 64 0) fr (s.extract (bl * 64+fr - f) s.size) (to - fr)).toArray⟩=(0,cs'++[⟨bnm bi (bl:Int),⟨(cpy (List.replicate 64 0) fr (s.extract (bl * 64+fr - f) s.size) (to - fr)).toArray⟩,false⟩]):=by
     unfold vset
     rw [if_neg (by simp [hb]),if_neg (by show ¬65536<(List.toArray _).size;rw [List.size_toArray,hnl];omega)]
    rw [e9] at m3
    repeat' (first|refine ZE ?_|refine ZD ?_|refine ZL ?_|refine ZF ?_|refine ZS ?_|refine ZO ?_|refine ZV ?_|refine ZR (fun b=>?_)|refine ZX (fun b=>?_)|refine ZH ?_|refine ZB ?_|refine ZW ?_|refine ZT ?_|refine ZZ ?_|refine Zf ?_|refine Za ?_|refine Zd ?_|refine Zj (fun b=>?_)|refine Zm (fun b=>?_)|refine Zk ?_|refine ZU ?_|refine ZC (m1) (fun _ _=>?_)|refine l_call0 (m1) (fun _ _=>?_)|refine ZN (m1) (fun _ _=>?_)|refine k_beg ?_|rw [ws]|(refine ZJ (fun hc=>?_) (fun hc=>?_)<;>(try simp at hc)<;>(try omega))|(refine ZP (fun hc=>?_) (fun hc=>?_)<;>(try simp at hc)<;>(try omega))|refine ZA 14 [By _ _ _] [(0,0),(1,0),(2,0),(3,0),(4,0),(5,0),(6,0),(7,0),(8,0),(9,0),(10,0),(11,0),(12,0),(13,0),(14,0),(15,4)] [] ?_|refine ZA 15 [Vw _ _ _ _] [(0,0),(1,0),(2,0),(3,0),(5,0),(6,0),(4,4),(7,4),(8,0)] [] ?_|(refine ZG (fun hc=>?_) (fun hc=>?_)<;>(try simp at hc)<;>(try omega)))
    refine k_by (T:=215) (b:=b) (Lb:=List.replicate 64 0) rfl ?_
    repeat' (first|refine ZE ?_|refine ZD ?_|refine ZL ?_|refine ZF ?_|refine ZS ?_|refine ZO ?_|refine ZV ?_|refine ZR (fun b=>?_)|refine ZX (fun b=>?_)|refine ZH ?_|refine ZB ?_|refine ZW ?_|refine ZT ?_|refine ZZ ?_|refine Zf ?_|refine Za ?_|refine Zd ?_|refine Zj (fun b=>?_)|refine Zm (fun b=>?_)|refine Zk ?_|refine ZU ?_|refine ZC (m2) (fun _ _=>?_)|refine l_call0 (m2) (fun _ _=>?_)|refine ZN (m2) (fun _ _=>?_)|refine ZC (m3) (fun _ _=>?_)|refine l_call0 (m3) (fun _ _=>?_)|refine ZN (m3) (fun _ _=>?_)|rw [wa]|rw [wb]|rw [wc]|refine r_sla (m:=64) fr to (by omega) (by omega) ?_|refine r_send (s:=s) (bl * 64+fr - f) (by omega) ?_|refine r_copyS (off:=fr) (dl:=to - fr) (Lb:=List.replicate 64 0) ?_ (by simp;omega)|refine r_sla0 ?_|refine r_b2sB (Lb:=cpy (List.replicate 64 0) fr (s.extract (bl * 64+fr - f) s.size) (to - fr)) ?_ hnl.symm|(refine ZJ (fun hc=>?_) (fun hc=>?_)<;>(try simp at hc)<;>(try omega))|(refine ZP (fun hc=>?_) (fun hc=>?_)<;>(try simp at hc)<;>(try omega))|refine ZA 14 [By _ _ _] [(0,0),(1,0),(2,0),(3,0),(4,0),(5,0),(6,0),(7,0),(8,0),(9,0),(10,0),(11,0),(12,0),(13,0),(14,0),(15,4)] [] ?_|refine ZA 15 [Vw _ _ _ _] [(0,0),(1,0),(2,0),(3,0),(5,0),(6,0),(4,4),(7,4),(8,0)] [] ?_|(refine ZG (fun hc=>?_) (fun hc=>?_)<;>(try simp at hc)<;>(try omega)))
    exact k_rn
  ·intro D
   dsimp only
   have hql:(wfold es bi f s (igetR es rs cs bi,cs) (pts f (f+cnt))).2.length≤910000:=by
    rw [WJ]
    have:=Wp (f+cnt - f) f (f+cnt) (Nat.le_refl _)
    dsimp only;omega
   generalize wfold es bi f s (igetR es rs cs bi,cs) (pts f (f+cnt))=Q at *
   obtain ⟨rs',cs'⟩:=Q
   dsimp only at *
   by_cases hg:0<cnt∧nd.sz<((f+cnt:Nat):Int)
   ·rw [if_pos hg]
    have hck:=XR g2 g3 g4 (z:=((f+cnt:Nat):Int)) (by omega)
    have n5:=VS bv ps rs' cs' bi nd ((f+cnt:Nat):Int) hck (by omega) (by omega)
    have e9:vset cs' (nnm bi) (iencS {nd with sz:=((f+cnt:Nat):Int)})=(0,cs'++[⟨nnm bi,iencS {nd with sz:=((f+cnt:Nat):Int)},false⟩]):=by
     unfold vset
     have:=Zw {nd with sz:=((f+cnt:Nat):Int)}
     rw [if_neg (by simp [Zx g1]),if_neg (by omega)]
    rw [e9] at n5
    repeat' (first|refine ZE ?_|refine ZD ?_|refine ZL ?_|refine ZF ?_|refine ZS ?_|refine ZO ?_|refine ZV ?_|refine ZR (fun b=>?_)|refine ZX (fun b=>?_)|refine ZH ?_|refine ZB ?_|refine ZW ?_|refine ZT ?_|refine ZZ ?_|refine Zf ?_|refine Za ?_|refine Zd ?_|refine Zj (fun b=>?_)|refine Zm (fun b=>?_)|refine Zk ?_|refine ZU ?_|refine ZC (n5) (fun _ _=>?_)|refine l_call0 (n5) (fun _ _=>?_)|refine ZN (n5) (fun _ _=>?_)|rw [w3]|(refine ZJ (fun hc=>?_) (fun hc=>?_)<;>(try simp at hc)<;>(try omega))|(refine ZP (fun hc=>?_) (fun hc=>?_)<;>(try simp at hc)<;>(try omega))|refine ZA 14 [] [(0,0),(1,0),(2,0),(3,0),(4,0),(5,0),(6,0),(7,0),(8,0),(9,0),(10,0),(11,0),(12,0),(13,0),(14,0),(15,4)] [] ?_|refine ZA 15 [] [(0,0),(1,0),(2,0),(3,0),(5,0),(6,0),(4,4),(7,4),(8,0)] [] ?_|(refine ZG (fun hc=>?_) (fun hc=>?_)<;>(try simp at hc)<;>(try omega)))
    exact Vd () rfl trivial
   ·rw [if_neg hg,List.append_nil]
    repeat' (first|refine ZE ?_|refine ZD ?_|refine ZL ?_|refine ZF ?_|refine ZS ?_|refine ZO ?_|refine ZV ?_|refine ZR (fun b=>?_)|refine ZX (fun b=>?_)|refine ZH ?_|refine ZB ?_|refine ZW ?_|refine ZT ?_|refine ZZ ?_|refine Zf ?_|refine Za ?_|refine Zd ?_|refine Zj (fun b=>?_)|refine Zm (fun b=>?_)|refine Zk ?_|refine ZU ?_|rw [w3]|(refine ZJ (fun hc=>?_) (fun hc=>?_)<;>(try simp at hc)<;>(try omega))|(refine ZP (fun hc=>?_) (fun hc=>?_)<;>(try simp at hc)<;>(try omega))|refine ZA 14 [] [(0,0),(1,0),(2,0),(3,0),(4,0),(5,0),(6,0),(7,0),(8,0),(9,0),(10,0),(11,0),(12,0),(13,0),(14,0),(15,4)] [] ?_|refine ZA 15 [] [(0,0),(1,0),(2,0),(3,0),(5,0),(6,0),(4,4),(7,4),(8,0)] [] ?_|(refine ZG (fun hc=>?_) (fun hc=>?_)<;>(try simp at hc)<;>(try omega)))
    all_goals exact Vd () rfl trivial
  ·intro D pre hpre
   exact w_open (X:=Empty) (Lx:=fun _=>[]) (p:=fun _=>False) .here (fun h hh=>hh.elim) (fun q hq=>hq.elim)
def insN (a:Nm):List Nm→List Nm
 | []=>[a]
 | b::l=>if cmpO a b<0 then a::b::l else if 0<cmpO a b then b::insN a l else a::l
theorem Wa (x:Nm×ByteArray) (l:Al) (k:Int):kn (x::l) k=if x.1.kind=k then x.1::kn l k else kn l k:=by
 unfold kn
 rw [List.filter_cons]
 by_cases h:x.1.kind=k
 ·simp [h]
 ·simp [h]
theorem kn_mem {es:Al} {k:Int} {a:Nm} (h:a ∈ kn es k):a.kind=k∧∃v,(a,v) ∈ es:=by
 unfold kn at h
 obtain ⟨x,hx,rfl⟩:=List.mem_map.1 h
 obtain ⟨h1,h2⟩:=List.mem_filter.1 hx
 exact ⟨by simpa using h2,x.2,h1⟩
theorem insN_head {a:Nm}:∀{l:List Nm},(∀x ∈ l,cmpO a x<0)→insN a l=a::l
 | [],_=>rfl
 | b::l,h=>by rw [insN,if_pos (h b (by simp))]
theorem kn_ins (a:Nm) (v:ByteArray) (k:Int):∀es:Al,Srt es→kn (insO a v es) k=if a.kind=k then insN a (kn es k) else kn es k
 | [],_=>by
  show kn [(a,v)] k=_
  rw [Wa];rfl
 | (b,u)::l,hs=>by
  obtain ⟨h1,h2⟩:=List.pairwise_cons.1 hs
  have ih:=kn_ins a v k l h2
  rw [insO]
  by_cases hlt:cmpO a b<0
  ·rw [if_pos hlt,Wa,Wa]
   by_cases ha:a.kind=k
   ·rw [if_pos ha,if_pos ha]
    by_cases hb:b.kind=k
    ·simp only [hb,if_true];rw [insN,if_pos hlt]
    ·simp only [hb,if_false]
     rw [insN_head fun x hx=>YN hlt (by obtain ⟨_,w,hw⟩:=kn_mem hx;exact h1 _ hw)]
   ·rw [if_neg ha,if_neg ha]
  ·rw [if_neg hlt]
   by_cases he:0<cmpO a b
   ·rw [if_pos he,Wa,Wa,ih]
    by_cases ha:a.kind=k
    ·simp only [ha,if_true]
     by_cases hb:b.kind=k
     ·simp only [hb,if_true];rw [insN,if_neg hlt,if_pos he]
     ·simp only [hb,if_false]
    ·simp only [ha,if_false]
   ·rw [if_neg he,Wa,Wa]
    obtain rfl:=(Z4 a b).1 (by omega)
    by_cases ha:a.kind=k
    ·simp only [ha,if_true];rw [insN,if_neg hlt,if_neg he]
    ·simp only [ha,if_false]
theorem Xi (n b:Nm) (u:ByteArray) (l:Al):getO n ((b,u)::l)=if cmpO n b=0 then some u else getO n l:=rfl
theorem V2 (n a:Nm) (v:ByteArray):∀es:Al,getO n (insO a v es)=if n=a then some v else getO n es
 | []=>by
  rw [insO,Xi]
  by_cases h:n=a
  ·subst h;rw [if_pos ((Z4 n n).2 rfl),if_pos rfl]
  ·rw [if_neg (fun e=>h ((Z4 n a).1 e)),if_neg h]
 | (b,u)::l=>by
  have ih:=V2 n a v l
  rw [insO]
  by_cases hlt:cmpO a b<0
  ·rw [if_pos hlt,Xi]
   by_cases h:n=a
   ·subst h;rw [if_pos ((Z4 n n).2 rfl),if_pos rfl]
   ·rw [if_neg (fun e=>h ((Z4 n a).1 e)),if_neg h]
  ·rw [if_neg hlt]
   by_cases he:0<cmpO a b
   ·rw [if_pos he,Xi,Xi,ih]
    by_cases hb:cmpO n b=0
    ·obtain rfl:=(Z4 n b).1 hb
     rw [if_pos hb,if_pos hb,if_neg (fun e=>by subst e;omega)]
    ·rw [if_neg hb,if_neg hb]
   ·rw [if_neg he]
    have he0:cmpO a b=0:=by omega
    obtain rfl:=(Z4 a b).1 he0
    rw [Xi,Xi]
    by_cases h:n=a
    ·subst h;rw [if_pos he0,if_pos rfl]
    ·rw [if_neg (fun e=>h ((Z4 n a).1 e)),if_neg h,if_neg (fun e=>h ((Z4 n a).1 e))]
theorem UY (n:Nm):∀(l:List Ch) (es:Al),(l.map (·.nm)).Nodup→getO n (applyE es l)=match l.find? (fun c=>decide (c.nm=n)) with|some c=>some c.val|none=>getO n es
 | [],es,_=>rfl
 | c::l,es,h=>by
  simp only [List.map_cons,List.nodup_cons] at h
  show getO n (applyE (insO c.nm c.val es) l)=_
  rw [UY n l _ h.2,List.find?_cons]
  by_cases hc:c.nm=n
  ·have hn:l.find? (fun c=>decide (c.nm=n))=none:=List.find?_eq_none.2 fun x hx=>by
    simp only [decide_eq_true_eq]
    intro e
    exact h.1 (List.mem_map.2 ⟨x,hx,e.trans hc.symm⟩)
   rw [hn]
   simp [hc,V2]
  ·simp only [hc,decide_false]
   cases l.find? (fun c=>decide (c.nm=n)) with
   | some c'=>rfl
   | none=>dsimp only;rw [V2,if_neg (fun e=>hc e.symm)]
theorem UH (cs:List Ch):((vwr cs).map (·.nm)).Nodup:=by
 have h1:((vwr cs).map (·.nm)).Perm (((lastL cs).map (chAt cs)).map (·.nm)):=(Yh _).map _
 refine h1.nodup_iff.2 ?_
 have h2:((lastL cs).map (chAt cs)).map (·.nm)=(lastL cs).map (·.1):=by
  rw [List.map_map]
  refine List.map_congr_left fun p hp=>(Xg hp).2
 rw [h2]
 exact Yp cs
theorem vwr_mem {cs:List Ch} {c:Ch}:c ∈ vwr cs↔vcall cs c.nm=some c:=by
 rw [vwr,(Yh _).mem_iff,List.mem_map]
 constructor
 ·rintro ⟨p,hp,rfl⟩
  obtain ⟨h1,h2⟩:=Xg hp
  have h3:=(UD (lastL cs) (Yp cs) p.1 p.2).2 hp
  obtain ⟨c,h4,h5⟩:=(Xk p.1 cs).1 p.2 h3
  rw [h1] at h4
  rw [h2,h5,←h4]
 ·intro h
  cases hg:mget c.nm (lastL cs) with
  | none=>rw [(Xk c.nm cs).2 hg] at h;cases h
  | some i=>
   obtain ⟨c',h1,h2⟩:=(Xk c.nm cs).1 i hg
   rw [h] at h2
   obtain rfl:=Option.some.inj h2
   refine ⟨(c.nm,i),(UD (lastL cs) (Yp cs) c.nm i).1 hg,?_⟩
   simp [chAt,h1]
theorem find_vwr (cs:List Ch) (n:Nm):(vwr cs).find? (fun c=>decide (c.nm=n))=vcall cs n:=by
 cases h:(vwr cs).find? (fun c=>decide (c.nm=n)) with
 | some c=>
  have h1:=List.mem_of_find?_eq_some h
  have h2:=List.find?_some h
  simp only [decide_eq_true_eq] at h2
  rw [←h2]
  exact (vwr_mem.1 h1).symm
 | none=>
  cases hc:vcall cs n with
  | none=>rfl
  | some c=>
   obtain ⟨h1,_⟩:=XX hc
   have h2:c ∈ vwr cs:=vwr_mem.2 (by rw [h1];exact hc)
   have:=List.find?_eq_none.1 h c h2
   simp [h1] at this
theorem Wo (es:Al) (cs:List Ch) (n:Nm):getO n (applyE es (vwr cs))=match vcall cs n with|some c=>some c.val|none=>getO n es:=by
 rw [UY n _ es (UH cs),find_vwr]
def o1:ByteArray:=⟨#[49]⟩
theorem Vn:lvalid o1.data.toList=true:=by
 have h:=(VB [49] 0 0 (by simp)).2.2.2
 rw [show ffirst (([49]:List UInt8).drop 0) 0 0=(⟨1,0,0⟩,1) from rfl] at h
 simp at h
 simp [o1,lvalid,lparts,h]
def nd0 (z:Int):Ino:=⟨1,0,0,0,z,1,⟨#[]⟩⟩
theorem nd0_chk {z:Int} (h:0≤z∧z≤4096):ichk (nd0 z)=0:=by
 have h1:isE ⟨#[]⟩=true:=by simp [isE]
 unfold ichk ifit nd0
 dsimp only
 rw [if_neg (by omega),if_neg (by omega),if_neg (by simp [h1]),if_pos (by decide)]
def b0:Bi:=⟨o1,0⟩
theorem Yy:bchk b0=0:=by
 unfold bchk
 rw [if_neg (by simp [b0,Vn]),if_pos (by simp [b0])]
def zer (n:Nat):ByteArray:=⟨(List.replicate n 0).toArray⟩
theorem Yd (n:Nat):(zer n).size=n:=by show (List.toArray _).size=n;simp
theorem Xn (n:Nm):vget [] [] n=(⟨#[]⟩,false):=by
 unfold vget
 split
 ·rfl
 ·rfl
theorem made_o1:madeE [] [] o1=(Ct.z,0):=by rw [madeE,if_pos Vn,Xn];rfl
theorem nb_o1:nbE [] [] o1=(b0,0):=by
 unfold nbE
 rw [made_o1,if_neg (by simp),if_neg (by decide)];rfl
theorem mk_o1:mkE [] [] o1 (nd0 0)=(b0,0):=by rw [mkE,if_neg (by simp [nd0_chk]),if_neg (by simp [nd0]),nb_o1]
def kc27:List Ch:=[⟨cnm o1,cvs ⟨1,0,0⟩,false⟩,⟨nnm b0,iencS (nd0 0),false⟩]
theorem mkC_o1:mkC [] [] o1 (nd0 0)=kc27:=by
 rw [mkC,mk_o1,if_pos rfl,nbC,nb_o1,if_pos rfl,made_o1];rfl
theorem Yo {es:Al} {cs:List Ch} {bi:Bi} {nd:Ino} (hb:bchk bi=0) (h1:(vget es cs (nnm bi))=(iencS nd,true)) (h2:ichk nd=0) (h3:nd.kd=1):iget es cs bi=(nd,0)∧ifile es cs bi=(nd,0):=by
 have h4:iget es cs bi=(nd,0):=by
  rw [iget,if_neg (by simp [hb]),h1,if_pos rfl]
  simp [idec_enc h2]
 refine ⟨h4,?_⟩
 unfold ifile
 rw [h4,if_neg (by simp),if_neg (by simp [h3]),if_neg (by simp [h3])]
theorem YQ {es:Al} {cs:List Ch} {n:Nm} {v:ByteArray} (hn:nchk n=0):vget es (cs++[⟨n,v,false⟩]) n=(v,true):=by
 unfold vget
 rw [if_neg (by simp [hn]),YT,if_pos rfl];rfl
theorem mset_len {α β:Type} [DecidableEq α] (a:α) (v:β):∀m:List (α×β),(mset a v m).length≤m.length+1
 | []=>by simp [mset]
 | (b,u)::m=>by
  unfold mset
  split
  ·simp
  ·have:=mset_len a v m
   simp only [List.length_cons];omega
theorem VC (cs:List Ch):(lastL cs).length≤cs.length:=by
 refine Xs (P:=fun cs=>(lastL cs).length≤cs.length) (by simp [lastL,lastG]) (fun l a ih=>?_) cs
 rw [Xr]
 have:=mset_len a.nm l.length (lastL l)
 simp only [List.length_append,List.length_singleton];omega
theorem pts_100:pts 0 100=[⟨0,0,64⟩,⟨1,0,36⟩]:=by
 rw [pts,if_pos (by decide),pts,if_pos (by decide),pts,if_neg (by decide)]
 rfl
theorem pts_64:pts 64 128=[⟨1,0,64⟩]:=by
 rw [pts,if_pos (by decide),pts,if_neg (by decide)]
 rfl
theorem zeros_ok (n:Nat) (hn:n≤100000):Enters 52∧Spec prog 52 #[.int .i64 (n:Int)] [] [] (RetV (.string (zer n))):=by
 have hm:(if (n:Int)<0 then (0:Int) else (n:Int))=(n:Int):=by rw [if_neg (by omega)]
 refine ZM [_] func52 ntmps52 fun G w hp=>?_
 repeat' (first|refine ZE ?_|refine ZD ?_|refine ZL ?_|refine ZF ?_|refine ZS ?_|refine ZO ?_|refine ZV ?_|refine ZR (fun b=>?_)|refine ZX (fun b=>?_)|refine ZH ?_|refine ZB ?_|refine ZW ?_|rw [hm]|refine l_mks bf (0:UInt8) n 1 (by omega) (by omega) (fun b6=>?_)|(refine ZJ (fun hc=>?_) (fun hc=>?_)<;>(try simp at hc))|(refine ZG (fun hc=>?_) (fun hc=>?_)<;>(try simp at hc)))
 refine l_by (T:=5) (b:=b6) (cs:=((List.replicate n (0:UInt8)).flatMap bf).toArray) (Lb:=List.replicate n 0) (by rw [Xw]) ?_
 refine l_b2sB (m:=n) (Lb:=List.replicate n 0) ?_ (by simp)
 repeat' (first|refine ZE ?_|refine ZD ?_|refine ZL ?_|refine ZF ?_|refine ZS ?_|refine ZO ?_|refine ZV ?_|refine ZR (fun b=>?_)|refine ZX (fun b=>?_)|refine ZH ?_|refine ZB ?_|refine ZW ?_|(refine ZJ (fun hc=>?_) (fun hc=>?_)<;>(try simp at hc))|(refine ZG (fun hc=>?_) (fun hc=>?_)<;>(try simp at hc)))
 exact ZK () rfl trivial
theorem Wg {c:Ch} (h1:nchk c.nm=0) (h2:c.val.size≤65536) (h3:c.abs=false) (h4:c.nm.owner.size≤1000) (h5:c.nm.text.size≤1000):FitC c:=⟨h1,h2,h3,by omega,by omega⟩
theorem WB {es:Al} {cs:List Ch} {bi:Bi} {f:Nat} {s:ByteArray} {p:Pp} (h:p.fr+(p.to - p.fr)≤64):(wnew es cs bi f s p).length=64:=by
 unfold wnew
 split
 ·rw [Vt (by rw [Ya];exact h),Ya]
 ·rw [Vt (by simp;exact h)];simp
theorem eqBi (b:Bi):eqC eqS 20 68 b.v b.v=some true:=by
 rw [show eqC eqS 20 68 b.v b.v=some ((b.mkr.toList == b.mkr.toList) && ((b.nu == b.nu) && true)) from rfl]
 simp
def ks27 (rs:List (Nm×Ch)):List Ch:=(iwQ [] rs kc27 b0 0 (zer 100)).2++iwN [] kc27 b0 0 (zer 100)
theorem if27:iget [] kc27 b0=(nd0 0,0)∧ifile [] kc27 b0=(nd0 0,0):=Yo Yy (YQ (cs:=[⟨cnm o1,cvs ⟨1,0,0⟩,false⟩]) (Zx Yy)) (nd0_chk (by decide)) rfl
theorem ks27_eq (rs:List (Nm×Ch)):∃x y:ByteArray,x.size=64∧y.size=64∧ks27 rs=[⟨cnm o1,cvs ⟨1,0,0⟩,false⟩,⟨nnm b0,iencS (nd0 0),false⟩,⟨bnm b0 0,x,false⟩,⟨bnm b0 1,y,false⟩]++[⟨nnm b0,iencS (nd0 100),false⟩]:=by
 have hm:min (zer 100).size (4096 - 0)=100:=by rw [Yd];decide
 have h1:iwN [] kc27 b0 0 (zer 100)=[⟨nnm b0,iencS (nd0 100),false⟩]:=by
  unfold iwN
  rw [hm,if27.2,if_pos (by decide)];rfl
 have h2:∃x y:ByteArray,x.size=64∧y.size=64∧(iwQ [] rs kc27 b0 0 (zer 100)).2=kc27++[⟨bnm b0 0,x,false⟩]++[⟨bnm b0 1,y,false⟩]:=by
  unfold iwQ
  rw [hm,show (0:Nat)+100=100 from rfl,pts_100]
  refine ⟨_,_,?_,?_,rfl⟩
  ·show (List.toArray _).size=64
   rw [List.size_toArray,WB (by decide)]
  ·show (List.toArray _).size=64
   rw [List.size_toArray,WB (by decide)]
 obtain ⟨x,y,hx,hy,h3⟩:=h2
 exact ⟨x,y,hx,hy,by rw [ks27,h1,h3];rfl⟩
theorem ks27_fit (rs:List (Nm×Ch)):∀c ∈ ks27 rs,FitC c:=by
 obtain ⟨x,y,hx,hy,h⟩:=ks27_eq rs
 have c1:(cvs ⟨1,0,0⟩).size≤30:=W2 ⟨by decide,by decide,by decide,by decide,by decide,by decide⟩
 have c2:=Zw (nd0 0)
 have c3:=Zw (nd0 100)
 rw [h]
 intro c hc
 have ho:o1.size≤1000:=by decide
 simp only [List.cons_append,List.nil_append,List.mem_cons,List.not_mem_nil,or_false] at hc
 rcases hc with rfl|rfl|rfl|rfl|rfl
 ·exact Wg (Wb Vn) (by dsimp only;omega) rfl ho (by decide)
 ·exact Wg (Zx Yy) (by dsimp only;omega) rfl ho (by decide)
 ·exact Wg (YJ Yy (by decide)) (by dsimp only;omega) rfl ho (Nat.zero_le _)
 ·exact Wg (YJ Yy (by decide)) (by dsimp only;omega) rfl ho (Nat.zero_le _)
 ·exact Wg (Zx Yy) (by dsimp only;omega) rfl ho (by decide)
theorem ks27_len (rs:List (Nm×Ch)):(lastL (ks27 rs)).length≤12:=by
 obtain ⟨x,y,hx,hy,h⟩:=ks27_eq rs
 refine Nat.le_trans (VC _) ?_
 rw [h];simp
theorem get27 (rs:List (Nm×Ch)):vget (applyE [] (vwr (ks27 rs))) [] (nnm b0)=(iencS (nd0 100),true):=by
 have h1:getO (nnm b0) (applyE [] (vwr (ks27 rs)))=some (iencS (nd0 100)):=by
  rw [Wo]
  obtain ⟨x,y,hx,hy,h⟩:=ks27_eq rs
  rw [h,YT,if_pos rfl]
 unfold vget
 rw [if_neg (by simp [Zx Yy])]
 show ((getO (nnm b0) (applyE [] (vwr (ks27 rs)))).getD ⟨#[]⟩,(getO (nnm b0) (applyE [] (vwr (ks27 rs)))).isSome)=_
 rw [h1];rfl
theorem second27 (es:Al) (hes:vget es [] (nnm b0)=(iencS (nd0 100),true)):∃(c:Ch) (x:ByteArray),c.nm=nnm b0∧x.size=64∧iwQ es [] [] b0 64 (zer 64)=([(nnm b0,c)],[⟨bnm b0 1,x,false⟩])∧iwN es [] b0 64 (zer 64)=[⟨nnm b0,iencS (nd0 128),false⟩]∧ifile es [] b0=(nd0 100,0):=by
 have hf:=Yo Yy hes (nd0_chk (by decide)) rfl
 have hm:min (zer 64).size (4096 - 64)=64:=by rw [Yd];decide
 have hR:∃c:Ch,c.nm=nnm b0∧igetR es [] [] b0=[(nnm b0,c)]:=by
  rw [igetR,if_neg (by simp [Yy]),vread,if_neg (by simp [Zx Yy])]
  exact ⟨_,rfl,rfl⟩
 obtain ⟨c,hc,hR⟩:=hR
 refine ⟨c,⟨(wnew es [] b0 64 (zer 64) ⟨1,0,64⟩).toArray⟩,hc,?_,?_,?_,hf.2⟩
 ·show (List.toArray _).size=64
  rw [List.size_toArray,WB (by decide)]
 ·unfold iwQ
  rw [hm,show (64:Nat)+64=128 from rfl,pts_64,hR]
  rfl
 ·unfold iwN
  rw [hm,hf.2,if_pos (by decide)];rfl
set_option maxHeartbeats 4000000 in
theorem known27_ok:Enters 15∧Spec prog 15 #[] [Usg] [] (RetV (.bool true)):=by
 have ho:o1.size≤1000:=by decide
 have z1:∀n:Nm,(vget [] [] n).1.size≤1099511627776:=fun n=>by rw [Xn];exact Nat.zero_le _
 have n1:=fun b ps=>make_ok b (some ⟨ps,0,none⟩) [] [] [] o1 (nd0 0) (by omega) (z1 _) (by simp)
 rw [mk_o1,mkC_o1] at n1
 have n2:=zeros_ok 100 (by omega)
 have hv1:(vget [] kc27 (nnm b0)).1.size≤1099511627776:=by
  rw [show kc27=[⟨cnm o1,cvs ⟨1,0,0⟩,false⟩]++[⟨nnm b0,iencS (nd0 0),false⟩] from rfl,YQ (Zx Yy)]
  have:=Zw (nd0 0)
  dsimp only;omega
 have n3:=fun b ps rs=>write_ok b (some ⟨ps,0,none⟩) [] rs kc27 b0 0 (zer 100) (by show o1.size≤_;omega) hv1 (by rw [Yd];omega) (by decide) (by rw [if27.2]) (by omega) (by omega)
 rw [show min (zer 100).size (4096 - 0)=100 by rw [Yd];decide] at n3
 have n4:=fun b ps rs rs'=>vwAfter_ok b ps [] rs' (ks27 rs) (Nat.le_trans (ks27_len rs) (by decide)) (ks27_fit rs) (by simp)
 have n5:=zeros_ok 64 (by omega)
 obtain ⟨c,x,hc,hx,hQ,hN,hF⟩:=second27 (applyE [] (vwr (ks27 (mkR [] [] [] o1 (nd0 0))))) (get27 _)
 have hg:=get27 (mkR [] [] [] o1 (nd0 0))
 have hFit:FitC ⟨nnm b0,iencS (nd0 128),false⟩:=Wg (Zx Yy) (by have:=Zw (nd0 128);dsimp only;omega) rfl ho (by decide)
 generalize hes:applyE [] (vwr (ks27 (mkR [] [] [] o1 (nd0 0))))=es2 at *
 have hv2:(vget es2 [] (nnm b0)).1.size≤1099511627776:=by rw [hg];have:=Zw (nd0 100);dsimp only;omega
 have n6:=fun b ps=>write_ok b (some ⟨ps,0,none⟩) es2 [] [] b0 64 (zer 64) (by show o1.size≤_;omega) hv2 (by rw [Yd];omega) (by decide) (by rw [hF]) (by omega) (by omega)
 simp only [hQ,hN] at n6
 rw [show min (zer 64).size (4096 - 64)=64 by rw [Yd];decide] at n6
 have hl4:vget es2 ([⟨bnm b0 1,x,false⟩]++[⟨nnm b0,iencS (nd0 128),false⟩]) (nnm b0)=(iencS (nd0 128),true):=YQ (Zx Yy)
 have hi4:=Yo Yy hl4 (nd0_chk (by decide)) rfl
 have n7:=fun b ps=>UJ b (some ⟨ps,0,none⟩) es2 [(nnm b0,c)] ([⟨bnm b0 1,x,false⟩]++[⟨nnm b0,iencS (nd0 128),false⟩]) b0 (by show o1.size≤_;omega) (by rw [hl4];have:=Zw (nd0 128);dsimp only;omega)
 have hr4:igetR es2 [(nnm b0,c)] ([⟨bnm b0 1,x,false⟩]++[⟨nnm b0,iencS (nd0 128),false⟩]) b0=[(nnm b0,c)]:=by
  rw [igetR,if_neg (by simp [Yy]),vread,if_neg (by simp [Zx Yy]),YT,if_pos rfl]
 simp only [hi4.1,hr4] at n7
 have hrd:RdOK [(nnm b0,c)]:=⟨by simp,by simp [hc],by intro p hp;simp at hp;subst hp;show o1.size≤_;omega⟩
 have n8:=fun b ps=>vwReads_ok b (some ⟨ps,0,none⟩) [(nnm b0,c)] ([⟨bnm b0 1,x,false⟩]++[⟨nnm b0,iencS (nd0 128),false⟩]) hrd (by simp)
 have hvl:(vrd [(nnm b0,c)]).length=1:=by rw [vrd_len];rfl
 have hla:(lastL ([⟨bnm b0 1,x,false⟩]++[⟨nnm b0,iencS (nd0 128),false⟩])).length=2:=by
  have hne:nnm b0≠bnm b0 1:=by simp [nnm,bnm]
  rw [Xr]
  show (mset (nnm b0) 1 [(bnm b0 1,0)]).length=2
  simp [mset,hne]
 have n9:=fun b ps=>Ue b (some ⟨ps,0,none⟩) [(nnm b0,c)] ([⟨bnm b0 1,x,false⟩]++[⟨nnm b0,iencS (nd0 128),false⟩]) (by rw [hla];decide) (fun y hy=>by
  simp only [List.cons_append,List.nil_append,List.mem_cons,List.not_mem_nil,or_false] at hy
  rcases hy with rfl|rfl<;>(show o1.size≤_;omega))
 have hwl:(vwr ([⟨bnm b0 1,x,false⟩]++[⟨nnm b0,iencS (nd0 128),false⟩])).length=2:=by rw [Wm,hla]
 unfold WrPost at n9
 simp only [hvl] at n8
 simp only [hwl] at n9
 refine ZM [] func15 ntmps15 fun G w hp=>?_
 repeat' (first|refine l_seq (b:=true) ?_ (he:=eqBi _)|refine ZE ?_|refine ZD ?_|refine ZL ?_|refine ZF ?_|refine ZS ?_|refine ZO ?_|refine ZV ?_|refine ZR (fun b=>?_)|refine ZX (fun b=>?_)|refine ZH ?_|refine ZB ?_|refine ZW ?_|refine ZT ?_|refine ZZ ?_|refine Zf ?_|refine Za ?_|refine Zd ?_|refine Zj (fun b=>?_)|refine Zm (fun b=>?_)|refine Zk ?_|refine ZU ?_|refine ZC (X6) (fun _ _=>?_)|refine l_call0 (X6) (fun _ _=>?_)|refine ZN (X6) (fun _ _=>?_)|refine ZC (XM _) (fun _ _=>?_)|refine l_call0 (XM _) (fun _ _=>?_)|refine ZN (XM _) (fun _ _=>?_)|refine ZC (n1 _ _) (fun _ _=>?_)|refine l_call0 (n1 _ _) (fun _ _=>?_)|refine ZN (n1 _ _) (fun _ _=>?_)|refine ZC (n2) (fun _ _=>?_)|refine l_call0 (n2) (fun _ _=>?_)|refine ZN (n2) (fun _ _=>?_)|refine ZC (n3 _ _ _) (fun _ _=>?_)|refine l_call0 (n3 _ _ _) (fun _ _=>?_)|refine ZN (n3 _ _ _) (fun _ _=>?_)|refine ZC (n4 _ _ _ _) (fun _ _=>?_)|refine l_call0 (n4 _ _ _ _) (fun _ _=>?_)|refine ZN (n4 _ _ _ _) (fun _ _=>?_)|refine ZC (n5) (fun _ _=>?_)|refine l_call0 (n5) (fun _ _=>?_)|refine ZN (n5) (fun _ _=>?_)|refine ZC (n6 _ _) (fun _ _=>?_)|refine l_call0 (n6 _ _) (fun _ _=>?_)|refine ZN (n6 _ _) (fun _ _=>?_)|refine ZC (n7 _ _) (fun _ _=>?_)|refine l_call0 (n7 _ _) (fun _ _=>?_)|refine ZN (n7 _ _) (fun _ _=>?_)|refine ZC (n8 _ _) (fun _ _=>?_)|refine l_call0 (n8 _ _) (fun _ _=>?_)|refine ZN (n8 _ _) (fun _ _=>?_)|refine ZC (n9 _ _) (fun _ _=>?_)|refine l_call0 (n9 _ _) (fun _ _=>?_)|refine ZN (n9 _ _) (fun _ _=>?_)|rw [hes]|(refine ZJ (fun hc=>?_) (fun hc=>?_)<;>(try simp at hc)<;>(try omega))|(refine ZP (fun hc=>?_) (fun hc=>?_)<;>(try simp at hc)<;>(try omega))|refine ZA 3 [Vw _ _ _ _] [(0,0),(1,0),(2,4),(3,4),(4,0),(5,0),(6,0),(7,0),(8,0)] [] ?_|refine ZA 6 [Vw _ _ _ _] [(0,0),(1,0),(2,4),(3,4),(4,0),(5,0),(6,0),(7,0),(8,0)] [] ?_|(refine ZG (fun hc=>?_) (fun hc=>?_)<;>(try simp at hc)<;>(try omega)))
 refine ZK () ?_ trivial
 simp [RetV,resV,nd0]
section
def mk2:ByteArray:=⟨#[50,46,51]⟩
def mk3:ByteArray:=⟨#[]⟩
def Zg (k:Nat):ByteArray:=if k=0 then o1 else if k=1 then mk2 else mk3
theorem YO (k:Nat):lvalid (Zg k).data.toList=true:=by
 unfold Zg
 split
 ·exact Vn
 ·split
  ·have h:=(VB [50,46,51] 0 0 (by simp)).2.2.2
   rw [show ffirst (([50,46,51]:List UInt8).drop 0) 0 0=(⟨2,0,0⟩,1) from rfl] at h
   have h2:=(VB [50,46,51] 2 1 (by simp)).2.2.2
   rw [show ffirst (([50,46,51]:List UInt8).drop 2) 2 1=(⟨3,2,0⟩,3) from rfl] at h2
   simp at h h2
   simp [mk2,lvalid,lparts,h,h2]
  ·simp [mk3,lvalid,lparts]
theorem XD (k:Nat):(Zg k).size≤3:=by
 unfold Zg
 split
 ·decide
 ·split<;>decide
theorem V4 {j k:Nat} (hj:j<3) (hk:k<3) (h:Zg j=Zg k):j=k:=by
 have h12:o1≠mk2:=by decide
 have h13:o1≠mk3:=by decide
 have h23:mk2≠mk3:=by decide
 have e0:Zg 0=o1:=rfl
 have e1:Zg 1=mk2:=rfl
 have e2:Zg 2=mk3:=rfl
 match j,k,hj,hk with
 | 0,0,_,_=>rfl
 | 0,1,_,_=>exact absurd h h12
 | 0,2,_,_=>exact absurd h h13
 | 1,0,_,_=>exact absurd h.symm h12
 | 1,1,_,_=>rfl
 | 1,2,_,_=>exact absurd h h23
 | 2,0,_,_=>exact absurd h.symm h13
 | 2,1,_,_=>exact absurd h.symm h23
 | 2,2,_,_=>rfl
def ndF:Ino:=⟨1,0,0,0,0,0,⟨#[]⟩⟩
structure BI (i:Nat) (cs:List Ch) (ns:List Int) (m:List (Bi×Bool)):Prop where
 len:ns.length=3
 cl:cs.length≤2 * i
 g:∀(k:Nat) (z:Int),ns[k]? = some z→0≤z∧z≤(i:Int)∧vget [] cs (cnm (Zg k))=if z=0 then (⟨#[]⟩,false) else (cvs ⟨z,0,0⟩,true)
 s:∀(b:Bi) (u:Bool),mget b m=some u→∃(k:Nat) (z:Int),ns[k]? = some z∧b.mkr=Zg k∧b.nu<z
theorem BI.init:BI 0 [] [0,0,0] []:=by
 refine ⟨rfl,by simp,fun k z h=>?_,fun b u h=>by cases h⟩
 have hz:z=0:=by
  match k,h with
  | 0,h=>exact (Option.some.inj h).symm
  | 1,h=>exact (Option.some.inj h).symm
  | 2,h=>exact (Option.some.inj h).symm
  | k+3,h=>cases h
 subst hz
 refine ⟨by omega,by omega,?_⟩
 rw [if_pos rfl,Xn]
variable {cs:List Ch} {ns:List Int} {m:List (Bi×Bool)} {k:Nat} {z:Int}
theorem ct_ok {z:Int} (h0:0≤z) (h1:z≤1048576):CtOK ⟨z,0,0⟩:=⟨h0,h1,Int.le_refl 0,by show (0:Int)≤1048576;decide,Int.le_refl 0,by show (0:Int)≤1048576;decide⟩
theorem BI.made (h:BI i cs ns m) (hi:i≤1000) (hk:ns[k]? = some z):(vget [] cs (cnm (Zg k))).1.size≤1099511627776∧madeE [] cs (Zg k)=(⟨z,0,0⟩,0):=by
 obtain ⟨h1,h2,h3⟩:=h.g k z hk
 have hc:=ct_ok h1 (by omega)
 rw [madeE,if_pos (YO k),h3]
 by_cases h0:z=0
 ·subst h0
  rw [if_pos rfl]
  exact ⟨Nat.zero_le _,rfl⟩
 ·rw [if_neg h0]
  refine ⟨Nat.le_trans (W2 hc) (by omega),?_⟩
  simp only [if_true,enc_cdec hc]
  rfl
theorem BI.step {nd:Ino} (hnd:ichk nd=0) (hns:nd.sz=0) (h:BI i cs ns m) (hi:i≤1000) (hk:ns[k]? = some z):mkE [] cs (Zg k) nd=(⟨Zg k,z⟩,0)∧mkC [] cs (Zg k) nd=cs++[⟨cnm (Zg k),cvs ⟨z+1,0,0⟩,false⟩]++[⟨nnm ⟨Zg k,z⟩,iencS nd,false⟩]:=by
 obtain ⟨h1,h2,h3⟩:=h.g k z hk
 have hm:=(h.made hi hk).2
 have hn:nbE [] cs (Zg k)=(⟨Zg k,z⟩,0):=by
  unfold nbE
  rw [hm,if_neg (by simp),if_neg (by dsimp only;omega)]
 have he:mkE [] cs (Zg k) nd=(⟨Zg k,z⟩,0):=by rw [mkE,if_neg (by simp [hnd]),if_neg (by simp [hns]),hn]
 refine ⟨he,?_⟩
 rw [mkC,he,if_pos rfl,nbC,hn,if_pos rfl,hm]
theorem BI.fresh (h:BI i cs ns m) (hk:ns[k]? = some z) (hk3:k<3):mget ⟨Zg k,z⟩ m=none:=by
 cases hg:mget (⟨Zg k,z⟩:Bi) m with
 | none=>rfl
 | some u=>
  obtain ⟨j,y,hj,h1,h2⟩:=h.s _ _ hg
  have hj3:j<3:=by rw [←h.len];exact (List.getElem?_eq_some_iff.1 hj).1
  obtain rfl:=V4 hk3 hj3 h1
  obtain rfl:=Option.some.inj (hk.symm.trans hj)
  exact absurd h2 (Int.lt_irrefl _)
theorem BI.next {nd:Ino} (hnd:ichk nd=0) (hns:nd.sz=0) (h:BI i cs ns m) (hi:i≤1000) (hk:ns[k]? = some z) (hk3:k<3) (u:Bool):BI (i+1) (mkC [] cs (Zg k) nd) (ns.set k (z+1)) (mset ⟨Zg k,z⟩ u m):=by
 obtain ⟨h1,h2,h3⟩:=h.g k z hk
 have hkl:k<ns.length:=by rw [h.len];exact hk3
 refine ⟨by simp [h.len],?_,fun j y hj=>?_,fun b v hb=>?_⟩
 ·rw [(BI.step hnd hns h hi hk).2]
  have:=h.cl
  simp;omega
 ·rw [(BI.step hnd hns h hi hk).2]
  have hj3:j<3:=by
   have:=(List.getElem?_eq_some_iff.1 hj).1
   rw [List.length_set,h.len] at this;exact this
  have hne:nnm ⟨Zg k,z⟩≠cnm (Zg j):=by simp [nnm,cnm]
  have hv:vget [] (cs++[⟨cnm (Zg k),cvs ⟨z+1,0,0⟩,false⟩]++[⟨nnm ⟨Zg k,z⟩,iencS nd,false⟩]) (cnm (Zg j))=vget [] (cs++[⟨cnm (Zg k),cvs ⟨z+1,0,0⟩,false⟩]) (cnm (Zg j)):=by
   unfold vget
   rw [YT,if_neg hne]
  rw [hv]
  by_cases hjk:k=j
  ·subst hjk
   rw [List.getElem?_set_self hkl] at hj
   obtain rfl:=Option.some.inj hj
   refine ⟨by omega,by omega,?_⟩
   rw [YQ (Wb (YO k)),if_neg (by omega)]
  ·rw [List.getElem?_set_ne hjk] at hj
   obtain ⟨g1,g2,g3⟩:=h.g j y hj
   refine ⟨g1,by omega,?_⟩
   rw [←g3]
   have hne2:cnm (Zg k)≠cnm (Zg j):=fun e=>hjk (V4 hk3 hj3 (by simpa [cnm] using e))
   unfold vget
   rw [YT,if_neg hne2]
 ·rw [US] at hb
  split at hb
  ·rename_i e
   subst e
   exact ⟨k,z+1,List.getElem?_set_self hkl,rfl,by show z<z+1;omega⟩
  ·obtain ⟨j,y,hj,g1,g2⟩:=h.s b v hb
   by_cases hjk:k=j
   ·subst hjk
    obtain rfl:=Option.some.inj (hk.symm.trans hj)
    exact ⟨k,z+1,List.getElem?_set_self hkl,g1,by omega⟩
   ·exact ⟨j,y,by rw [List.getElem?_set_ne hjk];exact hj,g1,g2⟩
end
set_option maxHeartbeats 4000000 in
theorem Xp (n:Ino):Enters 68∧Spec prog 68 #[n.v] [] [] (RetV (.int .i64 (ichk n))):=by
 have hsz:n.tg.data.toList.length=n.tg.size:=by simp
 generalize hr:ichk n=r
 unfold ichk ifit tchk at hr
 have h3i:(¬((n.kd≠1∧n.sz≠0)∨(n.kd≠3∧isE n.tg=false)))↔(n.kd=1∨n.sz=0)∧(n.kd=3∨isE n.tg=true):=by
  cases isE n.tg<;>simp<;>omega
 refine ZM [_] func68 ntmps68 fun G w hp=>?_
 repeat' (first|refine ZE ?_|refine ZD ?_|refine ZL ?_|refine ZF ?_|refine ZS ?_|refine ZO ?_|refine ZV ?_|refine ZR (fun b=>?_)|refine ZX (fun b=>?_)|refine ZH ?_|refine ZB ?_|refine ZW ?_|(refine ZJ (fun hc=>?_) (fun hc=>?_)<;>(try simp at hc)<;>(try omega))|(refine ZG (fun hc=>?_) (fun hc=>?_)<;>(try simp at hc)<;>(try omega)))
 all_goals try (
  refine ZK () ?_ trivial
  refine congrArg (Value.int .i64) ?_
  first
  | (rw [←hr,if_pos (by omega)];done)
  | (rw [←hr,if_neg (by omega),if_pos (by omega)];done)
  | (rw [←hr,if_neg (by omega),if_neg (by omega),if_pos (.inl ⟨by omega,by omega⟩)];done)
  | (rw [←hr,if_neg (by omega),if_neg (by omega),if_pos (.inr ⟨by omega,by simpa [isE] using hc⟩)];done)
  | (rw [←hr,if_neg (by omega),if_neg (by omega),if_neg (by rintro (⟨h1,h2⟩|⟨h1,h2⟩)<;>first|omega|(simp [isE] at h2;simp_all)),if_pos (by omega)];done)
  | (rw [←hr,if_neg (by omega),if_neg (by omega),if_neg (by rintro (⟨h1,h2⟩|⟨h1,h2⟩)<;>first|omega|(simp [isE] at h2;simp_all)),if_neg (by omega),if_pos (by simpa [isE] using hc)];done)
  | (rw [←hr,if_neg (by omega),if_neg (by omega),if_neg (by rintro (⟨h1,h2⟩|⟨h1,h2⟩)<;>first|omega|(simp [isE] at h2;simp_all)),if_neg (by omega),if_neg (by simp_all [isE]),if_pos (by omega)];done))
 rename_i h1 h2 h3 h4
 have h4:isE n.tg=false:=by simpa [isE] using h4
 rw [if_neg (by omega),if_neg (by omega),if_neg (by rintro (⟨h1,h2⟩|⟨h1,h2⟩)<;>omega),if_neg (by omega),if_neg (by simp [h4]),if_neg (by omega)] at hr
 refine Z8 (X:={i:Nat // i≤n.tg.size∧∀j,j<i→∀c,n.tg.data.toList[j]? = some c→badt c=false}) (fun i=>[(1,.pointer (some ⟨b,0,none⟩)),(3,.int .i64 (i.1:Int))]) (fun _=>[]) (fun _=>[Pt b (.cells (inf n).toArray 64)]) (fun i=>n.tg.size - i.1) ⟨0,by omega,fun j hj=>by omega⟩ ⟨rfl,rfl,trivial⟩ ?_
 rintro ⟨i,hi1,hi2⟩
 dsimp only
 by_cases hlt:i<n.tg.data.toList.length
 ·obtain ⟨c,hcc⟩:∃c,n.tg.data.toList[i]? = some c:=⟨_,List.getElem?_eq_getElem hlt⟩
  have bad:badt c=true→r=6:=fun hb=>by
   rw [←hr,if_pos]
   rw [List.any_eq_true]
   exact ⟨c,List.mem_of_getElem? hcc,hb⟩
  repeat' (first|refine ZE ?_|refine ZD ?_|refine ZL ?_|refine ZF ?_|refine ZS ?_|refine ZO ?_|refine ZV ?_|refine ZR (fun b=>?_)|refine ZX (fun b=>?_)|refine ZH ?_|refine ZB ?_|refine l_six (s:=n.tg) i c hcc ?_|(refine ZJ (fun hc=>?_) (fun hc=>?_)<;>(try simp at hc)<;>(try omega))|(refine ZG (fun hc=>?_) (fun hc=>?_)<;>(try simp at hc)<;>(try omega)))
  all_goals try (
   have e:=bad (by simp [badt];omega)
   exact Ym (Yx (w_rv (congrArg (Value.int .i64) e) (YD () rfl trivial))))
  rw [wrapi (z:=(i:Int)+1) (by omega) (by omega)]
  refine Zb ⟨i+1,by omega,fun j hj c' hc'=>?_⟩ (by show n.tg.size - (i+1)<n.tg.size - i;omega) ⟨rfl,rfl,trivial⟩
  by_cases hij:j=i
  ·subst hij
   obtain rfl:=Option.some.inj (hcc.symm.trans hc')
   simp [badt];omega
  ·exact hi2 j (by omega) c' hc'
 ·have e:¬(n.tg.data.toList.any badt=true):=by
   rw [List.any_eq_true]
   rintro ⟨c,hc,hb⟩
   obtain ⟨j,hj,rfl⟩:=List.mem_iff_getElem.1 hc
   rw [hi2 j (by omega) _ (List.getElem?_eq_getElem hj)] at hb
   cases hb
  rw [if_neg e] at hr
  subst hr
  repeat' (first|refine ZE ?_|refine ZD ?_|refine ZL ?_|refine ZF ?_|refine ZS ?_|refine ZO ?_|refine ZV ?_|refine ZR (fun b=>?_)|refine ZX (fun b=>?_)|refine ZH ?_|refine ZB ?_|refine ZW ?_|(refine ZJ (fun hc=>?_) (fun hc=>?_)<;>(try simp at hc)<;>(try omega))|(refine ZG (fun hc=>?_) (fun hc=>?_)<;>(try simp at hc)<;>(try omega)))
  exact ZK () rfl trivial
def En.w (e:En):Value:=.agg #[.string e.who,.int .i64 e.nu,.int .i64 e.tk,.int .i64 e.o.ch,.string e.o.tg,.string e.o.tx,.int .i64 e.o.us]
structure Idn where
 who:ByteArray
 nu:Int
 tk:Int
 deriving DecidableEq
def Idn.v (i:Idn):Value:=.agg #[.string i.who,.int .i64 i.nu,.int .i64 i.tk]
def En.id (e:En):Idn:=⟨e.who,e.nu,e.tk⟩
theorem beqSw (a b:ByteArray):(a.toList == b.toList)=decide (a=b):=by
 rw [Z0,Z0,Bool.eq_iff_iff]
 simp only [beq_iff_eq,decide_eq_true_eq]
 exact ⟨fun h=>Wj h,fun h=>by rw [h]⟩
theorem beqIw (a b:Int):(a == b)=decide (a=b):=by rw [Bool.eq_iff_iff];simp
def cmpT (a b:En):Int:=cmpI a.tk b.tk
section
variable {n:Nat} {C:Cx} {Q:Exit→Act→World→Prop} {E E':List (Nat×Value)} {F F' F1 Fs F0:List Pf} {R R' R0 Rs N N' A:List HP} {k k':List Fr} {ops l:List Oper} {L L':List (Nat×Nat)} {Tl:List Nat} {i d:Nat} {t ty0:TypeId} {x y z:Operand} {pos:String} {aft:Array Edge} {gd:Option (Nat×Bool)} {α β:Type} [DecidableEq α] {K:α→Value} {V:β→Value}
theorem r_mgetF {kt et r:Nat} {rs te:TRow} {m:List (α×β)} {zv:Value} (hk:KeyOK kt K) (a:α) (o:Option β) (ho:mget a m=o) (nx:Wr n C ops k Q Tl Fs R L ((d,(o.map V).getD zv)::E) F N)
  (hop:nth ops i=some ⟨some d,.lookup t x y false,ty0,pos,aft,gd⟩:=by rfl) (hw:wantL ops E ⟨some d,.lookup t x y false,ty0,pos,aft,gd⟩=some true:=by rfl)
  (hx:ev E x=some (.map (some r)):=by rfl) (hy:ev E y=some (K a):=by rfl) (hts:lookT tab t=some rs:=by rfl) (hrs:rs.k = .map kt et:=by rfl) (hte:lookT tab et=some te:=by rfl) (hzv:zval te=some zv:=by rfl)
  (hs:Sel (Mp K V r m) R R0:=by (repeat (first|exact Sel.here|apply Sel.there));first|done|fail):Wr n C ops k Q Tl Fs R ((i,0)::L) E F N:=
 Ye hop fun hp hr w st hz sb=>by
  simp only [Zt hw]
  refine ⟨(o.map V).getD zv,fun ac w ha hin=>?_,nx hp hr w st hz sb⟩
  obtain ⟨h1,h2,_,s1,_,hmp,_⟩:=hs.sep st.r
  obtain ⟨es,clock,hes,he,hB⟩:=hmp
  have hb:w.heap[r]? = some (.map es clock):=hin _ _ (sb _ _ (Zh _ _ _ _ (s1 _ _ hes)))
  have hu:=WK (w:=w) hts hrs
  have hg:(getObj r).run prog w = .ok (.map es clock) w:=by simp [getObj,Sem.run,hb]
  have hc:=hk.chk a es.isEmpty w
  have hf:=Wf hk a es.toList m w he
  have hz0:=zval_ok hte hzv w
  have hfg:=VI a m 0
  simp only [execOp,ha.ev (x:=x) (by rw [ZQ];exact hx),ha.ev (x:=y) (by rw [ZQ];exact hy),Instr.lookup,Sem.run_bind,hu,Result.andThen,hg,hc,hf,Sem.run_pure]
  cases hm:mfind a m 0 with
  | none=>
   rw [hm] at hfg
   simp only [Option.map_none,Sem.run_bind,hz0,Result.andThen,Sem.run_pure,Bool.false_eq_true,if_false]
   rw [←ho,←hfg];rfl
  | some q=>
   rw [hm] at hfg
   simp only [Option.map_some,Bool.false_eq_true,if_false]
   rw [←ho,←hfg];rfl
end
theorem eqBi2 (a b:Bi):eqC eqS 20 68 a.v b.v=some (decide (a=b)):=by
 rw [show eqC eqS 20 68 a.v b.v=some ((a.mkr.toList == b.mkr.toList) && ((a.nu == b.nu) && true)) from rfl]
 congr 1
 obtain ⟨a1,a2⟩:=a
 obtain ⟨b1,b2⟩:=b
 simp only [beqSw,beqIw,Bi.mk.injEq]
 rw [Bool.eq_iff_iff];simp
def blv (u:Bool):Value:=.bool u
def svf (s:ByteArray):List Value:=[.string s]
theorem Xz:Enters 61∧Spec prog 61 #[] [] []
  ⟨Nat,fun b=>.slice (some ⟨b,0,none⟩) 3 3,fun _=>True,fun _=>[],fun b=>[Ax 23 svf b [o1,mk2,mk3] ([],(0,0))]⟩:=by
 refine ZM [] func61 ntmps61 fun G w hp=>?_
 repeat' (first|refine ZE ?_|refine ZD ?_|refine ZL ?_|refine ZF ?_|refine ZS ?_|refine ZO ?_|refine ZV ?_|refine ZR (fun b=>?_)|refine ZX (fun b=>?_)|refine ZH ?_|refine ZB ?_|refine ZW ?_|(refine ZJ (fun hc=>?_) (fun hc=>?_)<;>(try simp at hc))|(refine ZG (fun hc=>?_) (fun hc=>?_)<;>(try simp at hc)))
 exact ZK b rfl trivial
theorem WW {j:Nat} (h:j<3):([o1,mk2,mk3]:List ByteArray)[j]? = some (Zg j):=by
 match j,h with
 | 0,_=>rfl
 | 1,_=>rfl
 | 2,_=>rfl
section
variable {n:Nat} {C:Cx} {Q:Exit→Act→World→Prop} {E E':List (Nat×Value)} {F F' F1 Fs F0:List Pf} {R R' R0 Rs N N' A:List HP} {k k':List Fr} {ops l:List Oper} {L L':List (Nat×Nat)} {Tl:List Nat} {i d:Nat} {t ty0:TypeId} {x y z:Operand} {pos:String} {aft:Array Edge} {gd:Option (Nat×Bool)} {α β:Type} [DecidableEq α] {K:α→Value} {V:β→Value}
theorem r_mkm {kt et:Nat} {rs:TRow} (_hk:KeyOK kt K) (V:β→Value) (nx:∀r,Wr n C ops k Q Tl Fs R L ((d,.map (some r))::E) F (Mp K V r []::N)) (ho:nth ops i=some ⟨some d,.makeMap t none,ty0,pos,aft,gd⟩:=by rfl) (hw:wantL ops E ⟨some d,.makeMap t none,ty0,pos,aft,gd⟩=some true:=by rfl) (_hts:lookT tab t=some rs:=by rfl) (_hrs:rs.k = .map kt et:=by rfl) :
  Wr n C ops k Q Tl Fs R ((i,4)::L) E F N:=
 Ye ho fun hp hr w st hz sb=>by
  simp only [Zt hw]
  refine ⟨⟨Nat,fun r=>.map (some r),fun _=>True,fun _=>F,fun r=>Mp K V r []::N⟩,fun a G w hp' ha hsub hsat=>?_,fun r _=>nx r hp hr w st hz sb⟩
  have h1:=hsat.alloc (.map #[] 0)
  exact ⟨w.heap.size,rfl,trivial,Vl (K:=K) (V:=V) (m:=[]) h1 rfl ⟨by simp,by simp⟩⟩
theorem l_mgetQ {kt et r:Nat} {rs te:TRow} {m:List (α×β)} {zv:Value} (hk:KeyOK kt K) (a:α) (o:Option β) (ho:mget a m=o) (nx:Wl n C ops.toArray k Q l ((d,(o.map V).getD zv)::E) F R) (hw:wantL ops E ⟨some d,.lookup t x y false,ty0,pos,aft,gd⟩=some true:=by rfl) (hn:Nat.blt d n=true:=by rfl)
  (hx:ev E x=some (.map (some r)):=by rfl) (hy:ev E y=some (K a):=by rfl) (hts:lookT tab t=some rs:=by rfl) (hrs:rs.k = .map kt et:=by rfl) (hte:lookT tab et=some te:=by rfl) (hzv:zval te=some zv:=by rfl)
  (hs:Sel (Mp K V r m) R R0:=by (repeat (first|exact Sel.here|apply Sel.there));first|done|fail):Wl n C ops.toArray k Q (⟨some d,.lookup t x y false,ty0,pos,aft,gd⟩::l) E F R:=by
 rw [←ho] at nx
 exact l_mget hk a nx hw hn hx hy hts hrs hte hzv hs
end
def Yl (s:ByteArray):Value:=.string s
theorem beqBA (a b:ByteArray):(a == b)=decide (a=b):=by
 have h:(a == b)=(a.toList == b.toList):=by simp [beq_toListBytes]
 rw [h,beqSv]
theorem key_ln:KeyOK 23 Yl where
 eq a b w:=by
  show (Op.equalIn (9999+1) _ (.string a) (.string b)).run prog w = .ok (decide (a=b)) w
  rw [Op.equalIn]
  simp [run_underlying underlying23,beqBA]
 chk a em w:=by
  show (Instr.checkKey em (9999+1) _ (.string a)).run prog w=_
  rw [Instr.checkKey]
  simp [run_underlying underlying23]
 bits a:=by simp [Yl,Instr.sameBits,beqBA]
 now:=⟨_,underlying23,fun a b=>by simp [Yl,Instr.sameNow,beqBA]⟩
theorem beqIq (a b:Int):(a == b)=decide (a=b):=by rw [Bool.eq_iff_iff];simp
def ziv (z:Int):Value:=.int .i64 z
theorem key_zi:KeyOK 3 ziv where
 eq a b w:=by
  show (Op.equalIn (9999+1) _ (.int .i64 a) (.int .i64 b)).run prog w = .ok (decide (a=b)) w
  rw [Op.equalIn]
  simp [run_underlying underlying3,beqIq]
 chk a em w:=by
  show (Instr.checkKey em (9999+1) _ (.int .i64 a)).run prog w=_
  rw [Instr.checkKey]
  simp [run_underlying underlying3]
 bits a:=by simp [ziv,Instr.sameBits]
 now:=⟨_,underlying3,fun a b=>by simp [ziv,Instr.sameNow,beqIq]⟩
def bcf (b:Bi):List Value:=[.string b.mkr,.int .i64 b.nu]
structure Fl where
 nd:Ino
 ct:ByteArray
 mr:Nat
def flf (f:Fl):List Value:=[.int .i64 f.nd.kd,.int .i64 f.nd.ow,.int .i64 f.nd.gr,.int .i64 f.nd.md,.int .i64 f.nd.sz,.int .i64 f.nd.lk,.string f.nd.tg,.string f.ct,.map (some f.mr)]
abbrev MdL (bm:Nat) (ob of:Option Addr) (cb cf rm:Nat) (bs:List Bi) (fs:List Fl) (m:List (ByteArray×Int)):List HP:=
 [Pt bm (.cells #[.slice ob bs.length cb,.slice of fs.length cf,.map (some rm)] 62),Row 68 2 ob bs.length cb (bs.flatMap bcf),Row 73 9 of fs.length cf (fs.flatMap flf),Mp Yl ziv rm m]
def Mdl (bm:Nat) (bs:List Bi) (m:List (ByteArray×Int)):HP:=fun h=>∃q:Option Addr×Option Addr×Nat×Nat×Nat×List Fl,q.2.2.2.2.2.length≤1000+bs.length∧Sep (MdL bm q.1 q.2.1 q.2.2.1 q.2.2.2.1 q.2.2.2.2.1 bs q.2.2.2.2.2 m) h
end Go.Proofs.YtdkndahndgkmnaaGreatDoor
