/-
  Reversal, sifting down. (replevin/state.Change)
  Sorting by a heap. (replevin/state.Change)
  What a partition keeps while it goes on, without a program.
  Partitions. (replevin/state.Change)
  Insertion that gives up. (replevin/state.Change)
  pdqsort, whole. (replevin/state.Change)
  The contract of slices.SortFunc at replevin/state.Change, for at most 200 elements.
  The contracts of package view: Writes.
  The range over a function whose order is open.
  The contracts of package view: Reads.
  A call may read a block that is set aside while the order is drawn.
  The contract of view's Writes, for a view that is only read.
  The contracts of package view: After, for views whose writes fit.
  The counts of a process: EncodeCounts (for counts that fit), DecodeCounts.
  What is written is read again; no program in sight.
  The counts of a process: EncodeCounts, DecodeCounts, Made, SetMade.
  What a reader accepts is what a writer would have written.
  Contracts of the package inode: nodes; Check, Encode, Decode.
  Texts cut as far as they go.
  Arrays of bytes that are owned: parts of them as slices, copy of a text into one, one as a text.
  Contracts of the package inode: births, Get, file, put, NextBirth, Make, block.
  Contracts of the package process: Check.
  Contracts of the statements' own functions of layer 39: shortO, short, check, put, value, leave, find, encoding.
  Contracts of ledgers: Encode, and the statements' own encoding.
  Contracts of the package process: Encode; what the statements' own value computes.
  Contracts of the package process: Encode of what does not fit; the statements' own value.
  Contracts of the package inode: NextBirth, Make.
  Contracts of the package process: Decode.
  Contracts of the package inode: parts, Write.
  Slices that stay: the beginning of one, and one appended to another.
  A writer that may have failed; Encode of what does not fit.
  Contracts of strings.Builder: copyCheck, Write, String.
  Contracts of the package inode: Read, Contents.
  Contracts of the package inode: Contents, cut, Resize where it succeeds.
  Contracts of the package inode: cut, Resize where it succeeds.
  What insertion does to the names of a kind and to the outputs of a state.
  What a state holds behind a view's changes.
  The example of layer 27, known.
  What a view holds of a file: how Write, Resize and Read see its bytes.
  The contract of output.Send, where it sends.
  What Decode makes of what Encode writes; contracts of the package process over a view: Epoch, Get, running, put.
  Contracts of the package process over a view, where they succeed: Epoch, Get, running, put, Start, Exit, Wait.
  The library's contracts, laid at this program: strconv.Itoa.
  Rules for texts that are joined.
  Contracts of the package process over a view, where they succeed: Fork, Exit, Wait.
  The contract of process.Fork, where it succeeds and nothing of the memory is there.
  A deferred closure that has nothing to recover.
  copy between parts of an owned slice.
  Contracts of cpu.Decode, and of a process's registers over a view.
  Address spaces in memory: the block of a space, and the blocks of its pages.
  Conditions: those that each theorem states.
-/
import Derived.Test.YtgfohjbcccfolaaGreatDoorU2
import Derived.Test.YtgfohjbcccfolaaGreatDoorU1
import Derived.Lib.Builder
import Derived.Lib.UnsafeStr
import Derived.Laws.Externs
import Derived.Shelf.LaysM
import Derived.Shelf.Strconv.Itoa3
import Derived.RecoverIn
set_option maxRecDepth 10000
namespace Go.Proofs.YtgfohjbcccfolaaGreatDoor
open Go.RowKit Go.Proofs.Tryz
section
variable (bk cap:Nat) (q:List Value×(Nat×Nat)) (fv:FuncId) (Fc:Pf) (c:Ch→Ch→Int) (W:Wk0 c) (U:Ch→Prop) (hcmp:∀x y,U x→U y→Enters fv∧Spec prog fv #[x.v,y.v] [Fc] [] (RetV (.int .i64 (c x y))))
theorem revC_ok (l:List Ch) (n:Nat) (hn:n=l.length) (hn2:n≤1000000) (hq:AxOK (n * 7) q) (a b:Nat) (hab:a<b) (hb:b≤n) :
  Enters 181∧Spec prog 181 #[.slice (some ⟨bk,0,none⟩) n cap,.int .i64 (a:Int),.int .i64 (b:Int),.func (.func fv) #[] #[]] [Fc] [Ax 105 chf bk l q]
   ⟨{l':List Ch // Win a b l l'},fun _=>.tuple #[],fun _=>True,fun _=>[],fun l'=>[Ax 105 chf bk l'.1 q]⟩:=by
 have w0:IntKind.i64.wrap ((b:Int) - 1)=((b - 1:Nat):Int):=by rw [wrapi (by omega) (by omega)];omega
 refine ZH [_,_,_,_] func181 ntmps181 fun G w hp=>?_
 repeat' (first|refine ZC ?_|refine ZB ?_|refine ZD ?_|rw [w0]|fail)
 refine YH (X:={t:Nat×Nat×List Ch // a≤t.1∧t.2.1<b∧t.1≤t.2.1+1∧Win a b l t.2.2}) (fun t=>[(0,.slice (some ⟨bk,0,none⟩) n cap),(8,.int .i64 (t.1.1:Int)),(9,.int .i64 (t.1.2.1:Int))]) (fun _=>[Fc]) (fun t=>[Ax 105 chf bk t.1.2.2 q]) (fun t=>t.1.2.1+1 - t.1.1)
  ⟨(a,b - 1,l),by omega,by show b - 1<b;omega,by show a≤b - 1+1;omega,Win.refl⟩ ⟨rfl,rfl,rfl,trivial⟩ ?_
 rintro ⟨⟨i,j,m⟩,h1,h2,h3,h4⟩
 dsimp only at h1 h2 h3 h4 ⊢
 have hl:=h4.len
 by_cases hij:i<j
 ·have hi:i<n:=by omega
  have hj:j<n:=by omega
  have ki:i<m.length:=by omega
  have kj:j<m.length:=by omega
  have kj2:j<(m.set i (gt m j)).length:=by rw [List.length_set];exact kj
  have hq1:AxOK (m.length * 7) q:=by rw [hl,←hn];exact hq
  have hq2:AxOK ((m.set i (gt m j)).length * 7) q:=by rw [List.length_set];exact hq1
  have w1:IntKind.i64.wrap ((i:Int)+1)=((i+1:Nat):Int):=by rw [wrapi (by omega) (by omega)];omega
  have w2:IntKind.i64.wrap ((j:Int) - 1)=((j - 1:Nat):Int):=by rw [wrapi (by omega) (by omega)];omega
  repeat' (first|refine ZC ?_|refine ZB ?_|refine ZD ?_|refine ZO ?_|refine ZQ ?_|refine Zh (m:=n) (i) hi ?_|refine Zh (m:=n) (j) hj ?_|refine ZV 7 (i) 0 (ZM ki) ?_|refine ZV 7 (j) 0 (ZM kj) ?_|refine XN 7 (i) 0 (gt m (j)) (ZM ki) hq1 ?_|refine XV 7 (j) 0 (gt m (i)) (ZM kj2) hq2 ?_|rw [w1]|rw [w2]|refine ZK 3 [Ax _ _ _ _ _] [(0,0),(1,0),(2,0),(3,0),(4,0),(5,0),(6,0),(8,0),(9,0),(10,0),(7,3),(11,3),(12,0),(13,4),(14,0)] [15] ?_|(refine ZF (fun hc=>?_) (fun hc=>?_)<;>(try simp at hc)<;>(try omega))|fail)
  exact ZW ⟨(i+1,j - 1,sw m i j),by show a≤i+1;omega,by show j - 1<b;omega,by show i+1≤j - 1+1;omega,h4.trans (Win.sw h1 (by omega) (by omega) h2 (by omega))⟩ (by show j - 1+1 - (i+1)<j+1 - i;omega) ⟨rfl,rfl,rfl,trivial⟩
 ·repeat' (first|refine ZC ?_|refine ZB ?_|refine ZD ?_|refine Zn ?_|(refine ZF (fun hc=>?_) (fun hc=>?_)<;>(try simp at hc)<;>(try omega))|fail)
  exact XU ⟨m,h4⟩ rfl trivial
set_option maxHeartbeats 4000000 in
theorem brkC_ok (l:List Ch) (n:Nat) (hn:n=l.length) (hn2:n<256) (hq:AxOK (n * 7) q) (a bb:Nat) (hab:a+12<bb) (hb:bb≤n) :
  Enters 179∧Spec prog 179 #[.slice (some ⟨bk,0,none⟩) n cap,.int .i64 (a:Int),.int .i64 (bb:Int),.func (.func fv) #[] #[]] [Fc] [Ax 105 chf bk l q]
   ⟨{l':List Ch // Win a bb l l'},fun _=>.tuple #[],fun _=>True,fun _=>[],fun l'=>[Ax 105 chf bk l'.1 q]⟩:=by
 obtain ⟨N,hN⟩:∃N,N=bb - a:=⟨_,rfl⟩
 obtain ⟨p,hp⟩:∃p,p=N / 4:=⟨_,rfl⟩
 have w0:IntKind.i64.wrap ((bb:Int) - (a:Int))=(N:Int):=by rw [wrapi (by omega) (by omega)];omega
 have w1:IntKind.i64.wrap ((N:Int).tdiv 4)=(p:Int):=by
  have:(N:Int).tdiv 4=(p:Int):=by rw [hp];exact (Int.ofNat_tdiv _ _).symm
  rw [this,wrapi (by omega) (by omega)]
 have w2:IntKind.i64.wrap (IntKind.i64.wrap ((a:Int)+IntKind.i64.wrap ((p:Int) * 2)) - 1)=((a+2 * p - 1:Nat):Int):=by simp (disch:=omega) only [wrapi];omega
 have w3:IntKind.i64.wrap (IntKind.i64.wrap ((a:Int)+IntKind.i64.wrap ((p:Int) * 2))+1)=((a+2 * p+1:Nat):Int):=by simp (disch:=omega) only [wrapi];omega
 have w4:IntKind.u64.wrap (N:Int)=(N:Int):=Vg (by omega)
 have s1:=pow2_ok N (by omega)
 have s2:=xnext_ok
 refine ZH [_,_,_,_] func179 ntmps179 fun G w hp=>?_
 repeat' (first|refine ZC ?_|refine ZB ?_|refine ZD ?_|refine ZS ?_|refine ZN (fun b=>?_)|refine ZA (s1) (fun _ _=>?_)|rw [w0]|rw [w1]|rw [w2]|rw [w4]|(refine ZF (fun hc=>?_) (fun hc=>?_)<;>(try simp at hc)<;>(try omega))|fail)
 rename_i cc _
 obtain ⟨cc,hcc⟩:=cc
 dsimp only
 unfold LenP at hcc
 rw [Bool.and_eq_true,Bool.and_eq_true,Bool.or_eq_true] at hcc
 have hc8:cc≤8:=Nat.le_of_ble_eq_true hcc.1
 have hcN:N<2 ^ cc:=by
  have:=hcc.2.1
  unfold Nat.blt at this
  exact Nat.le_of_ble_eq_true this
 have hcN2:2 ^ cc≤2 * N:=by
  rcases hcc.2.2 with h|h
  ·exact Nat.le_of_ble_eq_true h
  ·have:=Nat.eq_of_beq_eq_true h;omega
 clear hcc
 generalize hM:2 ^ cc=M at hcN hcN2
 refine YH (X:={t:Nat×Int×List Ch // a+2 * p - 1≤t.1∧t.1≤a+2 * p+2∧Win a bb l t.2.2}) (fun t=>[(0,.slice (some ⟨bk,0,none⟩) n cap),(1,.int .i64 (a:Int)),(8,.int .i64 (N:Int)),(9,.pointer (some ⟨b,0,none⟩)),(10,.int .u64 (M:Int)),(11,.int .i64 (t.1.1:Int))]) (fun _=>[Fc]) (fun t=>[Ax 105 chf bk t.1.2.2 q,Pt b (.cells #[.int .u64 t.1.2.1] 299)]) (fun t=>a+2 * p+2 - t.1.1)
  ⟨(a+2 * p - 1,_,l),Nat.le_refl _,by show a+2 * p - 1≤_;omega,Win.refl⟩ ⟨rfl,rfl,rfl,rfl,rfl,rfl,trivial⟩ ?_
 rintro ⟨⟨i,z,m⟩,h1,h2,h3⟩
 dsimp only at h1 h2 h3 ⊢
 have hl:=h3.len
 by_cases hi0:i≤a+2 * p+1
 ·have w5:IntKind.i64.wrap ((i:Int)+1)=((i+1:Nat):Int):=by simp (disch:=omega) only [wrapi];omega
  have b0:decide ((i:Int)≤((a+2 * p+1:Nat):Int))=true:=decide_eq_true (by omega)
  repeat' (first|refine ZC ?_|refine ZB ?_|refine ZD ?_|refine ZJ ?_|refine ZA (s2 _ _) (fun _ _=>?_)|rw [w1]|rw [w3]|rw [b0]|fail)
  rename_i z2 _
  obtain ⟨o,ho,he⟩:=and_low z2 (M:Int) cc hc8 (by rw [hM])
  rw [hM] at ho
  dsimp only
  rw [he]
  have hi:i<n:=by omega
  have ki:i<m.length:=by omega
  have hq1:AxOK (m.length * 7) q:=by rw [hl,←hn];exact hq
  have hq2:∀y,AxOK ((m.set i y).length * 7) q:=fun y=>by rw [List.length_set];exact hq1
  by_cases hoN:N≤o
  ·have w6:IntKind.i64.wrap ((o:Int) - (N:Int))=((o - N:Nat):Int):=by simp (disch:=omega) only [wrapi];omega
   have hj:a+(o - N)<n:=by omega
   have kj:a+(o - N)<m.length:=by omega
   have kj2:a+(o - N)<(m.set i (gt m (a+(o - N)))).length:=by rw [List.length_set];exact kj
   repeat' (first|refine ZC ?_|refine ZB ?_|refine ZD ?_|refine ZO ?_|refine ZQ ?_|rw [w6]|rw [w5]|refine Zh (m:=n) (i) hi ?_|refine Zh (m:=n) (a+(o - N)) hj ?_|refine ZV 7 (i) 0 (ZM ki) ?_|refine ZV 7 (a+(o - N)) 0 (ZM kj) ?_|refine XN 7 (i) 0 (gt m (a+(o - N))) (ZM ki) hq1 ?_|refine XV 7 (a+(o - N)) 0 (gt m (i)) (ZM kj2) (hq2 _) ?_|refine ZK 10 [Ax _ _ _ _ _] [(0,0),(1,0),(2,0),(3,0),(4,0),(5,0),(6,0),(7,0),(8,0),(9,0),(10,0),(12,0),(13,0),(14,0),(11,3),(15,3),(16,0),(17,4),(18,0)] [19] ?_|(refine ZF (fun hc=>?_) (fun hc=>?_)<;>(try simp at hc)<;>(try omega))|fail)
   exact ZW ⟨(i+1,z2,sw m i (a+(o - N))),by show _≤i+1;omega,by show i+1≤_;omega,h3.trans (Win.sw (by omega) (by omega) (by omega) (by omega) (by omega))⟩ (by show a+2 * p+2 - (i+1)<a+2 * p+2 - i;omega) ⟨rfl,rfl,rfl,rfl,rfl,rfl,trivial⟩
  ·have hj:a+o<n:=by omega
   have kj:a+o<m.length:=by omega
   have kj2:a+o<(m.set i (gt m (a+o))).length:=by rw [List.length_set];exact kj
   repeat' (first|refine ZC ?_|refine ZB ?_|refine ZD ?_|refine ZO ?_|refine ZQ ?_|rw [w5]|refine Zh (m:=n) (i) hi ?_|refine Zh (m:=n) (a+o) hj ?_|refine ZV 7 (i) 0 (ZM ki) ?_|refine ZV 7 (a+o) 0 (ZM kj) ?_|refine XN 7 (i) 0 (gt m (a+o)) (ZM ki) hq1 ?_|refine XV 7 (a+o) 0 (gt m (i)) (ZM kj2) (hq2 _) ?_|refine ZK 10 [Ax _ _ _ _ _] [(0,0),(1,0),(2,0),(3,0),(4,0),(5,0),(6,0),(7,0),(8,0),(9,0),(10,0),(12,0),(13,0),(14,0),(11,3),(15,3),(16,0),(17,4),(18,0)] [19] ?_|(refine ZF (fun hc=>?_) (fun hc=>?_)<;>(try simp at hc)<;>(try omega))|fail)
   exact ZW ⟨(i+1,z2,sw m i (a+o)),by show _≤i+1;omega,by show i+1≤_;omega,h3.trans (Win.sw (by omega) (by omega) (by omega) (by omega) (by omega))⟩ (by show a+2 * p+2 - (i+1)<a+2 * p+2 - i;omega) ⟨rfl,rfl,rfl,rfl,rfl,rfl,trivial⟩
 ·repeat' (first|refine ZC ?_|refine ZB ?_|refine ZD ?_|refine Zn ?_|rw [w1]|rw [w3]|(refine ZF (fun hc=>?_) (fun hc=>?_)<;>(try simp at hc)<;>(try omega))|fail)
  exact XU ⟨m,h3⟩ rfl trivial
include hcmp W in
set_option maxHeartbeats 4000000 in
theorem siftC_ok (l:List Ch) (n:Nat) (hn:n=l.length) (hn2:n≤1000000) (hq:AxOK (n * 7) q) (hU:∀x ∈ l,U x) (lo hi f:Nat) (hlo:lo≤1000000) (hf:f+hi≤n) (hpp:Hp c f lo hi lo l) :
  Enters 208∧Spec prog 208 #[.slice (some ⟨bk,0,none⟩) n cap,.int .i64 (lo:Int),.int .i64 (hi:Int),.int .i64 (f:Int),.func (.func fv) #[] #[]] [Fc] [Ax 105 chf bk l q]
   ⟨{l':List Ch // Win f (f+hi) l l'∧He c f lo hi l'},fun _=>.tuple #[],fun _=>True,fun _=>[],fun l'=>[Ax 105 chf bk l'.1 q]⟩:=by
 refine ZH [_,_,_,_,_] func208 ntmps208 fun G w hp=>?_
 repeat' (first|refine ZC ?_|refine ZB ?_|refine ZD ?_|fail)
 refine YH (X:={t:Nat×List Ch // lo≤t.1∧t.1≤1000000∧Win f (f+hi) l t.2∧Hp c f lo hi t.1 t.2∧Hq c f lo hi t.1 t.2}) (fun t=>[(0,.slice (some ⟨bk,0,none⟩) n cap),(2,.int .i64 (hi:Int)),(3,.int .i64 (f:Int)),(4,.func (.func fv) #[] #[]),(10,.int .i64 (t.1.1:Int))]) (fun _=>[Fc]) (fun t=>[Ax 105 chf bk t.1.2 q]) (fun t=>hi - t.1.1)
  ⟨(lo,l),Nat.le_refl _,hlo,Win.refl,hpp,fun i j h1 h2 h3 h4=>by omega⟩ ⟨rfl,rfl,rfl,rfl,rfl,trivial⟩ ?_
 rintro ⟨⟨x,m⟩,h1,h2,h3,h4,h5⟩
 dsimp only at h1 h2 h3 h4 h5 ⊢
 have hl:=h3.len
 have w1:IntKind.i64.wrap (IntKind.i64.wrap (2 * (x:Int))+1)=((2 * x+1:Nat):Int):=by simp (disch:=omega) only [wrapi];omega
 have w2:IntKind.i64.wrap (((2 * x+1:Nat):Int)+1)=((2 * x+2:Nat):Int):=by simp (disch:=omega) only [wrapi];omega
 by_cases h0:2 * x+1<hi
 ·have hi0:f+x<n:=by omega
  have hi1:f+(2 * x+1)<n:=by omega
  have ki0:f+x<m.length:=by omega
  have ki1:f+(2 * x+1)<m.length:=by omega
  have hq1:AxOK (m.length * 7) q:=by rw [hl,←hn];exact hq
  have hUm:=h3.sub hU
  have hq2:∀y,AxOK ((m.set (f+x) y).length * 7) q:=fun y=>by rw [List.length_set];exact hq1
  have kx1:∀y,f+(2 * x+1)<(m.set (f+x) y).length:=fun y=>by rw [List.length_set];exact ki1
  have sp1:=hcmp (gt m (f+x)) (gt m (f+(2 * x+1))) (hUm _ (YK ki0)) (hUm _ (YK ki1))
  have fin:∀y,(y=2 * x+1∨y=2 * x+2)→y<hi→(∀z,(z=2 * x+1∨z=2 * x+2)→z<hi→¬c (gt m (f+y)) (gt m (f+z))<0)→
    (¬c (gt m (f+x)) (gt m (f+y))<0→He c f lo hi m)∧(c (gt m (f+x)) (gt m (f+y))<0→Win f (f+hi) l (sw m (f+x) (f+y))∧Hp c f lo hi y (sw m (f+x) (f+y))∧Hq c f lo hi y (sw m (f+x) (f+y))):=fun y hy hyh hmax=>
   ⟨fun hn=>h4.stop fun z hz hzh=>W.t _ _ _ (hmax z hz hzh) hn,fun hlt=>⟨h3.trans (Win.sw (by omega) (by omega) (by omega) (by omega) (by omega)),Hp.step W h4 h5 h1 hy hyh (by omega) hlt hmax⟩⟩
  by_cases h6:2 * x+2<hi
  ·have hi2:f+(2 * x+2)<n:=by omega
   have ki2:f+(2 * x+2)<m.length:=by omega
   have kx2:∀y,f+(2 * x+2)<(m.set (f+x) y).length:=fun y=>by rw [List.length_set];exact ki2
   have sp2:=hcmp (gt m (f+x)) (gt m (f+(2 * x+2))) (hUm _ (YK ki0)) (hUm _ (YK ki2))
   have sp3:=hcmp (gt m (f+(2 * x+1))) (gt m (f+(2 * x+2))) (hUm _ (YK ki1)) (hUm _ (YK ki2))
   by_cases h7:c (gt m (f+(2 * x+1))) (gt m (f+(2 * x+2)))<0
   ·obtain ⟨f1,f2⟩:=fin (2 * x+2) (.inr rfl) h6 (fun z hz hzh=>by
     rcases hz with rfl|rfl
     ·exact W.a _ _ h7
     ·exact W.i _)
    repeat' (first|refine ZC ?_|refine ZB ?_|refine ZD ?_|refine ZO ?_|refine Z4 ?_|refine ZQ ?_|rw [w1]|rw [w2]|refine Zh (m:=n) (f+x) hi0 ?_|refine Zh (m:=n) (f+(2 * x+1)) hi1 ?_|refine Zh (m:=n) (f+(2 * x+2)) hi2 ?_|refine Zv 7 (f+x) 0 (ZM ki0) ?_|refine Zv 7 (f+(2 * x+1)) 0 (ZM ki1) ?_|refine Zv 7 (f+(2 * x+2)) 0 (ZM ki2) ?_|refine ZV 7 (f+x) 0 (ZM ki0) ?_|refine ZV 7 (f+(2 * x+2)) 0 (ZM ki2) ?_|refine XN 7 (f+x) 0 (gt m (f+(2 * x+2))) (ZM ki0) hq1 ?_|refine XV 7 (f+(2 * x+2)) 0 (gt m (f+x)) (ZM (kx2 _)) (hq2 _) ?_|refine Zw sp3 (fun _ _=>?_)|refine Zw sp2 (fun _ _=>?_)|(refine Zl (fun hc=>?_) (fun hc=>?_)<;>(try simp at hc)<;>(try omega))|refine ZK 3 [] [(0,0),(1,0),(2,0),(3,0),(4,0),(5,0),(6,0),(7,0),(8,0),(9,0),(10,0),(11,0),(12,0),(13,0),(14,0),(15,0),(16,0),(17,0),(18,0),(19,4),(20,0),(21,0)] [] ?_|refine ZK 5 [] [(0,0),(1,0),(2,0),(3,0),(4,0),(5,0),(6,0),(7,0),(8,0),(9,0),(10,0),(11,0),(12,0),(13,4),(14,0),(15,0)] [] ?_|refine ZK 6 [Ax _ _ _ _ _] [(0,0),(1,0),(2,0),(3,0),(4,0),(5,0),(6,0),(7,0),(8,0),(9,0),(10,0),(11,0),(12,0),(14,0),(15,0),(16,0),(17,0),(18,0),(13,3),(19,3),(20,0),(21,4),(22,0)] [23] ?_|(refine ZF (fun hc=>?_) (fun hc=>?_)<;>(try simp at hc)<;>(try omega))|fail)
    ·exact Y5 (XK (YS ⟨m,h3,f1 (by omega)⟩ rfl trivial))
    ·obtain ⟨g1,g2,g3⟩:=f2 (by omega)
     exact ZW ⟨(2 * x+2,sw m (f+x) (f+(2 * x+2))),by show lo≤2 * x+2;omega,by show 2 * x+2≤_;omega,g1,g2,g3⟩ (by show hi - (2 * x+2)<hi - x;omega) ⟨rfl,rfl,rfl,rfl,rfl,trivial⟩
   ·obtain ⟨f1,f2⟩:=fin (2 * x+1) (.inl rfl) h0 (fun z hz hzh=>by
     rcases hz with rfl|rfl
     ·exact W.i _
     ·exact h7)
    repeat' (first|refine ZC ?_|refine ZB ?_|refine ZD ?_|refine ZO ?_|refine Z4 ?_|refine ZQ ?_|rw [w1]|rw [w2]|refine Zh (m:=n) (f+x) hi0 ?_|refine Zh (m:=n) (f+(2 * x+1)) hi1 ?_|refine Zh (m:=n) (f+(2 * x+2)) hi2 ?_|refine Zv 7 (f+x) 0 (ZM ki0) ?_|refine Zv 7 (f+(2 * x+1)) 0 (ZM ki1) ?_|refine Zv 7 (f+(2 * x+2)) 0 (ZM ki2) ?_|refine ZV 7 (f+x) 0 (ZM ki0) ?_|refine ZV 7 (f+(2 * x+1)) 0 (ZM ki1) ?_|refine XN 7 (f+x) 0 (gt m (f+(2 * x+1))) (ZM ki0) hq1 ?_|refine XV 7 (f+(2 * x+1)) 0 (gt m (f+x)) (ZM (kx1 _)) (hq2 _) ?_|refine Zw sp3 (fun _ _=>?_)|refine Zw sp1 (fun _ _=>?_)|(refine Zl (fun hc=>?_) (fun hc=>?_)<;>(try simp at hc)<;>(try omega))|refine ZK 3 [] [(0,0),(1,0),(2,0),(3,0),(4,0),(5,0),(6,0),(7,0),(8,0),(9,0),(10,0),(11,0),(12,0),(13,0),(14,0),(15,0),(16,0),(17,0),(18,0),(19,4),(20,0),(21,0)] [] ?_|refine ZK 5 [] [(0,0),(1,0),(2,0),(3,0),(4,0),(5,0),(6,0),(7,0),(8,0),(9,0),(10,0),(11,0),(12,0),(13,4),(14,0),(15,0)] [] ?_|refine ZK 6 [Ax _ _ _ _ _] [(0,0),(1,0),(2,0),(3,0),(4,0),(5,0),(6,0),(7,0),(8,0),(9,0),(10,0),(11,0),(12,0),(14,0),(15,0),(16,0),(17,0),(18,0),(13,3),(19,3),(20,0),(21,4),(22,0)] [23] ?_|(refine ZF (fun hc=>?_) (fun hc=>?_)<;>(try simp at hc)<;>(try omega))|fail)
    ·exact Y5 (XK (YS ⟨m,h3,f1 (by omega)⟩ rfl trivial))
    ·obtain ⟨g1,g2,g3⟩:=f2 (by omega)
     exact ZW ⟨(2 * x+1,sw m (f+x) (f+(2 * x+1))),by show lo≤2 * x+1;omega,by show 2 * x+1≤_;omega,g1,g2,g3⟩ (by show hi - (2 * x+1)<hi - x;omega) ⟨rfl,rfl,rfl,rfl,rfl,trivial⟩
  ·obtain ⟨f1,f2⟩:=fin (2 * x+1) (.inl rfl) h0 (fun z hz hzh=>by
    rcases hz with rfl|rfl
    ·exact W.i _
    ·omega)
   repeat' (first|refine ZC ?_|refine ZB ?_|refine ZD ?_|refine ZE ?_|refine ZO ?_|refine Z4 ?_|refine ZQ ?_|rw [w1]|rw [w2]|refine Zh (m:=n) (f+x) hi0 ?_|refine Zh (m:=n) (f+(2 * x+1)) hi1 ?_|refine Zv 7 (f+x) 0 (ZM ki0) ?_|refine Zv 7 (f+(2 * x+1)) 0 (ZM ki1) ?_|refine ZV 7 (f+x) 0 (ZM ki0) ?_|refine ZV 7 (f+(2 * x+1)) 0 (ZM ki1) ?_|refine XN 7 (f+x) 0 (gt m (f+(2 * x+1))) (ZM ki0) hq1 ?_|refine XV 7 (f+(2 * x+1)) 0 (gt m (f+x)) (ZM (kx1 _)) (hq2 _) ?_|refine Zw sp1 (fun _ _=>?_)|(refine Zl (fun hc=>?_) (fun hc=>?_)<;>(try simp at hc)<;>(try omega))|refine ZK 3 [] [(0,0),(1,0),(2,0),(3,0),(4,0),(5,0),(6,0),(7,0),(8,0),(9,0),(10,0),(11,0),(12,0),(13,0),(14,0),(15,0),(16,0),(17,0),(18,0),(19,4),(20,0),(21,0)] [] ?_|refine ZK 5 [] [(0,0),(1,0),(2,0),(3,0),(4,0),(5,0),(6,0),(7,0),(8,0),(9,0),(10,0),(11,0),(12,0),(13,4),(14,0),(15,0)] [] ?_|refine ZK 6 [Ax _ _ _ _ _] [(0,0),(1,0),(2,0),(3,0),(4,0),(5,0),(6,0),(7,0),(8,0),(9,0),(10,0),(11,0),(12,0),(14,0),(15,0),(16,0),(17,0),(18,0),(13,3),(19,3),(20,0),(21,4),(22,0)] [23] ?_|(refine ZF (fun hc=>?_) (fun hc=>?_)<;>(try simp at hc)<;>(try omega))|fail)
   ·exact Y5 (XK (YS ⟨m,h3,f1 (by omega)⟩ rfl trivial))
   ·obtain ⟨g1,g2,g3⟩:=f2 (by omega)
    exact ZW ⟨(2 * x+1,sw m (f+x) (f+(2 * x+1))),by show lo≤2 * x+1;omega,by show 2 * x+1≤_;omega,g1,g2,g3⟩ (by show hi - (2 * x+1)<hi - x;omega) ⟨rfl,rfl,rfl,rfl,rfl,trivial⟩
 ·repeat' (first|refine ZC ?_|refine ZB ?_|refine ZD ?_|refine Zn ?_|rw [w1]|(refine ZF (fun hc=>?_) (fun hc=>?_)<;>(try simp at hc)<;>(try omega))|fail)
  exact XU ⟨m,h3,h4.stop fun j h1 h2=>by omega⟩ rfl trivial
end
section
variable (bk cap:Nat) (q:List Value×(Nat×Nat)) (fv:FuncId) (Fc:Pf) (c:Ch→Ch→Int) (W:Wk0 c) (U:Ch→Prop) (hcmp:∀x y,U x→U y→Enters fv∧Spec prog fv #[x.v,y.v] [Fc] [] (RetV (.int .i64 (c x y))))
include hcmp W in
set_option maxHeartbeats 4000000 in
theorem heapC_ok (l:List Ch) (n:Nat) (hn:n=l.length) (hn2:n≤1000000) (hq:AxOK (n * 7) q) (hU:∀x ∈ l,U x) (a b:Nat) (hab:a<b) (hb:b≤n) :
  Enters 178∧Spec prog 178 #[.slice (some ⟨bk,0,none⟩) n cap,.int .i64 (a:Int),.int .i64 (b:Int),.func (.func fv) #[] #[]] [Fc] [Ax 105 chf bk l q]
   ⟨{l':List Ch // Win a b l l'∧Sw c a b l'},fun _=>.tuple #[],fun _=>True,fun _=>[],fun l'=>[Ax 105 chf bk l'.1 q]⟩:=by
 have w0:IntKind.i64.wrap ((b:Int) - (a:Int))=((b - a:Nat):Int):=by rw [wrapi (by omega) (by omega)];omega
 obtain ⟨N,hN⟩:∃N,N=b - a:=⟨_,rfl⟩
 rw [←hN] at w0
 have hbN:b=a+N:=by omega
 obtain ⟨p,hp⟩:∃p,p=(N - 1) / 2:=⟨_,rfl⟩
 have w1:IntKind.i64.wrap ((IntKind.i64.wrap ((N:Int) - 1)).tdiv 2)=(p:Int):=by
  rw [wrapi (z:=(N:Int) - 1) (by omega) (by omega)]
  have:((N:Int) - 1).tdiv 2=(p:Int):=by
   rw [show (N:Int) - 1=((N - 1:Nat):Int) by omega,hp];exact (Int.ofNat_tdiv _ _).symm
  rw [this,wrapi (by omega) (by omega)]
 refine ZH [_,_,_,_] func178 ntmps178 fun G w hp=>?_
 repeat' (first|refine ZC ?_|refine ZB ?_|refine ZD ?_|rw [w0]|rw [w1]|fail)
 refine WM (Y:={m:List Ch // Win a b l m∧He c a 0 N m}) (X:={t:Nat×List Ch // t.1≤p+1∧Win a b l t.2∧He c a t.1 N t.2})
  (fun t=>[(0,.slice (some ⟨bk,0,none⟩) n cap),(3,.func (.func fv) #[] #[]),(8,.int .i64 (a:Int)),(9,.int .i64 0),(10,.int .i64 (N:Int)),(11,.int .i64 ((t.1.1:Int) - 1))]) (fun _=>[Fc]) (fun t=>[Ax 105 chf bk t.1.2 q]) (fun t=>t.1.1)
  (fun _=>[(0,.slice (some ⟨bk,0,none⟩) n cap),(3,.func (.func fv) #[] #[]),(8,.int .i64 (a:Int)),(9,.int .i64 0),(10,.int .i64 (N:Int))]) (fun _=>[Fc]) (fun m=>[Ax 105 chf bk m.1 q])
  ⟨(p+1,l),Nat.le_refl _,Win.refl,fun i j h1 h2 h3=>by omega⟩ ⟨rfl,rfl,rfl,rfl,rfl,(by show look _ _=some (Value.int .i64 (((p+1:Nat):Int) - 1));rw [show ((p+1:Nat):Int) - 1=(p:Int) by omega];rfl),trivial⟩ ?_ ?_
 rotate_left
 ·intro hx
  rintro ⟨⟨t,m⟩,h1,h2,h3⟩
  dsimp only at h1 h2 h3 ⊢
  have hl:=h2.len
  by_cases ht:t=0
  ·subst ht
   repeat' (first|refine ZC ?_|refine ZB ?_|refine ZD ?_|refine ZE ?_|fail)
   exact Yl hx ⟨m,h2,h3⟩ ⟨rfl,rfl,rfl,rfl,rfl,trivial⟩
  ·obtain ⟨i,rfl⟩:∃i,t=i+1:=⟨t - 1,by omega⟩
   have e1:((i+1:Nat):Int) - 1=(i:Int):=by omega
   have w2:IntKind.i64.wrap ((i:Int) - 1)=(i:Int) - 1:=wrapi (by omega) (by omega)
   have s1:=siftC_ok bk cap q fv Fc c W U hcmp m n (by omega) hn2 hq (h2.sub hU) i N a (by omega) (by omega) (fun i' j' g1 g2 g3 g4=>h3 i' j' (by omega) g2 g3)
   rw [e1]
   repeat' (first|refine ZC ?_|refine ZB ?_|refine ZD ?_|refine ZJ ?_|refine ZA (s1) (fun _ _=>?_)|rw [w2]|fail)
   rename_i l' _
   obtain ⟨l',g1,g2⟩:=l'
   exact ZW ⟨(i,l'),by show i≤p+1;omega,h2.trans (by rw [hbN];exact g1),g2⟩ (by show i<i+1;omega) ⟨rfl,rfl,rfl,rfl,rfl,rfl,trivial⟩
 rintro ⟨m,hm1,hm2⟩
 have w3:IntKind.i64.wrap ((N:Int) - 1)=(N:Int) - 1:=wrapi (by omega) (by omega)
 repeat' (first|refine ZC ?_|refine ZB ?_|refine ZD ?_|rw [w3]|fail)
 refine YH (X:={t:Nat×List Ch // t.1≤N∧Win a b l t.2∧Hs c a t.1 N t.2})
  (fun t=>[(0,.slice (some ⟨bk,0,none⟩) n cap),(3,.func (.func fv) #[] #[]),(8,.int .i64 (a:Int)),(9,.int .i64 0),(12,.int .i64 ((t.1.1:Int) - 1))]) (fun _=>[Fc]) (fun t=>[Ax 105 chf bk t.1.2 q]) (fun t=>t.1.1)
  ⟨(N,m),Nat.le_refl _,hm1,Hs.init hm2 (Nat.le_refl _)⟩ ⟨rfl,rfl,rfl,rfl,rfl,trivial⟩ ?_
 rintro ⟨⟨t,m'⟩,h1,h2,h3⟩
 dsimp only at h1 h2 h3 ⊢
 have hl:=h2.len
 by_cases ht:t=0
 ·subst ht
  repeat' (first|refine ZC ?_|refine ZB ?_|refine ZD ?_|refine ZE ?_|refine Zn ?_|fail)
  exact XU ⟨m',h2,by rw [hbN];exact h3.done⟩ rfl trivial
 ·obtain ⟨i,rfl⟩:∃i,t=i+1:=⟨t - 1,by omega⟩
  have e1:((i+1:Nat):Int) - 1=(i:Int):=by omega
  have w2:IntKind.i64.wrap ((i:Int) - 1)=(i:Int) - 1:=wrapi (by omega) (by omega)
  have hi:a<n:=by omega
  have hj:a+i<n:=by omega
  have ki:a<m'.length:=by omega
  have kj:a+i<m'.length:=by omega
  have kj2:a+i<(m'.set a (gt m' (a+i))).length:=by rw [List.length_set];exact kj
  have hq1:AxOK (m'.length * 7) q:=by rw [hl,←hn];exact hq
  have hq2:AxOK ((m'.set a (gt m' (a+i))).length * 7) q:=by rw [List.length_set];exact hq1
  have hsw:Win a b l (sw m' a (a+i)):=h2.trans (Win.sw (by omega) hab (by omega) (by omega) (by omega))
  have s1:=siftC_ok bk cap q fv Fc c W U hcmp (sw m' a (a+i)) n (by rw [sw_len];omega) hn2 hq (hsw.sub hU) 0 i a (by omega) (by omega) (fun i' j' g1 g2 g3 g4=>by
   rw [W4 ki kj,W4 ki kj,if_neg (by omega),if_neg (by omega),if_neg (by omega),if_neg (by omega)]
   exact h3.he i' j' g1 g2 (by omega))
  rw [e1]
  repeat' (first|refine ZC ?_|refine ZB ?_|refine ZD ?_|refine ZJ ?_|refine ZO ?_|refine ZQ ?_|refine ZA (s1) (fun _ _=>?_)|refine Zh (m:=n) (a) hi ?_|refine Zh (m:=n) (a+i) hj ?_|refine ZV 7 (a) 0 (ZM ki) ?_|refine ZV 7 (a+i) 0 (ZM kj) ?_|refine XN 7 (a) 0 (gt m' (a+i)) (ZM ki) hq1 ?_|refine XV 7 (a+i) 0 (gt m' (a)) (ZM kj2) hq2 ?_|rw [w2]|refine ZK 10 [Ax _ _ _ _ _] [(0,0),(1,0),(2,0),(3,0),(4,0),(5,0),(6,0),(7,0),(8,0),(9,0),(10,0),(12,0),(13,0),(14,0),(11,3),(15,3),(16,0),(17,4),(18,0)] [19] ?_|fail)
  rename_i l' _
  obtain ⟨l',g1,g2⟩:=l'
  exact ZW ⟨(i,l'),by show i≤N;omega,hsw.trans (g1.mono (Nat.le_refl _) (by omega)),h3.pop W (by omega) (by omega) g1 g2⟩ (by show i<i+1;omega) ⟨rfl,rfl,rfl,rfl,rfl,trivial⟩
end
section
variable {α:Type} [Inhabited α] {a b i j:Nat} {P:α} {A:α→Prop} {l m:List α}
structure Pin (A:α→Prop) (a b i j:Nat) (P:α) (l m:List α):Prop where
 w:Win a b l m
 h1:a<i
 h2:i≤j+1
 h3:j<b
 pa:gt m a=P
 lo:∀k,a<k→k<i→A (gt m k)
 hi:∀k,j<k→k<b→¬A (gt m k)
theorem Pin.init {p:Nat} (hp1:a≤p) (hp2:p<b) (hb:b≤l.length) (h:a+1<b):Pin A a b (a+1) (b - 1) (gt l p) l (sw l a p) where
 w:=Win.sw (Nat.le_refl _) (by omega) hp1 hp2 hb
 h1:=by omega
 h2:=by omega
 h3:=by omega
 pa:=by
  rw [W4 (by omega) (by omega)]
  split
  ·rename_i h;rw [h]
  ·rw [if_pos rfl]
 lo:=fun k h1 h2=>by omega
 hi:=fun k h1 h2=>by omega
theorem Pin.ii (h:Pin A a b i j P l m) (hij:i≤j) (hA:A (gt m i)):Pin A a b (i+1) j P l m:=
 ⟨h.w,by have:=h.h1;omega,by omega,h.h3,h.pa,fun k h1 h2=>by
  by_cases hk:k=i
  ·rw [hk];exact hA
  ·exact h.lo k h1 (by omega),h.hi⟩
theorem Pin.jj (h:Pin A a b i j P l m) (hij:i≤j) (hA:¬A (gt m j)):Pin A a b i (j - 1) P l m:=
 ⟨h.w,h.h1,by have:=h.h1;omega,by have:=h.h3;omega,h.pa,h.lo,fun k h1 h2=>by
  by_cases hk:k=j
  ·rw [hk];exact hA
  ·exact h.hi k (by have:=h.h1;omega) h2⟩
theorem Pin.sw (h:Pin A a b i j P l m) (hb:b≤l.length) (hij:i<j) (hi:¬A (gt m i)) (hj:A (gt m j)):Pin A a b (i+1) (j - 1) P l (sw m i j):=by
 have h1:=h.h1
 have h3:=h.h3
 have hl:=h.w.len
 have g:=fun k=>W4 (l:=m) (i:=i) (j:=j) (k:=k) (by omega) (by omega)
 refine ⟨h.w.trans (Win.sw (by omega) (by omega) (by omega) h3 (by omega)),by omega,by omega,by omega,?_,fun k k1 k2=>?_,fun k k1 k2=>?_⟩
 ·rw [g,if_neg (by omega),if_neg (by omega)];exact h.pa
 ·rw [g,if_neg (by omega)]
  by_cases hk:k=i
  ·rw [if_pos hk];exact hj
  ·rw [if_neg hk];exact h.lo k k1 (by omega)
 ·rw [g]
  by_cases hk:k=j
  ·rw [if_pos hk];exact hi
  ·rw [if_neg hk,if_neg (by omega)];exact h.hi k (by omega) k2
theorem Pin.ne (_h:Pin A a b i j P l m) (hij:i≤j) (hi:¬A (gt m i)) (hj:A (gt m j)):i<j:=by
 by_cases he:i=j
 ·rw [he] at hi;exact absurd hj hi
 ·omega
theorem Pin.part {c:α→α→Int} (h:Pin (fun x=>c x P<0) a b i j P l m) (hb:b≤l.length) (hij:j<i):Win a b l (Go.Proofs.YtgfohjbcccfolaaGreatDoor.sw m j a)∧Pt0 c a b j (Go.Proofs.YtgfohjbcccfolaaGreatDoor.sw m j a):=by
 have h1:=h.h1
 have h2:=h.h2
 have h3:=h.h3
 have hl:=h.w.len
 have g:=fun k=>W4 (l:=m) (i:=j) (j:=a) (k:=k) (by omega) (by omega)
 have gj:gt (Go.Proofs.YtgfohjbcccfolaaGreatDoor.sw m j a) j=P:=by
  rw [g]
  by_cases hja:j=a
  ·rw [if_pos hja,hja];exact h.pa
  ·rw [if_neg hja,if_pos rfl];exact h.pa
 refine ⟨h.w.trans (Win.sw (by omega) h3 (Nat.le_refl _) (by omega) (by omega)),by omega,h3,fun k k1 k2=>?_,fun k k1 k2=>?_⟩
 ·rw [gj,g]
  by_cases hka:k=a
  ·rw [if_pos hka];exact h.lo j (by omega) (by omega)
  ·rw [if_neg hka,if_neg (by omega)];exact h.lo k (by omega) (by omega)
 ·rw [gj,g,if_neg (by omega),if_neg (by omega)];exact h.hi k k1 k2
variable {c:α→α→Int} {l' m1 m2:List α}
theorem Lw.win (h:Lw c a b l) (hw:Win a b l l') (hb:b≤l.length):Lw c a b l':=fun h0 k h1 h2=>by
 rw [hw.out (a - 1) (by omega)]
 exact hw.all hb (P:=fun x=>¬c x (gt l (a - 1))<0) (fun k h3 h4=>h h0 k h3 h4) k h1 h2
theorem Sw.snoc (W:Wk0 c) (h:Sw c a i m) (hai:a<i) (hc:¬c (gt m i) (gt m (i - 1))<0):Sw c a (i+1) m:=fun p q h1 h2 h3=>by
 by_cases hq:q=i
 ·subst hq
  by_cases hp:p=q - 1
  ·rw [hp];exact hc
  ·exact W.t _ _ _ (h p (q - 1) h1 (by omega) (by omega)) hc
 ·exact h p q h1 h2 (by omega)
def Lsh (c:α→α→Int) (a i j:Nat) (m:List α):Prop:=∀p q,a≤p→p<q→q<i→q≠j→¬c (gt m q) (gt m p)<0
theorem Lsh.init (h:Sw c a i m) (hi:i<m.length) (_ha:a<i):Lsh c a i (i - 1) (Go.Proofs.YtgfohjbcccfolaaGreatDoor.sw m i (i - 1)):=fun p q h1 h2 h3 h4=>by
 rw [W4 hi (by omega),W4 hi (by omega),if_neg (by omega),if_neg (by omega),if_neg (by omega),if_neg (by omega)]
 exact h p q h1 h2 (by omega)
theorem Lsh.step (W:Wk0 c) (h:Lsh c a i j m) (ha:a<j) (hj:j<i) (hi:i≤m.length) (hc:c (gt m j) (gt m (j - 1))<0):Lsh c a i (j - 1) (Go.Proofs.YtgfohjbcccfolaaGreatDoor.sw m j (j - 1)):=fun p q h1 h2 h3 h4=>by
 have g:=fun k=>W4 (l:=m) (i:=j) (j:=j - 1) (k:=k) (by omega) (by omega)
 rw [g p,g q,if_neg h4]
 by_cases hq:q=j
 ·subst hq
  rw [if_pos rfl]
  by_cases hp:p=q - 1
  ·rw [if_pos hp];exact W.a _ _ hc
  ·rw [if_neg hp,if_neg (by omega)]
   exact h p (q - 1) h1 (by omega) (by omega) (by omega)
 ·rw [if_neg hq]
  by_cases hp:p=j - 1
  ·rw [if_pos hp]
   exact h j q (by omega) (by omega) h3 (by omega)
  ·rw [if_neg hp]
   by_cases hp2:p=j
   ·rw [if_pos hp2]
    exact h (j - 1) q (by omega) (by omega) h3 (by omega)
   ·rw [if_neg hp2]
    exact h p q h1 h2 h3 (by omega)
theorem Lsh.stop (W:Wk0 c) (h:Lsh c a i j m) (hc:a<j→¬c (gt m j) (gt m (j - 1))<0):Sw c a i m:=fun p q h1 h2 h3=>by
 by_cases hq:q=j
 ·subst hq
  have h5:=hc (by omega)
  by_cases hp:p=q - 1
  ·rw [hp];exact h5
  ·exact W.t _ _ _ (h p (q - 1) h1 (by omega) (by omega) (by omega)) h5
 ·exact h p q h1 h2 h3 hq
theorem Sw.out (h:Sw c a i m1) (hw:Win i b m1 m2):Sw c a i m2:=fun p q h1 h2 h3=>by
 rw [hw.out p (by omega),hw.out q (by omega)]
 exact h p q h1 h2 h3
theorem Sw.srdn {n:Nat} (hn:l.length=n) (h:Sw c 0 n l):Srd c l:=by
 subst hn;exact h.srd
end
section
variable (bk cap:Nat) (q:List Value×(Nat×Nat)) (fv:FuncId) (Fc:Pf) (c:Ch→Ch→Int) (W:Wk0 c) (U:Ch→Prop) (hcmp:∀x y,U x→U y→Enters fv∧Spec prog fv #[x.v,y.v] [Fc] [] (RetV (.int .i64 (c x y))))
include hcmp in
set_option maxHeartbeats 8000000 in
theorem partC_ok (l:List Ch) (n:Nat) (hn:n=l.length) (hn2:n≤1000000) (hq:AxOK (n * 7) q) (hU:∀x ∈ l,U x) (a bb p:Nat) (hab:a+12<bb) (hb:bb≤n) (hp1:a≤p) (hp2:p<bb) :
  Enters 184∧Spec prog 184 #[.slice (some ⟨bk,0,none⟩) n cap,.int .i64 (a:Int),.int .i64 (bb:Int),.int .i64 (p:Int),.func (.func fv) #[] #[]] [Fc] [Ax 105 chf bk l q]
   ⟨{t:Nat×Bool×List Ch // Win a bb l t.2.2∧Pt0 c a bb t.1 t.2.2},fun t=>.tuple #[.int .i64 (t.1.1:Int),.bool t.1.2.1],fun _=>True,fun _=>[],fun t=>[Ax 105 chf bk t.1.2.2 q]⟩:=by
 have w0:IntKind.i64.wrap ((a:Int)+1)=((a+1:Nat):Int):=by simp (disch:=omega) only [wrapi];omega
 have w1:IntKind.i64.wrap ((bb:Int) - 1)=((bb - 1:Nat):Int):=by simp (disch:=omega) only [wrapi];omega
 have wi:∀i,i<n→IntKind.i64.wrap ((i:Int)+1)=((i+1:Nat):Int):=fun i hi=>by simp (disch:=omega) only [wrapi];omega
 have wj:∀j,0<j→j<n→IntKind.i64.wrap ((j:Int) - 1)=((j - 1:Nat):Int):=fun j h0 hi=>by simp (disch:=omega) only [wrapi];omega
 have hia:a<n:=by omega
 have hip:p<n:=by omega
 have kia:a<l.length:=by omega
 have kip:p<l.length:=by omega
 have kip2:p<(l.set a (gt l p)).length:=by rw [List.length_set];exact kip
 have hql:AxOK (l.length * 7) q:=by rw [←hn];exact hq
 have hql2:AxOK ((l.set a (gt l p)).length * 7) q:=by rw [List.length_set];exact hql
 have hUP:U (gt l p):=hU _ (YK kip)
 have hin0:=fun A:Ch→Prop=>Pin.init (A:=A) (l:=l) (a:=a) (b:=bb) hp1 hp2 (by omega) (by omega)
 obtain ⟨P,hP⟩:∃P,P=gt l p:=⟨_,rfl⟩
 rw [←hP] at hUP hin0
 obtain ⟨m,hm0⟩:∃m,m=sw l a p:=⟨_,rfl⟩
 rw [←hm0] at hin0
 have hin:=hin0 (fun x=>c x P<0)
 clear hin0
 refine ZH [_,_,_,_,_] func184 ntmps184 fun G w hp=>?_
 repeat' (first|refine ZC ?_|refine ZB ?_|refine ZD ?_|refine ZO ?_|refine ZQ ?_|refine Zh (m:=n) (a) hia ?_|refine Zh (m:=n) (p) hip ?_|refine ZV 7 (a) 0 (ZM kia) ?_|refine ZV 7 (p) 0 (ZM kip) ?_|refine XN 7 (a) 0 (gt l (p)) (ZM kia) hql ?_|refine XV 7 (p) 0 (gt l (a)) (ZM kip2) hql2 ?_|rw [w0]|rw [w1]|refine ZK 1 [Ax _ _ _ _ _] [(0,0),(1,0),(2,0),(3,0),(4,0),(5,0),(6,0),(8,0),(9,0),(10,0),(7,3),(11,3),(12,0),(13,4),(14,0)] [15] ?_|fail)
 refine k_ax m hm0.symm ?_
 clear hm0 kip2 hql2
 obtain ⟨jz,hjz⟩:∃jz,jz=(bb - 1):=⟨_,rfl⟩
 rw [←hjz] at hin
 have hm:=hin.w.len
 have ga:m[a]? = some P:=by rw [←hin.pa];exact ZM (by omega)
 have hUm:=hin.w.sub hU
 refine WM (Y:={i:Nat // (a+1)≤i∧Pin (fun x=>c x P<0) a bb i jz P l m∧(i≤jz→¬(fun x=>c x P<0) (gt m i))}) (X:={i:Nat // (a+1)≤i∧Pin (fun x=>c x P<0) a bb i jz P l m}) (fun i=>[(0,.slice (some ⟨bk,0,none⟩) n cap),(1,.int .i64 (a:Int)),(4,.func (.func fv) #[] #[]),(12,.int .i64 ((i.1:Nat):Int)),(13,.int .i64 ((jz:Nat):Int))]) (fun _=>[Fc]) (fun _=>[Ax 105 chf bk m q]) (fun i=>bb+1 - i.1) (fun i=>[(0,.slice (some ⟨bk,0,none⟩) n cap),(1,.int .i64 (a:Int)),(4,.func (.func fv) #[] #[]),(12,.int .i64 ((i.1:Nat):Int)),(13,.int .i64 ((jz:Nat):Int))]) (fun _=>[Fc]) (fun _=>[Ax 105 chf bk m q]) ⟨(a+1),Nat.le_refl _,hin⟩ ⟨rfl,rfl,rfl,rfl,(by show look _ _=some (Value.int .i64 ((jz:Nat):Int));rw [hjz];rfl),trivial⟩ ?_ ?_
 rotate_left
 ·intro hx
  rintro ⟨i,hi0,hp⟩
  dsimp only at hi0 hp ⊢
  have k1:=hp.h1
  have k2:=hp.h2
  have k3:=hp.h3
  generalize jz=j at *
  by_cases hij:i≤j
  ·have hi:i<n:=by omega
   have hj:j<n:=by omega
   have ha:a<n:=by omega
   have gi:m[i]? = some (gt m i):=ZM (by omega)
   have gj:m[j]? = some (gt m j):=ZM (by omega)
   have sp:=hcmp (gt m i) P (hUm _ (YK (by omega))) hUP
   by_cases hA:c (gt m i) P<0
   ·repeat' (first|refine ZC ?_|refine ZB ?_|refine ZD ?_|refine ZO ?_|refine Z4 ?_|refine ZQ ?_|rw [wi i hi]|refine Zh (m:=n) (i) hi ?_|refine Zh (m:=n) (a) ha ?_|refine Zv 7 (i) 0 gi ?_|refine Zv 7 (a) 0 ga ?_|refine Zw sp (fun _ _=>?_)|(refine Zl (fun hc=>?_) (fun hc=>?_)<;>(try simp at hc)<;>(try omega))|refine ZK 3 [] [(0,0),(1,0),(2,0),(3,0),(4,0),(5,0),(6,0),(7,0),(8,0),(9,0),(10,0),(11,0),(12,0),(13,4),(14,0),(15,0)] [] ?_|(refine ZF (fun hc=>?_) (fun hc=>?_)<;>(try simp at hc)<;>(try omega))|fail)
    exact ZW ⟨i+1,by omega,hp.ii hij (hA)⟩ (by show bb+1 - (i+1)<bb+1 - i;omega) ⟨rfl,rfl,rfl,rfl,rfl,trivial⟩
   ·repeat' (first|refine ZB ?_|refine ZO ?_|refine Z4 ?_|refine ZQ ?_|refine Zh (m:=n) (i) hi ?_|refine Zh (m:=n) (a) ha ?_|refine Zv 7 (i) 0 gi ?_|refine Zv 7 (a) 0 ga ?_|refine Zw sp (fun _ _=>?_)|(refine Zl (fun hc=>?_) (fun hc=>?_)<;>(try simp at hc)<;>(try omega))|refine ZK 3 [] [(0,0),(1,0),(2,0),(3,0),(4,0),(5,0),(6,0),(7,0),(8,0),(9,0),(10,0),(11,0),(12,0),(13,4),(14,0),(15,0)] [] ?_|(refine ZF (fun hc=>?_) (fun hc=>?_)<;>(try simp at hc)<;>(try omega))|fail)
    exact Yl hx ⟨i,by omega,hp,fun _=>(hA)⟩ ⟨rfl,rfl,rfl,rfl,rfl,trivial⟩
  ·repeat' (first|refine ZB ?_|refine ZE ?_|refine ZO ?_|refine Z4 ?_|refine ZQ ?_|(refine Zl (fun hc=>?_) (fun hc=>?_)<;>(try simp at hc)<;>(try omega))|refine ZK 3 [] [(0,0),(1,0),(2,0),(3,0),(4,0),(5,0),(6,0),(7,0),(8,0),(9,0),(10,0),(11,0),(12,0),(13,4),(14,0),(15,0)] [] ?_|fail)
   exact Yl hx ⟨i,by omega,hp,fun h=>absurd h hij⟩ ⟨rfl,rfl,rfl,rfl,rfl,trivial⟩
 rintro ⟨i,hi0,hp0,hAi⟩
 dsimp only at hi0 hp0 hAi ⊢
 refine WM (Y:={j:Nat // j≤jz∧Pin (fun x=>c x P<0) a bb i j P l m∧(i≤j→(fun x=>c x P<0) (gt m j))}) (X:={j:Nat // j≤jz∧Pin (fun x=>c x P<0) a bb i j P l m}) (fun j=>[(0,.slice (some ⟨bk,0,none⟩) n cap),(1,.int .i64 (a:Int)),(4,.func (.func fv) #[] #[]),(12,.int .i64 ((i:Nat):Int)),(13,.int .i64 ((j.1:Nat):Int))]) (fun _=>[Fc]) (fun _=>[Ax 105 chf bk m q]) (fun j=>j.1) (fun j=>[(0,.slice (some ⟨bk,0,none⟩) n cap),(1,.int .i64 (a:Int)),(4,.func (.func fv) #[] #[]),(12,.int .i64 ((i:Nat):Int)),(13,.int .i64 ((j.1:Nat):Int))]) (fun _=>[Fc]) (fun _=>[Ax 105 chf bk m q]) ⟨jz,Nat.le_refl _,hp0⟩ ⟨rfl,rfl,rfl,rfl,rfl,trivial⟩ ?_ ?_
 rotate_left
 ·intro hx
  rintro ⟨j,hj0,hp⟩
  dsimp only at hj0 hp ⊢
  have k1:=hp.h1
  have k2:=hp.h2
  have k3:=hp.h3
  by_cases hij:i≤j
  ·have hi:i<n:=by omega
   have hj:j<n:=by omega
   have ha:a<n:=by omega
   have gi:m[i]? = some (gt m i):=ZM (by omega)
   have gj:m[j]? = some (gt m j):=ZM (by omega)
   have sp:=hcmp (gt m j) P (hUm _ (YK (by omega))) hUP
   by_cases hA:c (gt m j) P<0
   ·repeat' (first|refine ZB ?_|refine ZO ?_|refine Z4 ?_|refine ZQ ?_|refine Zh (m:=n) (j) hj ?_|refine Zh (m:=n) (a) ha ?_|refine Zv 7 (j) 0 gj ?_|refine Zv 7 (a) 0 ga ?_|refine Zw sp (fun _ _=>?_)|(refine Zl (fun hc=>?_) (fun hc=>?_)<;>(try simp at hc)<;>(try omega))|refine ZK 5 [] [(0,0),(1,0),(2,0),(3,0),(4,0),(5,0),(6,0),(7,0),(8,0),(9,0),(10,0),(11,0),(12,0),(13,4),(14,0),(15,0),(16,0)] [] ?_|(refine ZF (fun hc=>?_) (fun hc=>?_)<;>(try simp at hc)<;>(try omega))|fail)
    exact Yl hx ⟨j,by omega,hp,fun _=>(hA)⟩ ⟨rfl,rfl,rfl,rfl,rfl,trivial⟩
   ·repeat' (first|refine ZC ?_|refine ZB ?_|refine ZD ?_|refine ZO ?_|refine Z4 ?_|refine ZQ ?_|rw [wj j (by omega) hj]|refine Zh (m:=n) (j) hj ?_|refine Zh (m:=n) (a) ha ?_|refine Zv 7 (j) 0 gj ?_|refine Zv 7 (a) 0 ga ?_|refine Zw sp (fun _ _=>?_)|(refine Zl (fun hc=>?_) (fun hc=>?_)<;>(try simp at hc)<;>(try omega))|refine ZK 5 [] [(0,0),(1,0),(2,0),(3,0),(4,0),(5,0),(6,0),(7,0),(8,0),(9,0),(10,0),(11,0),(12,0),(13,4),(14,0),(15,0),(16,0)] [] ?_|(refine ZF (fun hc=>?_) (fun hc=>?_)<;>(try simp at hc)<;>(try omega))|fail)
    exact ZW ⟨j - 1,by omega,hp.jj hij (hA)⟩ (by show j - 1<j;omega) ⟨rfl,rfl,rfl,rfl,rfl,trivial⟩
  ·repeat' (first|refine ZB ?_|refine ZE ?_|refine ZO ?_|refine Z4 ?_|refine ZQ ?_|(refine Zl (fun hc=>?_) (fun hc=>?_)<;>(try simp at hc)<;>(try omega))|refine ZK 5 [] [(0,0),(1,0),(2,0),(3,0),(4,0),(5,0),(6,0),(7,0),(8,0),(9,0),(10,0),(11,0),(12,0),(13,4),(14,0),(15,0),(16,0)] [] ?_|fail)
   exact Yl hx ⟨j,by omega,hp,fun h=>absurd h hij⟩ ⟨rfl,rfl,rfl,rfl,rfl,trivial⟩
 rintro ⟨j,hj0,hp,hAj⟩
 dsimp only at hj0 hp hAj ⊢
 have k1:=hp.h1
 have k2:=hp.h2
 have k3:=hp.h3
 have hj:j<n:=by omega
 have kj:j<m.length:=by omega
 have hqm:AxOK (m.length * 7) q:=by rw [hm,←hn];exact hq
 have hqm2:∀k y,AxOK ((m.set k y).length * 7) q:=fun k y=>by rw [List.length_set];exact hqm
 by_cases hij:i≤j
 ·have hij2:=hp.ne hij (hAi (by omega)) (hAj hij)
  have hi:i<n:=by omega
  have ki:i<m.length:=by omega
  have kj2:j<(m.set i (gt m j)).length:=by rw [List.length_set];exact kj
  repeat' (first|refine ZC ?_|refine ZB ?_|refine ZD ?_|refine ZO ?_|refine ZQ ?_|rw [wi i hi]|rw [wj j (by omega) hj]|refine Zh (m:=n) (i) hi ?_|refine Zh (m:=n) (j) hj ?_|refine ZV 7 (i) 0 (ZM ki) ?_|refine ZV 7 (j) 0 (ZM kj) ?_|refine XN 7 (i) 0 (gt m (j)) (ZM ki) hqm ?_|refine XV 7 (j) 0 (gt m (i)) (ZM kj2) (hqm2 _ _) ?_|refine ZK 10 [Ax _ _ _ _ _] [(0,0),(1,0),(2,0),(3,0),(4,0),(5,0),(6,0),(8,0),(9,0),(10,0),(7,3),(11,3),(12,0),(13,4),(14,0)] [15] ?_|(refine ZF (fun hc=>?_) (fun hc=>?_)<;>(try simp at hc)<;>(try omega))|fail)
  refine YH (X:={t:Nat×Nat×List Ch // Pin (fun x=>c x P<0) a bb t.1 t.2.1 P l t.2.2}) (fun t=>[(0,.slice (some ⟨bk,0,none⟩) n cap),(1,.int .i64 (a:Int)),(4,.func (.func fv) #[] #[]),(12,.int .i64 (t.1.1:Int)),(13,.int .i64 (t.1.2.1:Int))]) (fun _=>[Fc]) (fun t=>[Ax 105 chf bk t.1.2.2 q]) (fun t=>t.1.2.1+1 - t.1.1) ⟨(i+1,j - 1,sw m i j),hp.sw (by omega) hij2 (hAi (by omega)) (hAj hij)⟩ ⟨rfl,rfl,rfl,rfl,rfl,trivial⟩ ?_
  clear hc hin ga hUm hi0 hp0 hAi hj0 hp hAj k1 k2 k3 hj kj hqm hqm2 hij hij2 hi ki kj2 hm hjz
  clear i j m jz
  rintro ⟨⟨i0,j0,m⟩,hin⟩
  dsimp only at hin ⊢
  have q1:=hin.h1
  have q2:=hin.h2
  have q3:=hin.h3
  repeat' (first|fail)
  obtain ⟨jz,hjz⟩:∃jz,jz=j0:=⟨_,rfl⟩
  rw [←hjz] at hin
  have hm:=hin.w.len
  have ga:m[a]? = some P:=by rw [←hin.pa];exact ZM (by omega)
  have hUm:=hin.w.sub hU
  refine WM (Y:={i:Nat // i0≤i∧Pin (fun x=>c x P<0) a bb i jz P l m∧(i≤jz→¬(fun x=>c x P<0) (gt m i))}) (X:={i:Nat // i0≤i∧Pin (fun x=>c x P<0) a bb i jz P l m}) (fun i=>[(0,.slice (some ⟨bk,0,none⟩) n cap),(1,.int .i64 (a:Int)),(4,.func (.func fv) #[] #[]),(12,.int .i64 ((i.1:Nat):Int)),(13,.int .i64 ((jz:Nat):Int))]) (fun _=>[Fc]) (fun _=>[Ax 105 chf bk m q]) (fun i=>bb+1 - i.1) (fun i=>[(0,.slice (some ⟨bk,0,none⟩) n cap),(1,.int .i64 (a:Int)),(4,.func (.func fv) #[] #[]),(12,.int .i64 ((i.1:Nat):Int)),(13,.int .i64 ((jz:Nat):Int))]) (fun _=>[Fc]) (fun _=>[Ax 105 chf bk m q]) ⟨i0,Nat.le_refl _,hin⟩ ⟨rfl,rfl,rfl,rfl,(by show look _ _=some (Value.int .i64 ((jz:Nat):Int));rw [hjz];rfl),trivial⟩ ?_ ?_
  rotate_left
  ·intro hx
   rintro ⟨i,hi0,hp⟩
   dsimp only at hi0 hp ⊢
   have k1:=hp.h1
   have k2:=hp.h2
   have k3:=hp.h3
   generalize jz=j at *
   by_cases hij:i≤j
   ·have hi:i<n:=by omega
    have hj:j<n:=by omega
    have ha:a<n:=by omega
    have gi:m[i]? = some (gt m i):=ZM (by omega)
    have gj:m[j]? = some (gt m j):=ZM (by omega)
    have sp:=hcmp (gt m i) P (hUm _ (YK (by omega))) hUP
    by_cases hA:c (gt m i) P<0
    ·repeat' (first|refine ZC ?_|refine ZB ?_|refine ZD ?_|refine ZO ?_|refine Z4 ?_|refine ZQ ?_|rw [wi i hi]|refine Zh (m:=n) (i) hi ?_|refine Zh (m:=n) (a) ha ?_|refine Zv 7 (i) 0 gi ?_|refine Zv 7 (a) 0 ga ?_|refine Zw sp (fun _ _=>?_)|(refine Zl (fun hc=>?_) (fun hc=>?_)<;>(try simp at hc)<;>(try omega))|refine ZK 13 [] [(0,0),(1,0),(2,0),(3,0),(4,0),(5,0),(6,0),(7,0),(8,0),(9,0),(10,0),(11,0),(12,0),(13,4),(14,0),(15,0)] [] ?_|(refine ZF (fun hc=>?_) (fun hc=>?_)<;>(try simp at hc)<;>(try omega))|fail)
     exact ZW ⟨i+1,by omega,hp.ii hij (hA)⟩ (by show bb+1 - (i+1)<bb+1 - i;omega) ⟨rfl,rfl,rfl,rfl,rfl,trivial⟩
    ·repeat' (first|refine ZB ?_|refine ZO ?_|refine Z4 ?_|refine ZQ ?_|refine Zh (m:=n) (i) hi ?_|refine Zh (m:=n) (a) ha ?_|refine Zv 7 (i) 0 gi ?_|refine Zv 7 (a) 0 ga ?_|refine Zw sp (fun _ _=>?_)|(refine Zl (fun hc=>?_) (fun hc=>?_)<;>(try simp at hc)<;>(try omega))|refine ZK 13 [] [(0,0),(1,0),(2,0),(3,0),(4,0),(5,0),(6,0),(7,0),(8,0),(9,0),(10,0),(11,0),(12,0),(13,4),(14,0),(15,0)] [] ?_|(refine ZF (fun hc=>?_) (fun hc=>?_)<;>(try simp at hc)<;>(try omega))|fail)
     exact Yl hx ⟨i,by omega,hp,fun _=>(hA)⟩ ⟨rfl,rfl,rfl,rfl,rfl,trivial⟩
   ·repeat' (first|refine ZB ?_|refine ZE ?_|refine ZO ?_|refine Z4 ?_|refine ZQ ?_|(refine Zl (fun hc=>?_) (fun hc=>?_)<;>(try simp at hc)<;>(try omega))|refine ZK 13 [] [(0,0),(1,0),(2,0),(3,0),(4,0),(5,0),(6,0),(7,0),(8,0),(9,0),(10,0),(11,0),(12,0),(13,4),(14,0),(15,0)] [] ?_|fail)
    exact Yl hx ⟨i,by omega,hp,fun h=>absurd h hij⟩ ⟨rfl,rfl,rfl,rfl,rfl,trivial⟩
  rintro ⟨i,hi0,hp0,hAi⟩
  dsimp only at hi0 hp0 hAi ⊢
  refine WM (Y:={j:Nat // j≤jz∧Pin (fun x=>c x P<0) a bb i j P l m∧(i≤j→(fun x=>c x P<0) (gt m j))}) (X:={j:Nat // j≤jz∧Pin (fun x=>c x P<0) a bb i j P l m}) (fun j=>[(0,.slice (some ⟨bk,0,none⟩) n cap),(1,.int .i64 (a:Int)),(4,.func (.func fv) #[] #[]),(12,.int .i64 ((i:Nat):Int)),(13,.int .i64 ((j.1:Nat):Int))]) (fun _=>[Fc]) (fun _=>[Ax 105 chf bk m q]) (fun j=>j.1) (fun j=>[(0,.slice (some ⟨bk,0,none⟩) n cap),(1,.int .i64 (a:Int)),(4,.func (.func fv) #[] #[]),(12,.int .i64 ((i:Nat):Int)),(13,.int .i64 ((j.1:Nat):Int))]) (fun _=>[Fc]) (fun _=>[Ax 105 chf bk m q]) ⟨jz,Nat.le_refl _,hp0⟩ ⟨rfl,rfl,rfl,rfl,rfl,trivial⟩ ?_ ?_
  rotate_left
  ·intro hx
   rintro ⟨j,hj0,hp⟩
   dsimp only at hj0 hp ⊢
   have k1:=hp.h1
   have k2:=hp.h2
   have k3:=hp.h3
   by_cases hij:i≤j
   ·have hi:i<n:=by omega
    have hj:j<n:=by omega
    have ha:a<n:=by omega
    have gi:m[i]? = some (gt m i):=ZM (by omega)
    have gj:m[j]? = some (gt m j):=ZM (by omega)
    have sp:=hcmp (gt m j) P (hUm _ (YK (by omega))) hUP
    by_cases hA:c (gt m j) P<0
    ·repeat' (first|refine ZB ?_|refine ZO ?_|refine Z4 ?_|refine ZQ ?_|refine Zh (m:=n) (j) hj ?_|refine Zh (m:=n) (a) ha ?_|refine Zv 7 (j) 0 gj ?_|refine Zv 7 (a) 0 ga ?_|refine Zw sp (fun _ _=>?_)|(refine Zl (fun hc=>?_) (fun hc=>?_)<;>(try simp at hc)<;>(try omega))|refine ZK 15 [] [(0,0),(1,0),(2,0),(3,0),(4,0),(5,0),(6,0),(7,0),(8,0),(9,0),(10,0),(11,0),(12,0),(13,4),(14,0),(15,0),(16,0)] [] ?_|(refine ZF (fun hc=>?_) (fun hc=>?_)<;>(try simp at hc)<;>(try omega))|fail)
     exact Yl hx ⟨j,by omega,hp,fun _=>(hA)⟩ ⟨rfl,rfl,rfl,rfl,rfl,trivial⟩
    ·repeat' (first|refine ZC ?_|refine ZB ?_|refine ZD ?_|refine ZO ?_|refine Z4 ?_|refine ZQ ?_|rw [wj j (by omega) hj]|refine Zh (m:=n) (j) hj ?_|refine Zh (m:=n) (a) ha ?_|refine Zv 7 (j) 0 gj ?_|refine Zv 7 (a) 0 ga ?_|refine Zw sp (fun _ _=>?_)|(refine Zl (fun hc=>?_) (fun hc=>?_)<;>(try simp at hc)<;>(try omega))|refine ZK 15 [] [(0,0),(1,0),(2,0),(3,0),(4,0),(5,0),(6,0),(7,0),(8,0),(9,0),(10,0),(11,0),(12,0),(13,4),(14,0),(15,0),(16,0)] [] ?_|(refine ZF (fun hc=>?_) (fun hc=>?_)<;>(try simp at hc)<;>(try omega))|fail)
     exact ZW ⟨j - 1,by omega,hp.jj hij (hA)⟩ (by show j - 1<j;omega) ⟨rfl,rfl,rfl,rfl,rfl,trivial⟩
   ·repeat' (first|refine ZB ?_|refine ZE ?_|refine ZO ?_|refine Z4 ?_|refine ZQ ?_|(refine Zl (fun hc=>?_) (fun hc=>?_)<;>(try simp at hc)<;>(try omega))|refine ZK 15 [] [(0,0),(1,0),(2,0),(3,0),(4,0),(5,0),(6,0),(7,0),(8,0),(9,0),(10,0),(11,0),(12,0),(13,4),(14,0),(15,0),(16,0)] [] ?_|fail)
    exact Yl hx ⟨j,by omega,hp,fun h=>absurd h hij⟩ ⟨rfl,rfl,rfl,rfl,rfl,trivial⟩
  rintro ⟨j,hj0,hp,hAj⟩
  dsimp only at hj0 hp hAj ⊢
  have k1:=hp.h1
  have k2:=hp.h2
  have k3:=hp.h3
  have hj:j<n:=by omega
  have kj:j<m.length:=by omega
  have hqm:AxOK (m.length * 7) q:=by rw [hm,←hn];exact hq
  have hqm2:∀k y,AxOK ((m.set k y).length * 7) q:=fun k y=>by rw [List.length_set];exact hqm
  by_cases hij:i≤j
  ·have hij2:=hp.ne hij (hAi (by omega)) (hAj hij)
   have hi:i<n:=by omega
   have ki:i<m.length:=by omega
   have kj2:j<(m.set i (gt m j)).length:=by rw [List.length_set];exact kj
   repeat' (first|refine ZC ?_|refine ZB ?_|refine ZD ?_|refine ZO ?_|refine ZQ ?_|rw [wi i hi]|rw [wj j (by omega) hj]|refine Zh (m:=n) (i) hi ?_|refine Zh (m:=n) (j) hj ?_|refine ZV 7 (i) 0 (ZM ki) ?_|refine ZV 7 (j) 0 (ZM kj) ?_|refine XN 7 (i) 0 (gt m (j)) (ZM ki) hqm ?_|refine XV 7 (j) 0 (gt m (i)) (ZM kj2) (hqm2 _ _) ?_|refine ZK 18 [Ax _ _ _ _ _] [(0,0),(1,0),(2,0),(3,0),(4,0),(5,0),(6,0),(8,0),(9,0),(10,0),(7,3),(11,3),(12,0),(13,4),(14,0)] [15] ?_|(refine ZF (fun hc=>?_) (fun hc=>?_)<;>(try simp at hc)<;>(try omega))|fail)
   exact ZW ⟨(i+1,j - 1,sw m i j),hp.sw (by omega) hij2 (hAi (by omega)) (hAj hij)⟩ (by show j - 1+1 - (i+1)<j0+1 - i0;omega) ⟨rfl,rfl,rfl,rfl,rfl,trivial⟩
  ·obtain ⟨f1,f2⟩:=hp.part (by omega) (by omega)
   have ka:a<m.length:=by omega
   have ka2:a<(m.set j (gt m a)).length:=by rw [List.length_set];exact ka
   repeat' (first|refine ZC ?_|refine ZB ?_|refine ZD ?_|refine Zn ?_|refine ZO ?_|refine ZQ ?_|refine Zh (m:=n) (j) hj ?_|refine Zh (m:=n) (a) hia ?_|refine ZV 7 (j) 0 (ZM kj) ?_|refine ZV 7 (a) 0 (ZM ka) ?_|refine XN 7 (j) 0 (gt m (a)) (ZM kj) hqm ?_|refine XV 7 (a) 0 (gt m (j)) (ZM ka2) (hqm2 _ _) ?_|refine ZK 21 [Ax _ _ _ _ _] [(0,0),(1,0),(2,0),(3,0),(4,0),(5,0),(6,0),(8,0),(9,0),(10,0),(7,3),(11,3),(12,0),(13,4),(14,0)] [15] ?_|(refine ZF (fun hc=>?_) (fun hc=>?_)<;>(try simp at hc)<;>(try omega))|fail)
   exact ZG ⟨(j,false,sw m j a),f1,f2⟩ rfl trivial
 ·obtain ⟨f1,f2⟩:=hp.part (by omega) (by omega)
  have ka:a<m.length:=by omega
  have ka2:a<(m.set j (gt m a)).length:=by rw [List.length_set];exact ka
  repeat' (first|refine ZC ?_|refine ZB ?_|refine ZD ?_|refine ZO ?_|refine ZQ ?_|refine Zh (m:=n) (j) hj ?_|refine Zh (m:=n) (a) hia ?_|refine ZV 7 (j) 0 (ZM kj) ?_|refine ZV 7 (a) 0 (ZM ka) ?_|refine XN 7 (j) 0 (gt m (a)) (ZM kj) hqm ?_|refine XV 7 (a) 0 (gt m (j)) (ZM ka2) (hqm2 _ _) ?_|refine ZK 8 [Ax _ _ _ _ _] [(0,0),(1,0),(2,0),(3,0),(4,0),(5,0),(6,0),(8,0),(9,0),(10,0),(7,3),(11,3),(12,0),(13,4),(14,0)] [15] ?_|(refine ZF (fun hc=>?_) (fun hc=>?_)<;>(try simp at hc)<;>(try omega))|fail)
  exact ZG ⟨(j,true,sw m j a),f1,f2⟩ rfl trivial
include hcmp W in
set_option maxHeartbeats 8000000 in
theorem parEC_ok (l:List Ch) (n:Nat) (hn:n=l.length) (hn2:n≤1000000) (hq:AxOK (n * 7) q) (hU:∀x ∈ l,U x) (a bb p:Nat) (hab:a+12<bb) (hb:bb≤n) (hp1:a≤p) (hp2:p<bb) :
  Enters 183∧Spec prog 183 #[.slice (some ⟨bk,0,none⟩) n cap,.int .i64 (a:Int),.int .i64 (bb:Int),.int .i64 (p:Int),.func (.func fv) #[] #[]] [Fc] [Ax 105 chf bk l q]
   ⟨{t:Nat×List Ch // Win a bb l t.2∧a<t.1∧t.1≤bb∧gt t.2 a=gt l p∧∀k,a≤k→k<t.1→¬c (gt t.2 a) (gt t.2 k)<0},fun t=>.int .i64 (t.1.1:Int),fun _=>True,fun _=>[],fun t=>[Ax 105 chf bk t.1.2 q]⟩:=by
 have w0:IntKind.i64.wrap ((a:Int)+1)=((a+1:Nat):Int):=by simp (disch:=omega) only [wrapi];omega
 have w1:IntKind.i64.wrap ((bb:Int) - 1)=((bb - 1:Nat):Int):=by simp (disch:=omega) only [wrapi];omega
 have wi:∀i,i<n→IntKind.i64.wrap ((i:Int)+1)=((i+1:Nat):Int):=fun i hi=>by simp (disch:=omega) only [wrapi];omega
 have wj:∀j,0<j→j<n→IntKind.i64.wrap ((j:Int) - 1)=((j - 1:Nat):Int):=fun j h0 hi=>by simp (disch:=omega) only [wrapi];omega
 have hia:a<n:=by omega
 have hip:p<n:=by omega
 have kia:a<l.length:=by omega
 have kip:p<l.length:=by omega
 have kip2:p<(l.set a (gt l p)).length:=by rw [List.length_set];exact kip
 have hql:AxOK (l.length * 7) q:=by rw [←hn];exact hq
 have hql2:AxOK ((l.set a (gt l p)).length * 7) q:=by rw [List.length_set];exact hql
 have hUP:U (gt l p):=hU _ (YK kip)
 have hin0:=fun A:Ch→Prop=>Pin.init (A:=A) (l:=l) (a:=a) (b:=bb) hp1 hp2 (by omega) (by omega)
 obtain ⟨P,hP⟩:∃P,P=gt l p:=⟨_,rfl⟩
 rw [←hP] at hUP hin0
 obtain ⟨m,hm0⟩:∃m,m=sw l a p:=⟨_,rfl⟩
 rw [←hm0] at hin0
 have hin:=hin0 (fun x=>¬c P x<0)
 clear hin0
 refine ZH [_,_,_,_,_] func183 ntmps183 fun G w hp=>?_
 repeat' (first|refine ZC ?_|refine ZB ?_|refine ZD ?_|refine ZO ?_|refine ZQ ?_|refine Zh (m:=n) (a) hia ?_|refine Zh (m:=n) (p) hip ?_|refine ZV 7 (a) 0 (ZM kia) ?_|refine ZV 7 (p) 0 (ZM kip) ?_|refine XN 7 (a) 0 (gt l (p)) (ZM kia) hql ?_|refine XV 7 (p) 0 (gt l (a)) (ZM kip2) hql2 ?_|rw [w0]|rw [w1]|refine ZK 1 [Ax _ _ _ _ _] [(0,0),(1,0),(2,0),(3,0),(4,0),(5,0),(6,0),(8,0),(9,0),(10,0),(7,3),(11,3),(12,0),(13,4),(14,0)] [15] ?_|fail)
 refine k_ax m hm0.symm ?_
 clear hm0 kip2 hql2
 refine YH (X:={t:Nat×Nat×List Ch // Pin (fun x=>¬c P x<0) a bb t.1 t.2.1 P l t.2.2}) (fun t=>[(0,.slice (some ⟨bk,0,none⟩) n cap),(1,.int .i64 (a:Int)),(4,.func (.func fv) #[] #[]),(11,.int .i64 (t.1.1:Int)),(12,.int .i64 (t.1.2.1:Int))]) (fun _=>[Fc]) (fun t=>[Ax 105 chf bk t.1.2.2 q]) (fun t=>t.1.2.1+1 - t.1.1) ⟨(a+1,bb - 1,m),hin⟩ ⟨rfl,rfl,rfl,rfl,rfl,trivial⟩ ?_
 clear hin
 clear m
 rintro ⟨⟨i0,j0,m⟩,hin⟩
 dsimp only at hin ⊢
 have q1:=hin.h1
 have q2:=hin.h2
 have q3:=hin.h3
 repeat' (first|fail)
 obtain ⟨jz,hjz⟩:∃jz,jz=j0:=⟨_,rfl⟩
 rw [←hjz] at hin
 have hm:=hin.w.len
 have ga:m[a]? = some P:=by rw [←hin.pa];exact ZM (by omega)
 have hUm:=hin.w.sub hU
 refine WM (Y:={i:Nat // i0≤i∧Pin (fun x=>¬c P x<0) a bb i jz P l m∧(i≤jz→¬(fun x=>¬c P x<0) (gt m i))}) (X:={i:Nat // i0≤i∧Pin (fun x=>¬c P x<0) a bb i jz P l m}) (fun i=>[(0,.slice (some ⟨bk,0,none⟩) n cap),(1,.int .i64 (a:Int)),(4,.func (.func fv) #[] #[]),(11,.int .i64 ((i.1:Nat):Int)),(12,.int .i64 ((jz:Nat):Int))]) (fun _=>[Fc]) (fun _=>[Ax 105 chf bk m q]) (fun i=>bb+1 - i.1) (fun i=>[(0,.slice (some ⟨bk,0,none⟩) n cap),(1,.int .i64 (a:Int)),(4,.func (.func fv) #[] #[]),(11,.int .i64 ((i.1:Nat):Int)),(12,.int .i64 ((jz:Nat):Int))]) (fun _=>[Fc]) (fun _=>[Ax 105 chf bk m q]) ⟨i0,Nat.le_refl _,hin⟩ ⟨rfl,rfl,rfl,rfl,(by show look _ _=some (Value.int .i64 ((jz:Nat):Int));rw [hjz];rfl),trivial⟩ ?_ ?_
 rotate_left
 ·intro hx
  rintro ⟨i,hi0,hp⟩
  dsimp only at hi0 hp ⊢
  have k1:=hp.h1
  have k2:=hp.h2
  have k3:=hp.h3
  generalize jz=j at *
  by_cases hij:i≤j
  ·have hi:i<n:=by omega
   have hj:j<n:=by omega
   have ha:a<n:=by omega
   have gi:m[i]? = some (gt m i):=ZM (by omega)
   have gj:m[j]? = some (gt m j):=ZM (by omega)
   have sp:=hcmp P (gt m i) hUP (hUm _ (YK (by omega)))
   by_cases hA:c P (gt m i)<0
   ·repeat' (first|refine ZB ?_|refine ZO ?_|refine Z4 ?_|refine ZQ ?_|refine Zh (m:=n) (i) hi ?_|refine Zh (m:=n) (a) ha ?_|refine Zv 7 (i) 0 gi ?_|refine Zv 7 (a) 0 ga ?_|refine Zw sp (fun _ _=>?_)|(refine Zl (fun hc=>?_) (fun hc=>?_)<;>(try simp at hc)<;>(try omega))|refine ZK 3 [] [(0,0),(1,0),(2,0),(3,0),(4,0),(5,0),(6,0),(7,0),(8,0),(9,0),(10,0),(11,0),(12,0),(13,4),(14,0),(15,0),(16,0)] [] ?_|(refine ZF (fun hc=>?_) (fun hc=>?_)<;>(try simp at hc)<;>(try omega))|fail)
    exact Yl hx ⟨i,by omega,hp,fun _=>(fun h=>h hA)⟩ ⟨rfl,rfl,rfl,rfl,rfl,trivial⟩
   ·repeat' (first|refine ZC ?_|refine ZB ?_|refine ZD ?_|refine ZO ?_|refine Z4 ?_|refine ZQ ?_|rw [wi i hi]|refine Zh (m:=n) (i) hi ?_|refine Zh (m:=n) (a) ha ?_|refine Zv 7 (i) 0 gi ?_|refine Zv 7 (a) 0 ga ?_|refine Zw sp (fun _ _=>?_)|(refine Zl (fun hc=>?_) (fun hc=>?_)<;>(try simp at hc)<;>(try omega))|refine ZK 3 [] [(0,0),(1,0),(2,0),(3,0),(4,0),(5,0),(6,0),(7,0),(8,0),(9,0),(10,0),(11,0),(12,0),(13,4),(14,0),(15,0),(16,0)] [] ?_|(refine ZF (fun hc=>?_) (fun hc=>?_)<;>(try simp at hc)<;>(try omega))|fail)
    exact ZW ⟨i+1,by omega,hp.ii hij (hA)⟩ (by show bb+1 - (i+1)<bb+1 - i;omega) ⟨rfl,rfl,rfl,rfl,rfl,trivial⟩
  ·repeat' (first|refine ZB ?_|refine ZE ?_|refine ZO ?_|refine Z4 ?_|refine ZQ ?_|(refine Zl (fun hc=>?_) (fun hc=>?_)<;>(try simp at hc)<;>(try omega))|refine ZK 3 [] [(0,0),(1,0),(2,0),(3,0),(4,0),(5,0),(6,0),(7,0),(8,0),(9,0),(10,0),(11,0),(12,0),(13,4),(14,0),(15,0),(16,0)] [] ?_|fail)
   exact Yl hx ⟨i,by omega,hp,fun h=>absurd h hij⟩ ⟨rfl,rfl,rfl,rfl,rfl,trivial⟩
 rintro ⟨i,hi0,hp0,hAi⟩
 dsimp only at hi0 hp0 hAi ⊢
 refine WM (Y:={j:Nat // j≤jz∧Pin (fun x=>¬c P x<0) a bb i j P l m∧(i≤j→(fun x=>¬c P x<0) (gt m j))}) (X:={j:Nat // j≤jz∧Pin (fun x=>¬c P x<0) a bb i j P l m}) (fun j=>[(0,.slice (some ⟨bk,0,none⟩) n cap),(1,.int .i64 (a:Int)),(4,.func (.func fv) #[] #[]),(11,.int .i64 ((i:Nat):Int)),(12,.int .i64 ((j.1:Nat):Int))]) (fun _=>[Fc]) (fun _=>[Ax 105 chf bk m q]) (fun j=>j.1) (fun j=>[(0,.slice (some ⟨bk,0,none⟩) n cap),(1,.int .i64 (a:Int)),(4,.func (.func fv) #[] #[]),(11,.int .i64 ((i:Nat):Int)),(12,.int .i64 ((j.1:Nat):Int))]) (fun _=>[Fc]) (fun _=>[Ax 105 chf bk m q]) ⟨jz,Nat.le_refl _,hp0⟩ ⟨rfl,rfl,rfl,rfl,rfl,trivial⟩ ?_ ?_
 rotate_left
 ·intro hx
  rintro ⟨j,hj0,hp⟩
  dsimp only at hj0 hp ⊢
  have k1:=hp.h1
  have k2:=hp.h2
  have k3:=hp.h3
  by_cases hij:i≤j
  ·have hi:i<n:=by omega
   have hj:j<n:=by omega
   have ha:a<n:=by omega
   have gi:m[i]? = some (gt m i):=ZM (by omega)
   have gj:m[j]? = some (gt m j):=ZM (by omega)
   have sp:=hcmp P (gt m j) hUP (hUm _ (YK (by omega)))
   by_cases hA:c P (gt m j)<0
   ·repeat' (first|refine ZC ?_|refine ZB ?_|refine ZD ?_|refine ZO ?_|refine Z4 ?_|refine ZQ ?_|rw [wj j (by omega) hj]|refine Zh (m:=n) (j) hj ?_|refine Zh (m:=n) (a) ha ?_|refine Zv 7 (j) 0 gj ?_|refine Zv 7 (a) 0 ga ?_|refine Zw sp (fun _ _=>?_)|(refine Zl (fun hc=>?_) (fun hc=>?_)<;>(try simp at hc)<;>(try omega))|refine ZK 5 [] [(0,0),(1,0),(2,0),(3,0),(4,0),(5,0),(6,0),(7,0),(8,0),(9,0),(10,0),(11,0),(12,0),(13,4),(14,0),(15,0)] [] ?_|(refine ZF (fun hc=>?_) (fun hc=>?_)<;>(try simp at hc)<;>(try omega))|fail)
    exact ZW ⟨j - 1,by omega,hp.jj hij (fun h=>h hA)⟩ (by show j - 1<j;omega) ⟨rfl,rfl,rfl,rfl,rfl,trivial⟩
   ·repeat' (first|refine ZB ?_|refine ZO ?_|refine Z4 ?_|refine ZQ ?_|refine Zh (m:=n) (j) hj ?_|refine Zh (m:=n) (a) ha ?_|refine Zv 7 (j) 0 gj ?_|refine Zv 7 (a) 0 ga ?_|refine Zw sp (fun _ _=>?_)|(refine Zl (fun hc=>?_) (fun hc=>?_)<;>(try simp at hc)<;>(try omega))|refine ZK 5 [] [(0,0),(1,0),(2,0),(3,0),(4,0),(5,0),(6,0),(7,0),(8,0),(9,0),(10,0),(11,0),(12,0),(13,4),(14,0),(15,0)] [] ?_|(refine ZF (fun hc=>?_) (fun hc=>?_)<;>(try simp at hc)<;>(try omega))|fail)
    exact Yl hx ⟨j,by omega,hp,fun _=>(hA)⟩ ⟨rfl,rfl,rfl,rfl,rfl,trivial⟩
  ·repeat' (first|refine ZB ?_|refine ZE ?_|refine ZO ?_|refine Z4 ?_|refine ZQ ?_|(refine Zl (fun hc=>?_) (fun hc=>?_)<;>(try simp at hc)<;>(try omega))|refine ZK 5 [] [(0,0),(1,0),(2,0),(3,0),(4,0),(5,0),(6,0),(7,0),(8,0),(9,0),(10,0),(11,0),(12,0),(13,4),(14,0),(15,0)] [] ?_|fail)
   exact Yl hx ⟨j,by omega,hp,fun h=>absurd h hij⟩ ⟨rfl,rfl,rfl,rfl,rfl,trivial⟩
 rintro ⟨j,hj0,hp,hAj⟩
 dsimp only at hj0 hp hAj ⊢
 have k1:=hp.h1
 have k2:=hp.h2
 have k3:=hp.h3
 have hj:j<n:=by omega
 have kj:j<m.length:=by omega
 have hqm:AxOK (m.length * 7) q:=by rw [hm,←hn];exact hq
 have hqm2:∀k y,AxOK ((m.set k y).length * 7) q:=fun k y=>by rw [List.length_set];exact hqm
 by_cases hij:i≤j
 ·have hij2:=hp.ne hij (hAi (by omega)) (hAj hij)
  have hi:i<n:=by omega
  have ki:i<m.length:=by omega
  have kj2:j<(m.set i (gt m j)).length:=by rw [List.length_set];exact kj
  repeat' (first|refine ZC ?_|refine ZB ?_|refine ZD ?_|refine ZO ?_|refine ZQ ?_|rw [wi i hi]|rw [wj j (by omega) hj]|refine Zh (m:=n) (i) hi ?_|refine Zh (m:=n) (j) hj ?_|refine ZV 7 (i) 0 (ZM ki) ?_|refine ZV 7 (j) 0 (ZM kj) ?_|refine XN 7 (i) 0 (gt m (j)) (ZM ki) hqm ?_|refine XV 7 (j) 0 (gt m (i)) (ZM kj2) (hqm2 _ _) ?_|refine ZK 8 [Ax _ _ _ _ _] [(0,0),(1,0),(2,0),(3,0),(4,0),(5,0),(6,0),(8,0),(9,0),(10,0),(7,3),(11,3),(12,0),(13,4),(14,0)] [15] ?_|(refine ZF (fun hc=>?_) (fun hc=>?_)<;>(try simp at hc)<;>(try omega))|fail)
  exact ZW ⟨(i+1,j - 1,sw m i j),hp.sw (by omega) hij2 (hAi (by omega)) (hAj hij)⟩ (by show j - 1+1 - (i+1)<j0+1 - i0;omega) ⟨rfl,rfl,rfl,rfl,rfl,trivial⟩
 ·repeat' (first|refine ZC ?_|refine ZB ?_|refine ZD ?_|refine Zn ?_|(refine ZF (fun hc=>?_) (fun hc=>?_)<;>(try simp at hc)<;>(try omega))|fail)
  exact ZG ⟨(i,m),hp.w,by omega,by omega,by rw [←hP];exact hp.pa,fun k h1 h2=>by
   by_cases hk:k=a
   ·rw [hk,hp.pa];exact W.i _
   ·rw [hp.pa];exact hp.lo k (by omega) h2⟩ rfl trivial
end
section
variable (bk cap:Nat) (q:List Value×(Nat×Nat)) (fv:FuncId) (Fc:Pf) (c:Ch→Ch→Int) (W:Wk0 c) (U:Ch→Prop) (hcmp:∀x y,U x→U y→Enters fv∧Spec prog fv #[x.v,y.v] [Fc] [] (RetV (.int .i64 (c x y))))
include hcmp W in
set_option maxHeartbeats 8000000 in
theorem pinsC_ok (l:List Ch) (n:Nat) (hn:n=l.length) (hn2:n≤1000000) (hq:AxOK (n * 7) q) (hU:∀x ∈ l,U x) (a bb:Nat) (hab:a<bb) (hb:bb≤n) (hlw:Lw c a bb l) :
  Enters 182∧Spec prog 182 #[.slice (some ⟨bk,0,none⟩) n cap,.int .i64 (a:Int),.int .i64 (bb:Int),.func (.func fv) #[] #[]] [Fc] [Ax 105 chf bk l q]
   ⟨{t:Bool×List Ch // Win a bb l t.2∧(t.1=true→Sw c a bb t.2)},fun t=>.bool t.1.1,fun _=>True,fun _=>[],fun t=>[Ax 105 chf bk t.1.2 q]⟩:=by
 have w0:IntKind.i64.wrap ((a:Int)+1)=((a+1:Nat):Int):=by simp (disch:=omega) only [wrapi];omega
 have wi:∀i,i<n→IntKind.i64.wrap ((i:Int)+1)=((i+1:Nat):Int):=fun i hi=>by simp (disch:=omega) only [wrapi];omega
 have wj:∀j,0<j→j<n→IntKind.i64.wrap ((j:Int) - 1)=((j - 1:Nat):Int):=fun j h0 hi=>by simp (disch:=omega) only [wrapi];omega
 have wba:IntKind.i64.wrap ((bb:Int) - (a:Int))=((bb - a:Nat):Int):=by simp (disch:=omega) only [wrapi];omega
 refine ZH [_,_,_,_] func182 ntmps182 fun G w hp=>?_
 repeat' (first|refine ZC ?_|refine ZB ?_|refine ZD ?_|rw [w0]|fail)
 refine YH (X:={t:Nat×Nat×List Ch // t.1≤5∧a<t.2.1∧t.2.1≤bb∧Win a bb l t.2.2∧Sw c a t.2.1 t.2.2}) (fun t=>[(0,.slice (some ⟨bk,0,none⟩) n cap),(1,.int .i64 (a:Int)),(2,.int .i64 (bb:Int)),(3,.func (.func fv) #[] #[]),(9,.int .i64 (t.1.2.1:Int)),(10,.int .i64 (t.1.1:Int))]) (fun _=>[Fc]) (fun t=>[Ax 105 chf bk t.1.2.2 q]) (fun t=>5 - t.1.1)
  ⟨(0,a+1,l),by omega,by show a<a+1;omega,by show a+1≤bb;omega,Win.refl,Sw.nil (Nat.le_refl _)⟩ ⟨rfl,rfl,rfl,rfl,rfl,rfl,trivial⟩ ?_
 rintro ⟨⟨r,i0,m⟩,hr,h1,h2,h3,h4⟩
 dsimp only at hr h1 h2 h3 h4 ⊢
 have hm:=h3.len
 have hUm:=h3.sub hU
 by_cases hr5:r<5
 rotate_left
 ·repeat' (first|refine ZC ?_|refine ZB ?_|refine ZD ?_|refine Zn ?_|(refine ZF (fun hc=>?_) (fun hc=>?_)<;>(try simp at hc)<;>(try omega))|fail)
  exact ZG ⟨(false,m),h3,fun h=>by cases h⟩ rfl trivial
 have wr:IntKind.i64.wrap ((r:Int)+1)=((r+1:Nat):Int):=by simp (disch:=omega) only [wrapi];omega
 repeat' (first|refine ZC ?_|refine ZB ?_|refine ZD ?_|(refine ZF (fun hc=>?_) (fun hc=>?_)<;>(try simp at hc)<;>(try omega))|fail)
 refine WM (Y:={i:Nat // a<i∧i≤bb∧Sw c a i m∧(i<bb→c (gt m i) (gt m (i - 1))<0)}) (X:={i:Nat // a<i∧i≤bb∧Sw c a i m}) (fun i=>[(0,.slice (some ⟨bk,0,none⟩) n cap),(1,.int .i64 (a:Int)),(2,.int .i64 (bb:Int)),(3,.func (.func fv) #[] #[]),(9,.int .i64 (i.1:Int)),(10,.int .i64 (r:Int))]) (fun _=>[Fc]) (fun _=>[Ax 105 chf bk m q]) (fun i=>bb - i.1)
  (fun i=>[(0,.slice (some ⟨bk,0,none⟩) n cap),(1,.int .i64 (a:Int)),(2,.int .i64 (bb:Int)),(3,.func (.func fv) #[] #[]),(9,.int .i64 (i.1:Int)),(10,.int .i64 (r:Int))]) (fun _=>[Fc]) (fun _=>[Ax 105 chf bk m q]) ⟨i0,h1,h2,h4⟩ ⟨rfl,rfl,rfl,rfl,rfl,rfl,trivial⟩ ?_ ?_
 rotate_left
 ·intro hx
  rintro ⟨i,g1,g2,g3⟩
  dsimp only at g1 g2 g3 ⊢
  by_cases hib:i<bb
  ·have hi:i<n:=by omega
   have hj:i - 1<n:=by omega
   have ki:i<m.length:=by omega
   have kj:i - 1<m.length:=by omega
   have sp:=hcmp (gt m i) (gt m (i - 1)) (hUm _ (YK ki)) (hUm _ (YK kj))
   by_cases hc0:c (gt m i) (gt m (i - 1))<0
   ·repeat' (first|refine ZB ?_|refine ZO ?_|refine Z4 ?_|refine ZQ ?_|refine Zh (m:=n) (i) hi ?_|refine Zh (m:=n) (i - 1) hj ?_|refine Zv 7 (i) 0 (ZM ki) ?_|refine Zv 7 (i - 1) 0 (ZM kj) ?_|refine Zw sp (fun _ _=>?_)|(refine Zl (fun hc=>?_) (fun hc=>?_)<;>(try simp at hc)<;>(try omega))|refine ZK 5 [] [(0,0),(1,0),(2,0),(3,0),(4,0),(5,0),(6,0),(7,0),(8,0),(9,0),(10,0),(11,0),(12,0),(13,0),(14,4),(15,0),(16,0),(17,0)] [] ?_|(refine ZF (fun hc=>?_) (fun hc=>?_)<;>(try simp at hc)<;>(try omega))|fail)
    exact Yl hx ⟨i,g1,g2,g3,fun _=>hc0⟩ ⟨rfl,rfl,rfl,rfl,rfl,rfl,trivial⟩
   ·repeat' (first|refine ZC ?_|refine ZB ?_|refine ZD ?_|refine ZO ?_|refine Z4 ?_|refine ZQ ?_|refine Zh (m:=n) (i) hi ?_|refine Zh (m:=n) (i - 1) hj ?_|refine Zv 7 (i) 0 (ZM ki) ?_|refine Zv 7 (i - 1) 0 (ZM kj) ?_|refine Zw sp (fun _ _=>?_)|rw [wi i hi]|(refine Zl (fun hc=>?_) (fun hc=>?_)<;>(try simp at hc)<;>(try omega))|refine ZK 5 [] [(0,0),(1,0),(2,0),(3,0),(4,0),(5,0),(6,0),(7,0),(8,0),(9,0),(10,0),(11,0),(12,0),(13,0),(14,4),(15,0),(16,0),(17,0)] [] ?_|(refine ZF (fun hc=>?_) (fun hc=>?_)<;>(try simp at hc)<;>(try omega))|fail)
    exact ZW ⟨i+1,by omega,by omega,g3.snoc W g1 hc0⟩ (by show bb - (i+1)<bb - i;omega) ⟨rfl,rfl,rfl,rfl,rfl,rfl,trivial⟩
  ·repeat' (first|refine ZB ?_|refine ZE ?_|refine ZO ?_|refine Z4 ?_|refine ZQ ?_|(refine Zl (fun hc=>?_) (fun hc=>?_)<;>(try simp at hc)<;>(try omega))|refine ZK 5 [] [(0,0),(1,0),(2,0),(3,0),(4,0),(5,0),(6,0),(7,0),(8,0),(9,0),(10,0),(11,0),(12,0),(13,0),(14,4),(15,0),(16,0),(17,0)] [] ?_|fail)
   exact Yl hx ⟨i,g1,g2,g3,fun h=>absurd h hib⟩ ⟨rfl,rfl,rfl,rfl,rfl,rfl,trivial⟩
 rintro ⟨i,g1,g2,g3,g4⟩
 dsimp only at g1 g2 g3 g4 ⊢
 by_cases hib:i=bb
 ·subst hib
  have e0:decide ((i:Int)=(i:Int))=true:=decide_eq_true rfl
  repeat' (first|refine ZC ?_|refine ZB ?_|refine ZD ?_|(refine ZF (fun hc=>?_) (fun hc=>?_)<;>(try simp at hc)<;>(try omega))|fail)
  exact Y5 (XK (YS ⟨(true,m),h3,fun _=>g3⟩ rfl trivial))
 by_cases h50:bb - a<50
 ·repeat' (first|refine ZC ?_|refine ZB ?_|refine ZD ?_|rw [wba]|(refine ZF (fun hc=>?_) (fun hc=>?_)<;>(try simp at hc)<;>(try omega))|fail)
  exact Y5 (XK (YS ⟨(false,m),h3,fun h=>by cases h⟩ rfl trivial))
 have hc0:=g4 (by omega)
 have hi:i<n:=by omega
 have hj:i - 1<n:=by omega
 have ki:i<m.length:=by omega
 have kj:i - 1<m.length:=by omega
 have kj2:i - 1<(m.set i (gt m (i - 1))).length:=by rw [List.length_set];exact kj
 have hqm:AxOK (m.length * 7) q:=by rw [hm,←hn];exact hq
 have hqm2:∀k y,AxOK ((m.set k y).length * 7) q:=fun k y=>by rw [List.length_set];exact hqm
 have wia:IntKind.i64.wrap ((i:Int) - (a:Int))=((i - a:Nat):Int):=by simp (disch:=omega) only [wrapi];omega
 have wbi:IntKind.i64.wrap ((bb:Int) - (i:Int))=((bb - i:Nat):Int):=by simp (disch:=omega) only [wrapi];omega
 have b1:((i:Int) == (bb:Int))=false:=by rw [beq_eq_false_iff_ne];omega
 have b2:decide (((bb - a:Nat):Int)<50)=false:=decide_eq_false (by omega)
 repeat' (first|refine ZC ?_|refine ZB ?_|refine ZD ?_|refine ZE ?_|refine ZO ?_|refine ZQ ?_|refine Zh (m:=n) (i) hi ?_|refine Zh (m:=n) (i - 1) hj ?_|refine ZV 7 (i) 0 (ZM ki) ?_|refine ZV 7 (i - 1) 0 (ZM kj) ?_|refine XN 7 (i) 0 (gt m (i - 1)) (ZM ki) hqm ?_|refine XV 7 (i - 1) 0 (gt m (i)) (ZM kj2) (hqm2 _ _) ?_|rw [wba]|rw [wia]|rw [b1]|rw [b2]|refine ZK 11 [Ax _ _ _ _ _] [(0,0),(1,0),(2,0),(3,0),(4,0),(5,0),(6,0),(7,0),(8,0),(10,0),(11,0),(12,0),(9,3),(13,3),(14,0),(15,4),(16,0)] [17] ?_|fail)
 obtain ⟨m1,hm1⟩:∃m1,m1=sw m i (i - 1):=⟨_,rfl⟩
 have hw1:Win a bb l m1:=by rw [hm1];exact h3.trans (Win.sw (by omega) (by omega) (by omega) (by omega) (by omega))
 have hl1:Lsh c a i (i - 1) m1:=by rw [hm1];exact Lsh.init g3 (by omega) g1
 have hm1l:=hw1.len
 refine k_ax m1 hm1.symm ?_
 refine k_cut (Y:={m2:List Ch // Win a bb l m2∧Sw c a i m2}) (fun _=>[(0,.slice (some ⟨bk,0,none⟩) n cap),(1,.int .i64 (a:Int)),(2,.int .i64 (bb:Int)),(3,.func (.func fv) #[] #[]),(9,.int .i64 (i:Int)),(10,.int .i64 (r:Int))]) (fun _=>[Fc]) (fun m2=>[Ax 105 chf bk m2.1 q]) ?_ ?_
 ·rintro ⟨m2,hw2,hs2⟩
  dsimp only at hw2 hs2 ⊢
  have hm2l:=hw2.len
  by_cases hbi:bb - i<2
  ·repeat' (first|refine ZC ?_|refine ZB ?_|refine ZD ?_|rw [wbi]|rw [wr]|(refine ZF (fun hc=>?_) (fun hc=>?_)<;>(try simp at hc)<;>(try omega))|fail)
   exact ZW ⟨(r+1,i,m2),by show r+1≤5;omega,g1,g2,hw2,hs2⟩ (by show 5 - (r+1)<5 - r;omega) ⟨rfl,rfl,rfl,rfl,rfl,rfl,trivial⟩
  ·repeat' (first|refine ZC ?_|refine ZB ?_|refine ZD ?_|rw [wbi]|rw [wi i hi]|(refine ZF (fun hc=>?_) (fun hc=>?_)<;>(try simp at hc)<;>(try omega))|fail)
   refine WM (Y:={m3:List Ch // Win i bb m2 m3}) (X:={t:Nat×List Ch // i<t.1∧t.1≤bb∧Win i bb m2 t.2}) (fun t=>[(0,.slice (some ⟨bk,0,none⟩) n cap),(1,.int .i64 (a:Int)),(2,.int .i64 (bb:Int)),(3,.func (.func fv) #[] #[]),(9,.int .i64 (i:Int)),(10,.int .i64 (r:Int)),(12,.int .i64 (t.1.1:Int))]) (fun _=>[Fc]) (fun t=>[Ax 105 chf bk t.1.2 q]) (fun t=>bb - t.1.1)
    (fun _=>[(0,.slice (some ⟨bk,0,none⟩) n cap),(1,.int .i64 (a:Int)),(2,.int .i64 (bb:Int)),(3,.func (.func fv) #[] #[]),(9,.int .i64 (i:Int)),(10,.int .i64 (r:Int))]) (fun _=>[Fc]) (fun m3=>[Ax 105 chf bk m3.1 q]) ⟨(i+1,m2),by show i<i+1;omega,by show i+1≤bb;omega,Win.refl⟩ ⟨rfl,rfl,rfl,rfl,rfl,rfl,rfl,trivial⟩ ?_ ?_
   rotate_left
   ·intro hx
    rintro ⟨⟨j,m3⟩,j1,j2,j3⟩
    dsimp only at j1 j2 j3 ⊢
    have hm3l:=j3.len
    by_cases hjb:j<bb
    ·have hja:j<n:=by omega
     have hjb2:j - 1<n:=by omega
     have kja:j<m3.length:=by omega
     have kjb:j - 1<m3.length:=by omega
     have kjb2:j - 1<(m3.set j (gt m3 (j - 1))).length:=by rw [List.length_set];exact kjb
     have hU3:=(hw2.trans (j3.mono (by omega) (Nat.le_refl _))).sub hU
     have hq3:AxOK (m3.length * 7) q:=by rw [hm3l,hm2l,←hn];exact hq
     have hq32:∀k y,AxOK ((m3.set k y).length * 7) q:=fun k y=>by rw [List.length_set];exact hq3
     have sp:=hcmp (gt m3 j) (gt m3 (j - 1)) (hU3 _ (YK kja)) (hU3 _ (YK kjb))
     by_cases hc1:c (gt m3 j) (gt m3 (j - 1))<0
     ·repeat' (first|refine ZC ?_|refine ZB ?_|refine ZD ?_|refine ZO ?_|refine ZQ ?_|refine Zh (m:=n) (j) hja ?_|refine Zh (m:=n) (j - 1) hjb2 ?_|refine ZV 7 (j) 0 (ZM kja) ?_|refine ZV 7 (j - 1) 0 (ZM kjb) ?_|refine XN 7 (j) 0 (gt m3 (j - 1)) (ZM kja) hq3 ?_|refine XV 7 (j - 1) 0 (gt m3 (j)) (ZM kjb2) (hq32 _ _) ?_|refine Zv 7 (j) 0 (ZM kja) ?_|refine Zv 7 (j - 1) 0 (ZM kjb) ?_|refine Zw sp (fun _ _=>?_)|rw [wi j hja]|refine ZK 22 [] [(0,0),(1,0),(2,0),(3,0),(4,0),(5,0),(6,0),(7,0),(8,0),(9,0),(10,4),(11,0),(12,0)] [] ?_|refine ZK 23 [Ax _ _ _ _ _] [(0,0),(1,0),(2,0),(3,0),(4,0),(5,0),(6,0),(7,0),(8,0),(10,0),(11,0),(12,0),(9,3),(13,3),(14,0),(15,4),(16,0)] [17] ?_|(refine ZF (fun hc=>?_) (fun hc=>?_)<;>(try simp at hc)<;>(try omega))|fail)
      exact ZW ⟨(j+1,sw m3 j (j - 1)),by show i<j+1;omega,by show j+1≤bb;omega,j3.trans (Win.sw (by omega) hjb (by omega) (by omega) (by omega))⟩ (by show bb - (j+1)<bb - j;omega) ⟨rfl,rfl,rfl,rfl,rfl,rfl,rfl,trivial⟩
     ·repeat' (first|refine ZC ?_|refine ZB ?_|refine ZD ?_|refine ZO ?_|refine ZQ ?_|refine Zh (m:=n) (j) hja ?_|refine Zh (m:=n) (j - 1) hjb2 ?_|refine Zv 7 (j) 0 (ZM kja) ?_|refine Zv 7 (j - 1) 0 (ZM kjb) ?_|refine Zw sp (fun _ _=>?_)|refine ZK 22 [] [(0,0),(1,0),(2,0),(3,0),(4,0),(5,0),(6,0),(7,0),(8,0),(9,0),(10,4),(11,0),(12,0)] [] ?_|(refine ZF (fun hc=>?_) (fun hc=>?_)<;>(try simp at hc)<;>(try omega))|fail)
      exact Yl hx ⟨m3,j3⟩ ⟨rfl,rfl,rfl,rfl,rfl,rfl,trivial⟩
    ·repeat' (first|refine ZC ?_|refine ZB ?_|refine ZD ?_|(refine ZF (fun hc=>?_) (fun hc=>?_)<;>(try simp at hc)<;>(try omega))|fail)
     exact Yl hx ⟨m3,j3⟩ ⟨rfl,rfl,rfl,rfl,rfl,rfl,trivial⟩
   rintro ⟨m3,j3⟩
   repeat' (first|refine ZC ?_|refine ZB ?_|refine ZD ?_|rw [wr]|fail)
   exact ZW ⟨(r+1,i,m3),by show r+1≤5;omega,g1,g2,hw2.trans (j3.mono (by omega) (Nat.le_refl _)),hs2.out j3⟩ (by show 5 - (r+1)<5 - r;omega) ⟨rfl,rfl,rfl,rfl,rfl,rfl,trivial⟩
 ·intro hcut
  by_cases hia:i - a<2
  ·repeat' (first|refine k_skp ?_|refine k_to hcut ⟨m1,hw1,Sw.nil (by omega)⟩ ⟨rfl,rfl,rfl,rfl,rfl,rfl,trivial⟩|(refine ZF (fun hc=>?_) (fun hc=>?_)<;>(try simp at hc)<;>(try omega))|fail)
  ·repeat' (first|refine ZC ?_|refine ZB ?_|refine ZD ?_|rw [wj i (by omega) hi]|(refine ZF (fun hc=>?_) (fun hc=>?_)<;>(try simp at hc)<;>(try omega))|fail)
   refine WM (Y:={m3:List Ch // Win a i m1 m3∧Sw c a i m3}) (X:={t:Nat×List Ch // a≤t.1∧t.1<i∧Win a i m1 t.2∧Lsh c a i t.1 t.2}) (fun t=>[(0,.slice (some ⟨bk,0,none⟩) n cap),(1,.int .i64 (a:Int)),(2,.int .i64 (bb:Int)),(3,.func (.func fv) #[] #[]),(9,.int .i64 (i:Int)),(10,.int .i64 (r:Int)),(11,.int .i64 (t.1.1:Int))]) (fun _=>[Fc]) (fun t=>[Ax 105 chf bk t.1.2 q]) (fun t=>t.1.1)
    (fun _=>[(0,.slice (some ⟨bk,0,none⟩) n cap),(1,.int .i64 (a:Int)),(2,.int .i64 (bb:Int)),(3,.func (.func fv) #[] #[]),(9,.int .i64 (i:Int)),(10,.int .i64 (r:Int))]) (fun _=>[Fc]) (fun m3=>[Ax 105 chf bk m3.1 q]) ⟨(i - 1,m1),by show a≤i - 1;omega,by show i - 1<i;omega,Win.refl,hl1⟩ ⟨rfl,rfl,rfl,rfl,rfl,rfl,rfl,trivial⟩ ?_ ?_
   rotate_left
   ·intro hx
    rintro ⟨⟨j,m3⟩,j1,j2,j3,j4⟩
    dsimp only at j1 j2 j3 j4 ⊢
    have hm3l:=j3.len
    have hw3:=hw1.trans (j3.mono (Nat.le_refl _) g2)
    by_cases hj0:1≤j
    ·have hja:j<n:=by omega
     have hjb2:j - 1<n:=by omega
     have kja:j<m3.length:=by omega
     have kjb:j - 1<m3.length:=by omega
     have kjb2:j - 1<(m3.set j (gt m3 (j - 1))).length:=by rw [List.length_set];exact kjb
     have hU3:=hw3.sub hU
     have hq3:AxOK (m3.length * 7) q:=by rw [hm3l,hm1l,←hn];exact hq
     have hq32:∀k y,AxOK ((m3.set k y).length * 7) q:=fun k y=>by rw [List.length_set];exact hq3
     have sp:=hcmp (gt m3 j) (gt m3 (j - 1)) (hU3 _ (YK kja)) (hU3 _ (YK kjb))
     by_cases hc1:c (gt m3 j) (gt m3 (j - 1))<0
     ·have haj:a<j:=by
       by_cases hj:j=a
       ·subst hj
        exact absurd hc1 (hlw.win hw3 (by omega) (by omega) j (Nat.le_refl _) hab)
       ·omega
      repeat' (first|refine ZC ?_|refine ZB ?_|refine ZD ?_|refine ZO ?_|refine ZQ ?_|refine Zh (m:=n) (j) hja ?_|refine Zh (m:=n) (j - 1) hjb2 ?_|refine ZV 7 (j) 0 (ZM kja) ?_|refine ZV 7 (j - 1) 0 (ZM kjb) ?_|refine XN 7 (j) 0 (gt m3 (j - 1)) (ZM kja) hq3 ?_|refine XV 7 (j - 1) 0 (gt m3 (j)) (ZM kjb2) (hq32 _ _) ?_|refine Zv 7 (j) 0 (ZM kja) ?_|refine Zv 7 (j - 1) 0 (ZM kjb) ?_|refine Zw sp (fun _ _=>?_)|rw [wj j hj0 hja]|refine ZK 16 [] [(0,0),(1,0),(2,0),(3,0),(4,0),(5,0),(6,0),(7,0),(8,0),(9,0),(10,4),(11,0),(12,0)] [] ?_|refine ZK 17 [Ax _ _ _ _ _] [(0,0),(1,0),(2,0),(3,0),(4,0),(5,0),(6,0),(7,0),(8,0),(10,0),(11,0),(12,0),(9,3),(13,3),(14,0),(15,4),(16,0)] [17] ?_|(refine ZF (fun hc=>?_) (fun hc=>?_)<;>(try simp at hc)<;>(try omega))|fail)
      exact ZW ⟨(j - 1,sw m3 j (j - 1)),by show a≤j - 1;omega,by show j - 1<i;omega,j3.trans (Win.sw j1 j2 (by omega) (by omega) (by omega)),j4.step W haj j2 (by omega) hc1⟩ (by show j - 1<j;omega) ⟨rfl,rfl,rfl,rfl,rfl,rfl,rfl,trivial⟩
     ·repeat' (first|refine ZC ?_|refine ZB ?_|refine ZD ?_|refine ZO ?_|refine ZQ ?_|refine Zh (m:=n) (j) hja ?_|refine Zh (m:=n) (j - 1) hjb2 ?_|refine Zv 7 (j) 0 (ZM kja) ?_|refine Zv 7 (j - 1) 0 (ZM kjb) ?_|refine Zw sp (fun _ _=>?_)|refine ZK 16 [] [(0,0),(1,0),(2,0),(3,0),(4,0),(5,0),(6,0),(7,0),(8,0),(9,0),(10,4),(11,0),(12,0)] [] ?_|(refine ZF (fun hc=>?_) (fun hc=>?_)<;>(try simp at hc)<;>(try omega))|fail)
      exact Yl hx ⟨m3,j3,j4.stop W fun _=>hc1⟩ ⟨rfl,rfl,rfl,rfl,rfl,rfl,trivial⟩
    ·repeat' (first|refine ZC ?_|refine ZB ?_|refine ZD ?_|(refine ZF (fun hc=>?_) (fun hc=>?_)<;>(try simp at hc)<;>(try omega))|fail)
     exact Yl hx ⟨m3,j3,j4.stop W fun h=>by omega⟩ ⟨rfl,rfl,rfl,rfl,rfl,rfl,trivial⟩
   rintro ⟨m3,j3,j4⟩
   dsimp only at j3 j4 ⊢
   exact k_to hcut ⟨m3,hw1.trans (j3.mono (Nat.le_refl _) g2),j4⟩ ⟨rfl,rfl,rfl,rfl,rfl,rfl,trivial⟩
end
section
variable (bk cap:Nat) (q:List Value×(Nat×Nat)) (fv:FuncId) (Fc:Pf) (c:Ch→Ch→Int) (W:Wk0 c) (U:Ch→Prop) (hcmp:∀x y,U x→U y→Enters fv∧Spec prog fv #[x.v,y.v] [Fc] [] (RetV (.int .i64 (c x y))))
include hcmp W in
theorem insSC_ok (l:List Ch) (n:Nat) (hn:n=l.length) (hn2:n≤1000000) (hq:AxOK (n * 7) q) (hU:∀x ∈ l,U x) (a bb:Nat) (hab:a≤bb) (hb:bb≤n) :
  Enters 177∧Spec prog 177 #[.slice (some ⟨bk,0,none⟩) n cap,.int .i64 (a:Int),.int .i64 (bb:Int),.func (.func fv) #[] #[]] [Fc] [Ax 105 chf bk l q]
   ⟨{l':List Ch // Win a bb l l'∧Sw c a bb l'},fun _=>.tuple #[],fun _=>True,fun _=>[],fun l'=>[Ax 105 chf bk l'.1 q]⟩:=by
 obtain ⟨A,M,B,hl,hA,hM⟩:∃A M B,l=A++(M++B)∧A.length=a∧M.length=bb - a:=⟨l.take a,(l.drop a).take (bb - a),(l.drop a).drop (bb - a),by rw [List.take_append_drop,List.take_append_drop],by rw [List.length_take];omega,by rw [List.length_take,List.length_drop];omega⟩
 subst hl hA
 have e:bb=A.length+M.length:=by omega
 subst e
 have s:=insWC_ok bk cap q fv Fc c U hcmp A M B n (by rw [hn];simp) hn2 hq hU
 have h:=sw_of (A:=A) (B:=B) (isR_srd W M)
 rw [isR_len] at h
 exact ⟨s.1,s.2.imp fun G w hp x w' hx hs=>⟨⟨A++(isR c M++B),win_of (isR_perm M),h⟩,rfl,trivial,hs⟩⟩
include hcmp W in
set_option maxHeartbeats 8000000 in
theorem pdqWC_ok:∀(N:Nat) (l:List Ch) (n:Nat) (_:n=l.length) (_:n<256) (_:AxOK (n * 7) q) (_:∀x ∈ l,U x) (a bb:Nat) (_:a≤bb) (_:bb≤n) (_:bb - a≤N) (_:Lw c a bb l) (lim:Int),
  Enters 153∧Spec prog 153 #[.slice (some ⟨bk,0,none⟩) n cap,.int .i64 (a:Int),.int .i64 (bb:Int),.int .i64 lim,.func (.func fv) #[] #[]] [Fc] [Ax 105 chf bk l q]
   ⟨{l':List Ch // Win a bb l l'∧Sw c a bb l'},fun _=>.tuple #[],fun _=>True,fun _=>[],fun l'=>[Ax 105 chf bk l'.1 q]⟩:=by
 intro N
 induction N using Nat.strongRecOn with
 | ind N ih=>
 intro l n hn hn2 hq hU a bb hab hb hN hlw lim
 have ih2:=fun (m:List Ch) (hm:n=m.length) (hUm:∀x ∈ m,U x) (a' b':Nat) (h1:a'≤b') (h2:b'≤n) (h3:b' - a'<bb - a) (h4:Lw c a' b' m) lim=>ih (b' - a') (by omega) m n hm hn2 hq hUm a' b' h1 h2 (Nat.le_refl _) h4 lim
 clear ih
 refine ZH [_,_,_,_,_] func153 ntmps153 fun G w hp=>?_
 repeat' (first|refine ZC ?_|refine ZB ?_|refine ZD ?_|fail)
 refine YH (X:={t:Nat×Nat×Int×Bool×Bool×List Ch // t.1≤t.2.1∧Jw c a bb t.1 t.2.1 l t.2.2.2.2.2}) (fun t=>[(0,.slice (some ⟨bk,0,none⟩) n cap),(1,.int .i64 (t.1.1:Int)),(2,.int .i64 (t.1.2.1:Int)),(3,.int .i64 t.1.2.2.1),(4,.func (.func fv) #[] #[]),(10,.bool t.1.2.2.2.1),(11,.bool t.1.2.2.2.2.1)]) (fun _=>[Fc]) (fun t=>[Ax 105 chf bk t.1.2.2.2.2.2 q]) (fun t=>t.1.2.1 - t.1.1)
  ⟨(a,bb,lim,true,true,l),hab,Jw.init⟩ ⟨rfl,rfl,rfl,rfl,rfl,rfl,rfl,trivial⟩ ?_
 rintro ⟨⟨a1,b1,li,wb,wp,m⟩,h1,hJ⟩
 dsimp only at h1 hJ ⊢
 have hm:=hJ.w.len
 have ha1:=hJ.h1
 have hb1:=hJ.h2
 have hUm:=hJ.w.sub hU
 have hbl:bb≤l.length:=by omega
 obtain ⟨L,hL⟩:∃L,L=b1 - a1:=⟨_,rfl⟩
 have w0:IntKind.i64.wrap ((b1:Int) - (a1:Int))=(L:Int):=by simp (disch:=omega) only [wrapi];omega
 by_cases h12:L≤12
 ·have s1:=insSC_ok bk cap q fv Fc c W U hcmp m n (by omega) (by omega) hq hUm a1 b1 h1 (by omega)
  repeat' (first|refine ZC ?_|refine ZB ?_|refine ZD ?_|refine ZA (s1) (fun _ _=>?_)|rw [w0]|(refine ZF (fun hc=>?_) (fun hc=>?_)<;>(try simp at hc)<;>(try omega))|fail)
  rename_i l' _
  obtain ⟨l',g1,g2⟩:=l'
  exact Y5 (XK (YS ⟨l',(hJ.win hbl g1).done g2⟩ rfl trivial))
 by_cases hli:li=0
 ·have s1:=heapC_ok bk cap q fv Fc c W U hcmp m n (by omega) (by omega) hq hUm a1 b1 (by omega) (by omega)
  repeat' (first|refine ZC ?_|refine ZB ?_|refine ZD ?_|refine ZA (s1) (fun _ _=>?_)|rw [w0]|(refine ZF (fun hc=>?_) (fun hc=>?_)<;>(try simp at hc)<;>(try omega))|fail)
  rename_i l' _
  obtain ⟨l',g1,g2⟩:=l'
  exact Y5 (XK (YS ⟨l',(hJ.win hbl g1).done g2⟩ rfl trivial))
 have e12:decide ((L:Int)≤12)=false:=decide_eq_false (by omega)
 have eli:(li == 0)=false:=by rw [beq_eq_false_iff_ne];exact hli
 repeat' (first|refine ZC ?_|refine ZB ?_|refine ZD ?_|refine ZE ?_|rw [w0]|rw [e12]|rw [eli]|fail)
 refine k_cut (Y:={t:Int×List Ch // Win a1 b1 m t.2}) (fun t=>[(0,.slice (some ⟨bk,0,none⟩) n cap),(1,.int .i64 (a1:Int)),(2,.int .i64 (b1:Int)),(3,.int .i64 t.1.1),(4,.func (.func fv) #[] #[]),(10,.bool wb),(11,.bool wp),(12,.int .i64 (L:Int))]) (fun _=>[Fc]) (fun t=>[Ax 105 chf bk t.1.2 q]) ?_ ?_
 rotate_left
 ·intro hcut
  cases wb with
  | true=>
   repeat' (first|refine k_skp ?_|refine k_to hcut ⟨(li,m),Win.refl⟩ ⟨rfl,rfl,rfl,rfl,rfl,rfl,rfl,rfl,trivial⟩|refine ZE ?_|fail)
  | false=>
   have s1:=brkC_ok bk cap q fv Fc m n (by omega) hn2 hq a1 b1 (by omega) (by omega)
   repeat' (first|refine k_to hcut ⟨(_,_),?_⟩ ⟨rfl,rfl,rfl,rfl,rfl,rfl,rfl,rfl,trivial⟩|refine ZC ?_|refine ZB ?_|refine ZD ?_|refine ZJ ?_|refine ZA (s1) (fun _ _=>?_)|fail)
   rename_i l' _
   exact l'.2
 rintro ⟨⟨li1,m1⟩,hw1⟩
 dsimp only at hw1 ⊢
 have hm1:=hw1.len
 have hJ1:=hJ.win hbl hw1
 have sp:=chpC_ok bk cap q fv Fc c U hcmp m1 n (by omega) (by omega) (hJ1.w.sub hU) a1 b1 (by omega) (by omega)
 repeat' (first|refine ZC ?_|refine ZB ?_|refine ZD ?_|refine ZA (sp) (fun _ _=>?_)|fail)
 rename_i p _
 obtain ⟨⟨p,z⟩,hp1,hp2,hz⟩:=p
 dsimp only at hp1 hp2 hz ⊢
 refine k_cut (Y:={t:Nat×Int×List Ch // a1≤t.1∧t.1<b1∧Win a1 b1 m1 t.2.2}) (fun t=>[(0,.slice (some ⟨bk,0,none⟩) n cap),(1,.int .i64 (a1:Int)),(2,.int .i64 (b1:Int)),(3,.int .i64 li1),(4,.func (.func fv) #[] #[]),(10,.bool wb),(11,.bool wp),(12,.int .i64 (L:Int)),(13,.int .i64 (t.1.1:Int)),(14,.int .i64 t.1.2.1)]) (fun _=>[Fc]) (fun t=>[Ax 105 chf bk t.1.2.2 q]) ?_ ?_
 rotate_left
 ·intro hcut
  by_cases hz2:z=2
  ·subst hz2
   have s1:=revC_ok bk cap q fv Fc m1 n (by omega) (by omega) hq a1 b1 (by omega) (by omega)
   have w1:IntKind.i64.wrap (IntKind.i64.wrap ((b1:Int) - 1) - IntKind.i64.wrap ((p:Int) - (a1:Int)))=((b1 - 1 - (p - a1):Nat):Int):=by simp (disch:=omega) only [wrapi];omega
   refine ZJ ?_
   refine ZD ?_
   repeat' (first|refine ZC ?_|refine l_call0 s1 (fun _ _=>?_)|refine ZA s1 (fun _ _=>?_))
   refine ZB ?_
   refine ZD ?_
   repeat' (first|refine ZC ?_)
   rw [w1]
   refine ZB ?_
   refine ZD ?_
   repeat' (first|refine ZC ?_)
   refine ZB ?_
   rename_i l' _
   refine k_to hcut ⟨(b1 - 1 - (p - a1),_,_),?_⟩ ⟨rfl,rfl,rfl,rfl,rfl,rfl,rfl,rfl,rfl,rfl,trivial⟩
   exact ⟨by show a1≤b1 - 1 - (p - a1);omega,by show b1 - 1 - (p - a1)<b1;omega,l'.2⟩
  ·have ez:(z == 2)=false:=by rw [beq_eq_false_iff_ne];exact hz2
   rw [ez]
   repeat' (first|refine k_skp ?_|refine k_to hcut ⟨(p,z,m1),hp1,hp2,Win.refl⟩ ⟨rfl,rfl,rfl,rfl,rfl,rfl,rfl,rfl,rfl,rfl,trivial⟩|refine ZE ?_|fail)
 rintro ⟨⟨p,z,m2⟩,hp1,hp2,hw2⟩
 dsimp only at hp1 hp2 hw2 ⊢
 have hm2:=hw2.len
 have hJ2:=hJ1.win hbl hw2
 have hlw2:=hJ2.low hbl hlw
 have sp:=pinsC_ok bk cap q fv Fc c W U hcmp m2 n (by omega) (by omega) hq (hJ2.w.sub hU) a1 b1 (by omega) (by omega) hlw2
 refine k_cutd (Y:={m3:List Ch // Win a1 b1 m2 m3}) 1 (fun _=>[(0,.slice (some ⟨bk,0,none⟩) n cap),(1,.int .i64 (a1:Int)),(2,.int .i64 (b1:Int)),(3,.int .i64 li1),(4,.func (.func fv) #[] #[]),(10,.bool wb),(11,.bool wp),(12,.int .i64 (L:Int)),(13,.int .i64 (p:Int))]) (fun _=>[Fc]) (fun m3=>[Ax 105 chf bk m3.1 q]) ?_ ?_
 rotate_left
 ·intro hcut
  repeat' (first|refine k_skp ?_|refine k_to hcut ⟨_,?_⟩ ⟨rfl,rfl,rfl,rfl,rfl,rfl,rfl,rfl,rfl,trivial⟩|refine ZC ?_|refine ZB ?_|refine ZU ?_|refine ZD ?_|refine ZE ?_|refine ZA (sp) (fun _ _=>?_)|(refine ZT (fun hc=>?_) (fun hc=>?_)<;>(try simp at hc))|(refine ZF (fun hc=>?_) (fun hc=>?_)<;>(try simp at hc))|fail)
  ·rename_i x _
   obtain ⟨⟨f,m3⟩,g1,g2⟩:=x
   obtain rfl:f=true:=hc
   exact Y5 (XK (YS ⟨m3,(hJ2.win hbl g1).done (g2 rfl)⟩ rfl trivial))
  ·rename_i x _
   exact x.2.1
  all_goals exact Win.refl
 rintro ⟨m3,hw3⟩
 dsimp only at hw3 ⊢
 have hm3:=hw3.len
 have hJ3:=hJ2.win hbl hw3
 have hlw3:=hJ3.low hbl hlw
 have hU3:=hJ3.w.sub hU
 have hn3:n=m3.length:=by omega
 have hp:p<n:=by omega
 have kp:p<m3.length:=by omega
 have ga:=fun (h:0<a1)=>ZM (l:=m3) (i:=a1 - 1) (by omega)
 have wa1:0<a1→IntKind.i64.wrap ((a1:Int) - 1)=((a1 - 1:Nat):Int):=fun h=>by simp (disch:=omega) only [wrapi];omega
 by_cases h0:0<a1∧¬c (gt m3 (a1 - 1)) (gt m3 p)<0
 ·have g1:=ga h0.1
  have hh1:a1 - 1<n:=by omega
  have sp2:=hcmp (gt m3 (a1 - 1)) (gt m3 p) (hU3 _ (YK (by omega))) (hU3 _ (YK kp))
  have s1:=parEC_ok bk cap q fv Fc c W U hcmp m3 n hn3 (by omega) hq hU3 a1 b1 p (by omega) (by omega) hp1 hp2
  have h01:=h0.1
  have h02:=h0.2
  repeat' (first|refine ZC ?_|refine ZB ?_|refine ZD ?_|refine ZO ?_|refine Z4 ?_|refine ZQ ?_|refine ZA (s1) (fun _ _=>?_)|rw [wa1 h01]|refine Zh (m:=n) (a1 - 1) hh1 ?_|refine Zh (m:=n) p hp ?_|refine Zv 7 (a1 - 1) 0 g1 ?_|refine Zv 7 p 0 (ZM kp) ?_|refine Zw sp2 (fun _ _=>?_)|(refine Zl (fun hc=>?_) (fun hc=>?_)<;>(try simp at hc)<;>(try omega))|refine ZK 17 [] [(0,0),(1,0),(2,0),(3,0),(4,0),(5,0),(6,0),(7,0),(8,0),(9,0),(10,0),(11,0),(12,0),(13,4),(14,0),(15,0),(16,0)] [] ?_|(refine ZF (fun hc=>?_) (fun hc=>?_)<;>(try simp at hc)<;>(try omega))|fail)
  rename_i x _
  obtain ⟨⟨mid,m4⟩,f1,f2,f3,f4,f5⟩:=x
  dsimp only at f1 f2 f3 f4 f5 ⊢
  have hlow:∀k,a1≤k→k<b1→¬c (gt m4 k) (gt m4 a1)<0:=fun k k1 k2=>by
   rw [f4]
   exact f1.all (by omega) (P:=fun x=>¬c x (gt m3 p)<0) (fun k k1 k2=>W.t _ _ _ h02 (hlw3 h01 k k1 k2)) k k1 k2
  exact ZW ⟨(mid,b1,li1,wb,wp,m4),f3,(hJ3.win hbl f1).shrink (by omega) (Nat.le_refl _) (eq_shrink W hlow f5)⟩ (by show b1 - mid<b1 - a1;omega) ⟨rfl,rfl,rfl,rfl,rfl,rfl,rfl,trivial⟩
 ·have s1:=partC_ok bk cap q fv Fc c U hcmp m3 n hn3 (by omega) hq hU3 a1 b1 p (by omega) (by omega) hp1 hp2
  have w8:IntKind.i64.wrap ((L:Int).tdiv 8)=((L / 8:Nat):Int):=by
   have:(L:Int).tdiv 8=((L / 8:Nat):Int):=(Int.ofNat_tdiv _ _).symm
   rw [this,wrapi (by omega) (by omega)]
  have key:∀(mid:Nat) (ap:Bool) (m4:List Ch),Win a1 b1 m3 m4→Pt0 c a1 b1 mid m4→True:=fun _ _ _ _ _=>trivial
  clear key
  refine k_cutd (Y:={t:Nat×Bool×List Ch // Win a1 b1 m3 t.2.2∧Pt0 c a1 b1 t.1 t.2.2}) 2 (fun t=>[(0,.slice (some ⟨bk,0,none⟩) n cap),(1,.int .i64 (a1:Int)),(2,.int .i64 (b1:Int)),(3,.int .i64 li1),(4,.func (.func fv) #[] #[]),(12,.int .i64 (L:Int)),(16,.int .i64 (t.1.1:Int)),(17,.bool t.1.2.1)]) (fun _=>[Fc]) (fun t=>[Ax 105 chf bk t.1.2.2 q]) ?_ ?_
  rotate_left
  ·intro hcut
   by_cases h01:0<a1
   ·have g1:=ga h01
    have hh1:a1 - 1<n:=by omega
    have sp2:=hcmp (gt m3 (a1 - 1)) (gt m3 p) (hU3 _ (YK (by omega))) (hU3 _ (YK kp))
    have h02:c (gt m3 (a1 - 1)) (gt m3 p)<0:=Classical.byContradiction fun h=>h0 ⟨h01,h⟩
    repeat' (first|refine k_skp ?_|refine k_to hcut ⟨(_,_,_),?_⟩ ⟨rfl,rfl,rfl,rfl,rfl,rfl,rfl,rfl,trivial⟩|refine ZC ?_|refine ZB ?_|refine ZD ?_|refine ZO ?_|refine Z4 ?_|refine ZQ ?_|refine ZA (s1) (fun _ _=>?_)|rw [wa1 h01]|refine Zh (m:=n) (a1 - 1) hh1 ?_|refine Zh (m:=n) p hp ?_|refine Zv 7 (a1 - 1) 0 g1 ?_|refine Zv 7 p 0 (ZM kp) ?_|refine Zw sp2 (fun _ _=>?_)|(refine Zl (fun hc=>?_) (fun hc=>?_)<;>(try simp at hc)<;>(try omega))|refine ZK 17 [] [(0,0),(1,0),(2,0),(3,0),(4,0),(5,0),(6,0),(7,0),(8,0),(9,0),(10,0),(11,0),(12,0),(13,4),(14,0),(15,0),(16,0)] [] ?_|(refine ZF (fun hc=>?_) (fun hc=>?_)<;>(try simp at hc)<;>(try omega))|fail)
   ·repeat' (first|refine k_skp ?_|refine k_to hcut ⟨(_,_,_),?_⟩ ⟨rfl,rfl,rfl,rfl,rfl,rfl,rfl,rfl,trivial⟩|refine ZC ?_|refine ZB ?_|refine ZD ?_|refine ZE ?_|refine ZO ?_|refine Z4 ?_|refine ZQ ?_|refine ZA (s1) (fun _ _=>?_)|(refine Zl (fun hc=>?_) (fun hc=>?_)<;>(try simp at hc)<;>(try omega))|refine ZK 17 [] [(0,0),(1,0),(2,0),(3,0),(4,0),(5,0),(6,0),(7,0),(8,0),(9,0),(10,0),(11,0),(12,0),(13,4),(14,0),(15,0),(16,0)] [] ?_|fail)
  clear s1
  rintro ⟨⟨mid,ap,m4⟩,f1,f2⟩
  dsimp only at f1 f2 ⊢
  have f3:=f2.h1
  have f4:=f2.h2
  have hJ4:=hJ3.win hbl f1
  have hlw4:=hJ4.low hbl hlw
  have hm4:=f1.len
  have hU4:=hJ4.w.sub hU
  have w1:IntKind.i64.wrap ((mid:Int) - (a1:Int))=((mid - a1:Nat):Int):=by simp (disch:=omega) only [wrapi];omega
  have w2:IntKind.i64.wrap ((b1:Int) - (mid:Int))=((b1 - mid:Nat):Int):=by simp (disch:=omega) only [wrapi];omega
  have w3:IntKind.i64.wrap ((mid:Int)+1)=((mid+1:Nat):Int):=by simp (disch:=omega) only [wrapi];omega
  by_cases hlr:mid - a1<b1 - mid
  ·have s1:=ih2 m4 (by omega) hU4 a1 mid f3 (by omega) (by omega) (hlw4.sub (by omega)) li1
   repeat' (first|refine ZC ?_|refine ZB ?_|refine ZD ?_|refine ZA (s1) (fun _ _=>?_)|rw [w1]|rw [w2]|rw [w3]|rw [w8]|(refine ZF (fun hc=>?_) (fun hc=>?_)<;>(try simp at hc)<;>(try omega))|fail)
   rename_i x _
   obtain ⟨m5,k1,k2⟩:=x
   exact ZW ⟨(mid+1,b1,li1,_,ap,m5),by show mid+1≤b1;omega,(hJ4.win hbl (k1.mono (Nat.le_refl _) (by omega))).shrink (by omega) (Nat.le_refl _) (f2.left W (by omega) k1 k2)⟩ (by show b1 - (mid+1)<b1 - a1;omega) ⟨rfl,rfl,rfl,rfl,rfl,rfl,rfl,trivial⟩
  ·have s1:=ih2 m4 (by omega) hU4 (mid+1) b1 (by omega) (by omega) (by omega) f2.lw li1
   repeat' (first|refine ZC ?_|refine ZB ?_|refine ZD ?_|refine ZA (s1) (fun _ _=>?_)|rw [w1]|rw [w2]|rw [w3]|rw [w8]|(refine ZF (fun hc=>?_) (fun hc=>?_)<;>(try simp at hc)<;>(try omega))|fail)
   rename_i x _
   obtain ⟨m5,k1,k2⟩:=x
   exact ZW ⟨(a1,mid,li1,_,ap,m5),f3,(hJ4.win hbl (k1.mono (by omega) (Nat.le_refl _))).shrink (Nat.le_refl _) (by show mid≤b1;omega) (f2.right W (by omega) k1 k2)⟩ (by show mid - a1<b1 - a1;omega) ⟨rfl,rfl,rfl,rfl,rfl,rfl,rfl,trivial⟩
end
theorem insC0_ok (o:Option Addr) (cap:Nat) (fv:FuncId) :
  Enters 177∧Spec prog 177 #[.slice o 0 cap,.int .i64 0,.int .i64 0,.func (.func fv) #[] #[]] [] [] ⟨Unit,fun _=>.tuple #[],fun _=>True,fun _=>[],fun _=>[]⟩:=by
 refine ZH [_,_,_,_] func177 ntmps177 fun G w hp=>?_
 repeat' (first|refine ZC ?_|refine ZB ?_|refine ZD ?_|fail)
 refine YH (X:=Unit) (fun _=>[(2,.int .i64 0),(8,.int .i64 1)]) (fun _=>[]) (fun _=>[]) (fun _=>0) () ⟨rfl,rfl,trivial⟩ ?_
 rintro ⟨⟩
 repeat' (first|refine ZC ?_|refine ZB ?_|refine ZD ?_|refine ZE ?_|refine Zn ?_|fail)
 exact XU () rfl trivial
theorem pdqC0_ok (o:Option Addr) (cap:Nat) (lim:Int) (fv:FuncId) :
  Enters 153∧Spec prog 153 #[.slice o 0 cap,.int .i64 0,.int .i64 0,.int .i64 lim,.func (.func fv) #[] #[]] [] [] ⟨Unit,fun _=>.tuple #[],fun _=>True,fun _=>[],fun _=>[]⟩:=by
 have s1:=insC0_ok o cap fv
 refine ZH [_,_,_,_,_] func153 ntmps153 fun G w hp=>?_
 repeat' (first|refine ZC ?_|refine ZB ?_|refine ZD ?_|fail)
 refine YH (X:=Unit) (fun _=>[(0,.slice o 0 cap),(1,.int .i64 0),(2,.int .i64 0),(3,.int .i64 lim),(4,.func (.func fv) #[] #[])]) (fun _=>[]) (fun _=>[]) (fun _=>0) () ⟨rfl,rfl,rfl,rfl,rfl,trivial⟩ ?_
 rintro ⟨⟩
 repeat' (first|refine ZC ?_|refine ZB ?_|refine ZD ?_|refine ZJ ?_|refine ZA (s1) (fun _ _=>?_)|fail)
 exact Y5 (XK (YS () rfl trivial))
theorem Ww (o:Option Addr) (cap:Nat) (es:List Ch) (fv:FuncId) (Fc:Pf) (c:Ch→Ch→Int) (hn:es.length≤200)
  (ha:∀a b,c a b<0→¬c b a<0) (ht:∀a b d,¬c b a<0→¬c d b<0→¬c d a<0) (hcmp:∀x y,x ∈ es→y ∈ es→Enters fv∧Spec prog fv #[x.v,y.v] [Fc] [] (RetV (.int .i64 (c x y)))) :
  Enters 104∧Spec prog 104 #[.slice o es.length cap,.func (.func fv) #[] #[]] [Fc] [Row 105 7 o es.length cap (es.flatMap chf)]
   ⟨List Ch,fun _=>.tuple #[],fun l=>l.Perm es∧Srd c l,fun _=>[],fun l=>[Row 105 7 o es.length cap (l.flatMap chf)]⟩:=by
 have hu:IntKind.u64.wrap ((es.length:Nat):Int)=(es.length:Int):=Vg (by omega)
 have s2:=bitsLen_ok es.length (by omega)
 by_cases h0:es=[]
 ·subst h0
  refine ZH [_,_] func104 ntmps104 fun G w hp=>?_
  have s3:=fun lim=>pdqC0_ok o cap lim fv
  repeat' (first|refine ZC ?_|refine ZB ?_|refine ZD ?_|refine ZA (s2) (fun _ _=>?_)|refine ZA (s3 _) (fun _ _=>?_)|rw [hu]|fail)
  exact XU [] rfl ⟨List.Perm.refl _,List.Pairwise.nil⟩
 ·have hlen:0<es.length:=List.length_pos_iff.2 h0
  refine ZH [_,_] func104 ntmps104 fun G w hp=>?_
  refine k_row hlen fun p hp=>?_
  have hq:AxOK (es.length * 7) p.2:=by
   rcases hp.f with h|h
   ·exact .inl h
   ·exact .inr (by rw [List.length_append,hp.l] at h;exact h)
  have ho:=hp.o
  subst ho
  have s4:=fun lim=>pdqWC_ok p.1 cap p.2 fv Fc c ⟨ha,fun x y z=>ht x y z⟩ (fun x=>x ∈ es) (fun x y hx hy=>hcmp x y hx hy) es.length es es.length rfl (by omega) hq (fun x hx=>hx) 0 es.length (Nat.zero_le _) (Nat.le_refl _) (Nat.le_refl _) (fun h=>absurd h (Nat.lt_irrefl _)) lim
  have s3:∀lim,Enters 153∧Spec prog 153 #[.slice (some ⟨p.1,0,none⟩) es.length cap,.int .i64 0,.int .i64 (es.length:Int),.int .i64 lim,.func (.func fv) #[] #[]] [Fc] [Ax 105 chf p.1 es p.2]
    ⟨List Ch,fun _=>.tuple #[],fun l=>l.Perm es∧Srd c l,fun _=>[],fun l=>[Ax 105 chf p.1 l p.2]⟩:=fun lim=>⟨(s4 lim).1,(s4 lim).2.imp fun G w hp x w' hx hs=>⟨x.1,rfl,⟨x.2.1.perm,Sw.srdn x.2.1.len x.2.2⟩,hs⟩⟩
  repeat' (first|refine ZC ?_|refine ZB ?_|refine ZD ?_|refine ZA (s2) (fun _ _=>?_)|refine ZA (s3 _) (fun _ _=>?_)|rw [hu]|fail)
  rename_i l hl
  have hll:=hl.1.length_eq
  refine Zq (r:=Row 105 7 (some ⟨p.1,0,none⟩) es.length cap (l.flatMap chf)) (Lx:=[Ax 105 chf p.1 l p.2]) (fun h hh=>UR (q:=p) ⟨rfl,by rw [YT (f:=chf) (sz:=7) (fun _=>rfl),hll],by rw [←hp.c,List.length_append,List.length_append,YT (f:=chf) (sz:=7) (fun _=>rfl),YT (f:=chf) (sz:=7) (fun _=>rfl),hll],hp.m,by rw [List.length_append,YT (f:=chf) (sz:=7) (fun _=>rfl),hll];rcases hp.f with h|h;exact .inl h;exact .inr (by rw [List.length_append,hp.l] at h;exact h)⟩ h hh) ?_
  exact XU l rfl hl
def cmpC (a b:Ch):Int:=cmpO a.nm b.nm
theorem Vn (a b:Ch) (h:cmpC a b<0):¬cmpC b a<0:=by
 have:=(Yc a.nm b.nm).1 h
 unfold cmpC;omega
theorem cmpO_le {a b d:Nm} (h1:¬cmpO b a<0) (h2:¬cmpO d b<0):¬cmpO d a<0:=fun h=>by
 by_cases h3:cmpO a b<0
 ·exact h2 (XD h h3)
 ·have h4:¬0<cmpO a b:=fun h5=>h1 ((Yc b a).2 h5)
  have h5:cmpO a b=0:=by omega
  obtain rfl:=(Yj a b).1 h5
  exact h2 h
theorem cmpC_t (a b d:Ch) (h1:¬cmpC b a<0) (h2:¬cmpC d b<0):¬cmpC d a<0:=cmpO_le h1 h2
theorem Spec.more {P:Program} {f:FuncId} {args:Array Value} {F:List Pf} {R:List HP} {post:Post} (h:Spec P f args [] R post):Spec P f args F R post:=fun G w hp hs=>
 (h G w hp (hs.facts fun _ _ _ hx=>by cases hx))
theorem Uk (a c:Ch) (ha:a.nm.owner.size≤1099511627770) (hc:c.nm.owner.size≤1099511627770):Enters 105∧Spec prog 105 #[a.v,c.v] [] [] (RetV (.int .i64 (cmpC a c))):=by
 have n1:=Wt a.nm c.nm ha hc
 refine ZH [_,_] func105 ntmps105 fun G w hp=>?_
 repeat' (first|refine ZC ?_|refine ZB ?_|refine ZD ?_|refine ZP ?_|refine ZN (fun b=>?_)|refine ZA (n1) (fun _ _=>?_)|fail)
 exact ZG () rfl trivial
def Ch.z:Ch:=⟨⟨0,⟨#[]⟩,0,0,⟨#[]⟩⟩,⟨#[]⟩,false⟩
def chAt (cs:List Ch) (p:Nm×Nat):Ch:=(cs[p.2]?).getD Ch.z
def insC (c:Ch):List Ch→List Ch
 | []=>[c]
 | d::l=>if cmpC c d<0 then c::d::l else d::insC c l
def srtC (l:List Ch):List Ch:=l.foldr insC []
def vwr (cs:List Ch):List Ch:=srtC ((lastL cs).map (chAt cs))
theorem Ub (c:Ch):∀l,(insC c l).Perm (c::l)
 | []=>List.Perm.refl _
 | d::l=>by
  unfold insC
  split
  ·exact List.Perm.refl _
  ·exact ((Ub c l).cons d).trans (List.Perm.swap _ _ _)
theorem Ya:∀l,(srtC l).Perm l
 | []=>List.Perm.refl _
 | c::l=>(Ub c _).trans ((Ya l).cons c)
theorem insC_srd (c:Ch):∀l,Srd cmpC l→Srd cmpC (insC c l)
 | [],_=>List.pairwise_singleton _ _
 | d::l,h=>by
  obtain ⟨h1,h2⟩:=List.pairwise_cons.1 h
  unfold insC
  split
  ·rename_i hlt
   refine List.pairwise_cons.2 ⟨fun x hx=>?_,h⟩
   rcases List.mem_cons.1 hx with rfl|hx
   ·exact Vn _ _ hlt
   ·exact cmpC_t _ _ _ (Vn _ _ hlt) (h1 x hx)
  ·rename_i hge
   refine List.pairwise_cons.2 ⟨fun x hx=>?_,insC_srd c l h2⟩
   rcases List.mem_cons.1 ((Ub c l).mem_iff.1 hx) with rfl|hx
   ·exact hge
   ·exact h1 x hx
theorem srtC_srd:∀l,Srd cmpC (srtC l)
 | []=>List.Pairwise.nil
 | c::l=>insC_srd c _ (srtC_srd l)
theorem srd_eq:∀(a b:List Ch),a.Perm b→Srd cmpC a→Srd cmpC b→(a.map (·.nm)).Nodup→a=b
 | [],b,hp,_,_,_=>(List.nil_perm.1 hp).symm
 | x::a,[],hp,_,_,_=>by have:=hp.length_eq;simp at this
 | x::a,y::b,hp,ha,hb,hn=>by
  obtain ⟨a1,a2⟩:=List.pairwise_cons.1 ha
  obtain ⟨b1,b2⟩:=List.pairwise_cons.1 hb
  have hxy:x=y:=by
   rcases List.mem_cons.1 (hp.mem_iff.1 (List.mem_cons_self (a:=x))) with h|h
   ·exact h
   ·rcases List.mem_cons.1 (hp.mem_iff.2 (List.mem_cons_self (a:=y))) with h'|h'
    ·exact h'.symm
    ·have h1:=a1 y h'
     have h2:=b1 x h
     have h3:cmpO x.nm y.nm=0:=by
      have:=Yc x.nm y.nm
      have:=Yc y.nm x.nm
      unfold cmpC at h1 h2
      omega
     have h4:=(Yj _ _).1 h3
     simp only [List.map_cons,List.nodup_cons] at hn
     exact absurd (List.mem_map.2 ⟨y,h',h4.symm⟩) hn.1
  subst hxy
  simp only [List.map_cons,List.nodup_cons] at hn
  rw [srd_eq a b (List.Perm.cons_inv hp) a2 b2 hn.2]
theorem WC {cs:List Ch} {p:Nm×Nat} (h:p ∈ lastL cs):cs[p.2]? = some (chAt cs p)∧(chAt cs p).nm=p.1:=by
 have h1:=(mget_mem (lastL cs) (Xe cs) p.1 p.2).2 h
 obtain ⟨c,h2,h3⟩:=(WF p.1 cs).1 p.2 h1
 unfold chAt
 rw [h2]
 exact ⟨rfl,(Vx h3).1⟩
theorem vwr_eq {cs l:List Ch} (hp:l.Perm ((lastL cs).map (chAt cs))) (hs:Srd cmpC l):l=vwr cs:=by
 refine srd_eq _ _ (hp.trans (Ya _).symm) hs (srtC_srd _) ?_
 have h1:=hp.map (·.nm)
 refine h1.nodup_iff.2 ?_
 rw [List.map_map]
 have h2:(lastL cs).map ((·.nm) ∘ chAt cs)=(lastL cs).map (·.1):=List.map_congr_left fun p hp=>(WC hp).2
 rw [h2]
 exact Xe cs
def WrPost (b:Nat) (ps:Option Addr) (rs:List (Nm×Ch)) (cs:List Ch):Post:=⟨Option Addr×Nat,fun q=>.slice q.1 (vwr cs).length q.2,fun _=>True,fun _=>[],fun q=>[Vw b ps rs cs,Row 105 7 q.1 (vwr cs).length q.2 ((vwr cs).flatMap chf)]⟩
theorem vwr_len (cs:List Ch):(vwr cs).length=(lastL cs).length:=by
 unfold vwr;rw [(Ya _).length_eq,List.length_map]
set_option maxHeartbeats 2000000 in
theorem vwWrites_ok (b:Nat) (ps:Option Addr) (rs:List (Nm×Ch)) (cs:List Ch) (hl:(lastL cs).length≤200) (hsz:∀c ∈ cs,c.nm.owner.size≤1099511627770) :
  Enters 49∧Spec prog 49 #[.pointer (some ⟨b,0,none⟩)] [Usg] [Vw b ps rs cs] (WrPost b ps rs cs):=by
 by_cases hcs:cs=[]
 ·subst hcs
  have n1:=Ww none 0 [] 105 Usg cmpC (by simp) Vn cmpC_t (by simp)
  refine ZH [_] func49 ntmps49 fun G w hp=>?_
  refine k_vw fun q=>?_
  obtain ⟨r1,r2,o,cap⟩:=q
  repeat' (first|refine ZC ?_|refine ZB ?_|refine ZD ?_|refine ZP ?_|refine ZE ?_|refine l_rng (K:=Nm.v) (V:=iv) (fun it=>?_)|fail)
  refine YH (X:=Unit) (fun _=>[(0,.pointer (some ⟨b,0,none⟩)),(3,.slice none 0 0),(12,.pointer (some ⟨it,0,none⟩))]) (fun _=>[Usg]) (fun _=>[Pt b (.cells #[.pointer ps,.map (some r1),.slice o 0 cap,.map (some r2)] 166),Mp Nm.v Ch.v r1 rs,Row 105 7 o 0 cap [],MpI Nm.v iv r2 it [] []]) (fun _=>0) () ⟨rfl,rfl,rfl,trivial⟩ ?_
  rintro ⟨⟩
  refine Zq (r:=Row 105 7 none 0 0 []) (Lx:=[]) (fun h _=>YX _ _ h) ?_
  repeat' (first|refine ZC ?_|refine ZB ?_|refine ZD ?_|refine ZJ ?_|refine ZE ?_|refine Zn ?_|refine ZA (n1) (fun _ _=>?_)|refine l_nxt (K:=Nm.v) (V:=iv) (fun p hp=>?_) (fun hp=>?_)|fail)
  ·exfalso
   obtain ⟨rest,h⟩:=hp
   have:=h.length_eq
   simp at this
  ·rename_i l hl2
   obtain rfl:l=[]:=List.perm_nil.1 hl2.1
   refine k_rngE (r:=r2) (it:=it) (K:=Nm.v) (V:=iv) (m:=[]) ?_
   refine k_vw' (cs:=[]) (rs:=rs) ?_ rfl rfl rfl
   exact ZG (post:=WrPost b ps rs []) (none,0) rfl trivial
 ·have hpos:0<cs.length:=List.length_pos_iff.2 hcs
  refine ZH [_] func49 ntmps49 fun G w hp=>?_
  refine k_vw fun q=>?_
  obtain ⟨r1,r2,o,cap⟩:=q
  refine k_row (m:=cs.length) hpos fun p hp=>?_
  have ho:=hp.o
  subst ho
  have hsp:Ax 105 chf p.1 cs p.2=Pt p.1 (.cells (cs.flatMap chf++p.2.1).toArray 105 p.2.2):=rfl
  rw [←hsp]
  repeat' (first|refine ZC ?_|refine ZB ?_|refine ZD ?_|refine ZP ?_|refine ZE ?_|refine l_rng (K:=Nm.v) (V:=iv) (fun it=>?_)|fail)
  refine Zq (r:=Row 105 7 none 0 0 []) (Lx:=[]) (fun h _=>YX _ _ h) ?_
  refine YH (X:={t:List (Nm×Nat)×Option Addr×Nat // ∃rest,(t.1++rest).Perm (lastL cs)}) (fun t=>[(0,.pointer (some ⟨b,0,none⟩)),(3,.slice t.1.2.1 (t.1.1.map (chAt cs)).length t.1.2.2),(12,.pointer (some ⟨it,0,none⟩))]) (fun _=>[Usg])
   (fun t=>[Pt b (.cells #[.pointer ps,.map (some r1),.slice (some ⟨p.1,0,none⟩) cs.length cap,.map (some r2)] 166),Mp Nm.v Ch.v r1 rs,Ax 105 chf p.1 cs p.2,MpI Nm.v iv r2 it (lastL cs) t.1.1,Row 105 7 t.1.2.1 (t.1.1.map (chAt cs)).length t.1.2.2 ((t.1.1.map (chAt cs)).flatMap chf)]) (fun t=>(lastL cs).length - t.1.1.length)
   ⟨([],none,0),lastL cs,by simp⟩ ⟨rfl,rfl,rfl,trivial⟩ ?_
  rintro ⟨⟨pre,o,oc⟩,rest,hrest⟩
  have hprel:=hrest.length_eq
  rw [List.length_append] at hprel
  dsimp only
  repeat' (first|refine ZC ?_|refine ZB ?_|refine ZD ?_|refine ZP ?_|refine ZJ ?_|refine ZE ?_|refine Zn ?_|refine l_nxt (K:=Nm.v) (V:=iv) (fun e he=>?_) (fun he=>?_)|refine l_ent (K:=Nm.v) (V:=iv) e ?_|fail)
  ·have hem:e ∈ lastL cs:=by
    obtain ⟨rest',h⟩:=he
    exact h.mem_iff.1 (by simp)
   obtain ⟨he1,he2⟩:=WC hem
   have hil:=(List.getElem?_eq_some_iff.1 he1).1
   have hlen2:pre.length<(lastL cs).length:=by
    obtain ⟨rest',h⟩:=he
    have:=h.length_eq
    simp at this;omega
   have hpl:(List.map (chAt cs) pre).length≤200:=by simp;omega
   repeat' (first|refine ZC ?_|refine ZB ?_|refine Yo (fun b=>?_)|refine l_ixS (m:=cs.length) e.2 hil ?_|refine l_ldE 7 e.2 0 he1 ?_|refine W2 (fun o' cap'=>?_)|fail)
   have e1:(List.map (chAt cs) pre).length+1=(List.map (chAt cs) (pre++[e])).length:=by simp
   have e2:List.flatMap chf (List.map (chAt cs) pre)++chf (chAt cs e)=List.flatMap chf (List.map (chAt cs) (pre++[e])):=by simp
   refine Wh (T:=105) (sz:=7) (o:=o') (cap:=cap') (m:=(List.map (chAt cs) pre).length+1) _ _ e1 e2 ?_
   exact ZW ⟨(pre++[e],o',cap'),he⟩ (by show (lastL cs).length - (pre++[e]).length<(lastL cs).length - pre.length;simp;omega) ⟨rfl,(by show look _ _=some (Value.slice o' (List.map (chAt cs) (pre++[e])).length cap');rw [←e1];rfl),rfl,trivial⟩
  ·have hpm:(pre.map (chAt cs)).Perm ((lastL cs).map (chAt cs)):=he.map _
   have n1:=Ww o oc (pre.map (chAt cs)) 105 Usg cmpC (by rw [hpm.length_eq,List.length_map];exact hl) Vn cmpC_t (fun x y hx hy=>by
    have hz:∀x ∈ pre.map (chAt cs),x.nm.owner.size≤1099511627770:=fun x hx=>by
     obtain ⟨p,hp1,hp2⟩:=List.mem_map.1 (hpm.mem_iff.1 hx)
     rw [←hp2]
     exact hsz _ (List.mem_of_getElem? (WC hp1).1)
    have:=Uk x y (hz x hx) (hz y hy)
    exact ⟨this.1,this.2.more⟩)
   repeat' (first|refine ZC ?_|refine ZB ?_|refine ZD ?_|refine ZA (n1) (fun _ _=>?_)|fail)
   rename_i l hl2
   have hle:l=vwr cs:=vwr_eq (hl2.1.trans hpm) hl2.2
   subst hle
   have e3:(pre.map (chAt cs)).length=(vwr cs).length:=hl2.1.length_eq.symm
   refine k_rngE (r:=r2) (it:=it) (K:=Nm.v) (V:=iv) (m:=lastL cs) (pre:=pre) ?_
   refine Zq (r:=Row 105 7 (some ⟨p.1,0,none⟩) cs.length cap (cs.flatMap chf)) (Lx:=[Ax 105 chf p.1 cs p.2]) (fun h hh=>UR hp h hh) ?_
   refine k_vw' (cs:=cs) (rs:=rs) (o:=some ⟨p.1,0,none⟩) (m:=cs.length) (xs:=cs.flatMap chf) ?_ rfl rfl rfl
   refine Wh (T:=105) (sz:=7) (o:=o) (cap:=oc) (m:=(pre.map (chAt cs)).length) _ _ e3 rfl ?_
   exact ZG (post:=WrPost b ps rs cs) (o,oc) (by show resV [Value.slice o (pre.map (chAt cs)).length oc]=_;rw [e3];rfl) trivial
variable {n:Nat} {C:Cx} {Q:Exit→Act→World→Prop} {E E':List (Nat×Value)} {F F' F1 Fs F0:List Pf} {R R' R0 Rs N N' A:List HP} {k k':List Fr} {ops l:List Oper} {L L':List (Nat×Nat)} {Tl:List Nat} {i d:Nat} {t ty0:TypeId} {x y:Operand} {pos:String} {aft:Array Edge} {gd:Option (Nat×Bool)}
section
def IterU {α:Type} (gf:FuncId) (lb:List Value) (enc:α→Value) (Ok All:List α→Prop) (Fg:List Pf) (A A':List HP):Prop:=
 ∀(v:Value) (Y:Pf) (I Ix:List α→HP),(∀pre e,Ok (pre++[e])→SpecV v [enc e] [Y] [I pre] (YPost I Ix pre e))→
  Enters gf∧Spec prog gf (v::lb).toArray (Y::Fg) (I []::A) ⟨Option (List α)×List α,fun _=>.tuple #[],fun r=>match r.1 with|none=>All r.2|some _=>True,fun _=>[],fun r=>(match r.1 with|none=>I r.2|some pre=>Ix pre)::A'⟩
theorem k_rangeU {α:Type} {g:Operand} {p:Nat} {assign body:Code} {gf:FuncId} {lb:Array Value} {enc:α→Value} {Ok All:List α→Prop} {A':List HP} {Fg:List Pf} {G:H} {w0:World} {hp0:H} {ds:List Deferred} (J Jx:List α→HP) (hit:IterU gf lb.toList enc Ok All Fg A A')
  (hbody:∀(q:LR) (l:Nat) (pre:List α) (e:α),Ok (pre++[e])→∀G w0 hp0,Wk n ⟨some l,G,w0,hp0,[]⟩ [.c assign,.r l,.c body] (RQ q l G w0 hp0 (J (pre++[e])) (Jx (pre++[e]))) ((p,enc e)::E) F [Pt l (.loop (rcd q .ready none)),J pre])
  (hdone:∀D xs,All xs→Wk n ⟨none,G,w0,hp0,{target:=.collected D,args:=#[]}::ds⟩ k' Q E F (J xs::(A'++Pt D (.deferred (some []))::R')))
  (hstop:∀D pre,Wret n ⟨none,G,w0,hp0,{target:=.collected D,args:=#[]}::ds⟩ Q E F (Jx pre::(A'++Pt D (.deferred (some []))::R')))
  (h:nf 1000 k = .c (.rangeFunc g #[p] assign body)::k':=by rfl) (hg:ev E g=some (.func (.func gf) #[] lb):=by rfl) (hpn:Nat.blt p n=true:=by rfl) (hnr:noR k'=true:=by rfl)
  (sel:Sels (J []::A) R R':=by (repeat (first|exact Sels.nil|exact Sel.here|apply Sel.there|apply Sels.cons));first|done|fail) (hFg:EntF F Fg:=by (repeat (first|exact trivial|exact Sel.here|apply Sel.there|apply EntF.cons));first|done|fail):Wk n ⟨none,G,w0,hp0,ds⟩ k Q E F R:=fun a w ha hs=>XW 1000 k (by
 rw [h]
 show (Code.rangeFunc g #[p] assign body).wpIn (fz none) 0 prog (after none k' Q) a w
 refine wpIn_rangeFunc fun fn hfn=>?_
 let q:LR:=⟨fn,a.tmps,#[p],assign,body,w.heap.size⟩
 let lo:Obj:=.loop (rcd q .ready none)
 have hs1:Sat G w0 hp0 F (Pt (w.heap.size+1) lo::Pt w.heap.size (.deferred (some []))::J []::(A++R')) ((w.alloc (.deferred (some []))).alloc lo):=by
  have:=((hs.sels sel).alloc (.deferred (some []))).alloc lo
  simpa using this
 have hs2:Sat G w0 hp0 F (both (Pt (w.heap.size+1) lo) (J [])::Pt w.heap.size (.deferred (some []))::(A++R')) ((w.alloc (.deferred (some []))).alloc lo):=
  (hs1.sels (A:=[Pt (w.heap.size+1) lo,J []]) (.cons .here (.cons (.there .here) .nil))).shut (x:=both _ _) fun _ hh=>hh
 have hy:∀pre e,Ok (pre++[e])→SpecV (.func (.yield (w.heap.size+1)) #[] #[]) [enc e] _ _ _:=fun pre e hpre=>
  yield_ok (n:=n) (E:=E) (F:=F) (enc:=enc) (q:=q) (l:=w.heap.size+1) (p:=p) (J:=J) (Jx:=Jx) (pre:=pre) (e:=e) rfl (Nat.le_of_ble_eq_true hpn)
   (fun b hb hd=>⟨by rw [hb];exact ha.size,hd,fun t v hv=>by rw [hb];exact ha.slots t v hv⟩) (fun G w0 hp0=>hbody q _ pre e hpre G w0 hp0)
 obtain ⟨eg,hsp⟩:=hit _ _ _ _ hy
 have hev:=ha.ev (x:=g) (by rw [ZL];exact hg)
 refine ⟨w.heap.size+1,[{target:=.collected w.heap.size,args:=#[]}],(w.alloc (.deferred (some []))).alloc lo,{target:=.fn (.func gf) lb,args:=#[.func (.yield (w.heap.size+1)) #[] #[]]},(w.alloc (.deferred (some []))).alloc lo,gf,#[.func (.yield (w.heap.size+1)) #[] #[]]++lb,(w.alloc (.deferred (some []))).alloc lo,run_enterLoop_outer _ _ _ _ _,?_,fun _ _=>trivial,?_,(fun hx=>by cases hx),?_⟩
 ·simp only [resolve,hev]
  simp [go_sem,Deferred.ofValue,Act.eval]
 ·simp only [invoke]
  exact eg _ _
 ·have e1 : #[Value.func (.yield (w.heap.size+1)) #[] #[]]++lb=(Value.func (.yield (w.heap.size+1)) #[] #[]::lb.toList).toArray:=by rw [←Array.toList_inj];simp
  rw [e1]
  refine Vk (Yt hsp hs2 (.cons .here (Vy A _ R')) (fun hp hF f hf=>?_) fun r w' hr hs3=>?_)
  ·rcases List.mem_cons.1 hf with rfl|hf
   ·exact hF
   ·exact hFg.all hp hF f hf
  ·have hds:({a with defers:=[{target:=.collected w.heap.size,args:=#[]}]++a.defers}:Act).defers={target:=.collected w.heap.size,args:=#[]}::ds:=by simp [ha.defers]
   have ha':Agree n ({target:=.collected w.heap.size,args:=#[]}::ds) (look E) {a with defers:=[{target:=.collected w.heap.size,args:=#[]}]++a.defers}:=⟨ha.size,hds,ha.slots⟩
   obtain ⟨r1,xs⟩:=r
   cases r1 with
   | none=>
    obtain ⟨_,h4⟩:=(show Sat G w0 hp0 F (both (Pt (w.heap.size+1) lo) (J xs)::(A'++Pt w.heap.size (.deferred (some []))::R')) w' from hs3).open' (X:=Unit) (L:=fun _=>[Pt (w.heap.size+1) lo,J xs]) fun _ hh=>⟨(),hh⟩
    refine ⟨none,_,run_endLoop (h4.pt Sel.here) (by simp [rcd]),?_⟩
    have h5:=YU (o':=.loop (rcd q .exhausted none)) h4
    exact hdone w.heap.size xs hr _ _ ha' (h5.res fun _ hh=>W6 hh)
   | some pre=>
    obtain ⟨_,h4⟩:=(show Sat G w0 hp0 F (both (Pt (w.heap.size+1) (.loop (rcd q .done (some .ret)))) (Jx pre)::(A'++Pt w.heap.size (.deferred (some []))::R')) w' from hs3).open' (X:=Unit) (L:=fun _=>[Pt (w.heap.size+1) (.loop (rcd q .done (some .ret))),Jx pre]) fun _ hh=>⟨(),hh⟩
    refine ⟨some .ret,_,run_endLoop (h4.pt Sel.here) (by simp [rcd]),?_⟩
    have h5:=YU (o':=.loop (rcd q .exhausted (some .ret))) h4
    refine wpIn_ret ?_
    rw [Xs hnr]
    exact hstop w.heap.size pre _ _ ha' (h5.res fun _ hh=>W6 hh))
end
theorem mapsValues_ok (r:Nat):Enters 107∧Spec prog 107 #[.map (some r)] [] []
  ⟨Nat,fun b=>.func (.func 157) #[] #[.pointer (some ⟨b,0,none⟩)],fun _=>True,fun b=>[Blk b (.cells #[.map (some r)] 163)],fun _=>[]⟩:=by
 refine ZH [_] func107 ntmps107 fun G w hp=>?_
 repeat' (first|refine ZC ?_|refine ZB ?_|refine ZD ?_|refine ZN (fun b=>?_)|fail)
 refine k_fz ?_
 exact ZG b rfl trivial
abbrev chv (p:Nm×Ch):Value:=p.2.v
def OkP {γ:Type} (m pre:List γ):Prop:=∃rest,(pre++rest).Perm m
theorem U2 (b r:Nat) (m:List (Nm×Ch)):IterU 157 [.pointer (some ⟨b,0,none⟩)] chv (OkP m) (fun xs=>xs.Perm m) [Blk b (.cells #[.map (some r)] 163)] [Mp Nm.v Ch.v r m] [Mp Nm.v Ch.v r m]:=by
 intro v Y I Ix hy
 refine ZH [_,_] func157 ntmps157 fun G w hp=>?_
 repeat' (first|refine ZB ?_|refine ZD ?_|refine Z9 ?_|refine l_rng (K:=Nm.v) (V:=Ch.v) (fun it=>?_)|fail)
 refine YH (X:={pre:List (Nm×Ch) // OkP m pre}) (fun _=>[(0,v),(6,.pointer (some ⟨it,0,none⟩))]) (fun _=>[Y]) (fun t=>[I t.1,MpI Nm.v Ch.v r it m t.1]) (fun t=>m.length - t.1.length) ⟨[],m,by simp⟩ ⟨rfl,rfl,trivial⟩ ?_
 rintro ⟨pre,hpre⟩
 dsimp only
 repeat' (first|refine ZC ?_|refine ZB ?_|refine ZD ?_|refine ZP ?_|refine ZS ?_|refine ZN (fun b=>?_)|refine ZJ ?_|refine ZE ?_|refine Zn ?_|refine l_nxt (K:=Nm.v) (V:=Ch.v) (fun e he=>?_) (fun he=>?_)|refine l_ent (K:=Nm.v) (V:=Ch.v) e ?_|refine l_callV (hy pre e he) (fun x _=>?_)|(refine ZF (fun hc=>?_) (fun hc=>?_)<;>(try simp at hc))|fail)
 ·cases x with
  | true=>simp at hc
  | false=>
   refine k_rngE (r:=r) (it:=it) (K:=Nm.v) (V:=Ch.v) (m:=m) (pre:=pre++[e]) ?_
   exact Y5 (XK (YS (some (pre++[e]),[]) rfl trivial))
 ·cases x with
  | false=>simp at hc
  | true=>
   exact ZW ⟨pre++[e],he⟩ (by
    obtain ⟨rest,h⟩:=he
    have:=h.length_eq
    show m.length - (pre++[e]).length<m.length - pre.length
    simp at this ⊢;omega) ⟨rfl,rfl,trivial⟩
 ·refine k_rngE (r:=r) (it:=it) (K:=Nm.v) (V:=Ch.v) (m:=m) (pre:=pre) ?_
  exact XU (none,pre) rfl he
theorem UN:∀A:List HP,Sels A A []
 | []=>.nil
 | _::A=>.cons .here (UN A)
theorem sel_last (x:HP):∀A:List HP,Sel x (A++[x]) A
 | []=>.here
 | _::A=>.there (sel_last x A)
theorem sels_tl:∀(A:List HP) (X:HP),Sels A (X::A) [X]
 | [],_=>.nil
 | _::A,X=>.cons (.there .here) (sels_tl A X)
theorem sels_app0:∀A:List HP,Sels A (A++[]) []
 | []=>.nil
 | _::A=>.cons .here (sels_app0 A)
theorem entF_app:∀(F1 F0:List Pf),EntF (F0++F1) F1
 | [],_=>trivial
 | f::F1,F0=>⟨by
   induction F0 with
   | nil=>exact ⟨_,.here⟩
   | cons g F0 ih=>obtain ⟨F',s⟩:=ih;exact ⟨_,.there s⟩,by
   have:=entF_app F1 (F0++[f])
   rwa [List.append_assoc,List.singleton_append] at this⟩
theorem entF_self (F:List Pf):EntF F F:=by simpa using entF_app F []
abbrev JAL (b:Nat) (pre:List (Nm×Ch)) (q:Option Addr×Nat):List HP:=[Pt b (.cells #[.slice q.1 (pre.map (·.2)).length q.2] 102),Row 105 7 q.1 (pre.map (·.2)).length q.2 ((pre.map (·.2)).flatMap chf)]
def JA (b:Nat) (pre:List (Nm×Ch)):HP:=fun h=>∃q,True∧Sep (JAL b pre q) h
set_option maxHeartbeats 1000000 in
theorem appendSeq_ok (gf:FuncId) (lb:Array Value) (Ok All:List (Nm×Ch)→Prop) (Fg:List Pf) (A A':List HP) (hit:IterU gf lb.toList chv Ok All Fg A A') (hlen:∀pre,Ok pre→pre.length≤1000000) :
  Enters 191∧Spec prog 191 #[.slice none 0 0,.func (.func gf) #[] lb] Fg A
   ⟨List (Nm×Ch)×Option Addr×Nat,fun q=>.slice q.2.1 (q.1.map (·.2)).length q.2.2,fun q=>All q.1,fun _=>[],fun q=>Row 105 7 q.2.1 (q.1.map (·.2)).length q.2.2 ((q.1.map (·.2)).flatMap chf)::A'⟩:=by
 refine ⟨enters_of func191 (by kernel_rfl) rfl,UG (vs:=[_,_]) func191 rfl ntmps191 rfl fun G w hp=>?_⟩
 repeat' (first|refine ZC ?_|refine ZB ?_|refine ZD ?_|refine ZN (fun b=>?_)|fail)
 generalize b=b2
 refine Zq (Lx:=[]) (r:=Row 105 7 none 0 0 []) (fun h _=>YX _ _ h) ?_
 refine Zq (Lx:=JAL b2 [] (none,0)) (r:=JA b2 []) (fun h hh=>⟨(none,0),trivial,hh⟩) ?_
 refine k_rangeU (α:=Nm×Ch) (enc:=chv) (Ok:=Ok) (All:=All) (JA b2) (fun _ _=>False) hit ?_ ?_ ?_ (sel:=.cons .here (UN A)) (hFg:=entF_self Fg)
 ·intro lr l pre e hpre G w0 hp0
  have hple:=hlen _ hpre
  simp only [List.length_append,List.length_singleton] at hple
  refine Ye (X:=Option Addr×Nat) (Lx:=fun q=>JAL b2 pre q) (p:=fun _=>True) (r:=JA b2 pre) (.there .here) (fun h hh=>hh) (fun q _=>?_)
  have hpl:(List.map (·.2) pre).length≤1000000:=by simp;omega
  obtain ⟨o,cap⟩:=q
  repeat' (first|refine ZB ?_|refine ZD ?_|refine ZP ?_|refine ZS ?_|refine ZN (fun b=>?_)|refine Yo (fun b=>?_)|refine k_beg ?_|refine W2 (fun o' cap'=>?_)|fail)
  have e1:(List.map (·.2) pre).length+1=(List.map (·.2) (pre++[e])).length:=by simp
  have e2:List.flatMap chf (List.map (·.2) pre)++chf e.2=List.flatMap chf (List.map (·.2) (pre++[e])):=by simp
  refine Wh (T:=105) (sz:=7) (o:=o') (cap:=cap') (m:=(List.map (·.2) pre).length+1) _ _ e1 e2 ?_
  rw [e1]
  refine Zq (Lx:=JAL b2 (pre++[e]) (o',cap')) (r:=JA b2 (pre++[e])) (fun h hh=>⟨(o',cap'),trivial,hh⟩) ?_
  exact k_rn
 ·intro D xs hxs
  refine Ye (X:=Option Addr×Nat) (Lx:=fun q=>JAL b2 xs q) (p:=fun _=>True) (r:=JA b2 xs) .here (fun h hh=>hh) (fun q _=>?_)
  dsimp only [JAL]
  repeat' (first|refine ZC ?_|refine ZB ?_|refine ZD ?_|refine ZP ?_|fail)
  obtain ⟨o,cap⟩:=q
  exact k_retM (xs,o,cap) rfl hxs (hD:=.there (.there (sel_last _ A'))) (hR:=.cons (.there .here) (sels_tl A' _))
 ·intro D pre
  exact w_open (X:=Empty) (Lx:=fun _=>[]) (p:=fun _=>False) .here (fun h hh=>hh.elim) (fun q hq=>hq.elim)
theorem collect_ok (gf:FuncId) (lb:Array Value) (Ok All:List (Nm×Ch)→Prop) (Fg:List Pf) (A A':List HP) (hit:IterU gf lb.toList chv Ok All Fg A A') (hlen:∀pre,Ok pre→pre.length≤1000000) :
  Enters 156∧Spec prog 156 #[.func (.func gf) #[] lb] Fg A
   ⟨List (Nm×Ch)×Option Addr×Nat,fun q=>.slice q.2.1 (q.1.map (·.2)).length q.2.2,fun q=>All q.1,fun _=>[],fun q=>Row 105 7 q.2.1 (q.1.map (·.2)).length q.2.2 ((q.1.map (·.2)).flatMap chf)::A'⟩:=by
 have n1:=appendSeq_ok gf lb Ok All Fg A A' hit hlen
 refine ZH [_] func156 ntmps156 fun G w hp=>?_
 repeat' (first|refine ZC ?_|refine ZB ?_|refine ZD ?_|fail)
 refine ZA n1 (fun q hq=>?_) (sel:=UN A) (hF:=entF_self Fg)
 repeat' (first|refine ZC ?_|refine ZB ?_|fail)
 exact ZG q rfl hq (R0:=[]) (hR:=sels_app0 _)
structure RdOK (rs:List (Nm×Ch)):Prop where
 nd:(rs.map (·.1)).Nodup
 nm:∀p ∈ rs,p.2.nm=p.1
 sz:∀p ∈ rs,p.1.owner.size≤1099511627770
def vrd (rs:List (Nm×Ch)):List Ch:=srtC (rs.map (·.2))
theorem vrd_len (rs:List (Nm×Ch)):(vrd rs).length=rs.length:=by
 unfold vrd;rw [(Ya _).length_eq,List.length_map]
theorem vrd_eq {rs:List (Nm×Ch)} {l:List Ch} (h:RdOK rs) (hp:l.Perm (rs.map (·.2))) (hs:Srd cmpC l):l=vrd rs:=by
 refine srd_eq _ _ (hp.trans (Ya _).symm) hs (srtC_srd _) ?_
 refine (hp.map (·.nm)).nodup_iff.2 ?_
 rw [List.map_map]
 have h2:rs.map ((·.nm) ∘ (·.2))=rs.map (·.1):=List.map_congr_left fun p hp=>h.nm p hp
 rw [h2]
 exact h.nd
theorem sortedFunc_ok (b r:Nat) (rs:List (Nm×Ch)) (h:RdOK rs) (hl:rs.length≤200) :
  Enters 106∧Spec prog 106 #[.func (.func 157) #[] #[.pointer (some ⟨b,0,none⟩)],.func (.func 105) #[] #[]]
   [Blk b (.cells #[.map (some r)] 163),Usg] [Mp Nm.v Ch.v r rs]
   ⟨Option Addr×Nat,fun q=>.slice q.1 (vrd rs).length q.2,fun _=>True,fun _=>[],fun q=>[Row 105 7 q.1 (vrd rs).length q.2 ((vrd rs).flatMap chf),Mp Nm.v Ch.v r rs]⟩:=by
 have n1:=collect_ok 157 #[.pointer (some ⟨b,0,none⟩)] _ _ _ _ _ (U2 b r rs) (fun pre hp=>by
  obtain ⟨rest,hp⟩:=hp
  have:=hp.length_eq
  simp at this;omega)
 refine ZH [_,_] func106 ntmps106 fun G w hp=>?_
 repeat' (first|refine ZC ?_|refine ZB ?_|refine ZD ?_|refine ZA (n1) (fun _ _=>?_)|fail)
 rename_i q hq
 obtain ⟨xs,o,cap⟩:=q
 have hpm:(xs.map (·.2)).Perm (rs.map (·.2)):=List.Perm.map _ hq
 have n2:=Ww o cap (xs.map (·.2)) 105 Usg cmpC (by rw [hpm.length_eq,List.length_map];exact hl) Vn cmpC_t (fun x y hx hy=>by
  have hz:∀x ∈ xs.map (·.2),x.nm.owner.size≤1099511627770:=fun x hx=>by
   obtain ⟨p,hp1,hp2⟩:=List.mem_map.1 (hpm.mem_iff.1 hx)
   rw [←hp2,h.nm p hp1]
   exact h.sz p hp1
  have:=Uk x y (hz x hx) (hz y hy)
  exact ⟨this.1,this.2.more⟩)
 repeat' (first|refine ZC ?_|refine ZB ?_|refine ZD ?_|refine ZA (n2) (fun _ _=>?_)|fail)
 rename_i l hl2
 have hle:l=vrd rs:=vrd_eq h (hl2.1.trans hpm) hl2.2
 subst hle
 have e3:(xs.map (·.2)).length=(vrd rs).length:=hl2.1.length_eq.symm
 refine Wh (T:=105) (sz:=7) (o:=o) (cap:=cap) (m:=(xs.map (·.2)).length) _ _ e3 rfl ?_
 exact ZG (o,cap) (by show resV [Value.slice o (xs.map (·.2)).length cap]=_;rw [e3];rfl) trivial
theorem vwReads_ok (b:Nat) (ps:Option Addr) (rs:List (Nm×Ch)) (cs:List Ch) (h:RdOK rs) (hl:rs.length≤200) :
  Enters 50∧Spec prog 50 #[.pointer (some ⟨b,0,none⟩)] [Usg] [Vw b ps rs cs]
   ⟨Option Addr×Nat,fun q=>.slice q.1 (vrd rs).length q.2,fun _=>True,fun _=>[],fun q=>[Vw b ps rs cs,Row 105 7 q.1 (vrd rs).length q.2 ((vrd rs).flatMap chf)]⟩:=by
 have n2:=fun (r:Nat) (c:Nat)=>sortedFunc_ok c r rs h hl
 refine ZH [_] func50 ntmps50 fun G w hp=>?_
 refine k_vw fun q=>?_
 obtain ⟨r1,r2,o,cap⟩:=q
 repeat' (first|refine ZC ?_|refine ZB ?_|refine ZD ?_|refine ZP ?_|refine ZE ?_|refine ZA (mapsValues_ok _) (fun _ _=>?_)|refine ZA (n2 r1 _) (fun _ _=>?_)|fail)
 rename_i q2 _
 refine k_vw' (cs:=cs) (rs:=rs) (o:=o) (m:=cs.length) (xs:=cs.flatMap chf) ?_ rfl rfl rfl
 exact ZG q2 rfl trivial
variable {b:Nat}
section
def less (G:H) (b:Nat):H:=fun c=>if c=b then none else G c
theorem W1 (G:H) (b:Nat):Sub (less G b) G:=fun c o e=>by
 unfold less at e
 split at e
 ·cases e
 ·exact e
theorem UH {G:H} {b c:Nat} (h:c≠b):less G b c=G c:=by unfold less;rw [if_neg h]
theorem less_eq (G:H) (b:Nat):less G b b=none:=by unfold less;rw [if_pos rfl]
theorem Sat.lend {G:H} {w0 w:World} {hp0:H} {F:List Pf} {R:List HP} {b:Nat} {o:Obj} (hG:G b=some o) (h:Sat G w0 hp0 F R w) :
  ∃hp1,Sat (less G b) w hp1 (Blk b o::F) R w∧∀F' R' w',Sat (less G b) w hp1 F' R' w'→Sat G w0 hp0 F R' w':=by
 obtain ⟨hp,hr,t⟩:=h
 have hpb:hp b=none:=by
  rcases t.d2 b with h|h
  ·exact h
  ·rw [hG] at h;cases h
 have hrb:hr b=none:=by
  rcases t.d3 b with h|h
  ·exact h
  ·rw [hG] at h;cases h
 have hs1:Sub hp (un hp (one b o)):=ZX _ _
 have e1:un hp (one b o) b=some o:=by unfold un one;simp [hpb]
 refine ⟨un hp (one b o),⟨un hp (one b o),hr,In.un t.inp (fun c x e=>?_),t.inr,t.ing.sub (W1 G b),YJ.2 ⟨t.d1,fun c=>?_⟩,YJ.2 ⟨(t.d2.symm.sub (W1 G b)).symm,fun c=>?_⟩,(t.d3.symm.sub (W1 G b)).symm,Sub.refl _,fun x hx=>?_,t.r,Same.refl _⟩,fun F' R' w' hs=>?_⟩
 ·unfold one at e
  split at e
  ·rename_i hc;subst hc;cases e;exact t.ing _ _ hG
  ·cases e
 ·by_cases hc:c=b
  ·subst hc;exact .inr hrb
  ·exact .inl (by unfold one;simp [hc])
 ·by_cases hc:c=b
  ·subst hc;exact .inr (less_eq _ _)
  ·exact .inl (by unfold one;simp [hc])
 ·rcases List.mem_cons.1 hx with rfl|hx
  ·exact e1
  ·exact x.m _ _ hs1 (t.f x hx)
 ·obtain ⟨hp',hr',t'⟩:=hs
  have hb':hp' b=some o:=t'.sub b o e1
  have hrb':hr' b=none:=by
   rcases t'.d1 b with h|h
   ·rw [hb'] at h;cases h
   ·exact h
  have hs2:Sub hp (less hp' b):=fun c x e=>by
   have hc:c≠b:=fun h=>by subst h;rw [hpb] at e;cases e
   rw [UH hc]
   exact t'.sub c x (hs1 c x e)
  refine ⟨less hp' b,hr',t'.inp.sub (W1 _ _),t'.inr,fun c x e=>?_,t'.d1.sub (W1 _ _),fun c=>?_,fun c=>?_,t.sub.trans hs2,fun x hx=>x.m _ _ hs2 (t.f x hx),t'.r,t.same.trans t'.same⟩
  ·by_cases hc:c=b
   ·subst hc;rw [hG] at e;cases e;exact t'.inp _ _ hb'
   ·exact t'.ing c x (by rw [UH hc];exact e)
  ·by_cases hc:c=b
   ·subst hc;exact .inl (less_eq _ _)
   ·rw [UH hc]
    rcases t'.d2 c with h|h
    ·exact .inl h
    ·rw [UH hc] at h;exact .inr h
  ·by_cases hc:c=b
   ·subst hc;exact .inl hrb'
   ·rcases t'.d3 c with h|h
    ·exact .inl h
    ·rw [UH hc] at h;exact .inr h
variable {o:Obj}
theorem r_callS {f:FuncId} {args:Array Operand} {tys:Array TypeId} {vs:List Value} {post:Post} (spec:Enters f∧Spec prog f vs.toArray (Blk b o::F1) A post) (_hpF:∀x,post.F x=[])
  (nx:∀x,post.pure x→Wr n C ops k Q Tl Fs R L ((d,post.val x)::E) F (post.R x++N')) (ho:nth ops i=some ⟨some d,.call ⟨.value (.func f),args,tys⟩,ty0,pos,aft,gd⟩:=by rfl)
  (hw:wantL ops E ⟨some d,.call ⟨.value (.func f),args,tys⟩,ty0,pos,aft,gd⟩=some true:=by rfl) (hargs:evs (ev E) args.toList some=some vs:=by rfl)
  (hb:Sel (Pt b o) R R0:=by (repeat (first|exact Sel.here|apply Sel.there));first|done|fail)
  (sel:Sels A N N':=by (repeat (first|exact Sels.nil|exact Sel.here|apply Sel.there|apply Sels.cons));first|done|fail)
  (hF:EntF F F1:=by (repeat (first|exact trivial|exact Sel.here|apply Sel.there|apply EntF.cons));first|done|fail):Wr n C ops k Q Tl Fs R ((i,4)::L) E F N:=
 Yk ho fun hp hr w st hz sb=>by
  simp only [Zt hw]
  refine ⟨⟨post.X,post.val,post.pure,fun _=>F,fun x=>post.R x++N'⟩,fun a G w hp' ha hsub hsat=>?_,fun x hx=>nx x hx hp hr w st hz sb⟩
  unfold OpRes
  rw [UB spec.1 hargs ha w]
  have hzb:un G hp' b=some o:=hsub _ _ (sb _ _ (UQ st hb))
  have hF1:∀(Fx:List Pf) hp,(∀x ∈ Blk b o::F,x.p hp)→∀x ∈ Blk b o::F1,x.p hp:=fun _ hp hf x hx=>by
   rcases List.mem_cons.1 hx with rfl|hx
   ·exact hf _ List.mem_cons_self
   ·exact hF.all hp (fun y hy=>hf y (List.mem_cons_of_mem _ hy)) x hx
  cases hGb:G b with
  | some o'=>
   obtain rfl:o'=o:=by
    have:un G hp' b=some o':=ZX _ _ _ _ hGb
    rw [hzb] at this;exact (Option.some.inj this).symm
   obtain ⟨hp1,h1,h2⟩:=hsat.lend hGb
   exact Yt spec.2 h1 sel (hF1 []) fun x w' hx hs'=>⟨x,rfl,hx,h2 _ _ _ hs'⟩
  | none=>
   have hpb:hp' b=some o:=by
    rcases un_or hzb with h|h
    ·rw [hGb] at h;cases h
    ·exact h
   have h1:Sat G w hp' (Blk b o::F) N w:=by
    obtain ⟨hp2,hr2,t2⟩:=hsat
    exact ⟨hp2,hr2,t2.inp,t2.inr,t2.ing,t2.d1,t2.d2,t2.d3,t2.sub,fun y hy=>by
     rcases List.mem_cons.1 hy with rfl|hy
     ·exact t2.sub _ _ hpb
     ·exact t2.f y hy,t2.r,t2.same⟩
   exact Yt spec.2 h1 sel (hF1 []) fun x w' hx hs'=>⟨x,rfl,hx,hs'.facts fun hp hf y hy=>hf y (List.mem_append_right _ (List.mem_cons_of_mem _ hy))⟩
end
def WrPostF (r2:Nat) (o:Option Addr) (cap:Nat) (cs:List Ch):Post:=⟨Option Addr×Nat,fun q=>.slice q.1 (vwr cs).length q.2,fun _=>True,fun _=>[],fun q=>[Row 105 7 o cs.length cap (cs.flatMap chf),Mp Nm.v iv r2 (lastL cs),Row 105 7 q.1 (vwr cs).length q.2 ((vwr cs).flatMap chf)]⟩
set_option maxHeartbeats 2000000 in
theorem vwWritesF_ok (b:Nat) (ps:Option Addr) (r1 r2:Nat) (o:Option Addr) (cap:Nat) (cs:List Ch) (hl:(lastL cs).length≤200) (hsz:∀c ∈ cs,c.nm.owner.size≤1099511627770) :
  Enters 49∧Spec prog 49 #[.pointer (some ⟨b,0,none⟩)] [Blk b (.cells #[.pointer ps,.map (some r1),.slice o cs.length cap,.map (some r2)] 166),Usg] [Row 105 7 o cs.length cap (cs.flatMap chf),Mp Nm.v iv r2 (lastL cs)] (WrPostF r2 o cap cs):=by
 by_cases hcs:cs=[]
 ·subst hcs
  have n1:=Ww none 0 [] 105 Usg cmpC (by simp) Vn cmpC_t (by simp)
  refine ZH [_] func49 ntmps49 fun G w hp=>?_
  repeat' (first|refine ZC ?_|refine ZB ?_|refine ZD ?_|refine Z9 ?_|refine ZE ?_|refine l_rng (K:=Nm.v) (V:=iv) (fun it=>?_)|fail)
  refine YH (X:=Unit) (fun _=>[(0,.pointer (some ⟨b,0,none⟩)),(3,.slice none 0 0),(12,.pointer (some ⟨it,0,none⟩))]) (fun _=>[Usg]) (fun _=>[Row 105 7 o 0 cap [],MpI Nm.v iv r2 it [] []]) (fun _=>0) () ⟨rfl,rfl,rfl,trivial⟩ ?_
  rintro ⟨⟩
  refine Zq (r:=Row 105 7 none 0 0 []) (Lx:=[]) (fun h _=>YX _ _ h) ?_
  repeat' (first|refine ZC ?_|refine ZB ?_|refine ZD ?_|refine ZJ ?_|refine ZE ?_|refine Zn ?_|refine ZA (n1) (fun _ _=>?_)|refine l_nxt (K:=Nm.v) (V:=iv) (fun p hp=>?_) (fun hp=>?_)|fail)
  ·exfalso
   obtain ⟨rest,h⟩:=hp
   have:=h.length_eq
   simp at this
  ·rename_i l hl2
   obtain rfl:l=[]:=List.perm_nil.1 hl2.1
   refine k_rngE (r:=r2) (it:=it) (K:=Nm.v) (V:=iv) (m:=[]) ?_
   exact ZG (post:=WrPostF r2 o cap []) (none,0) rfl trivial
 ·have hpos:0<cs.length:=List.length_pos_iff.2 hcs
  refine ZH [_] func49 ntmps49 fun G w hp=>?_
  refine k_row (m:=cs.length) hpos fun p hp=>?_
  have ho:=hp.o
  subst ho
  have hsp:Ax 105 chf p.1 cs p.2=Pt p.1 (.cells (cs.flatMap chf++p.2.1).toArray 105 p.2.2):=rfl
  rw [←hsp]
  repeat' (first|refine ZC ?_|refine ZB ?_|refine ZD ?_|refine Z9 ?_|refine ZE ?_|refine l_rng (K:=Nm.v) (V:=iv) (fun it=>?_)|fail)
  refine Zq (r:=Row 105 7 none 0 0 []) (Lx:=[]) (fun h _=>YX _ _ h) ?_
  refine YH (X:={t:List (Nm×Nat)×Option Addr×Nat // ∃rest,(t.1++rest).Perm (lastL cs)}) (fun t=>[(0,.pointer (some ⟨b,0,none⟩)),(3,.slice t.1.2.1 (t.1.1.map (chAt cs)).length t.1.2.2),(12,.pointer (some ⟨it,0,none⟩))]) (fun _=>[Blk b (.cells #[.pointer ps,.map (some r1),.slice (some ⟨p.1,0,none⟩) cs.length cap,.map (some r2)] 166),Usg])
   (fun t=>[Ax 105 chf p.1 cs p.2,MpI Nm.v iv r2 it (lastL cs) t.1.1,Row 105 7 t.1.2.1 (t.1.1.map (chAt cs)).length t.1.2.2 ((t.1.1.map (chAt cs)).flatMap chf)]) (fun t=>(lastL cs).length - t.1.1.length)
   ⟨([],none,0),lastL cs,by simp⟩ ⟨rfl,rfl,rfl,trivial⟩ ?_
  rintro ⟨⟨pre,o,oc⟩,rest,hrest⟩
  have hprel:=hrest.length_eq
  rw [List.length_append] at hprel
  dsimp only
  repeat' (first|refine ZC ?_|refine ZB ?_|refine ZD ?_|refine Z9 ?_|refine ZJ ?_|refine ZE ?_|refine Zn ?_|refine l_nxt (K:=Nm.v) (V:=iv) (fun e he=>?_) (fun he=>?_)|refine l_ent (K:=Nm.v) (V:=iv) e ?_|fail)
  ·have hem:e ∈ lastL cs:=by
    obtain ⟨rest',h⟩:=he
    exact h.mem_iff.1 (by simp)
   obtain ⟨he1,he2⟩:=WC hem
   have hil:=(List.getElem?_eq_some_iff.1 he1).1
   have hlen2:pre.length<(lastL cs).length:=by
    obtain ⟨rest',h⟩:=he
    have:=h.length_eq
    simp at this;omega
   have hpl:(List.map (chAt cs) pre).length≤200:=by simp;omega
   repeat' (first|refine ZC ?_|refine ZB ?_|refine Yo (fun b=>?_)|refine l_ixS (m:=cs.length) e.2 hil ?_|refine l_ldE 7 e.2 0 he1 ?_|refine W2 (fun o' cap'=>?_)|fail)
   have e1:(List.map (chAt cs) pre).length+1=(List.map (chAt cs) (pre++[e])).length:=by simp
   have e2:List.flatMap chf (List.map (chAt cs) pre)++chf (chAt cs e)=List.flatMap chf (List.map (chAt cs) (pre++[e])):=by simp
   refine Wh (T:=105) (sz:=7) (o:=o') (cap:=cap') (m:=(List.map (chAt cs) pre).length+1) _ _ e1 e2 ?_
   exact ZW ⟨(pre++[e],o',cap'),he⟩ (by show (lastL cs).length - (pre++[e]).length<(lastL cs).length - pre.length;simp;omega) ⟨rfl,(by show look _ _=some (Value.slice o' (List.map (chAt cs) (pre++[e])).length cap');rw [←e1];rfl),rfl,trivial⟩
  ·have hpm:(pre.map (chAt cs)).Perm ((lastL cs).map (chAt cs)):=he.map _
   have n1:=Ww o oc (pre.map (chAt cs)) 105 Usg cmpC (by rw [hpm.length_eq,List.length_map];exact hl) Vn cmpC_t (fun x y hx hy=>by
    have hz:∀x ∈ pre.map (chAt cs),x.nm.owner.size≤1099511627770:=fun x hx=>by
     obtain ⟨p,hp1,hp2⟩:=List.mem_map.1 (hpm.mem_iff.1 hx)
     rw [←hp2]
     exact hsz _ (List.mem_of_getElem? (WC hp1).1)
    have:=Uk x y (hz x hx) (hz y hy)
    exact ⟨this.1,this.2.more⟩)
   repeat' (first|refine ZC ?_|refine ZB ?_|refine ZD ?_|refine ZA (n1) (fun _ _=>?_)|fail)
   rename_i l hl2
   have hle:l=vwr cs:=vwr_eq (hl2.1.trans hpm) hl2.2
   subst hle
   have e3:(pre.map (chAt cs)).length=(vwr cs).length:=hl2.1.length_eq.symm
   refine k_rngE (r:=r2) (it:=it) (K:=Nm.v) (V:=iv) (m:=lastL cs) (pre:=pre) ?_
   refine Zq (r:=Row 105 7 (some ⟨p.1,0,none⟩) cs.length cap (cs.flatMap chf)) (Lx:=[Ax 105 chf p.1 cs p.2]) (fun h hh=>UR hp h hh) ?_
   refine Wh (T:=105) (sz:=7) (o:=o) (cap:=oc) (m:=(pre.map (chAt cs)).length) _ _ e3 rfl ?_
   exact ZG (post:=WrPostF r2 (some ⟨p.1,0,none⟩) cap cs) (o,oc) (by show resV [Value.slice o (pre.map (chAt cs)).length oc]=_;rw [e3];rfl) trivial
theorem r_frz {n:Nat} {C:Cx} {Q:Exit→Act→World→Prop} {E:List (Nat×Value)} {F Fs:List Pf} {R N N':List HP} {k:List Fr} {ops:List Oper} {L:List (Nat×Nat)} {Tl:List Nat} {α:Type} {T sz:Nat} {f:α→List Value} {o:Option Addr} {m cap:Nat} {xs:List Value} (es:List α)
  (t:Wr n C ops k Q Tl Fs R L E (Sl T f o cap es::F) N') (hx:xs=es.flatMap f) (hm:m=es.length) (hs:Sel (Row T sz o m cap xs) N N':=by (repeat (first|exact Sel.here|apply Sel.there));first|done|fail) (h5:(L.all fun y=>y.2 != 5)=true:=by rfl):Wr n C ops k Q Tl Fs R L E F N:=
 r_imp (fun _ _ _ _ h=>VS hx hm hs h) t h5
structure FitC (c:Ch):Prop where
 ok:nchk c.nm=0
 val:c.val.size≤65536
 abs:c.abs=false
 own:c.nm.owner.size≤1099511627770
 txt:c.nm.text.size≤1099511627776
def applyE (es:Al) (l:List Ch):Al:=l.foldl (fun es c=>insO c.nm c.val es) es
theorem Ux (es:Al) (l:List Ch) (c:Ch):applyE es (l++[c])=insO c.nm c.val (applyE es l):=by simp [applyE]
theorem applyE_len (es:Al) (l:List Ch):(applyE es l).length≤es.length+l.length:=by
 refine VB (P:=fun l=>(applyE es l).length≤es.length+l.length) (by simp [applyE]) (fun l c ih=>?_) l
 rw [Ux]
 have:=insO_len c.nm c.val (applyE es l)
 simp;omega
set_option maxHeartbeats 1000000 in
theorem apply_ok (bs:Nat) (es:Al) (o:Option Addr) (cap:Nat) (l:List Ch) (hf:∀c ∈ l,FitC c) (hl:es.length+l.length≤65536) :
  Enters 152∧Spec prog 152 #[.pointer (some ⟨bs,0,none⟩),.slice o l.length cap] [St (some ⟨bs,0,none⟩) es,Sl 105 chf o cap l,Usg] []
   ⟨Nat,fun b=>.tuple #[.pointer (some ⟨b,0,none⟩),.int .i64 0],fun _=>True,fun b=>[St (some ⟨b,0,none⟩) (applyE es l)],fun _=>[]⟩:=by
 refine ZH [_,_] func152 ntmps152 fun G w hp=>?_
 repeat' (first|refine ZC ?_|refine ZB ?_|refine ZD ?_|refine ZE ?_|fail)
 refine YH (X:={t:Nat×Nat // t.1≤l.length}) (fun t=>[(0,.pointer (some ⟨t.1.2,0,none⟩)),(11,.slice o l.length cap),(12,.int .i64 (l.length:Int)),(13,.int .i64 (t.1.1:Int))]) (fun t=>[St (some ⟨t.1.2,0,none⟩) (applyE es (l.take t.1.1)),Sl 105 chf o cap l,Usg]) (fun _=>[]) (fun t=>l.length - t.1.1)
  ⟨(0,bs),by simp⟩ ⟨rfl,rfl,rfl,rfl,trivial⟩ ?_
 rintro ⟨⟨i,b1⟩,hi⟩
 dsimp only at hi ⊢
 by_cases hlt:i<l.length
 ·have hgt:=List.getElem?_eq_getElem hlt
  obtain ⟨c,hcc⟩:∃c,l[i]=c:=⟨_,rfl⟩
  rw [hcc] at hgt
  have hm:c ∈ l:=by rw [←hcc];exact List.getElem_mem hlt
  have fc:=hf c hm
  have he:withE (applyE es (l.take i)) c.nm c.val=0:=by
   have h1:=applyE_len es (l.take i)
   have h2:(l.take i).length=i:=by simp;omega
   have h3:=fc.ok
   have h4:=fc.val
   unfold withE
   rw [if_neg (by simp [h3]),if_neg (by omega),if_neg (fun h=>by omega)]
  have n1:=stateWith_ok (some ⟨b1,0,none⟩) (applyE es (l.take i)) c.nm c.val fc.own fc.txt
  rw [he] at n1
  have ea:=fc.abs
  repeat' (first|refine ZC ?_|refine ZB ?_|refine ZD ?_|refine ZP ?_|refine ZS ?_|refine ZN (fun b=>?_)|refine ZE ?_|refine ZA (n1) (fun _ _=>?_)|refine XL i c hgt (fun b off=>?_)|refine YQ ?_|rw [ea]|(refine ZF (fun hc=>?_) (fun hc=>?_)<;>(try simp at hc)<;>(try omega))|fail)
  rename_i q _
  refine Xj (X:=Nat) (Fx:=fun b=>[St (some ⟨b,0,none⟩) (applyE es (l.take (i+1)))]) (p:=fun b=>q=some ⟨b,0,none⟩) (f:=StR q 0 (insO c.nm c.val (applyE es (l.take i)))) .here (fun h hh=>?_) (fun b2 hb2=>?_)
  ·have hh':(St q (insO c.nm c.val (applyE es (l.take i)))).p h:=hh
   obtain ⟨tr,g1,g2,b3,p3,g3,g4⟩:=hh'
   subst g3
   refine ⟨b3,rfl,fun g hg=>?_⟩
   obtain rfl:=List.mem_singleton.1 hg
   rw [List.take_succ_eq_append_getElem hlt,hcc,Ux]
   exact ⟨tr,g1,g2,b3,p3,rfl,g4⟩
  ·subst hb2
   rw [wrapi (z:=(i:Int)+1) (by omega) (by omega)]
   exact ZW ⟨(i+1,b2),by simp;omega⟩ (by show l.length - (i+1)<l.length - i;omega) ⟨rfl,rfl,rfl,rfl,trivial⟩
 ·repeat' (first|refine ZC ?_|refine ZB ?_|refine ZD ?_|refine Zn ?_|(refine ZF (fun hc=>?_) (fun hc=>?_)<;>(try simp at hc)<;>(try omega))|fail)
  obtain rfl:i=l.length:=by omega
  rw [List.take_length]
  exact ZG b1 rfl trivial
theorem vcs_fit {cs:List Ch} (h:∀c ∈ cs,FitC c):∀c ∈ vwr cs,FitC c:=fun c hc=>by
 have h1:=(Ya _).mem_iff.1 hc
 obtain ⟨p,hp1,hp2⟩:=List.mem_map.1 h1
 rw [←hp2]
 exact h _ (List.mem_of_getElem? (WC hp1).1)
set_option maxHeartbeats 1000000 in
theorem vwAfter_ok (b bs:Nat) (es:Al) (rs:List (Nm×Ch)) (cs:List Ch) (hl:(lastL cs).length≤200) (hf:∀c ∈ cs,FitC c) (hes:es.length≤65000) :
  Enters 102∧Spec prog 102 #[.pointer (some ⟨b,0,none⟩)] [St (some ⟨bs,0,none⟩) es,Usg] [Vw b (some ⟨bs,0,none⟩) rs cs]
   ⟨Nat,fun q=>.tuple #[.pointer (some ⟨q,0,none⟩),.int .i64 0],fun _=>True,fun q=>[St (some ⟨q,0,none⟩) (applyE es (vwr cs))],fun _=>[Vw b (some ⟨bs,0,none⟩) rs cs]⟩:=by
 have n1:=fun (r1 r2:Nat) (o:Option Addr) (cap:Nat)=>vwWritesF_ok b (some ⟨bs,0,none⟩) r1 r2 o cap cs hl (fun c hc=>(hf c hc).own)
 have hw:=vwr_len cs
 have n2:=fun (q:Option Addr×Nat)=>apply_ok bs es q.1 q.2 (vwr cs) (vcs_fit hf) (by omega)
 refine ZH [_] func102 ntmps102 fun G w hp=>?_
 refine k_vw fun q=>?_
 obtain ⟨r1,r2,o,cap⟩:=q
 repeat' (first|refine ZC ?_|refine ZB ?_|refine ZD ?_|refine ZE ?_|refine ZO ?_|refine Ze ?_|refine r_callS (n1 r1 r2 o cap) (fun _=>rfl) (fun q _=>?_)|refine ZK 3 [Row _ _ _ _ _ _,Mp Nm.v iv _ _] [(0,0),(1,0),(2,0),(3,0),(4,0),(5,4),(6,4),(7,0),(8,0),(9,0),(10,0)] [] ?_|fail)
 obtain ⟨qo,qc⟩:=q
 have n2':=n2 (qo,qc)
 refine r_frz (T:=105) (sz:=7) (f:=chf) (o:=qo) (cap:=qc) (m:=(vwr cs).length) (xs:=(vwr cs).flatMap chf) (vwr cs) ?_ rfl rfl (hs:=.there (.there .here))
 repeat' (first|refine ZR n2' (fun _ _=>?_)|refine ZB ?_|refine ZO ?_|refine ZQ ?_|fail)
 rename_i b' _
 refine k_vw' (cs:=cs) (rs:=rs) (o:=o) (m:=cs.length) (xs:=cs.flatMap chf) ?_ rfl rfl rfl
 exact ZG b' rfl trivial
structure Ct where
 b:Int
 o:Int
 c:Int
 deriving DecidableEq
def Ct.v (c:Ct):Value:=.agg #[.int .i64 c.b,.int .i64 c.o,.int .i64 c.c]
def Ct.z:Ct:=⟨0,0,0⟩
structure CtOK (c:Ct):Prop where
 b0:0≤c.b
 b1:c.b≤1048576
 o0:0≤c.o
 o1:c.o≤1048576
 c0:0≤c.c
 c1:c.c≤1048576
def cenc (c:Ct):List UInt8:=venc c.b.toNat++venc c.o.toNat++venc c.c.toNat
theorem Vd (x m:Int):Enters 217∧Spec prog 217 #[.int .i64 x,.int .i64 m] [] [] (RetV (.bool (decide (0≤x) && decide (x≤m)))):=by
 refine ZH [_,_] func217 ntmps217 fun G w hp=>?_
 repeat' (first|refine ZC ?_|refine ZB ?_|refine ZU ?_|refine ZD ?_|(refine ZT (fun hc=>?_) (fun hc=>?_)<;>(try simp at hc))|fail)
 all_goals (refine ZG () ?_ trivial;simp_all [RetV,resV]<;>omega)
def cchk (c:Ct):Int:=if 0≤c.b∧c.b≤1048576∧0≤c.o∧c.o≤1048576∧0≤c.c∧c.c≤1048576 then 0 else 2
theorem cchk_ok {c:Ct} (h:CtOK c):cchk c=0:=by
 unfold cchk;rw [if_pos ⟨h.b0,h.b1,h.o0,h.o1,h.c0,h.c1⟩]
theorem cntCheck_ok (c:Ct):Enters 193∧Spec prog 193 #[c.v] [] [] (RetV (.int .i64 (cchk c))):=by
 have n1:=Vd c.b 1048576
 have n2:=Vd c.o 1048576
 have n3:=Vd c.c 1048576
 refine ZH [_] func193 ntmps193 fun G w hp=>?_
 repeat' (first|refine ZC ?_|refine ZB ?_|refine ZU ?_|refine ZD ?_|refine ZP ?_|refine ZN (fun b=>?_)|refine ZJ ?_|refine ZA (n1) (fun _ _=>?_)|refine ZA (n2) (fun _ _=>?_)|refine ZA (n3) (fun _ _=>?_)|(refine ZT (fun hc=>?_) (fun hc=>?_)<;>(try simp at hc))|(refine ZF (fun hc=>?_) (fun hc=>?_)<;>(try simp at hc))|fail)
 all_goals (refine ZG () ?_ trivial;simp_all [RetV,resV,cchk]<;>omega)
abbrev EncL (b bw:Nat) (e:Int) (bs:List UInt8):List HP:=[Pt b (.cells #[.pointer (some ⟨bw,0,none⟩),.int .i64 e] 307),Wtr bw bs]
theorem newEncoder_ok (e:Int):Enters 192∧Spec prog 192 #[.int .i64 e] [] [] ⟨Nat×Nat,fun q=>.pointer (some ⟨q.1,0,none⟩),fun _=>True,fun _=>[],fun q=>EncL q.1 q.2 e []⟩:=by
 refine ZH [_] func192 ntmps192 fun G w hp=>?_
 repeat' (first|refine ZC ?_|refine ZB ?_|refine ZD ?_|refine ZN (fun b=>?_)|refine ZA (UL) (fun _ _=>?_)|fail)
 rename_i bw _
 exact ZG (b,bw) rfl trivial
theorem Ua:∀l:List Int,(∀z ∈ l,0≤z∧z≤4294967296)→(l.flatMap fun z=>venc z.toNat).length≤l.length * 10
 | [],_=>by simp
 | z::l,h=>by
  have h1:=Zd z.toNat (by have:=h z (by simp);omega)
  have h2:=Ua l (fun y hy=>h y (by simp [hy]))
  simp only [List.flatMap_cons,List.length_append,List.length_cons]
  omega
theorem numbers_ok (b bw:Nat) (e:Int) (bs:List UInt8) (o:Option Addr) (cap:Nat) (l:List Int) (hl:l.length≤1000) (hz:∀z ∈ l,0≤z∧z≤4294967296) (hb:bs.length≤1000000) :
  Enters 194∧Spec prog 194 #[.pointer (some ⟨b,0,none⟩),.slice o l.length cap] [Sl 3 zf o cap l] (EncL b bw e bs)
   ⟨Unit,fun _=>.tuple #[],fun _=>True,fun _=>[],fun _=>EncL b bw e (bs++l.flatMap fun z=>venc z.toNat)⟩:=by
 refine ZH [_,_] func194 ntmps194 fun G w hp=>?_
 repeat' (first|refine ZC ?_|refine ZB ?_|refine ZD ?_|fail)
 refine YH (X:={i:Nat // i≤l.length}) (fun i=>[(0,.pointer (some ⟨b,0,none⟩)),(6,.slice o l.length cap),(7,.int .i64 (l.length:Int)),(8,.int .i64 (i.1:Int))]) (fun _=>[Sl 3 zf o cap l]) (fun i=>EncL b bw e (bs++(l.take i.1).flatMap fun z=>venc z.toNat)) (fun i=>l.length - i.1) ⟨0,by omega⟩ ⟨rfl,rfl,rfl,rfl,trivial⟩ ?_ (hr:=by simp only [List.take_zero,List.flatMap_nil,List.append_nil];exact Sels.cons .here (.cons .here .nil))
 rintro ⟨i,hi⟩
 dsimp only at hi ⊢
 by_cases hlt:i<l.length
 ·have hgt:=List.getElem?_eq_getElem hlt
  obtain ⟨z,hzz⟩:∃z,l[i]=z:=⟨_,rfl⟩
  rw [hzz] at hgt
  have hm:z ∈ l:=by rw [←hzz];exact List.getElem_mem hlt
  obtain ⟨z0,z1⟩:=hz z hm
  have hlen:=Ua (l.take i) (fun y hy=>hz y (List.mem_of_mem_take hy))
  have h2:(l.take i).length=i:=by simp;omega
  have n1:=YC bw (bs++(l.take i).flatMap fun z=>venc z.toNat) z.toNat (by omega) (by rw [List.length_append];omega)
  rw [show ((z.toNat:Nat):Int)=z by omega] at n1
  repeat' (first|refine ZC ?_|refine ZB ?_|refine ZD ?_|refine ZP ?_|refine ZA (n1) (fun _ _=>?_)|refine XL i z hgt (fun b off=>?_)|refine YQ ?_|(refine ZF (fun hc=>?_) (fun hc=>?_)<;>(try simp at hc)<;>(try omega))|fail)
  rw [wrapi (z:=(i:Int)+1) (by omega) (by omega)]
  have e1:bs++((l.take i).flatMap fun z=>venc z.toNat)++venc z.toNat=bs++(l.take (i+1)).flatMap fun z=>venc z.toNat:=by
   rw [List.take_succ_eq_append_getElem hlt,hzz];simp
  rw [e1]
  exact ZW ⟨i+1,by omega⟩ (by show l.length - (i+1)<l.length - i;omega) ⟨rfl,rfl,rfl,rfl,trivial⟩
 ·obtain rfl:i=l.length:=by omega
  rw [List.take_length]
  repeat' (first|refine ZC ?_|refine ZB ?_|refine ZD ?_|refine Zn ?_|(refine ZF (fun hc=>?_) (fun hc=>?_)<;>(try simp at hc)<;>(try omega))|fail)
  exact XU () rfl trivial
theorem venc_props:∀(k u:Nat),u≤k→∃init last,venc u=init++[last]∧(∀b ∈ init,128≤b.toNat)∧last.toNat<128∧(0<u→last.toNat≠0)∧(init≠[]→0<u)∧dval (venc u)=u:=by
 intro k
 induction k with
 | zero=>
  intro u hu
  obtain rfl:u=0:=by omega
  refine ⟨[],0,?_,by simp,by decide,by simp,by simp,?_⟩
  ·rw [venc];simp
  ·rw [venc];simp [dval]
 | succ k ih=>
  intro u hu
  by_cases h:u<128
  ·have hv:venc u=[UInt8.ofNat u]:=by rw [venc,if_pos h]
   have ht:(UInt8.ofNat u).toNat=u:=by simp;omega
   refine ⟨[],UInt8.ofNat u,by rw [hv];rfl,by simp,by omega,fun h0=>by omega,by simp,?_⟩
   rw [hv,dval,dval,ht];omega
  ·have hv:venc u=UInt8.ofNat (u % 128+128)::venc (u / 128):=by rw [venc,if_neg h]
   have ht:(UInt8.ofNat (u % 128+128)).toNat=u % 128+128:=by simp;omega
   obtain ⟨init,last,h1,h2,h3,h4,h5,h6⟩:=ih (u / 128) (by omega)
   refine ⟨UInt8.ofNat (u % 128+128)::init,last,by rw [hv,h1];rfl,fun b hb=>?_,h3,fun _=>h4 (by omega),fun _=>by omega,?_⟩
   ·rcases List.mem_cons.1 hb with rfl|hb
    ·omega
    ·exact h2 b hb
   ·rw [hv,dval,h6,ht];omega
theorem pnat_venc (u:Nat) (hu:u<9223372036854775808) (rest:List UInt8):pnat (venc u++rest) 9=(u,(venc u).length,0):=by
 obtain ⟨init,last,h1,h2,h3,h4,h5,h6⟩:=venc_props u u (Nat.le_refl _)
 have hl:(venc u).length≤9:=venc_len 8 u (by simpa using hu)
 have hlen:(venc u).length=init.length+1:=by rw [h1];simp
 have hlast:lastN (venc u++rest) 9=init.length:=by
  refine Ws (by simp;omega) (by omega) (fun i hi=>?_) (.inr (.inr ⟨last,?_,h3⟩))
  ·refine ⟨init[i],?_,h2 _ (List.getElem_mem hi)⟩
   rw [h1,List.append_assoc,List.getElem?_append_left hi]
   exact List.getElem?_eq_getElem hi
  ·rw [h1,List.append_assoc,List.getElem?_append_right (Nat.le_refl _)]
   simp
 have hget:(venc u++rest)[init.length]? = some last:=by
  rw [h1,List.append_assoc,List.getElem?_append_right (Nat.le_refl _)];simp
 have htk:(venc u++rest).take (init.length+1)=venc u:=by rw [←hlen];simp
 unfold pnat
 dsimp only
 rw [hlast,if_neg (by omega),hget]
 dsimp only
 rw [if_neg,if_neg (by omega),htk,h6,hlen,Nat.mod_eq_of_lt (by omega)]
 rintro ⟨g1,g2⟩
 exact h4 (h5 (fun e=>by rw [e] at g1;simp at g1)) g2
theorem YM (u:Nat) (hu:u<9223372036854775808) (rest:List UInt8) (pos:Nat) (most:Int) (hm:(u:Int)≤most):rnum ⟨venc u++rest,pos,0⟩ most=((u:Int),⟨rest,pos+(venc u).length,0⟩):=by
 have hp:pnum (venc u++rest) most=((u:Int),(venc u).length,0):=by
  unfold pnum
  rw [pnat_venc u hu rest]
  dsimp only
  rw [if_neg (by omega)]
 unfold rnum rstep
 dsimp only
 rw [hp]
 simp
theorem rtext_venc (s:ByteArray) (rest:List UInt8) (pos:Nat) (most:Int) (hm:(s.size:Int)≤most) (h2:s.size≤16777216):rtext ⟨venc s.size++s.data.toList++rest,pos,0⟩ most=(s,⟨rest,pos+((venc s.size).length+s.size),0⟩):=by
 have hs:s.data.toList.length=s.size:=by simp
 have e1:(venc s.size++(s.data.toList++rest)).drop ((venc s.size).length+s.size)=rest:=by
  rw [←List.append_assoc,←hs,←List.length_append,List.drop_left]
 have e2:((venc s.size++(s.data.toList++rest)).take ((venc s.size).length+s.size)).drop (venc s.size).length=s.data.toList:=by
  rw [←List.append_assoc,←hs,←List.length_append,List.take_left,List.drop_left]
 have hp:ptext (venc s.size++(s.data.toList++rest)) most=(s,(venc s.size).length+s.size,0):=by
  unfold ptext
  rw [pnat_venc s.size (by omega) (s.data.toList++rest)]
  dsimp only
  rw [if_neg (by simp),if_neg (by omega),if_neg (by simp only [List.length_append];omega),e2]
 unfold rtext rstep
 dsimp only
 rw [List.append_assoc,hp,if_neg (by simp),if_neg (by simp)]
 dsimp only
 rw [e1]
theorem numbersP_ok (b bw s:Nat) (e:Int) (bs:List UInt8) (l:List Int) (hl:l.length≤1000) (hz:∀z ∈ l,0≤z∧z≤4294967296) (hb:bs.length≤1000000) :
  Enters 194∧Spec prog 194 #[.pointer (some ⟨b,0,none⟩),.slice (some ⟨s,0,none⟩) l.length l.length] [] (Pt s (.cells (l.flatMap zf).toArray 3)::EncL b bw e bs)
   ⟨Unit,fun _=>.tuple #[],fun _=>True,fun _=>[],fun _=>EncL b bw e (bs++l.flatMap fun z=>venc z.toNat)⟩:=by
 have h:=numbers_ok b bw e bs (some ⟨s,0,none⟩) l.length l hl hz hb
 refine ⟨h.1,fun G w hp hs=>?_⟩
 have h1:=(hs.shut (L:=[Pt s (.cells (l.flatMap zf).toArray 3)]) (x:=Row 3 1 (some ⟨s,0,none⟩) l.length l.length (l.flatMap zf)) fun h hh=>by
  obtain ⟨h1,h2,_,s1,_,hx,_⟩:=hh
  exact .inr ⟨s,[],(0,0),rfl,by have:=s1 _ _ hx;simpa using this,by rw [YT (f:=zf) (sz:=1) (fun _=>rfl)],by rw [List.append_nil,YT (f:=zf) (sz:=1) (fun _=>rfl)],Nat.le_refl _,.inl rfl⟩)
 have h2:=VS (f:=zf) (es:=l) rfl rfl Sel.here h1
 refine Yt h.2 h2 (UN _) (fun hp hF f hf=>by simp at hf;subst hf;exact hF _ (by simp)) fun x w' hx h3=>⟨x,rfl,hx,?_⟩
 exact (h3.facts (F':=[]) (fun _ _ _ h=>by cases h)).res fun k hk=>by simpa using hk
theorem encBytes_ok (b bw:Nat) (bs:List UInt8) (hl:bs.length≤1000000) :
  Enters 195∧Spec prog 195 #[.pointer (some ⟨b,0,none⟩)] [] (EncL b bw 0 bs) (RetV (.tuple #[.string ⟨bs.toArray⟩,.int .i64 0])):=by
 refine ZH [_] func195 ntmps195 fun G w hp=>?_
 repeat' (first|refine ZC ?_|refine ZB ?_|refine ZD ?_|refine ZP ?_|refine ZS ?_|refine ZJ ?_|refine ZE ?_|refine ZA (Up _ bs (by omega)) (fun _ _=>?_)|fail)
 refine l_frz (sz:=1) (f:=bf) bs ?_ (YY _) rfl
 refine l_b2s ?_
 repeat' (first|refine ZC ?_|refine ZB ?_|fail)
 exact ZG () rfl trivial
theorem cenc_len {c:Ct} (h:CtOK c):(cenc c).length≤30:=by
 have l1:=Zd c.b.toNat (by have:=h.b1;omega)
 have l2:=Zd c.o.toNat (by have:=h.o1;omega)
 have l3:=Zd c.c.toNat (by have:=h.c1;omega)
 simp only [cenc,List.length_append];omega
theorem Uy (c:Ct) (h:CtOK c):Enters 159∧Spec prog 159 #[c.v] [] [] (RetV (.tuple #[.string ⟨(cenc c).toArray⟩,.int .i64 0])):=by
 have n1:=cntCheck_ok c
 rw [cchk_ok h] at n1
 have e:([c.b,c.o,c.c].flatMap fun z=>venc z.toNat)=cenc c:=by simp [cenc]
 have n2:=fun b bw s=>numbersP_ok b bw s 0 [] [c.b,c.o,c.c] (by simp) (fun z hz=>by
  simp only [List.mem_cons,List.not_mem_nil,or_false] at hz
  have:=h.b0;have:=h.b1;have:=h.o0;have:=h.o1;have:=h.c0;have:=h.c1
  rcases hz with rfl|rfl|rfl<;>omega) (by simp)
 rw [e,List.nil_append] at n2
 have hl:=cenc_len h
 have n3:=fun b bw=>encBytes_ok b bw (cenc c) (by omega)
 refine ZH [_] func159 ntmps159 fun G w hp=>?_
 repeat' (first|refine ZC ?_|refine ZB ?_|refine ZD ?_|refine ZP ?_|refine ZN (fun b=>?_)|refine Yo (fun b=>?_)|refine ZA (n1) (fun _ _=>?_)|refine ZA (newEncoder_ok _) (fun _ _=>?_)|refine ZA (n2 _ _ _) (fun _ _=>?_)|refine ZA (n3 _ _) (fun _ _=>?_)|fail)
 exact ZG () rfl trivial
def cread (s:RS):Ct×RS:=
 let (b,s1):=rnum s 1048576
 let (o,s2):=rnum s1 1048576
 let (c,s3):=rnum s2 1048576
 (⟨b,o,c⟩,s3)
def cdec (s:ByteArray):Option Ct:=
 let r:=cread ⟨s.data.toList,0,0⟩
 if r.2.err=0∧r.2.rest=[] then some r.1 else none
set_option maxHeartbeats 1000000 in
theorem U0 (s:ByteArray) (hs:s.size≤1099511627776):Enters 115∧Spec prog 115 #[.string s] [] [] (RetV (.tuple #[((cdec s).getD Ct.z).v,.int .i64 (if (cdec s).isSome then 0 else 3)])):=by
 have hsz:s.data.toList.length=s.size:=by simp
 generalize hd:cdec s=d
 unfold cdec cread at hd
 generalize h0:(⟨s.data.toList,0,0⟩:RS)=s0 at hd
 have g0:s0.pos+s0.rest.length≤1099511627776:=by subst h0;dsimp only;omega
 have g1:=V8 0 s0 (pnum s0.rest 1048576) (pnum_le _ _)
 have n1:=fun b o cap=>Zx b o cap s0 1048576 g0
 generalize hr1:rnum s0 1048576=r1 at *
 obtain ⟨v1,s1⟩:=r1
 have g1:s1.pos+s1.rest.length≤1099511627776:=by
  have:(rnum s0 1048576).2.pos+(rnum s0 1048576).2.rest.length≤s0.pos+s0.rest.length:=g1
  rw [hr1] at this;dsimp only at this;omega
 have g2:=V8 0 s1 (pnum s1.rest 1048576) (pnum_le _ _)
 have n2:=fun b o cap=>Zx b o cap s1 1048576 g1
 dsimp only at *
 generalize hr2:rnum s1 1048576=r2 at *
 obtain ⟨v2,s2⟩:=r2
 have g2:s2.pos+s2.rest.length≤1099511627776:=by
  have:(rnum s1 1048576).2.pos+(rnum s1 1048576).2.rest.length≤s1.pos+s1.rest.length:=g2
  rw [hr2] at this;dsimp only at this;omega
 have n3:=fun b o cap=>Zx b o cap s2 1048576 g2
 dsimp only at *
 generalize hr3:rnum s2 1048576=r3 at *
 obtain ⟨v3,s3⟩:=r3
 dsimp only at *
 have n4:=fun b o cap=>W3 b o cap s3
 have n0:=fun o cap=>Wj o cap s.data.toList (by omega)
 rw [h0] at n0
 have e0:s.data.toList=s0.rest:=by rw [←h0]
 rw [e0] at n0
 refine ZH [_] func115 ntmps115 fun G w hp=>?_
 repeat' (first|refine ZC ?_|refine ZB ?_|refine ZD ?_|refine ZP ?_|refine ZS ?_|refine ZN (fun b=>?_)|refine ZA (n0 _ _) (fun _ _=>?_)|refine ZA (n1 _ _ _) (fun _ _=>?_)|refine ZA (n2 _ _ _) (fun _ _=>?_)|refine ZA (n3 _ _ _) (fun _ _=>?_)|refine ZA (n4 _ _ _) (fun _ _=>?_)|refine l_s2b (fun o cap=>?_)|rw [e0]|refine ZF (fun hc=>?_) (fun hc=>?_)|fail)
 ·have hne:¬(s3.err=0∧s3.rest=[]):=fun h=>by rw [(close0 _ _).2 h] at hc;simp at hc
  rw [if_neg hne] at hd;subst hd;exact ZG () rfl trivial
 ·have h1:=(close0 _ _).1 (by simpa using hc)
  rw [if_pos h1] at hd;subst hd;exact ZG () rfl trivial
def cnm (who:ByteArray):Nm:=⟨5,who,0,0,⟨#[]⟩⟩
theorem V2 (who:ByteArray):Enters 114∧Spec prog 114 #[.string who] [] [] (RetV (cnm who).v):=by
 refine ZH [_] func114 ntmps114 fun G w hp=>?_
 repeat' (first|refine ZC ?_|refine ZB ?_|refine ZD ?_|refine ZS ?_|refine ZN (fun b=>?_)|fail)
 exact ZG () rfl trivial
def madeE (es:Al) (cs:List Ch) (who:ByteArray):Ct×Int:=
 if lvalid who.data.toList then (if (vget es cs (cnm who)).2 then ((cdec (vget es cs (cnm who)).1).getD Ct.z,if (cdec (vget es cs (cnm who)).1).isSome then 0 else 3) else (Ct.z,0)) else (Ct.z,12)
def madeR (es:Al) (rs:List (Nm×Ch)) (cs:List Ch) (who:ByteArray):List (Nm×Ch):=if lvalid who.data.toList then vread es rs cs (cnm who) else rs
set_option maxHeartbeats 1000000 in
theorem made_ok (b:Nat) (ps:Option Addr) (es:Al) (rs:List (Nm×Ch)) (cs:List Ch) (who:ByteArray) (hw:who.size≤1099511627770) (hv:(vget es cs (cnm who)).1.size≤1099511627776) :
  Enters 59∧Spec prog 59 #[.pointer (some ⟨b,0,none⟩),.string who] [St ps es,Usg] [Vw b ps rs cs] ⟨Unit,fun _=>.tuple #[(madeE es cs who).1.v,.int .i64 (madeE es cs who).2],fun _=>True,fun _=>[],fun _=>[Vw b ps (madeR es rs cs who) cs]⟩:=by
 have n1:=Zu who (by omega)
 have n2:=V2 who
 have n3:=XR b ps es rs cs (cnm who) hw (Nat.zero_le _)
 have n4:=U0 (vget es cs (cnm who)).1 hv
 generalize hm:madeE es cs who=m
 generalize hr:madeR es rs cs who=r
 unfold madeE at hm
 unfold madeR at hr
 cases h1:lvalid who.data.toList with
 | false=>
  rw [h1] at n1 hm hr
  simp only [Bool.false_eq_true,if_false] at hm hr
  subst hm;subst hr
  refine ZH [_,_] func59 ntmps59 fun G w hp=>?_
  repeat' (first|refine ZC ?_|refine ZB ?_|refine ZD ?_|refine ZS ?_|refine ZN (fun b=>?_)|refine ZJ ?_|refine ZE ?_|refine ZA (n1) (fun _ _=>?_)|fail)
  exact ZG () rfl trivial
 | true=>
  rw [h1] at n1 hm hr
  simp only [if_true] at hm hr
  subst hr
  cases h2:(vget es cs (cnm who)).2 with
  | false=>
   rw [h2] at n3 hm
   simp only [Bool.false_eq_true,if_false] at hm
   subst hm
   refine ZH [_,_] func59 ntmps59 fun G w hp=>?_
   repeat' (first|refine ZC ?_|refine ZB ?_|refine ZD ?_|refine ZS ?_|refine ZN (fun b=>?_)|refine ZJ ?_|refine ZE ?_|refine ZA (n1) (fun _ _=>?_)|refine ZA (n2) (fun _ _=>?_)|refine ZA (n3) (fun _ _=>?_)|fail)
   exact ZG () rfl trivial
  | true=>
   rw [h2] at n3 hm
   simp only [if_true] at hm
   subst hm
   refine ZH [_,_] func59 ntmps59 fun G w hp=>?_
   repeat' (first|refine ZC ?_|refine ZB ?_|refine ZD ?_|refine ZS ?_|refine ZN (fun b=>?_)|refine ZE ?_|refine ZA (n1) (fun _ _=>?_)|refine ZA (n2) (fun _ _=>?_)|refine ZA (n3) (fun _ _=>?_)|refine ZA (n4) (fun _ _=>?_)|fail)
   exact ZG () rfl trivial
theorem setMade_ok (b:Nat) (ps:Option Addr) (rs:List (Nm×Ch)) (cs:List Ch) (who:ByteArray) (c:Ct) (hw:who.size≤1099511627770) (hv:lvalid who.data.toList=true) (hc0:CtOK c) (hl:cs.length≤1000000) :
  Enters 110∧Spec prog 110 #[.pointer (some ⟨b,0,none⟩),.string who,c.v] [Usg] [Vw b ps rs cs] ⟨Unit,fun _=>.int .i64 (vset cs (cnm who) ⟨(cenc c).toArray⟩).1,fun _=>True,fun _=>[],fun _=>[Vw b ps rs (vset cs (cnm who) ⟨(cenc c).toArray⟩).2]⟩:=by
 have n1:=Zu who (by omega)
 rw [hv] at n1
 have n2:=V2 who
 have n3:=Uy c hc0
 have n4:=Xw b ps rs cs (cnm who) ⟨(cenc c).toArray⟩ (by show who.size≤_;omega) (Nat.zero_le _) hl
 refine ZH [_,_,_] func110 ntmps110 fun G w hp=>?_
 repeat' (first|refine ZC ?_|refine ZB ?_|refine ZD ?_|refine ZP ?_|refine ZN (fun b=>?_)|refine ZE ?_|refine ZA (n1) (fun _ _=>?_)|refine ZA (n2) (fun _ _=>?_)|refine ZA (n3) (fun _ _=>?_)|refine ZA (n4) (fun _ _=>?_)|fail)
 exact ZG () rfl trivial
theorem mem_tw {α:Type} {p:α→Bool}:∀{l:List α} {x:α},x ∈ l.takeWhile p→p x=true
 | [],_,h=>by cases h
 | a::l,x,h=>by
  rw [List.takeWhile_cons] at h
  split at h
  ·rename_i ha
   rcases List.mem_cons.1 h with rfl|h
   ·exact ha
   ·exact mem_tw h
  ·cases h
theorem dval_pos:∀(init:List UInt8) (b:UInt8),b.toNat<128→0<b.toNat→0<dval (init++[b])
 | [],b,h,h0=>by simp [dval];omega
 | c::init,b,h,h0=>by
  have:=dval_pos init b h h0
  simp only [List.cons_append,dval];omega
theorem venc_dval:∀(init:List UInt8) (b:UInt8),(∀c ∈ init,128≤c.toNat)→b.toNat<128→(init≠[]→b.toNat≠0)→venc (dval (init++[b]))=init++[b]
 | [],b,_,h,_=>by
  have h1:dval ([]++[b])=b.toNat:=by simp [dval];omega
  rw [h1,venc,if_pos h];simp
 | c::init,b,hc,h,h0=>by
  have hb:0<b.toNat:=Nat.pos_of_ne_zero (h0 (by simp))
  have hp:=dval_pos init b h hb
  have ih:=venc_dval init b (fun x hx=>hc x (by simp [hx])) h (fun _=>by omega)
  have hc1:128≤c.toNat:=hc c (by simp)
  have hc2:c.toNat<256:=c.toNat_lt
  simp only [List.cons_append,dval]
  rw [venc,if_neg (by omega)]
  have e1:(c.toNat % 128+128 * dval (init++[b])) / 128=dval (init++[b]):=by omega
  have e2:(c.toNat % 128+128 * dval (init++[b])) % 128+128=c.toNat:=by omega
  rw [e1,e2,ih];simp
theorem pnat_inv (bs:List UInt8) (h:(pnat bs 9).2.2=0):bs.take (pnat bs 9).2.1=venc (pnat bs 9).1:=by
 have hle:=lastN_le bs 9
 unfold pnat at h ⊢
 dsimp only at h ⊢
 have hall:∀c ∈ bs.take (lastN bs 9),128≤c.toNat:=by
  intro c hc
  have h1:bs.take (lastN bs 9)=(bs.take 9).takeWhile fun b=>decide (128≤b.toNat):=by
   have h2:(bs.take 9).takeWhile (fun b=>decide (128≤b.toNat)) <+: bs:=(List.takeWhile_prefix _).trans (List.take_prefix _ _)
   exact (List.prefix_iff_eq_take.1 h2).symm
  rw [h1] at hc
  simpa using mem_tw hc
 by_cases h9:lastN bs 9=9
 ·simp [h9] at h
 ·rw [if_neg h9] at h ⊢
  cases hb:bs[lastN bs 9]? with
  | none=>simp [hb] at h
  | some b=>
   simp only [hb] at h ⊢
   by_cases hc:0<lastN bs 9∧b.toNat=0
   ·rw [if_pos hc] at h;cases h
   ·rw [if_neg hc] at h ⊢
    have h8:¬(lastN bs 9=9∧1<b.toNat):=fun h=>h9 h.1
    rw [if_neg h8]
    have hlt:lastN bs 9<bs.length:=(List.getElem?_eq_some_iff.1 hb).1
    have ht:bs.take (lastN bs 9+1)=bs.take (lastN bs 9)++[b]:=by rw [List.take_add_one,hb];rfl
    have hbl:b.toNat<128:=by
     have h1:lastN bs 9<(bs.take 9).length:=by simp;omega
     have h3:(bs.take 9)[lastN bs 9]? = some b:=by rw [List.getElem?_take];rw [if_pos (by omega)];exact hb
     have h4:((bs.take 9).takeWhile fun b=>decide (128≤b.toNat)).length=lastN bs 9:=rfl
     by_cases hx:128≤b.toNat
     ·exfalso
      have h5:(bs.take 9).take (lastN bs 9+1)=(bs.take 9).take (lastN bs 9)++[b]:=by rw [List.take_add_one,h3];rfl
      have h6:((bs.take 9).takeWhile fun b=>decide (128≤b.toNat))=(bs.take 9).take (lastN bs 9):=List.prefix_iff_eq_take.1 (List.takeWhile_prefix _)
      have h7:bs.take 9=((bs.take 9).take (lastN bs 9)++[b])++(bs.take 9).drop (lastN bs 9+1):=by rw [←h5,List.take_append_drop]
      have h8:∀c ∈ (bs.take 9).take (lastN bs 9)++[b],decide (128≤c.toNat)=true:=by
       intro c hc
       rcases List.mem_append.1 hc with hc|hc
       ·rw [←h6] at hc;exact mem_tw (p:=fun b:UInt8=>decide (128≤b.toNat)) hc
       ·simp only [List.mem_singleton] at hc;subst hc;simpa using hx
      have h9:((bs.take 9).take (lastN bs 9)++[b]).length≤((bs.take 9).takeWhile fun b=>decide (128≤b.toNat)).length:=by
       conv=>rhs;rw [h7]
       rw [List.takeWhile_append_of_pos h8]
       simp only [List.length_append];omega
      rw [h4] at h9
      simp at h9;omega
     ·omega
    show bs.take (lastN bs 9+1)=venc (dval (bs.take (lastN bs 9+1)) % 18446744073709551616)
    have hd:=dval_lt (bs.take (lastN bs 9+1))
    have hl:(bs.take (lastN bs 9+1)).length≤9:=by simp;omega
    have h128:128 ^ (bs.take (lastN bs 9+1)).length≤128 ^ 9:=Nat.pow_le_pow_right (by decide) hl
    rw [Nat.mod_eq_of_lt (Nat.lt_of_lt_of_le (Nat.lt_of_lt_of_le hd h128) (by decide)),ht]
    exact (venc_dval _ b hall hbl (fun hne hb0=>hc ⟨by
     rcases Nat.eq_zero_or_pos (lastN bs 9) with h0|h0
     ·rw [h0] at hne;exact absurd rfl hne
     ·exact h0,hb0⟩)).symm
theorem rstep_err {α:Type} (z:α) (s:RS) (p:α×Nat×Int) (h:(rstep z s p).2.err=0):s.err=0∧p.2.2=0∧rstep z s p=(p.1,⟨s.rest.drop p.2.1,s.pos+p.2.1,0⟩):=by
 unfold rstep at h ⊢
 by_cases h1:s.err=0
 ·rw [if_neg (by simp [h1])] at h ⊢
  by_cases h2:p.2.2=0
  ·rw [if_neg (by simp [h2])];exact ⟨h1,h2,rfl⟩
  ·rw [if_pos h2] at h;exact absurd h h2
 ·rw [if_pos h1] at h;exact absurd h h1
theorem Yu {s:RS} {most:Int} (h:(rnum s most).2.err=0):s.err=0∧0≤(rnum s most).1∧(rnum s most).1≤most∧(rnum s most).1<9223372036854775808∧s.rest=venc (rnum s most).1.toNat++(rnum s most).2.rest:=by
 obtain ⟨h1,h2,h3⟩:=rstep_err _ _ _ h
 have h4:rnum s most=_:=h3
 have hlt:=(Vo s.rest).1
 unfold pnum at h2
 dsimp only at h2
 have h5:(pnat s.rest 9).2.2=0∧¬most<((pnat s.rest 9).1:Int):=by
  split at h2
  ·cases h2
  ·rename_i hn
   exact ⟨h2,fun hm=>hn ⟨h2,hm⟩⟩
 rw [h4]
 refine ⟨h1,by simp [pnum],by simp only [pnum];omega,by simp only [pnum];omega,?_⟩
 have h6:=pnat_inv s.rest h5.1
 show s.rest=venc (((pnat s.rest 9).1:Int)).toNat++s.rest.drop (pnat s.rest 9).2.1
 rw [Int.toNat_natCast,←h6,List.take_append_drop]
theorem UY {s:RS} {most:Int} (h:(rtext s most).2.err=0):s.err=0∧((rtext s most).1.size:Int)≤most∧(rtext s most).1.size≤16777216∧s.rest=venc (rtext s most).1.size++(rtext s most).1.data.toList++(rtext s most).2.rest:=by
 obtain ⟨h1,h2,h3⟩:=rstep_err _ _ _ h
 have h4:rtext s most=_:=h3
 rw [h4]
 unfold ptext at h2 ⊢
 by_cases ha:(pnat s.rest 9).2.2=0
 ·rw [if_neg (by simp [ha])] at h2 ⊢
  by_cases hb:most<((pnat s.rest 9).1:Int)∨16777216<(pnat s.rest 9).1
  ·rw [if_pos hb] at h2;cases h2
  ·rw [if_neg hb] at h2 ⊢
   by_cases hc:s.rest.length<(pnat s.rest 9).2.1+(pnat s.rest 9).1
   ·rw [if_pos hc] at h2;cases h2
   ·rw [if_neg hc]
    have hsz:(ByteArray.mk ((s.rest.take ((pnat s.rest 9).2.1+(pnat s.rest 9).1)).drop (pnat s.rest 9).2.1).toArray).size=(pnat s.rest 9).1:=by
     show (List.toArray _).size=_
     simp;omega
    refine ⟨h1,by dsimp only;rw [hsz];omega,by dsimp only;rw [hsz];omega,?_⟩
    dsimp only
    rw [hsz]
    have h6:=pnat_inv s.rest ha
    generalize (pnat s.rest 9).2.1=a at *
    generalize (pnat s.rest 9).1=m at *
    rw [←h6]
    show s.rest=s.rest.take a++(List.toArray ((s.rest.take (a+m)).drop a)).toList++s.rest.drop (a+m)
    have e1:(s.rest.take (a+m)).take a=s.rest.take a:=by rw [List.take_take];congr 1;omega
    have e2:s.rest.take a++(s.rest.take (a+m)).drop a=s.rest.take (a+m):=by rw [←e1,List.take_append_drop]
    rw [List.toList_toArray,e2,List.take_append_drop]
 ·rw [if_pos ha] at h2;exact absurd h2 ha
structure Ino where
 kd:Int
 ow:Int
 gr:Int
 md:Int
 sz:Int
 lk:Int
 tg:ByteArray
 deriving DecidableEq
def inf (n:Ino):List Value:=[.int .i64 n.kd,.int .i64 n.ow,.int .i64 n.gr,.int .i64 n.md,.int .i64 n.sz,.int .i64 n.lk,.string n.tg]
def Ino.v (n:Ino):Value:=.agg #[.int .i64 n.kd,.int .i64 n.ow,.int .i64 n.gr,.int .i64 n.md,.int .i64 n.sz,.int .i64 n.lk,.string n.tg]
def Ino.z:Ino:=⟨0,0,0,0,0,0,⟨#[]⟩⟩
def badt (c:UInt8):Bool:=decide ((c.toNat:Int)<32) || ((c.toNat:Int) == 127)
def tchk (s:ByteArray):Int:=if isE s then 4 else if 256<s.size then 5 else if s.data.toList.any badt then 6 else 0
def ifit (n:Ino):Prop:=0≤n.ow∧n.ow≤65535∧0≤n.gr∧n.gr≤65535∧0≤n.md∧n.md≤2047∧0≤n.sz∧n.sz≤4096∧0≤n.lk∧n.lk≤1000
instance (n:Ino):Decidable (ifit n):=by unfold ifit;infer_instance
def ichk (n:Ino):Int:=
 if n.kd<1∨3<n.kd then 11
 else if ¬ifit n then 2
 else if (n.kd≠1∧n.sz≠0)∨(n.kd≠3∧isE n.tg=false) then 3
 else if n.kd≠3 then 0
 else tchk n.tg
def ienc (n:Ino):List UInt8:=([n.kd,n.ow,n.gr,n.md,n.sz,n.lk].flatMap fun z=>venc z.toNat)++venc n.tg.size++n.tg.data.toList
def iencS (n:Ino):ByteArray:=if ichk n=0 then ⟨(ienc n).toArray⟩ else ⟨#[]⟩
def iread (s:RS):Ino×RS:=
 let (a1,s1):=rnum s 3
 let (a2,s2):=rnum s1 65535
 let (a3,s3):=rnum s2 65535
 let (a4,s4):=rnum s3 2047
 let (a5,s5):=rnum s4 4096
 let (a6,s6):=rnum s5 1000
 let (a7,s7):=rtext s6 256
 (⟨a1,a2,a3,a4,a5,a6,a7⟩,s7)
def idec (s:ByteArray):Option Ino:=
 let r:=iread ⟨s.data.toList,0,0⟩
 if r.2.err=0∧r.2.rest=[]∧ichk r.1=0 then some r.1 else none
theorem XI (s:RS) (m:Int):(rnum s m).2.pos+(rnum s m).2.rest.length≤s.pos+s.rest.length:=V8 0 s _ (pnum_le _ _)
theorem rtext_le3 (s:RS) (m:Int):(rtext s m).2.pos+(rtext s m).2.rest.length≤s.pos+s.rest.length:=V8 _ s _ (ptext_le _ _)
variable {t2:TypeId}
section
theorem run_scut {s:ByteArray} {z:Int} {rs:TRow} {w:World} (hi:Nat) (hle:hi≤s.size) (hts:lookT tab t=some rs) (hrs:rs.k = .str) (hz:z=(hi:Int)):(Instr.sliceAt t (.string s) none (some (.int .i64 z)) none).run prog w = .ok (.string (s.extract 0 hi)) w:=by
 subst hz
 have hu:=Yp (w:=w) hts hrs
 have hb:(Instr.sliceBound (.int .i64 (hi:Int)) s.size .sliceAlen).run prog w = .ok hi w:=by
  simp only [Instr.sliceBound,asIntOf,Sem.run_bind,Sem.run_pure,Result.andThen]
  rw [if_pos ⟨by omega,by omega⟩]
  simp
 simp [Instr.sliceAt,Instr.slice,Instr.sliceBounds,Sem.run_bind,hu,Result.andThen,hb]
theorem minS (m j:Nat):(if (j:Int)<(m:Int) then (j:Int) else (m:Int))=((min m j:Nat):Int):=by split<;>omega
def cutS (s:ByteArray) (m:Nat):ByteArray:=s.extract 0 (min s.size m)
theorem Xq (s:ByteArray) (m:Nat):(cutS s m).size≤m:=by
 unfold cutS;rw [ByteArray.size_extract];omega
theorem l_cutS {s:ByteArray} {z:Int} {rs:TRow} (hi:Nat) (nx:Wl n C ops.toArray k Q l ((d,.string (cutS s hi))::E) F R)
  (hw:wantL ops E ⟨some d,.slice t x none (some y) none,ty0,pos,aft,gd⟩=some true:=by rfl) (hn:Nat.blt d n=true:=by rfl) (hx:ev E x=some (.string s):=by rfl) (hy:ev E y=some (.int .i64 z):=by rfl)
  (hts:lookT tab t=some rs:=by rfl) (hrs:rs.k = .str:=by rfl) (hz:z=(if (hi:Int)<(s.size:Int) then (hi:Int) else (s.size:Int)):=by rfl):Wl n C ops.toArray k Q (⟨some d,.slice t x none (some y) none,ty0,pos,aft,gd⟩::l) E F R:=
 l_q (fun a w ha=>by
  simp only [execOp,Option.map_some,Option.map_none,ha.ev (x:=x) (by rw [ZL];exact hx),ha.ev (x:=y) (by rw [ZL];exact hy),Sem.run_bind,run_scut (w:=w) (min s.size hi) (Nat.min_le_left _ _) hts hrs (hz.trans (minS _ _)),Result.andThen,Sem.run_pure,cutS]) nx (by intro c h;cases h) hw hn
theorem r_ixA {T sz m b off:Nat} {z:Int} {kd:IntKind} {rs tr:TRow} (j:Nat) (hlt:j<m) (nx:Wr n C ops k Q Tl Fs R L ((d,.pointer (some ⟨b,off+j * sz,none⟩))::E) F N)
  (ho:nth ops i=some ⟨some d,.indexAddr t x y,ty0,pos,aft,gd⟩:=by rfl) (hw:wantL ops E ⟨some d,.indexAddr t x y,ty0,pos,aft,gd⟩=some true:=by rfl) (hx:ev E x=some (.pointer (some ⟨b,off,none⟩)):=by rfl) (hy:ev E y=some (.int kd z):=by rfl)
  (hts:lookT tab t=some rs:=by rfl) (hrs:rs.k = .arr m T:=by rfl) (hT:lookT tab T=some tr:=by rfl) (hsz:tr.size=sz:=by rfl) (hz:z=(j:Int):=by first|rfl|omega):Wr n C ops k Q Tl Fs R ((i,0)::L) E F N:=
 r_q (fun a w ha=>by
  simp only [execOp,ha.ev (x:=x) (by rw [ZL];exact hx),ha.ev (x:=y) (by rw [ZL];exact hy),Sem.run_bind,Result.andThen,VR (w:=w) hts hrs hT hsz hz hlt,Sem.run_pure]) nx ho hw
end
def By (T b:Nat) (L:List UInt8):HP:=Pt b (.cells (byt L).toArray T (0,0))
def cpy (L:List UInt8) (off:Nat) (s:ByteArray) (dl:Nat):List UInt8:=L.take off++s.data.toList.take (min s.size dl)++L.drop (off+min s.size dl)
section
theorem run_undA {m T:Nat} {w:World} {rs:TRow} (hts:lookT tab t=some rs) (hrs:rs.k = .arr m T):(underlying t).run prog w = .ok (.array m T) w:=by
 obtain ⟨d1,hd1,hk1⟩:=Zj.und hts
 rw [hrs] at hk1
 cases d1<;>simp [chkKind] at hk1
 obtain ⟨rfl,rfl⟩:=hk1
 simp [underlying,hd1,go_sem]
theorem run_sla0 {T m:Nat} {w:World} {rs tr:TRow} (hts:lookT tab t=some rs) (hrs:rs.k = .arr m T) (hT:lookT tab T=some tr) (hsz:tr.size=1) :
  (Instr.sliceAt t (.pointer (some ⟨b,0,none⟩)) none none none).run prog w = .ok (.slice (some ⟨b,0,none⟩) m m) w:=by
 have hs1:=Zj.sizeOf hT w
 rw [hsz] at hs1
 simp only [Instr.sliceAt,run_undA hts hrs,Instr.sureAddr,Instr.sliceBounds,Sem.run_bind,Sem.run_pure,Result.andThen,hs1]
 split
 ·simp
 ·rw [Y2 (b:=b) (p:=0) rfl];simp
theorem r_sla0 {T m:Nat} {rs tr:TRow} (nx:Wr n C ops k Q Tl Fs R L ((d,.slice (some ⟨b,0,none⟩) m m)::E) F N)
  (ho:nth ops i=some ⟨some d,.slice t x none none none,ty0,pos,aft,gd⟩:=by rfl) (hw:wantL ops E ⟨some d,.slice t x none none none,ty0,pos,aft,gd⟩=some true:=by rfl) (hx:ev E x=some (.pointer (some ⟨b,0,none⟩)):=by rfl)
  (hts:lookT tab t=some rs:=by rfl) (hrs:rs.k = .arr m T:=by rfl) (hT:lookT tab T=some tr:=by rfl) (hsz:tr.size=1:=by rfl):Wr n C ops k Q Tl Fs R ((i,0)::L) E F N:=
 r_q (fun a w ha=>by
  simp only [execOp,Option.map_none,ha.ev (x:=x) (by rw [ZL];exact hx),Sem.run_bind,run_sla0 (b:=b) (w:=w) hts hrs hT hsz,Result.andThen,Sem.run_pure]) nx ho hw
theorem l_sla0 {T m:Nat} {rs tr:TRow} (nx:Wl n C ops.toArray k Q l ((d,.slice (some ⟨b,0,none⟩) m m)::E) F R)
  (hw:wantL ops E ⟨some d,.slice t x none none none,ty0,pos,aft,gd⟩=some true:=by rfl) (hn:Nat.blt d n=true:=by rfl) (hx:ev E x=some (.pointer (some ⟨b,0,none⟩)):=by rfl)
  (hts:lookT tab t=some rs:=by rfl) (hrs:rs.k = .arr m T:=by rfl) (hT:lookT tab T=some tr:=by rfl) (hsz:tr.size=1:=by rfl):Wl n C ops.toArray k Q (⟨some d,.slice t x none none none,ty0,pos,aft,gd⟩::l) E F R:=
 l_q (fun a w ha=>by
  simp only [execOp,Option.map_none,ha.ev (x:=x) (by rw [ZL];exact hx),Sem.run_bind,run_sla0 (b:=b) (w:=w) hts hrs hT hsz,Result.andThen,Sem.run_pure]) nx (by intro c h;cases h) hw hn
theorem run_send {s:ByteArray} {z:Int} {rs:TRow} {w:World} (lo:Nat) (hle:lo≤s.size) (hts:lookT tab t=some rs) (hrs:rs.k = .str) (hz:z=(lo:Int)):(Instr.sliceAt t (.string s) (some (.int .i64 z)) none none).run prog w = .ok (.string (s.extract lo s.size)) w:=by
 subst hz
 have hu:=Yp (w:=w) hts hrs
 have hb:(Instr.sliceBound (.int .i64 (lo:Int)) s.size .sliceB).run prog w = .ok lo w:=by
  simp only [Instr.sliceBound,asIntOf,Sem.run_bind,Sem.run_pure,Result.andThen]
  rw [if_pos ⟨by omega,by omega⟩]
  simp
 simp [Instr.sliceAt,Instr.slice,Instr.sliceBounds,Sem.run_bind,hu,Result.andThen,hb]
theorem r_send {s:ByteArray} {z:Int} {rs:TRow} (lo:Nat) (hle:lo≤s.size) (nx:Wr n C ops k Q Tl Fs R L ((d,.string (s.extract lo s.size))::E) F N)
  (ho:nth ops i=some ⟨some d,.slice t x (some y) none none,ty0,pos,aft,gd⟩:=by rfl) (hw:wantL ops E ⟨some d,.slice t x (some y) none none,ty0,pos,aft,gd⟩=some true:=by rfl) (hx:ev E x=some (.string s):=by rfl) (hy:ev E y=some (.int .i64 z):=by rfl)
  (hts:lookT tab t=some rs:=by rfl) (hrs:rs.k = .str:=by rfl) (hz:z=(lo:Int):=by first|rfl|omega):Wr n C ops k Q Tl Fs R ((i,0)::L) E F N:=
 r_q (fun a w ha=>by
  simp only [execOp,Option.map_some,Option.map_none,ha.ev (x:=x) (by rw [ZL];exact hx),ha.ev (x:=y) (by rw [ZL];exact hy),Sem.run_bind,run_send (w:=w) lo hle hts hrs hz,Result.andThen,Sem.run_pure]) nx ho hw
def arv (Lb:List UInt8):Value:=.agg (byt Lb).toArray
end
structure Bi where
 mkr:ByteArray
 nu:Int
 deriving DecidableEq
def Bi.v (b:Bi):Value:=.agg #[.string b.mkr,.int .i64 b.nu]
def Bi.z:Bi:=⟨⟨#[]⟩,0⟩
def bchk (b:Bi):Int:=if lvalid b.mkr.data.toList=false then 12 else if 0≤b.nu∧b.nu≤1073741824 then 0 else 2
def nnm (b:Bi):Nm:=⟨7,b.mkr,b.nu,0,⟨#[]⟩⟩
def bnm (b:Bi) (i:Int):Nm:=⟨8,b.mkr,b.nu,i,⟨#[]⟩⟩
theorem VZ (b:Bi) (hb:b.mkr.size≤1099511627776):Enters 61∧Spec prog 61 #[b.v] [] [] (RetV (.int .i64 (bchk b))):=by
 have n1:=Zu b.mkr hb
 have n2:=Xp b.nu 1073741824
 generalize hr:bchk b=r
 unfold bchk at hr
 cases hv:lvalid b.mkr.data.toList
 all_goals rw [hv] at n1 hr
 all_goals simp only [Bool.true_eq_false,if_true,if_false] at hr
 all_goals refine ZH [_] func61 ntmps61 fun G w hp=>?_
 all_goals repeat' (first|refine ZC ?_|refine ZB ?_|refine ZD ?_|refine ZP ?_|refine ZN (fun b=>?_)|refine ZJ ?_|refine ZE ?_|refine ZA (n1) (fun _ _=>?_)|refine ZA (n2) (fun _ _=>?_)|(refine ZF (fun hc=>?_) (fun hc=>?_)<;>(try simp at hc)<;>(try omega))|fail)
 all_goals first
  | (subst hr;exact ZG () rfl trivial)
  | (rw [if_pos (by simp_all)] at hr;subst hr;exact ZG () rfl trivial)
  | (rw [if_neg (by simp_all;omega)] at hr;subst hr;exact ZG () rfl trivial)
def iget (es:Al) (cs:List Ch) (b:Bi):Ino×Int:=
 if bchk b≠0 then (Ino.z,bchk b) else if (vget es cs (nnm b)).2 then ((idec (vget es cs (nnm b)).1).getD Ino.z,if (idec (vget es cs (nnm b)).1).isSome then 0 else 3) else (Ino.z,8)
def igetR (es:Al) (rs:List (Nm×Ch)) (cs:List Ch) (b:Bi):List (Nm×Ch):=if bchk b≠0 then rs else vread es rs cs (nnm b)
def ifile (es:Al) (cs:List Ch) (b:Bi):Ino×Int:=
 if (iget es cs b).2≠0 then (Ino.z,(iget es cs b).2) else if (iget es cs b).1.kd=2 then (Ino.z,15) else if (iget es cs b).1.kd=3 then (Ino.z,11) else ((iget es cs b).1,0)
def pad64 (s:ByteArray):List UInt8:=cpy (List.replicate 64 0) 0 s 64
structure Pr where
 kd:Int
 st:Int
 cd:Int
 ep:Int
 us:Int
 gs:List Int
 sp:ByteArray
 pg:Int
 dr:Bi
 tm:Int
 deriving DecidableEq
def Pr.v (p:Pr) (o:Option Addr) (c:Nat):Value:=.agg #[.int .i64 p.kd,.int .i64 p.st,.int .i64 p.cd,.int .i64 p.ep,.int .i64 p.us,.slice o p.gs.length c,.string p.sp,.int .i64 p.pg,.string p.dr.mkr,.int .i64 p.dr.nu,.int .i64 p.tm]
def Pr.z:Pr:=⟨0,0,0,0,0,[],⟨#[]⟩,0,Bi.z,0⟩
def gok (gs:List Int):Prop:=∀i<gs.length,0≤gs.getD i 0∧gs.getD i 0≤65535
instance (gs:List Int):Decidable (gok gs):=by unfold gok;infer_instance
def gsq (gs:List Int):Prop:=∀i<gs.length,i+1<gs.length→gs.getD i 0<gs.getD (i+1) 0
instance (gs:List Int):Decidable (gsq gs):=by unfold gsq;infer_instance
def gchk (gs:List Int):Int:=if 8<gs.length then 9 else if ¬gok gs then 2 else if ¬gsq gs then 32 else 0
def pfit (p:Pr):Prop:=(0≤p.cd∧p.cd≤410)∧(p.st≠1∨p.cd=0)∧(0≤p.ep∧p.ep≤1073741824)∧(0≤p.us∧p.us≤65535)∧(0≤p.pg∧p.pg≤64)∧0≤p.tm∧p.tm≤99
instance (p:Pr):Decidable (pfit p):=by unfold pfit;infer_instance
def pchk (p:Pr):Int:=
 if p.kd≠1∧p.kd≠2 then 11
 else if p.st<1∨3<p.st then 10
 else if ¬pfit p then 2
 else if gchk p.gs≠0 then gchk p.gs
 else if lvalid p.sp.data.toList=false then 12
 else bchk p.dr
theorem WT (x m:Int):Enters 58∧Spec prog 58 #[.int .i64 x,.int .i64 m] [] [] (RetV (.bool (decide (0≤x) && decide (x≤m)))):=by
 refine ZH [_,_] func58 ntmps58 fun G w hp=>?_
 repeat' (first|refine ZC ?_|refine ZB ?_|refine ZU ?_|refine ZD ?_|refine ZT (fun hc=>?_) (fun hc=>?_)|fail)
 all_goals (refine ZG () ?_ trivial;simp_all [RetV,resV]<;>omega)
theorem WW {l:List Int} {i:Nat} {x:Int} (h:l[i]? = some x):l.getD i 0=x:=by simp [List.getD,h]
set_option maxHeartbeats 1000000 in
theorem checkGroups_ok (o:Option Addr) (c:Nat) (gs:List Int) (hl:gs.length≤1099511627776):Enters 67∧Spec prog 67 #[.slice o gs.length c] [Sl 3 zf o c gs] [] (RetV (.int .i64 (gchk gs))):=by
 generalize hr:gchk gs=r
 unfold gchk at hr
 refine ZH [_] func67 ntmps67 fun G w hp=>?_
 repeat' (first|refine ZC ?_|refine ZB ?_|refine ZD ?_|(refine ZF (fun hc=>?_) (fun hc=>?_)<;>(try simp at hc)<;>(try omega))|fail)
 ·rw [if_pos (by omega)] at hr;subst hr;exact ZG () rfl trivial
 rw [if_neg (by omega)] at hr
 refine YH (X:={i:Nat // i≤gs.length∧∀j<i,0≤gs.getD j 0∧gs.getD j 0≤65535}) (fun i=>[(0,.slice o gs.length c),(9,.slice o gs.length c),(10,.int .i64 (gs.length:Int)),(11,.int .i64 (i.1:Int))]) (fun _=>[Sl 3 zf o c gs]) (fun _=>[]) (fun i=>gs.length - i.1) ⟨0,by omega,fun j hj=>by omega⟩ ⟨rfl,rfl,rfl,rfl,trivial⟩ ?_
 rintro ⟨i,hi1,hi2⟩
 dsimp only
 by_cases hlt:i<gs.length
 ·obtain ⟨x,hx⟩:∃x,gs[i]? = some x:=⟨_,List.getElem?_eq_getElem hlt⟩
  have hg:=WW hx
  have n1:=WT x 65535
  repeat' (first|refine ZC ?_|refine ZB ?_|refine ZD ?_|refine ZA (n1) (fun _ _=>?_)|refine XL (es:=gs) i x hx (fun b off=>?_)|refine YQ ?_|(refine ZF (fun hc=>?_) (fun hc=>?_)<;>(try simp at hc)<;>(try omega))|fail)
  ·have e:r=2:=by
    rw [←hr,if_pos]
    intro h
    have h2:=h i hlt
    rw [hg] at h2
    omega
   exact Y5 (XK (w_rv (congrArg (Value.int .i64) e) (YS () rfl trivial)))
  ·rw [wrapi (z:=(i:Int)+1) (by omega) (by omega)]
   refine ZW ⟨i+1,by omega,fun j hj=>?_⟩ (by show gs.length - (i+1)<gs.length - i;omega) ⟨rfl,rfl,rfl,rfl,trivial⟩
   by_cases hij:j=i
   ·subst hij
    rw [hg]
    omega
   ·exact hi2 j (by omega)
 ·have hk:gok gs:=fun j hj=>hi2 j (by omega)
  rw [if_neg (by simp [hk])] at hr
  repeat' (first|refine ZC ?_|refine ZB ?_|refine ZD ?_|refine Zn ?_|(refine ZF (fun hc=>?_) (fun hc=>?_)<;>(try simp at hc)<;>(try omega))|fail)
  refine YH (X:={i:Nat // i≤gs.length∧∀j<i,j+1<gs.length→gs.getD j 0<gs.getD (j+1) 0}) (fun i=>[(0,.slice o gs.length c),(5,.int .i64 ((i.1+1:Nat):Int))]) (fun _=>[Sl 3 zf o c gs]) (fun _=>[]) (fun i=>gs.length - i.1) ⟨0,by omega,fun j hj=>by omega⟩ ⟨rfl,rfl,trivial⟩ ?_
  rintro ⟨k,hk1,hk2⟩
  dsimp only
  by_cases hlk:k+1<gs.length
  ·obtain ⟨x,hx⟩:∃x,gs[k]? = some x:=⟨_,List.getElem?_eq_getElem (by omega)⟩
   obtain ⟨y,hy⟩:∃y,gs[k+1]? = some y:=⟨_,List.getElem?_eq_getElem hlk⟩
   have hgx:=WW hx
   have hgy:=WW hy
   have hw1:IntKind.i64.wrap (((k+1:Nat):Int) - 1)=(k:Int):=by rw [wrapi (by omega) (by omega)];omega
   have hw2:IntKind.i64.wrap (((k+1:Nat):Int)+1)=((k+1+1:Nat):Int):=by rw [wrapi (by omega) (by omega)];omega
   repeat' (first|refine ZC ?_|refine ZB ?_|refine ZD ?_|refine ZO ?_|refine ZQ ?_|rw [hw1]|rw [hw2]|refine Wp (es:=gs) (k+1) y hy (fun b off=>?_)|refine Wp (es:=gs) k x hx (fun b off=>?_)|refine r_ldC ?_|refine ZK 12 [] [(0,0),(1,0),(2,0),(3,0),(4,0),(5,0),(6,0),(7,0),(8,0),(9,0)] [] ?_|(refine ZF (fun hc=>?_) (fun hc=>?_)<;>(try simp at hc)<;>(try omega))|fail)
   ·have e:r=32:=by
     rw [←hr,if_pos]
     intro h
     have h2:=h k (by omega) hlk
     rw [hgx,hgy] at h2
     omega
    exact Y5 (XK (w_rv (congrArg (Value.int .i64) e) (YS () rfl trivial)))
   ·refine ZW ⟨k+1,by omega,fun j hj h1=>?_⟩ (by show gs.length - (k+1)<gs.length - k;omega) ⟨rfl,rfl,trivial⟩
    by_cases hjk:j=k
    ·subst hjk
     rw [hgx,hgy]
     omega
    ·exact hk2 j (by omega) h1
  ·have hs:gsq gs:=fun j hj h1=>hk2 j (by omega) h1
   rw [if_neg (by simp [hs])] at hr
   subst hr
   repeat' (first|refine ZC ?_|refine ZB ?_|refine ZD ?_|refine Zn ?_|(refine ZF (fun hc=>?_) (fun hc=>?_)<;>(try simp at hc)<;>(try omega))|fail)
   exact ZG () rfl trivial
theorem inRange_ok (p:Pr) (o:Option Addr) (c:Nat):Enters 66∧Spec prog 66 #[p.v o c] [] [] (RetV (.bool (decide (pfit p)))):=by
 have n1:=WT p.cd 410
 have n2:=WT p.ep 1073741824
 have n3:=WT p.us 65535
 have n4:=WT p.pg 64
 have n5:=WT p.tm 99
 refine ZH [_] func66 ntmps66 fun G w hp=>?_
 repeat' (first|refine ZC ?_|refine ZB ?_|refine ZU ?_|refine ZD ?_|refine ZP ?_|refine ZN (fun b=>?_)|refine ZA (n1) (fun _ _=>?_)|refine ZA (n2) (fun _ _=>?_)|refine ZA (n3) (fun _ _=>?_)|refine ZA (n4) (fun _ _=>?_)|refine ZA (n5) (fun _ _=>?_)|(refine ZT (fun hc=>?_) (fun hc=>?_)<;>(try simp at hc))|fail)
 all_goals refine ZG () ?_ trivial
 all_goals refine congrArg Value.bool ?_
 all_goals first|(unfold pfit;simp_all;done)|(unfold pfit;simp_all;omega)|(symm;rw [decide_eq_false_iff_not];unfold pfit;omega)
theorem XF (p:Pr) (o:Option Addr) (c:Nat) (hl:p.gs.length≤1099511627776) (h1:p.sp.size≤1099511627776) (h2:p.dr.mkr.size≤1099511627776):Enters 18∧Spec prog 18 #[p.v o c] [Sl 3 zf o c p.gs] [] (RetV (.int .i64 (pchk p))):=by
 have n1:=inRange_ok p o c
 have n2:=checkGroups_ok o c p.gs hl
 have n3:=Zu p.sp h1
 have n4:=VZ p.dr h2
 generalize hr:pchk p=r
 unfold pchk at hr
 refine ZH [_] func18 ntmps18 fun G w hp=>?_
 repeat' (first|refine ZC ?_|refine ZB ?_|refine ZU ?_|refine ZD ?_|refine ZP ?_|refine ZN (fun b=>?_)|refine ZJ ?_|refine ZE ?_|refine ZA (n1) (fun _ _=>?_)|refine ZA (n2) (fun _ _=>?_)|refine ZA (n3) (fun _ _=>?_)|refine ZA (n4) (fun _ _=>?_)|(refine ZT (fun hc=>?_) (fun hc=>?_)<;>(try simp at hc)<;>(try omega))|(refine ZF (fun hc=>?_) (fun hc=>?_)<;>(try simp at hc)<;>(try omega))|fail)
 all_goals (refine ZG () ?_ trivial;refine congrArg (Value.int .i64) ?_;rw [←hr])
 all_goals first
  | (rw [if_pos (by omega)];done)
  | (rw [if_neg (by omega),if_pos (by omega)];done)
  | (rw [if_neg (by omega),if_neg (by omega),if_pos (by simpa using hc)];done)
  | (rw [if_neg (by omega),if_neg (by omega),if_neg (by simp_all),if_pos (by simpa using hc)];done)
  | (rw [if_neg (by omega),if_neg (by omega),if_neg (by simp_all),if_neg (by simp_all),if_pos (by simp_all)];done)
  | (rw [if_neg (by omega),if_neg (by omega),if_neg (by simp_all),if_neg (by simp_all),if_neg (by simp_all)];done)
def shO (o:Ou):Ou:=⟨o.ch,cutS o.tg 80,cutS o.tx 4200,o.us⟩
def shL (x:Lf):Lf:=⟨⟨cutS x.e.who 80,x.e.nu,x.e.tk,shO x.e.o⟩,x.tm,x.rd⟩
def mleaveE (ls:List Lf) (x:Lf):Int:=if lchk x≠0 then lchk x else if late ls x then 32 else 0
def idq (x:Lf) (w:ByteArray) (nu tk:Int):Bool:=decide (x.e.who=w) && (decide (x.e.nu=nu) && decide (x.e.tk=tk))
def lfind (ls:List Lf) (w:ByteArray) (nu tk:Int):Nat→Option Nat
 | 0=>none
 | m+1=>match ls[m]? with|some x=>if idq x w nu tk then some m else lfind ls w nu tk m|none=>lfind ls w nu tk m
def fndv (r:Option Nat):Int:=match r with|some j=>(j:Int)|none=>-1
def lenc (x:Lf):List UInt8:=venc x.e.who.size++x.e.who.data.toList++venc x.e.nu.toNat++venc x.e.tk.toNat++oenc x.e.o++venc x.tm.toNat++venc x.rd.toNat
def lencs (ls:List Lf):List UInt8:=venc ls.length++ls.flatMap lenc
section
theorem k_wtc {b:Nat} {xs ys:List UInt8} (h:xs=ys) (t:Wk n C k Q E F (Wtr b ys::R0)) (hs:Sel (Wtr b xs) R R0:=by (repeat (first|exact Sel.here|apply Sel.there));first|done|fail):Wk n C k Q E F R:=by
 subst h;exact fun a w ha hsat=>t a w ha (hsat.sel hs)
end
def EncOK (x:Lf):Prop:=lchk x=0∧x.e.who.size≤1000
def lencsS (ls:List Lf):ByteArray:=⟨(lencs ls).toArray⟩
theorem WQ {gs:List Int} (h:gchk gs=0):gs.length≤8∧(∀g ∈ gs,0≤g∧g≤65535)∧gsq gs:=by
 unfold gchk at h
 split at h
 ·cases h
 ·split at h
  ·cases h
  ·split at h
   ·cases h
   ·rename_i h1 h2 h3
    refine ⟨by omega,fun g hg=>?_,by simpa using h3⟩
    obtain ⟨i,hi,rfl⟩:=List.mem_iff_getElem.1 hg
    have h4:=(Classical.not_not.1 h2) i hi
    rw [WW (List.getElem?_eq_getElem hi)] at h4
    exact h4
theorem Zg {p:Pr} (h:pchk p=0):(p.kd=1∨p.kd=2)∧(1≤p.st∧p.st≤3)∧pfit p∧gchk p.gs=0∧lvalid p.sp.data.toList=true∧bchk p.dr=0:=by
 unfold pchk at h
 split at h
 ·cases h
 ·split at h
  ·cases h
  ·split at h
   ·cases h
   ·split at h
    ·rename_i h1;exact absurd h h1
    ·split at h
     ·cases h
     ·rename_i h1 h2 h3 h4 h5
      exact ⟨by omega,by omega,Classical.not_not.1 h3,Classical.not_not.1 h4,by simpa using h5,h⟩
theorem VG {b:Bi} (h:bchk b=0):lvalid b.mkr.data.toList=true∧0≤b.nu∧b.nu≤1073741824:=by
 unfold bchk at h
 split at h
 ·cases h
 ·split at h
  ·rename_i h1 h2;exact ⟨by simpa using h1,h2⟩
  ·cases h
def genc (gs:List Int):List UInt8:=gs.flatMap fun z=>venc z.toNat
def penc (p:Pr):List UInt8:=venc p.kd.toNat++venc p.st.toNat++venc p.cd.toNat++venc p.ep.toNat++venc p.us.toNat++venc p.gs.length++genc p.gs++venc p.sp.size++p.sp.data.toList++venc p.pg.toNat++venc p.dr.mkr.size++p.dr.mkr.data.toList++venc p.dr.nu.toNat++venc p.tm.toNat
def pencS (p:Pr):ByteArray:=if pchk p=0 then ⟨(penc p).toArray⟩ else ⟨#[]⟩
theorem genc_len (gs:List Int) (h:∀g ∈ gs,0≤g∧g≤65535):(genc gs).length≤gs.length * 10:=by
 induction gs with
 | nil=>simp [genc]
 | cons a l ih=>
  have h1:=ih fun g hg=>h g (List.mem_cons_of_mem _ hg)
  have h2:=Zd a.toNat (by have:=h a List.mem_cons_self;omega)
  simp only [genc,List.flatMap_cons,List.length_append,List.length_cons] at h1 ⊢
  omega
def prf (p:Pr) (o:Option Addr) (c:Nat):List Value:=[.int .i64 p.kd,.int .i64 p.st,.int .i64 p.cd,.int .i64 p.ep,.int .i64 p.us,.slice o p.gs.length c,.string p.sp,.int .i64 p.pg,.string p.dr.mkr,.int .i64 p.dr.nu,.int .i64 p.tm]
set_option maxHeartbeats 2000000 in
theorem proEncode_ok (p:Pr) (o:Option Addr) (c:Nat) (h:pchk p=0) (h1:p.sp.size≤1000) (h2:p.dr.mkr.size≤1000):Enters 17∧Spec prog 17 #[p.v o c] [Sl 3 zf o c p.gs] [] (RetV (.tuple #[.string (pencS p),.int .i64 0])):=by
 obtain ⟨q1,q2,q3,q4,q5,q6⟩:=Zg h
 obtain ⟨q7,q8,q9⟩:=WQ q4
 obtain ⟨q10,q11,q12⟩:=VG q6
 unfold pfit at q3
 have n0:=XF p o c (by omega) (by omega) (by omega)
 rw [h] at n0
 have e1:p.kd=((p.kd.toNat:Nat):Int):=by omega
 have e2:p.st=((p.st.toNat:Nat):Int):=by omega
 have e3:p.cd=((p.cd.toNat:Nat):Int):=by omega
 have e4:p.ep=((p.ep.toNat:Nat):Int):=by omega
 have e5:p.us=((p.us.toNat:Nat):Int):=by omega
 have e6:p.pg=((p.pg.toNat:Nat):Int):=by omega
 have e7:p.dr.nu=((p.dr.nu.toNat:Nat):Int):=by omega
 have e8:p.tm=((p.tm.toNat:Nat):Int):=by omega
 have l1:=Zd p.kd.toNat (by omega)
 have l2:=Zd p.st.toNat (by omega)
 have l3:=Zd p.cd.toNat (by omega)
 have l4:=Zd p.ep.toNat (by omega)
 have l5:=Zd p.us.toNat (by omega)
 have l6:=Zd p.gs.length (by omega)
 have l7:=Zd p.sp.size (by omega)
 have l8:=Zd p.pg.toNat (by omega)
 have l9:=Zd p.dr.mkr.size (by omega)
 have l10:=Zd p.dr.nu.toNat (by omega)
 have l11:=Zd p.tm.toNat (by omega)
 have s1:p.sp.data.toList.length=p.sp.size:=by simp
 have s2:p.dr.mkr.data.toList.length=p.dr.mkr.size:=by simp
 have n1:=fun bw=>YC bw [] p.kd.toNat (by omega) (by simp)
 have n2:=fun bw=>YC bw ([]++venc p.kd.toNat) p.st.toNat (by omega) (by simp only [List.length_append,List.length_nil];omega)
 have n3:=fun bw=>YC bw ([]++venc p.kd.toNat++venc p.st.toNat) p.cd.toNat (by omega) (by simp only [List.length_append,List.length_nil];omega)
 have n4:=fun bw=>YC bw ([]++venc p.kd.toNat++venc p.st.toNat++venc p.cd.toNat) p.ep.toNat (by omega) (by simp only [List.length_append,List.length_nil];omega)
 have n5:=fun bw=>YC bw ([]++venc p.kd.toNat++venc p.st.toNat++venc p.cd.toNat++venc p.ep.toNat) p.us.toNat (by omega) (by simp only [List.length_append,List.length_nil];omega)
 have n6:=fun bw=>YC bw ([]++venc p.kd.toNat++venc p.st.toNat++venc p.cd.toNat++venc p.ep.toNat++venc p.us.toNat) p.gs.length (by omega) (by simp only [List.length_append,List.length_nil];omega)
 simp only [←e1] at n1
 simp only [←e2] at n2
 simp only [←e3] at n3
 simp only [←e4] at n4
 simp only [←e5] at n5
 have hg:=genc_len p.gs q8
 generalize hB0:([]++venc p.kd.toNat++venc p.st.toNat++venc p.cd.toNat++venc p.ep.toNat++venc p.us.toNat++venc p.gs.length)=B0 at *
 have hB0l:B0.length≤60:=by rw [←hB0];simp only [List.length_append,List.length_nil];omega
 have hB1l:(B0++genc p.gs).length≤140:=by rw [List.length_append];omega
 generalize hB1:B0++genc p.gs=B1 at *
 have n7:=fun bw=>wtrText_ok bw B1 p.sp (by omega) (by omega)
 have n8:=fun bw=>YC bw (B1++venc p.sp.size++p.sp.data.toList) p.pg.toNat (by omega) (by simp only [List.length_append];omega)
 have n9:=fun bw=>wtrText_ok bw (B1++venc p.sp.size++p.sp.data.toList++venc p.pg.toNat) p.dr.mkr (by omega) (by simp only [List.length_append];omega)
 have n10:=fun bw=>YC bw (B1++venc p.sp.size++p.sp.data.toList++venc p.pg.toNat++venc p.dr.mkr.size++p.dr.mkr.data.toList) p.dr.nu.toNat (by omega) (by simp only [List.length_append];omega)
 have n11:=fun bw=>YC bw (B1++venc p.sp.size++p.sp.data.toList++venc p.pg.toNat++venc p.dr.mkr.size++p.dr.mkr.data.toList++venc p.dr.nu.toNat) p.tm.toNat (by omega) (by simp only [List.length_append];omega)
 simp only [←e6] at n8
 simp only [←e7] at n10
 simp only [←e8] at n11
 have hfin:B1++venc p.sp.size++p.sp.data.toList++venc p.pg.toNat++venc p.dr.mkr.size++p.dr.mkr.data.toList++venc p.dr.nu.toNat++venc p.tm.toNat=penc p:=by rw [←hB1,←hB0];simp [penc]
 have hlen:(penc p).length≤4000:=by rw [←hfin];simp only [List.length_append];omega
 simp only [hfin] at n11
 have n12:=fun bw=>Up bw (penc p) (by omega)
 have n13:=fun bw i (hi:i<p.gs.length)=>YC bw (B0++genc (p.gs.take i)) (p.gs[i]).toNat (by have:=q8 _ (List.getElem_mem hi);omega) (by
  have:=genc_len (p.gs.take i) (fun g hg=>q8 g (List.mem_of_mem_take hg))
  simp only [List.length_append,List.length_take] at this ⊢;omega)
 rw [pencS,if_pos h]
 refine ZH [_] func17 ntmps17 fun G w hp=>?_
 repeat' (first|refine ZC ?_|refine ZB ?_|refine ZD ?_|refine ZP ?_|refine ZN (fun b=>?_)|refine ZE ?_|refine ZA (n0) (fun _ _=>?_)|refine ZA (UL) (fun _ _=>?_)|refine ZA (n1 _) (fun _ _=>?_)|refine ZA (n2 _) (fun _ _=>?_)|refine ZA (n3 _) (fun _ _=>?_)|refine ZA (n4 _) (fun _ _=>?_)|refine ZA (n5 _) (fun _ _=>?_)|refine ZA (n6 _) (fun _ _=>?_)|fail)
 rename_i _ _ bw _ _ _ _ _ _ _ _ _ _ _ _ _
 refine k_wtc (xs:=B0) (ys:=B0++genc (p.gs.take 0)) (by simp [genc]) ?_
 refine WM (X:={i:Nat // i≤p.gs.length}) (Y:=Unit) (fun i=>[(1,.pointer (some ⟨b,0,none⟩)),(5,.pointer (some ⟨bw,0,none⟩)),(45,.slice o p.gs.length c),(46,.int .i64 (p.gs.length:Int)),(47,.int .i64 (i.1:Int))]) (fun _=>[Sl 3 zf o c p.gs]) (fun i=>[Wtr bw (B0++genc (p.gs.take i.1)),Pt b (.cells (prf p o c).toArray 44)]) (fun i=>p.gs.length - i.1)
  (fun _=>[(1,.pointer (some ⟨b,0,none⟩)),(5,.pointer (some ⟨bw,0,none⟩))]) (fun _=>[]) (fun _=>[Wtr bw B1,Pt b (.cells (prf p o c).toArray 44)]) ⟨0,by omega⟩ ⟨rfl,rfl,rfl,rfl,rfl,trivial⟩ ?_ ?_
 ·rintro ⟨⟩
  repeat' (first|refine ZC ?_|refine ZB ?_|refine ZD ?_|refine ZP ?_|refine ZE ?_|refine ZA (n7 _) (fun _ _=>?_)|refine ZA (n8 _) (fun _ _=>?_)|refine ZA (n9 _) (fun _ _=>?_)|refine ZA (n10 _) (fun _ _=>?_)|refine ZA (n11 _) (fun _ _=>?_)|refine ZA (n12 _) (fun _ _=>?_)|fail)
  refine l_frz (sz:=1) (f:=bf) (penc p) ?_ (YY _) rfl
  refine l_b2s ?_
  repeat' (first|refine ZC ?_|refine ZB ?_|fail)
  exact ZG () rfl trivial
 ·intro hxx
  rintro ⟨i,hi⟩
  dsimp only at hi ⊢
  by_cases hlt:i<p.gs.length
  ·have hx:=List.getElem?_eq_getElem hlt
   have n14:=n13 bw i hlt
   have hq:=q8 _ (List.getElem_mem hlt)
   have e9:p.gs[i]=((p.gs[i].toNat:Nat):Int):=by omega
   have htk:p.gs.take (i+1)=p.gs.take i++[p.gs[i]]:=by rw [List.take_add_one,hx];rfl
   have hl:B0++genc (p.gs.take i)++venc p.gs[i].toNat=B0++genc (p.gs.take (i+1)):=by rw [htk];simp only [genc,List.flatMap_append,List.flatMap_cons,List.flatMap_nil,List.append_nil,List.append_assoc]
   rw [←e9,hl] at n14
   repeat' (first|refine ZC ?_|refine ZB ?_|refine ZD ?_|refine ZA (n14) (fun _ _=>?_)|refine XL (es:=p.gs) i _ hx (fun b off=>?_)|refine YQ ?_|(refine ZF (fun hc=>?_) (fun hc=>?_)<;>(try simp at hc)<;>(try omega))|fail)
   rw [wrapi (z:=(i:Int)+1) (by omega) (by omega)]
   exact ZW ⟨i+1,by omega⟩ (by show p.gs.length - (i+1)<p.gs.length - i;omega) ⟨rfl,rfl,rfl,rfl,rfl,trivial⟩
  ·obtain rfl:i=p.gs.length:=by omega
   rw [List.take_length,hB1]
   repeat' (first|refine ZC ?_|refine ZB ?_|refine ZD ?_|(refine ZF (fun hc=>?_) (fun hc=>?_)<;>(try simp at hc)<;>(try omega))|fail)
   exact Yl hxx () ⟨rfl,rfl,trivial⟩
theorem Uz (p:Pr) (o:Option Addr) (c:Nat) (h:pchk p≠0) (hl:p.gs.length≤1099511627776) (h1:p.sp.size≤1099511627776) (h2:p.dr.mkr.size≤1099511627776):Enters 17∧Spec prog 17 #[p.v o c] [Sl 3 zf o c p.gs] [] (RetV (.tuple #[.string ⟨#[]⟩,.int .i64 (pchk p)])):=by
 have n0:=XF p o c hl h1 h2
 generalize pchk p=e at *
 refine ZH [_] func17 ntmps17 fun G w hp=>?_
 repeat' (first|refine ZC ?_|refine ZB ?_|refine ZD ?_|refine ZP ?_|refine ZN (fun b=>?_)|refine ZA (n0) (fun _ _=>?_)|(refine ZF (fun hc=>?_) (fun hc=>?_)<;>(try simp at hc)<;>(try omega))|fail)
 all_goals exact ZG () rfl trivial
def cvs (c:Ct):ByteArray:=⟨(cenc c).toArray⟩
theorem UA {c:Ct} (h:CtOK c):(cvs c).size≤30:=by
 have:=cenc_len h
 show (cenc c).toArray.size≤_
 rw [List.size_toArray];exact this
theorem VK {who:ByteArray} (h:lvalid who.data.toList=true):nchk (cnm who)=0:=by
 have h2:isE ⟨#[]⟩=true:=by simp [isE]
 rw [nchk,if_pos (by simp [cnm])]
 show uchk ⟨_,true,false,false,false,0⟩ (cnm who)=0
 have h1:lvalid (cnm who).owner.data.toList=true:=h
 simp [uchk,h,h2,cnm]
theorem enc_cdec {c:Ct} (h:CtOK c):cdec (cvs c)=some c:=by
 obtain ⟨h1,h2,h3,h4,h5,h6⟩:=h
 have e1:((c.b.toNat:Nat):Int)=c.b:=by omega
 have e2:((c.o.toNat:Nat):Int)=c.o:=by omega
 have e3:((c.c.toNat:Nat):Int)=c.c:=by omega
 unfold cdec cread cvs
 have r1:=YM c.b.toNat (by omega) (venc c.o.toNat++venc c.c.toNat) 0 1048576 (by omega)
 have hl:cenc c=venc c.b.toNat++(venc c.o.toNat++venc c.c.toNat):=by simp [cenc]
 have r2:=YM c.o.toNat (by omega) (venc c.c.toNat) (0+(venc c.b.toNat).length) 1048576 (by omega)
 have r3:=YM c.c.toNat (by omega) [] (0+(venc c.b.toNat).length+(venc c.o.toNat).length) 1048576 (by omega)
 rw [List.append_nil] at r3
 simp only [hl,r1,r2,r3,e1,e2,e3]
 simp
theorem rnum_in (s:RS) (m:Int) (hm:0≤m):0≤(rnum s m).1∧(rnum s m).1≤m:=by
 unfold rnum rstep
 split
 ·exact ⟨Int.le_refl _,hm⟩
 ·split
  ·exact ⟨Int.le_refl _,hm⟩
  ·rename_i h
   simp only [ne_eq,Decidable.not_not] at h
   unfold pnum at h ⊢
   dsimp only at h ⊢
   refine ⟨Int.natCast_nonneg _,?_⟩
   split at h
   ·cases h
   ·rename_i h2
    rw [h] at h2
    simp at h2;omega
theorem cdec_ok {s:ByteArray} {c:Ct} (h:cdec s=some c):CtOK c:=by
 unfold cdec at h
 dsimp only at h
 split at h
 ·obtain rfl:=Option.some.inj h
  unfold cread
  dsimp only
  have h1:=rnum_in ⟨s.data.toList,0,0⟩ 1048576 (by decide)
  have h2:=rnum_in (rnum ⟨s.data.toList,0,0⟩ 1048576).2 1048576 (by decide)
  have h3:=rnum_in (rnum (rnum ⟨s.data.toList,0,0⟩ 1048576).2 1048576).2 1048576 (by decide)
  exact ⟨h1.1,h1.2,h2.1,h2.2,h3.1,h3.2⟩
 ·cases h
def nbE (es:Al) (cs:List Ch) (who:ByteArray):Bi×Int:=
 if (madeE es cs who).2≠0 then (Bi.z,(madeE es cs who).2) else if (madeE es cs who).1.b=1048576 then (Bi.z,9) else (⟨who,(madeE es cs who).1.b⟩,0)
def nbC (es:Al) (cs:List Ch) (who:ByteArray):List Ch:=
 if (nbE es cs who).2=0 then cs++[⟨cnm who,cvs {(madeE es cs who).1 with b:=(madeE es cs who).1.b+1},false⟩] else cs
def mkE (es:Al) (cs:List Ch) (who:ByteArray) (nd:Ino):Bi×Int:=
 if ichk nd≠0 then (Bi.z,ichk nd) else if nd.sz≠0 then (Bi.z,2) else nbE es cs who
def mkC (es:Al) (cs:List Ch) (who:ByteArray) (nd:Ino):List Ch:=
 if (mkE es cs who nd).2=0 then nbC es cs who++[⟨nnm (mkE es cs who nd).1,iencS nd,false⟩] else cs
def mkR (es:Al) (rs:List (Nm×Ch)) (cs:List Ch) (who:ByteArray) (nd:Ino):List (Nm×Ch):=if ichk nd=0∧nd.sz=0 then madeR es rs cs who else rs
def rnums:Nat→RS→List Int×RS
 | 0,s=>([],s)
 | n+1,s=>((rnums n s).1++[(rnum (rnums n s).2 65535).1],(rnum (rnums n s).2 65535).2)
theorem Ue:∀n s,(rnums n s).1.length=n
 | 0,_=>rfl
 | n+1,s=>by simp [rnums,Ue n s]
theorem rnums_le:∀n s,(rnums n s).2.pos+(rnums n s).2.rest.length≤s.pos+s.rest.length
 | 0,_=>Nat.le_refl _
 | n+1,s=>Nat.le_trans (XI (rnums n s).2 65535) (rnums_le n s)
def pread (s0:RS):Pr×RS:=
 let k:=rnum s0 2
 let t:=rnum k.2 3
 let c:=rnum t.2 410
 let e:=rnum c.2 1073741824
 let u:=rnum e.2 65535
 let n:=rnum u.2 8
 let g:=rnums n.1.toNat n.2
 let sp:=rtext g.2 65536
 let pg:=rnum sp.2 64
 let mk:=rtext pg.2 65536
 let nu:=rnum mk.2 1073741824
 let tm:=rnum nu.2 99
 (⟨k.1,t.1,c.1,e.1,u.1,g.1,sp.1,pg.1,⟨mk.1,nu.1⟩,tm.1⟩,tm.2)
def pdec (s:ByteArray):Option Pr:=
 let r:=pread ⟨s.data.toList,0,0⟩
 if r.2.err=0∧r.2.rest=[]∧pchk r.1=0 then some r.1 else none
theorem rtext_size (s:RS) (m:Int) (hm:0≤m):((rtext s m).1.size:Int)≤m:=by
 by_cases h:(rtext s m).2.err=0
 ·exact (UY h).2.1
 ·have h0:(rtext s m).1=⟨#[]⟩:=by
   unfold rtext rstep at h ⊢
   split
   ·rfl
   ·rename_i h1
    rw [if_neg h1] at h
    split
    ·rfl
    ·rename_i h2
     rw [if_neg h2] at h
     exact absurd rfl h
  rw [h0]
  exact hm
set_option maxHeartbeats 4000000 in
theorem Vt (s:ByteArray) (hs:s.size≤1099511627776):Enters 21∧Spec prog 21 #[.string s] [] []
  ⟨Option Addr×Nat,fun q=>.tuple #[((pdec s).getD Pr.z).v q.1 q.2,.int .i64 (if (pdec s).isSome then 0 else 3)],fun _=>True,fun q=>[Sl 3 zf q.1 q.2 ((pdec s).getD Pr.z).gs],fun _=>[]⟩:=by
 have hsz:s.data.toList.length=s.size:=by simp
 have n0:=fun o cap=>Wj o cap s.data.toList (by omega)
 generalize hd:pdec s=d
 unfold pdec pread at hd
 dsimp only at hd
 generalize h0:(⟨s.data.toList,0,0⟩:RS)=s0 at hd n0
 have g0:s0.pos+s0.rest.length≤1099511627776:=by subst h0;dsimp only;omega
 have e0:s.data.toList=s0.rest:=by rw [←h0]
 rw [e0] at n0
 clear h0 hsz
 have g1:=XI s0 2
 have n1:=fun b o cap=>Zx b o cap s0 2 (by omega)
 generalize rnum s0 2=r1 at *
 obtain ⟨v1,s1⟩:=r1
 dsimp only at *
 have g2:=XI s1 3
 have n2:=fun b o cap=>Zx b o cap s1 3 (by omega)
 generalize rnum s1 3=r2 at *
 obtain ⟨v2,s2⟩:=r2
 dsimp only at *
 have g3:=XI s2 410
 have n3:=fun b o cap=>Zx b o cap s2 410 (by omega)
 generalize rnum s2 410=r3 at *
 obtain ⟨v3,s3⟩:=r3
 dsimp only at *
 have g4:=XI s3 1073741824
 have n4:=fun b o cap=>Zx b o cap s3 1073741824 (by omega)
 generalize rnum s3 1073741824=r4 at *
 obtain ⟨v4,s4⟩:=r4
 dsimp only at *
 have g5:=XI s4 65535
 have n5:=fun b o cap=>Zx b o cap s4 65535 (by omega)
 generalize rnum s4 65535=r5 at *
 obtain ⟨v5,s5⟩:=r5
 dsimp only at *
 have g6:=XI s5 8
 have i6:=rnum_in s5 8 (by decide)
 have n6:=fun b o cap=>Zx b o cap s5 8 (by omega)
 generalize rnum s5 8=r6 at *
 obtain ⟨v6,s6⟩:=r6
 dsimp only at *
 have g7:=fun n=>rnums_le n s6
 have nl:=fun n b o cap=>Zx b o cap (rnums n s6).2 65535 (by have:=g7 n;omega)
 have hgl:=Ue v6.toNat s6
 have g7':=g7 v6.toNat
 have n8:=fun b o cap=>rdrText_ok b o cap (rnums v6.toNat s6).2 65536 (by omega)
 have i8:=rtext_size (rnums v6.toNat s6).2 65536 (by decide)
 have g8:=rtext_le3 (rnums v6.toNat s6).2 65536
 generalize rtext (rnums v6.toNat s6).2 65536=r8 at *
 obtain ⟨v8,s8⟩:=r8
 dsimp only at *
 have g9:=XI s8 64
 have n9:=fun b o cap=>Zx b o cap s8 64 (by omega)
 generalize rnum s8 64=r9 at *
 obtain ⟨v9,s9⟩:=r9
 dsimp only at *
 have g10:=rtext_le3 s9 65536
 have n10:=fun b o cap=>rdrText_ok b o cap s9 65536 (by omega)
 have i10:=rtext_size s9 65536 (by decide)
 generalize rtext s9 65536=r10 at *
 obtain ⟨v10,s10⟩:=r10
 dsimp only at *
 have g11:=XI s10 1073741824
 have n11:=fun b o cap=>Zx b o cap s10 1073741824 (by omega)
 generalize rnum s10 1073741824=r11 at *
 obtain ⟨v11,s11⟩:=r11
 dsimp only at *
 have n12:=fun b o cap=>Zx b o cap s11 99 (by omega)
 generalize rnum s11 99=r12 at *
 obtain ⟨v12,s12⟩:=r12
 dsimp only at *
 have n13:=fun b o cap=>W3 b o cap s12
 have n14:=fun o c=>XF ⟨v1,v2,v3,v4,v5,(rnums v6.toNat s6).1,v8,v9,⟨v10,v11⟩,v12⟩ o c (by dsimp only;omega) (by dsimp only;omega) (by dsimp only;omega)
 refine ZH [_] func21 ntmps21 fun G w hp=>?_
 repeat' (first|refine ZC ?_|refine ZB ?_|refine ZD ?_|refine ZS ?_|refine ZN (fun b=>?_)|refine ZA (n0 _ _) (fun _ _=>?_)|refine ZA (n1 _ _ _) (fun _ _=>?_)|refine ZA (n2 _ _ _) (fun _ _=>?_)|refine ZA (n3 _ _ _) (fun _ _=>?_)|refine ZA (n4 _ _ _) (fun _ _=>?_)|refine ZA (n5 _ _ _) (fun _ _=>?_)|refine ZA (n6 _ _ _) (fun _ _=>?_)|refine l_s2b (fun o cap=>?_)|rw [e0]|fail)
 rename_i b2 rd _ _ _ _ _ _ _ _ _ _ _ q6 _
 obtain ⟨br,or0,cr0⟩:=rd
 obtain ⟨o6,c6⟩:=q6
 dsimp only
 refine Zq (r:=Row 3 1 none 0 0 []) (Lx:=[]) (fun h _=>YX _ _ h) ?_
 refine YH (X:={q:Nat×(Option Addr×Nat)×(Option Addr×Nat) // q.1≤v6.toNat}) (fun q=>[(2,.pointer (some ⟨b2,0,none⟩)),(4,.pointer (some ⟨br,0,none⟩)),(5,.pointer (some ⟨b,0,none⟩)),(26,.int .i64 v6),(27,.int .i64 (q.1.1:Int))]) (fun q=>[Sl 5 bf q.1.2.1.1 q.1.2.1.2 (rnums q.1.1 s6).2.rest])
  (fun q=>[Rdr br q.1.2.1.1 q.1.2.1.2 (rnums q.1.1 s6).2,Row 3 1 q.1.2.2.1 q.1.1 q.1.2.2.2 ((rnums q.1.1 s6).1.flatMap zf),Pt b (.cells #[.int .i64 v1,.int .i64 v2,.int .i64 v3,.int .i64 v4,.int .i64 v5,.slice q.1.2.2.1 q.1.1 q.1.2.2.2,.string ⟨#[]⟩,.int .i64 0,.string ⟨#[]⟩,.int .i64 0,.int .i64 0] 44),Pt b2 (.cells #[.int .i64 0,.int .i64 0,.int .i64 0,.int .i64 0,.int .i64 0,.slice none 0 0,.string ⟨#[]⟩,.int .i64 0,.string ⟨#[]⟩,.int .i64 0,.int .i64 0] 44)])
  (fun q=>v6.toNat - q.1.1) ⟨(0,(o6,c6),(none,0)),by omega⟩ ⟨rfl,rfl,rfl,rfl,rfl,trivial⟩ ?_
 rintro ⟨⟨i,⟨oi,ci⟩,og,cg⟩,hi⟩
 dsimp only at hi ⊢
 by_cases hlt:i<v6.toNat
 ·have m1:=nl i br oi ci
  repeat' (first|refine ZC ?_|refine ZB ?_|refine ZD ?_|refine ZS ?_|refine ZO ?_|refine Ze ?_|refine r_bs (fun b=>?_)|refine ZQ ?_|refine ZR (m1) (fun _ _=>?_)|refine r_app1 (fun o' cap'=>?_)|refine ZK 10 [Rdr _ _ _ _,Row 3 _ _ _ _ _] [(0,0),(1,0),(2,0),(3,0),(4,4),(5,1),(6,4),(7,0),(8,0)] [9] ?_|(refine ZF (fun hc=>?_) (fun hc=>?_)<;>(try simp at hc)<;>(try omega))|fail)
  rename_i q _
  have hE:(rnums i s6).1.flatMap zf++(#[Value.int .i64 (rnum (rnums i s6).2 65535).1]:Array Value).toList=(rnums (i+1) s6).1.flatMap zf:=by simp [rnums,zf]
  rw [hE,wrapi (z:=(i:Int)+1) (by omega) (by omega)]
  exact ZW ⟨(i+1,(q.1,q.2),(o',cap')),by dsimp only;omega⟩ (by show v6.toNat - (i+1)<v6.toNat - i;omega) ⟨rfl,rfl,rfl,rfl,rfl,trivial⟩
 ·obtain rfl:i=v6.toNat:=by omega
  repeat' (first|refine ZC ?_|refine ZB ?_|refine ZU ?_|refine ZD ?_|refine ZP ?_|refine ZS ?_|refine ZJ ?_|refine Zn ?_|refine ZA (n8 _ _ _) (fun _ _=>?_)|refine ZA (n9 _ _ _) (fun _ _=>?_)|refine ZA (n10 _ _ _) (fun _ _=>?_)|refine ZA (n11 _ _ _) (fun _ _=>?_)|refine ZA (n12 _ _ _) (fun _ _=>?_)|refine ZA (n13 _ _ _) (fun _ _=>?_)|(refine ZT (fun hc=>?_) (fun hc=>?_)<;>(try simp at hc)<;>(try omega))|(refine ZF (fun hc=>?_) (fun hc=>?_)<;>(try simp at hc)<;>(try omega))|fail)
  ·rw [if_neg fun h=>hc (by rw [if_pos h.1,if_pos h.2.1])] at hd
   subst hd
   refine Zk (ZY 3 zf) ?_
   exact ZG (none,0) rfl trivial
  ·have hcl:s12.err=0∧s12.rest=[]:=by
    by_cases h1:s12.err=0
    ·rw [if_pos h1] at hc
     by_cases h2:s12.rest=[]
     ·exact ⟨h1,h2⟩
     ·rw [if_neg h2] at hc;cases hc
    ·rw [if_neg h1] at hc;exact absurd hc h1
   clear n8 nl g7 g7'
   generalize (rnums v6.toNat s6).1=gl at *
   rw [←hgl]
   refine l_frz (T:=3) (sz:=1) (f:=zf) gl ?_ rfl rfl
   generalize hP:pchk ⟨v1,v2,v3,v4,v5,gl,v8,v9,⟨v10,v11⟩,v12⟩=e at *
   simp only [Pr.v] at n14
   repeat' (first|refine ZC ?_|refine ZB ?_|refine ZU ?_|refine ZD ?_|refine ZP ?_|refine ZS ?_|refine ZA (n14 _ _) (fun _ _=>?_)|(refine ZF (fun hc=>?_) (fun hc=>?_)<;>(try simp at hc)<;>(try omega))|fail)
   ·rw [if_neg fun h=>by simp_all] at hd
    subst hd
    refine Zk (ZY 3 zf) ?_
    exact ZG (none,0) rfl trivial
   ·rw [if_pos ⟨hcl.1,hcl.2,by simp_all⟩] at hd
    subst hd
    exact ZG (og,cg) rfl trivial
theorem pdec_inv {s:ByteArray} {p:Pr} (h:pdec s=some p):pchk p=0∧s.data.toList=penc p:=by
 have rn:∀n t,(rnums n t).2.err=0→t.err=0∧t.rest=genc (rnums n t).1++(rnums n t).2.rest:=by
  intro n
  induction n with
  | zero=>intro t h;exact ⟨h,by simp [rnums,genc]⟩
  | succ n ih=>
   intro t h
   obtain ⟨a1,a2,a3,a4,a5⟩:=Yu (show (rnum (rnums n t).2 65535).2.err=0 from h)
   obtain ⟨b1,b2⟩:=ih t a1
   refine ⟨b1,?_⟩
   rw [b2,a5]
   simp [rnums,genc]
 unfold pdec at h
 dsimp only at h
 split at h
 ·rename_i hc
  obtain ⟨h1,h2,h3⟩:=hc
  obtain rfl:=Option.some.inj h
  refine ⟨h3,?_⟩
  unfold pread at h1 h2 ⊢
  dsimp only at h1 h2 ⊢
  obtain ⟨a1,a2,a3,a4,a5⟩:=Yu h1
  obtain ⟨b1,b2,b3,b4,b5⟩:=Yu a1
  obtain ⟨c1,c2,c3,c4⟩:=UY b1
  obtain ⟨d1,d2,d3,d4,d5⟩:=Yu c1
  obtain ⟨e1,e2,e3,e4⟩:=UY d1
  obtain ⟨f1,f2⟩:=rn _ _ e1
  obtain ⟨g1,g2,g3,g4,g5⟩:=Yu f1
  obtain ⟨i1,i2,i3,i4,i5⟩:=Yu g1
  obtain ⟨j1,j2,j3,j4,j5⟩:=Yu i1
  obtain ⟨k1,k2,k3,k4,k5⟩:=Yu j1
  obtain ⟨l1,l2,l3,l4,l5⟩:=Yu k1
  obtain ⟨m1,m2,m3,m4,m5⟩:=Yu l1
  rw [h2] at a5
  refine Eq.trans (show s.data.toList=_ from m5) ?_
  rw [l5,k5,j5,i5,g5,f2,e4,d5,c4,b5,a5]
  simp [penc,Ue]
 ·cases h
structure Pp where
 bl:Nat
 fr:Nat
 to:Nat
def Pp.v (p:Pp):Value:=.agg #[.int .i64 (p.bl:Int),.int .i64 (p.fr:Int),.int .i64 (p.to:Int)]
def pts (a t:Nat):List Pp:=
 if a<t then ⟨a / 64,a - a / 64 * 64,min t (a / 64 * 64+64) - a / 64 * 64⟩::pts (min t (a / 64 * 64+64)) t else []
termination_by t - a
decreasing_by omega
def wnew (es:Al) (cs:List Ch) (bi:Bi) (f:Nat) (s:ByteArray) (p:Pp):List UInt8:=
 cpy (if p.to - p.fr<64 then pad64 (vget es cs (bnm bi p.bl)).1 else List.replicate 64 0) p.fr (s.extract (p.bl * 64+p.fr - f) s.size) (p.to - p.fr)
def wstep (es:Al) (bi:Bi) (f:Nat) (s:ByteArray) (q:List (Nm×Ch)×List Ch) (p:Pp):List (Nm×Ch)×List Ch:=
 (if p.to - p.fr<64 then vread es q.1 q.2 (bnm bi p.bl) else q.1,q.2++[⟨bnm bi p.bl,⟨(wnew es q.2 bi f s p).toArray⟩,false⟩])
def wfold (es:Al) (bi:Bi) (f:Nat) (s:ByteArray) (q:List (Nm×Ch)×List Ch) (l:List Pp):List (Nm×Ch)×List Ch:=l.foldl (wstep es bi f s) q
abbrev JWL (b:Nat) (ps:Option Addr) (q:List (Nm×Ch)×List Ch):List HP:=[Vw b ps q.1 q.2]
def JW (b:Nat) (ps:Option Addr) (es:Al) (bi:Bi) (f:Nat) (s:ByteArray) (q:List (Nm×Ch)×List Ch) (pre:List Pp):HP:=Vw b ps (wfold es bi f s q pre).1 (wfold es bi f s q pre).2
def iwE (es:Al) (cs:List Ch) (bi:Bi) (f:Int) (s:ByteArray):Int×Int:=
 if (ifile es cs bi).2≠0 then (0,(ifile es cs bi).2) else if f<0∨4096<f then (0,2) else if f=4096∧isE s=false then (0,26) else ((min s.size (4096 - f.toNat):Nat),0)
def iwQ (es:Al) (rs:List (Nm×Ch)) (cs:List Ch) (bi:Bi) (f:Nat) (s:ByteArray):List (Nm×Ch)×List Ch:=wfold es bi f s (igetR es rs cs bi,cs) (pts f (f+min s.size (4096 - f)))
def iwN (es:Al) (cs:List Ch) (bi:Bi) (f:Nat) (s:ByteArray):List Ch:=
 if 0<min s.size (4096 - f)∧(ifile es cs bi).1.sz<((f+min s.size (4096 - f):Nat):Int) then [⟨nnm bi,iencS {(ifile es cs bi).1 with sz:=((f+min s.size (4096 - f):Nat):Int)},false⟩] else []
section
theorem l_slH {α:Type} {T sz:Nat} {f:α→List Value} {o:Option Addr} {m cap:Nat} {es:List α} {z2:Int} {y2:Operand} {rs tr:TRow} (hi:Nat) (hhi:hi≤es.length)
  (nx:∀o',Wl n C ops.toArray k Q l ((d,.slice o' (es.take hi).length cap)::E) (Sl T f o' cap (es.take hi)::F) R)
  (hw:wantL ops E ⟨some d,.slice t x none (some y2) none,ty0,pos,aft,gd⟩=some true:=by rfl) (hn:Nat.blt d n=true:=by rfl) (hx:ev E x=some (.slice o m cap):=by rfl) (hy2:ev E y2=some (.int .i64 z2):=by rfl)
  (hs:Sel (Sl T f o cap es) F F0:=by (repeat (first|exact Sel.here|apply Sel.there));first|done|fail) (hts:lookT tab t=some rs:=by rfl) (hrs:rs.k = .slice T:=by rfl) (hT:lookT tab T=some tr:=by rfl) (hsz:tr.size=sz:=by rfl) (hf:∀e,(f e).length=sz:=by intro;rfl)
  (hz2:z2=(hi:Int):=by first|rfl|omega):Wl n C ops.toArray k Q (⟨some d,.slice t x none (some y2) none,ty0,pos,aft,gd⟩::l) E F R:=
 YA (fun t ht=>by cases ht;exact Nat.le_of_ble_eq_true hn) (fun c hc=>by cases hc) hw fun a w ha hsat=>by
  obtain ⟨hp,hr,st⟩:=hsat
  subst hz2
  have h1:=st.f _ hs.mem
  have hcap:es.length≤cap:=h1.1
  have h2:=sl_drop (sl_take (m:=hi) h1) (lo:=0) (by simp) hf
  have hs1:=Zj.sizeOf hT w
  rw [hsz] at hs1
  unfold OpRes
  have hc2:(0:Int)≤(hi:Int)∧(hi:Int)≤(cap:Int):=⟨by omega,by omega⟩
  simp only [execOp,ha.ev (x:=x) (by rw [ZL];exact hx),ha.ev (x:=y2) (by rw [ZL];exact hy2),Option.map_some,Option.map_none,Instr.sliceAt,Instr.slice,Xc hts hrs,Instr.sliceBounds,Instr.sliceBound,asIntOf,Sem.run_bind,Result.andThen,Sem.run_pure,if_pos hc2,Int.toNat_natCast,hs1]
  have hl:hi=(es.take hi).length:=by simp;omega
  rw [List.drop_zero,Nat.sub_zero] at h2
  rw [Nat.sub_zero,Nat.sub_zero]
  exact fun a' ha'=>nx _ a' w (by rw [←hl];exact ha') (Ys st h2)
end
abbrev WtL (b:Nat) (o:Option Addr) (cap:Nat) (e:Int) (bs:List UInt8):List HP:=[Pt b (.cells #[.slice o bs.length cap,.int .i64 e] 200),Row 5 1 o bs.length cap (byt bs)]
def WtA (b k:Nat):HP:=fun h=>∃q:(Option Addr×Nat)×Int×List UInt8,q.2.2.length≤k∧Sep (WtL b q.1.1 q.1.2 q.2.1 q.2.2) h
def BtA (b k:Nat):Post:=⟨(Option Addr×Nat×Nat)×Int,fun q=>.tuple #[.slice q.1.1 q.1.2.1 q.1.2.2,.int .i64 q.2],fun _=>True,fun _=>[],fun _=>[WtA b k]⟩
abbrev EnA (b bw:Nat) (e:Int) (k:Nat):List HP:=[Pt b (.cells #[.pointer (some ⟨bw,0,none⟩),.int .i64 e] 307),WtA bw k]
section
variable {z:Operand}
end
abbrev BdL (b:Nat) (p o:Option Addr) (cap:Nat) (bs:List UInt8):List HP:=[Pt b (.cells #[.pointer p,.slice o bs.length cap] 223),Row 5 1 o bs.length cap (byt bs)]
def Bdr (b:Nat) (bs:List UInt8):HP:=fun h=>∃q:Option Addr×Option Addr×Nat,((q.1=none∨q.1=some ⟨b,0,none⟩)∧(bs=[]→q.2.1=none))∧Sep (BdL b q.1 q.2.1 q.2.2 bs) h
section
variable {y1 y2:Operand}
theorem l_fz {o:Obj} (nx:Wl n C ops.toArray k Q l E (Blk b o::F) R0) (hs:Sel (Pt b o) R R0:=by (repeat (first|exact Sel.here|apply Sel.there));first|done|fail):Wl n C ops.toArray k Q l E F R:=
 fun a w ha hsat=>nx a w ha (hsat.sel hs).freeze
end
def rdS (es:Al) (cs:List Ch) (bi:Bi) (p:Pp):List UInt8:=((pad64 (vget es cs (bnm bi p.bl)).1).drop p.fr).take (p.to - p.fr)
def rdB (es:Al) (cs:List Ch) (bi:Bi) (l:List Pp):List UInt8:=l.flatMap (rdS es cs bi)
def rdR (es:Al) (cs:List Ch) (bi:Bi) (rs:List (Nm×Ch)) (l:List Pp):List (Nm×Ch):=l.foldl (fun rs p=>vread es rs cs (bnm bi p.bl)) rs
abbrev JRL (b b12:Nat) (ps:Option Addr) (es:Al) (cs:List Ch) (bi:Bi) (rs:List (Nm×Ch)) (pre:List Pp):List HP:=[Vw b ps (rdR es cs bi rs pre) cs,Bdr b12 (rdB es cs bi pre)]
def JR (b b12:Nat) (ps:Option Addr) (es:Al) (cs:List Ch) (bi:Bi) (rs:List (Nm×Ch)) (pre:List Pp):HP:=fun h=>Sep (JRL b b12 ps es cs bi rs pre) h
section
variable {y1 y2:Operand}
def clrB (Lb:List UInt8) (lo:Nat):List UInt8:=Lb.take lo++List.replicate (Lb.length - lo) 0
end
def dls (bi:Bi) (a k:Nat):List Ch:=(List.range' a k).map fun j:Nat=>(⟨bnm bi (j:Int),⟨#[]⟩,true⟩:Ch)
def cutD (cs:List Ch) (bi:Bi) (e sz:Nat):List Ch:=cs++dls bi ((e+63) / 64) ((sz+63) / 64 - (e+63) / 64)
def cutC (es:Al) (cs:List Ch) (bi:Bi) (e sz:Nat):List Ch:=
 if e % 64=0 then cutD cs bi e sz else if (vget es (cutD cs bi e sz) (bnm bi ((e / 64:Nat):Int))).2 then cutD cs bi e sz++[⟨bnm bi ((e / 64:Nat):Int),⟨(clrB (pad64 (vget es (cutD cs bi e sz) (bnm bi ((e / 64:Nat):Int))).1) (e % 64)).toArray⟩,false⟩] else cutD cs bi e sz
def cutR (es:Al) (rs:List (Nm×Ch)) (cs:List Ch) (bi:Bi) (e sz:Nat):List (Nm×Ch):=
 if e % 64=0 then rs else vread es rs (cutD cs bi e sz) (bnm bi ((e / 64:Nat):Int))
def rszC (es:Al) (cs:List Ch) (bi:Bi) (n sz:Nat):List Ch:=if n=sz then cs else (if n<sz then cutC es cs bi n sz else cs)++[⟨nnm bi,iencS {(ifile es cs bi).1 with sz:=(n:Int)},false⟩]
def rszR (es:Al) (rs:List (Nm×Ch)) (cs:List Ch) (bi:Bi) (n sz:Nat):List (Nm×Ch):=if n<sz then cutR es (igetR es rs cs bi) cs bi n sz else igetR es rs cs bi
def insN (a:Nm):List Nm→List Nm
 | []=>[a]
 | b::l=>if cmpO a b<0 then a::b::l else if 0<cmpO a b then b::insN a l else a::l
theorem Wn (x:Nm×ByteArray) (l:Al) (k:Int):kn (x::l) k=if x.1.kind=k then x.1::kn l k else kn l k:=by
 unfold kn
 rw [List.filter_cons]
 by_cases h:x.1.kind=k
 ·simp [h]
 ·simp [h]
theorem kn_mem {es:Al} {k:Int} {a:Nm} (h:a ∈ kn es k):a.kind=k∧∃v,(a,v) ∈ es:=by
 unfold kn at h
 obtain ⟨x,hx,rfl⟩:=List.mem_map.1 h
 obtain ⟨h1,h2⟩:=List.mem_filter.1 hx
 exact ⟨by simpa using h2,x.2,h1⟩
theorem insN_head {a:Nm}:∀{l:List Nm},(∀x ∈ l,cmpO a x<0)→insN a l=a::l
 | [],_=>rfl
 | b::l,h=>by rw [insN,if_pos (h b (by simp))]
theorem kn_ins (a:Nm) (v:ByteArray) (k:Int):∀es:Al,Srt es→kn (insO a v es) k=if a.kind=k then insN a (kn es k) else kn es k
 | [],_=>by
  show kn [(a,v)] k=_
  rw [Wn];rfl
 | (b,u)::l,hs=>by
  obtain ⟨h1,h2⟩:=List.pairwise_cons.1 hs
  have ih:=kn_ins a v k l h2
  rw [insO]
  by_cases hlt:cmpO a b<0
  ·rw [if_pos hlt,Wn,Wn]
   by_cases ha:a.kind=k
   ·rw [if_pos ha,if_pos ha]
    by_cases hb:b.kind=k
    ·simp only [hb,if_true];rw [insN,if_pos hlt]
    ·simp only [hb,if_false]
     rw [insN_head fun x hx=>XD hlt (by obtain ⟨_,w,hw⟩:=kn_mem hx;exact h1 _ hw)]
   ·rw [if_neg ha,if_neg ha]
  ·rw [if_neg hlt]
   by_cases he:0<cmpO a b
   ·rw [if_pos he,Wn,Wn,ih]
    by_cases ha:a.kind=k
    ·simp only [ha,if_true]
     by_cases hb:b.kind=k
     ·simp only [hb,if_true];rw [insN,if_neg hlt,if_pos he]
     ·simp only [hb,if_false]
    ·simp only [ha,if_false]
   ·rw [if_neg he,Wn,Wn]
    obtain rfl:=(Yj a b).1 (by omega)
    by_cases ha:a.kind=k
    ·simp only [ha,if_true];rw [insN,if_neg hlt,if_neg he]
    ·simp only [ha,if_false]
theorem Xr (n b:Nm) (u:ByteArray) (l:Al):getO n ((b,u)::l)=if cmpO n b=0 then some u else getO n l:=rfl
theorem getO_ins (n a:Nm) (v:ByteArray):∀es:Al,getO n (insO a v es)=if n=a then some v else getO n es
 | []=>by
  rw [insO,Xr]
  by_cases h:n=a
  ·subst h;rw [if_pos ((Yj n n).2 rfl),if_pos rfl]
  ·rw [if_neg (fun e=>h ((Yj n a).1 e)),if_neg h]
 | (b,u)::l=>by
  have ih:=getO_ins n a v l
  rw [insO]
  by_cases hlt:cmpO a b<0
  ·rw [if_pos hlt,Xr]
   by_cases h:n=a
   ·subst h;rw [if_pos ((Yj n n).2 rfl),if_pos rfl]
   ·rw [if_neg (fun e=>h ((Yj n a).1 e)),if_neg h]
  ·rw [if_neg hlt]
   by_cases he:0<cmpO a b
   ·rw [if_pos he,Xr,Xr,ih]
    by_cases hb:cmpO n b=0
    ·obtain rfl:=(Yj n b).1 hb
     rw [if_pos hb,if_pos hb,if_neg (fun e=>by subst e;omega)]
    ·rw [if_neg hb,if_neg hb]
   ·rw [if_neg he]
    have he0:cmpO a b=0:=by omega
    obtain rfl:=(Yj a b).1 he0
    rw [Xr,Xr]
    by_cases h:n=a
    ·subst h;rw [if_pos he0,if_pos rfl]
    ·rw [if_neg (fun e=>h ((Yj n a).1 e)),if_neg h,if_neg (fun e=>h ((Yj n a).1 e))]
theorem Um (n:Nm):∀(l:List Ch) (es:Al),(l.map (·.nm)).Nodup→getO n (applyE es l)=match l.find? (fun c=>decide (c.nm=n)) with|some c=>some c.val|none=>getO n es
 | [],es,_=>rfl
 | c::l,es,h=>by
  simp only [List.map_cons,List.nodup_cons] at h
  show getO n (applyE (insO c.nm c.val es) l)=_
  rw [Um n l _ h.2,List.find?_cons]
  by_cases hc:c.nm=n
  ·have hn:l.find? (fun c=>decide (c.nm=n))=none:=List.find?_eq_none.2 fun x hx=>by
    simp only [decide_eq_true_eq]
    intro e
    exact h.1 (List.mem_map.2 ⟨x,hx,e.trans hc.symm⟩)
   rw [hn]
   simp [hc,getO_ins]
  ·simp only [hc,decide_false]
   cases l.find? (fun c=>decide (c.nm=n)) with
   | some c'=>rfl
   | none=>dsimp only;rw [getO_ins,if_neg (fun e=>hc e.symm)]
theorem vwr_nodup (cs:List Ch):((vwr cs).map (·.nm)).Nodup:=by
 have h1:((vwr cs).map (·.nm)).Perm (((lastL cs).map (chAt cs)).map (·.nm)):=(Ya _).map _
 refine h1.nodup_iff.2 ?_
 have h2:((lastL cs).map (chAt cs)).map (·.nm)=(lastL cs).map (·.1):=by
  rw [List.map_map]
  refine List.map_congr_left fun p hp=>(WC hp).2
 rw [h2]
 exact Xe cs
theorem vwr_mem {cs:List Ch} {c:Ch}:c ∈ vwr cs↔vcall cs c.nm=some c:=by
 rw [vwr,(Ya _).mem_iff,List.mem_map]
 constructor
 ·rintro ⟨p,hp,rfl⟩
  obtain ⟨h1,h2⟩:=WC hp
  have h3:=(mget_mem (lastL cs) (Xe cs) p.1 p.2).2 hp
  obtain ⟨c,h4,h5⟩:=(WF p.1 cs).1 p.2 h3
  rw [h1] at h4
  rw [h2,h5,←h4]
 ·intro h
  cases hg:mget c.nm (lastL cs) with
  | none=>rw [(WF c.nm cs).2 hg] at h;cases h
  | some i=>
   obtain ⟨c',h1,h2⟩:=(WF c.nm cs).1 i hg
   rw [h] at h2
   obtain rfl:=Option.some.inj h2
   refine ⟨(c.nm,i),(mget_mem (lastL cs) (Xe cs) c.nm i).1 hg,?_⟩
   simp [chAt,h1]
theorem find_vwr (cs:List Ch) (n:Nm):(vwr cs).find? (fun c=>decide (c.nm=n))=vcall cs n:=by
 cases h:(vwr cs).find? (fun c=>decide (c.nm=n)) with
 | some c=>
  have h1:=List.mem_of_find?_eq_some h
  have h2:=List.find?_some h
  simp only [decide_eq_true_eq] at h2
  rw [←h2]
  exact (vwr_mem.1 h1).symm
 | none=>
  cases hc:vcall cs n with
  | none=>rfl
  | some c=>
   obtain ⟨h1,_⟩:=Vx hc
   have h2:c ∈ vwr cs:=vwr_mem.2 (by rw [h1];exact hc)
   have:=List.find?_eq_none.1 h c h2
   simp [h1] at this
theorem getO_after (es:Al) (cs:List Ch) (n:Nm):getO n (applyE es (vwr cs))=match vcall cs n with|some c=>some c.val|none=>getO n es:=by
 rw [Um n _ es (vwr_nodup cs),find_vwr]
def o1:ByteArray:=⟨#[49]⟩
theorem Y7:lvalid o1.data.toList=true:=by
 have h:=(Y3 [49] 0 0 (by simp)).2.2.2
 rw [show ffirst (([49]:List UInt8).drop 0) 0 0=(⟨1,0,0⟩,1) from rfl] at h
 simp at h
 simp [o1,lvalid,lparts,h]
def nd0 (z:Int):Ino:=⟨1,0,0,0,z,1,⟨#[]⟩⟩
def b0:Bi:=⟨o1,0⟩
def zer (n:Nat):ByteArray:=⟨(List.replicate n 0).toArray⟩
theorem Vu (n:Nm):vget [] [] n=(⟨#[]⟩,false):=by
 unfold vget
 split
 ·rfl
 ·rfl
def kc27:List Ch:=[⟨cnm o1,cvs ⟨1,0,0⟩,false⟩,⟨nnm b0,iencS (nd0 0),false⟩]
def ks27 (rs:List (Nm×Ch)):List Ch:=(iwQ [] rs kc27 b0 0 (zer 100)).2++iwN [] kc27 b0 0 (zer 100)
theorem Yd {es:Al} {cs:List Ch} {c:Ch} {n:Nm} (h:c.nm≠n):vget es (cs++[c]) n=vget es cs n:=by
 unfold vget
 rw [Vf,if_neg h]
theorem Wo {es:Al} {cs:List Ch} {c:Ch} {n:Nm} (h:c.nm=n) (hn:nchk n=0):vget es (cs++[c]) n=(c.val,!c.abs):=by
 unfold vget
 rw [if_neg (by rw [hn];simp),Vf,if_pos h]
def fb (es:Al) (cs:List Ch) (bi:Bi) (k:Nat):UInt8:=(pad64 (vget es cs (bnm bi ((k / 64:Nat):Int))).1).getD (k % 64) 0
structure FOK (es:Al) (cs:List Ch) (bi:Bi) (w:ByteArray):Prop where
 nd:∃nd:Ino,ichk nd=0∧nd.kd=1∧nd.sz=(w.size:Int)∧vget es cs (nnm bi)=(iencS nd,true)
 le:w.size≤4096
 b:∀k,k<4096→fb es cs bi k=w.data.toList.getD k 0
 e:∀j:Nat,j<64→(vget es cs (bnm bi (j:Int))).2=false→(vget es cs (bnm bi (j:Int))).1=⟨#[]⟩
section
variable {es:Al} {cs:List Ch} {bi:Bi} {w:ByteArray}
end
theorem WN (b:Nat) (ps:Option Addr) (rs:List (Nm×Ch)) (cs:List Ch):Enters 81∧Spec prog 81 #[.pointer (some ⟨b,0,none⟩)] [] [Vw b ps rs cs] ⟨Unit,fun _=>.int .i64 (cs.length:Int),fun _=>True,fun _=>[],fun _=>[Vw b ps rs cs]⟩:=by
 refine ZH [_] func81 ntmps81 fun G w hp=>?_
 refine k_vw fun q=>?_
 obtain ⟨r1,r2,o,cap⟩:=q
 repeat' (first|refine ZC ?_|refine ZB ?_|refine ZD ?_|refine ZP ?_|refine ZE ?_|fail)
 refine k_vw' (cs:=cs) (rs:=rs) ?_ rfl rfl rfl
 exact ZG () rfl trivial
def onm (who:ByteArray) (n t:Int):Nm:=⟨18,who,n,t,⟨#[]⟩⟩
def snt (who:ByteArray) (c:Ct) (tk:Int) (o:Ou):List Ch:=[⟨onm who c.o tk,oencS o,false⟩,⟨cnm who,⟨(cenc {c with o:=c.o+1}).toArray⟩,false⟩]
theorem genc_snoc (gs:List Int) (x:Int):genc (gs++[x])=genc gs++venc x.toNat:=by simp [genc]
theorem rnums_genc (gs:List Int):(∀z ∈ gs,0≤z∧z≤65535)→∀(rest:List UInt8) (pos:Nat),∃pos',rnums gs.length ⟨genc gs++rest,pos,0⟩=(gs,⟨rest,pos',0⟩):=by
 refine VB (P:=fun gs=>(∀z ∈ gs,0≤z∧z≤65535)→∀(rest:List UInt8) (pos:Nat),∃pos',rnums gs.length ⟨genc gs++rest,pos,0⟩=(gs,⟨rest,pos',0⟩)) (fun _ rest pos=>⟨pos,by simp [rnums,genc]⟩) (fun gs x ih h rest pos=>?_) gs
 obtain ⟨p1,h1⟩:=ih (fun z hz=>h z (by simp [hz])) (venc x.toNat++rest) pos
 have hx:=h x (by simp)
 have e1:((x.toNat:Nat):Int)=x:=by omega
 refine ⟨p1+(venc x.toNat).length,?_⟩
 rw [List.length_append,List.length_singleton,genc_snoc,List.append_assoc]
 show ((rnums gs.length _).1++[(rnum (rnums gs.length _).2 65535).1],(rnum (rnums gs.length _).2 65535).2)=_
 rw [h1]
 dsimp only
 rw [YM x.toNat (by omega) rest p1 65535 (by omega),e1]
theorem pdec_enc {p:Pr} (h:pchk p=0) (h1:p.sp.size≤65536) (h2:p.dr.mkr.size≤65536):pdec (pencS p)=some p:=by
 obtain ⟨q1,q2,q3,q4,q5,q6⟩:=Zg h
 obtain ⟨q7,q8,q9⟩:=WQ q4
 obtain ⟨q10,q11,q12⟩:=VG q6
 unfold pfit at q3
 have e1:((p.kd.toNat:Nat):Int)=p.kd:=by omega
 have e2:((p.st.toNat:Nat):Int)=p.st:=by omega
 have e3:((p.cd.toNat:Nat):Int)=p.cd:=by omega
 have e4:((p.ep.toNat:Nat):Int)=p.ep:=by omega
 have e5:((p.us.toNat:Nat):Int)=p.us:=by omega
 have e6:((p.pg.toNat:Nat):Int)=p.pg:=by omega
 have e7:((p.dr.nu.toNat:Nat):Int)=p.dr.nu:=by omega
 have e8:((p.tm.toNat:Nat):Int)=p.tm:=by omega
 have hl:penc p=venc p.kd.toNat++(venc p.st.toNat++(venc p.cd.toNat++(venc p.ep.toNat++(venc p.us.toNat++(venc p.gs.length++(genc p.gs++(venc p.sp.size++p.sp.data.toList++(venc p.pg.toNat++(venc p.dr.mkr.size++p.dr.mkr.data.toList++(venc p.dr.nu.toNat++(venc p.tm.toNat++[]))))))))))):=by simp [penc]
 have r1:=fun p' rest=>YM p.kd.toNat (by omega) rest p' 2 (by omega)
 have r2:=fun p' rest=>YM p.st.toNat (by omega) rest p' 3 (by omega)
 have r3:=fun p' rest=>YM p.cd.toNat (by omega) rest p' 410 (by omega)
 have r4:=fun p' rest=>YM p.ep.toNat (by omega) rest p' 1073741824 (by omega)
 have r5:=fun p' rest=>YM p.us.toNat (by omega) rest p' 65535 (by omega)
 have r6:=fun p' rest=>YM p.gs.length (by omega) rest p' 8 (by omega)
 have r8:=fun p' rest=>rtext_venc p.sp rest p' 65536 (by omega) (by omega)
 have r9:=fun p' rest=>YM p.pg.toNat (by omega) rest p' 64 (by omega)
 have r10:=fun p' rest=>rtext_venc p.dr.mkr rest p' 65536 (by omega) (by omega)
 have r11:=fun p' rest=>YM p.dr.nu.toNat (by omega) rest p' 1073741824 (by omega)
 have r12:=fun p' rest=>YM p.tm.toNat (by omega) rest p' 99 (by omega)
 rw [pencS,if_pos h]
 unfold pdec pread
 dsimp only
 rw [hl]
 simp only [r1,r2,r3,r4,r5,r6,Int.toNat_natCast]
 obtain ⟨p7,r7⟩:=rnums_genc p.gs q8 (venc p.sp.size++p.sp.data.toList++(venc p.pg.toNat++(venc p.dr.mkr.size++p.dr.mkr.data.toList++(venc p.dr.nu.toNat++(venc p.tm.toNat++[]))))) (0+(venc p.kd.toNat).length+(venc p.st.toNat).length+(venc p.cd.toNat).length+(venc p.ep.toNat).length+(venc p.us.toNat).length+(venc p.gs.length).length)
 simp only [r7,r8,r9,r10,r11,r12,e1,e2,e3,e4,e5,e6,e7,e8]
 rw [if_pos ⟨trivial,trivial,h⟩]
def pnm (who:ByteArray):Nm:=⟨1,who,0,0,⟨#[]⟩⟩
def rnm (who:ByteArray):Nm:=⟨2,who,0,0,⟨#[]⟩⟩
def gnm (who:ByteArray) (i:Int):Nm:=⟨3,who,0,i,⟨#[]⟩⟩
def enm:Nm:=⟨20,⟨#[]⟩,0,0,⟨#[]⟩⟩
theorem Vi:Enters 93∧Spec prog 93 #[] [] [] (RetV enm.v):=by
 refine ZH [] func93 ntmps93 fun G w hp=>?_
 repeat' (first|refine ZC ?_|refine ZB ?_|refine ZD ?_|refine ZS ?_|refine ZN (fun b=>?_)|fail)
 exact ZG () rfl trivial
theorem Yi (who:ByteArray):Enters 43∧Spec prog 43 #[.string who] [] [] (RetV (pnm who).v):=by
 refine ZH [_] func43 ntmps43 fun G w hp=>?_
 repeat' (first|refine ZC ?_|refine ZB ?_|refine ZD ?_|refine ZS ?_|refine ZN (fun b=>?_)|fail)
 exact ZG () rfl trivial
theorem Yq (who:ByteArray):Enters 44∧Spec prog 44 #[.string who] [] [] (RetV (rnm who).v):=by
 refine ZH [_] func44 ntmps44 fun G w hp=>?_
 repeat' (first|refine ZC ?_|refine ZB ?_|refine ZD ?_|refine ZS ?_|refine ZN (fun b=>?_)|fail)
 exact ZG () rfl trivial
theorem Xb (who:ByteArray) (i:Int):Enters 78∧Spec prog 78 #[.string who,.int .i64 i] [] [] (RetV (gnm who i).v):=by
 refine ZH [_,_] func78 ntmps78 fun G w hp=>?_
 repeat' (first|refine ZC ?_|refine ZB ?_|refine ZD ?_|refine ZS ?_|refine ZN (fun b=>?_)|fail)
 exact ZG () rfl trivial
theorem Wm {who:ByteArray} (h:lvalid who.data.toList=true):nchk (pnm who)=0:=by
 have h2:isE ⟨#[]⟩=true:=by simp [isE]
 rw [nchk,if_pos (by simp [pnm])]
 show uchk ⟨_,true,false,false,false,0⟩ (pnm who)=0
 simp [uchk,pnm,h,h2]
theorem psz (p:Pr) (h:pchk p=0) (h1:p.sp.size≤1000) (h2:p.dr.mkr.size≤1000):(pencS p).size≤5000:=by
 obtain ⟨q1,q2,q3,q4,q5,q6⟩:=Zg h
 obtain ⟨q7,q8,q9⟩:=WQ q4
 obtain ⟨q10,q11,q12⟩:=VG q6
 unfold pfit at q3
 have l1:=Zd p.kd.toNat (by omega)
 have l2:=Zd p.st.toNat (by omega)
 have l3:=Zd p.cd.toNat (by omega)
 have l4:=Zd p.ep.toNat (by omega)
 have l5:=Zd p.us.toNat (by omega)
 have l6:=Zd p.gs.length (by omega)
 have l7:=Zd p.sp.size (by omega)
 have l8:=Zd p.pg.toNat (by omega)
 have l9:=Zd p.dr.mkr.size (by omega)
 have l10:=Zd p.dr.nu.toNat (by omega)
 have l11:=Zd p.tm.toNat (by omega)
 have l12:(genc p.gs).length≤p.gs.length * 10:=Ua p.gs (fun z hz=>by have:=q8 z hz;omega)
 have s1:p.sp.data.toList.length=p.sp.size:=by simp
 have s2:p.dr.mkr.data.toList.length=p.dr.mkr.size:=by simp
 rw [pencS,if_pos h]
 show (penc p).toArray.size≤5000
 rw [List.size_toArray]
 simp only [penc,List.length_append]
 omega
section
variable (b:Nat) (ps:Option Addr) (es:Al) (rs:List (Nm×Ch)) (cs:List Ch)
theorem epoch0_ok (h:vget es cs enm=(⟨#[]⟩,false)):Enters 35∧Spec prog 35 #[.pointer (some ⟨b,0,none⟩)] [St ps es,Usg] [Vw b ps rs cs]
  ⟨Unit,fun _=>.tuple #[.int .i64 0,.int .i64 0],fun _=>True,fun _=>[],fun _=>[Vw b ps (vread es rs cs enm) cs]⟩:=by
 have n1:=XR b ps es rs cs enm (Nat.zero_le _) (Nat.zero_le _)
 rw [h] at n1
 have n2:=Vi
 refine ZH [_] func35 ntmps35 fun G w hp=>?_
 repeat' (first|refine ZC ?_|refine ZB ?_|refine ZD ?_|refine ZJ ?_|refine ZE ?_|refine ZA (n1) (fun _ _=>?_)|refine ZA (n2) (fun _ _=>?_)|fail)
 exact ZG () rfl trivial
variable (who:ByteArray) (p:Pr)
structure PrAt (es:Al) (cs:List Ch) (who:ByteArray) (p:Pr):Prop where
 v:lvalid who.data.toList=true
 w:who.size≤1000
 g:vget es cs (pnm who)=(pencS p,true)
 c:pchk p=0
 s:p.sp.size≤1000
 d:p.dr.mkr.size≤1000
 e:p.ep=0
 n:vget es cs enm=(⟨#[]⟩,false)
theorem anyEpoch_ok (h:PrAt es cs who p):Enters 95∧Spec prog 95 #[.pointer (some ⟨b,0,none⟩),.string who] [St ps es,Usg] [Vw b ps rs cs]
  ⟨Option Addr×Nat,fun q=>.tuple #[p.v q.1 q.2,.int .i64 0],fun _=>True,fun q=>[Sl 3 zf q.1 q.2 p.gs],fun _=>[Vw b ps (vread es rs cs (pnm who)) cs]⟩:=by
 have hsz:=psz p h.c h.s h.d
 have hs:=h.s
 have hd:=h.d
 have hw:=h.w
 have n1:=XR b ps es rs cs (pnm who) (by show who.size≤_;omega) (Nat.zero_le _)
 rw [h.g] at n1
 have n2:=Yi who
 have n3:=Vt (pencS p) (by omega)
 rw [pdec_enc h.c (by omega) (by omega)] at n3
 simp only [Option.getD_some,Option.isSome_some,if_true] at n3
 refine ZH [_,_] func95 ntmps95 fun G w hp=>?_
 repeat' (first|refine ZC ?_|refine ZB ?_|refine ZD ?_|refine ZS ?_|refine ZN (fun b=>?_)|refine ZE ?_|refine ZA (n1) (fun _ _=>?_)|refine ZA (n2) (fun _ _=>?_)|refine ZA (n3) (fun _ _=>?_)|fail)
 rename_i q _
 exact ZG q rfl trivial
def pgR (es:Al) (rs:List (Nm×Ch)) (cs:List Ch) (who:ByteArray):List (Nm×Ch):=vread es (vread es rs cs (pnm who)) cs enm
theorem Ud (h:PrAt es cs who p):Enters 39∧Spec prog 39 #[.pointer (some ⟨b,0,none⟩),.string who] [St ps es,Usg] [Vw b ps rs cs]
  ⟨Option Addr×Nat,fun q=>.tuple #[p.v q.1 q.2,.int .i64 0],fun _=>True,fun q=>[Sl 3 zf q.1 q.2 p.gs],fun _=>[Vw b ps (pgR es rs cs who) cs]⟩:=by
 have hw:=h.w
 have n1:=Zu who (by omega)
 rw [h.v] at n1
 have n2:=anyEpoch_ok b ps es rs cs who p h
 have n3:=epoch0_ok b ps es (vread es rs cs (pnm who)) cs h.n
 have he:=h.e
 obtain ⟨a1,a2,a3,a4,a5,gs,a7,a8,a9,a10⟩:=p
 dsimp only at he
 subst he
 simp only [Pr.v] at n2 ⊢
 refine ZH [_,_] func39 ntmps39 fun G w hp=>?_
 repeat' (first|refine ZC ?_|refine ZB ?_|refine ZD ?_|refine ZP ?_|refine ZS ?_|refine ZN (fun b=>?_)|refine ZE ?_|refine ZA (n1) (fun _ _=>?_)|refine ZA (n2) (fun _ _=>?_)|refine ZA (n3) (fun _ _=>?_)|fail)
 rename_i q _ _ _
 exact ZG q rfl trivial
theorem running_ok (h:PrAt es cs who p) (hr:p.st=1):Enters 92∧Spec prog 92 #[.pointer (some ⟨b,0,none⟩),.string who] [St ps es,Usg] [Vw b ps rs cs]
  ⟨Option Addr×Nat,fun q=>.tuple #[p.v q.1 q.2,.int .i64 0],fun _=>True,fun q=>[Sl 3 zf q.1 q.2 p.gs],fun _=>[Vw b ps (pgR es rs cs who) cs]⟩:=by
 have n2:=Ud b ps es rs cs who p h
 obtain ⟨a1,a2,a3,a4,a5,gs,a7,a8,a9,a10⟩:=p
 dsimp only at hr
 subst hr
 simp only [Pr.v] at n2 ⊢
 refine ZH [_,_] func92 ntmps92 fun G w hp=>?_
 repeat' (first|refine ZC ?_|refine ZB ?_|refine ZD ?_|refine ZP ?_|refine ZS ?_|refine ZN (fun b=>?_)|refine ZE ?_|refine ZA (n2) (fun _ _=>?_)|fail)
 rename_i q _
 exact ZG q rfl trivial
theorem Yx (o:Option Addr) (c:Nat) (hc:pchk p=0) (h1:p.sp.size≤1000) (h2:p.dr.mkr.size≤1000) (hw:who.size≤1000) (hv:lvalid who.data.toList=true) (hl:cs.length≤1000000) :
  Enters 60∧Spec prog 60 #[.pointer (some ⟨b,0,none⟩),.string who,p.v o c] [Sl 3 zf o c p.gs,Usg] [Vw b ps rs cs]
  ⟨Unit,fun _=>.int .i64 0,fun _=>True,fun _=>[],fun _=>[Vw b ps rs (cs++[⟨pnm who,pencS p,false⟩])]⟩:=by
 have n1:=proEncode_ok p o c hc h1 h2
 have n2:=Yi who
 have hsz:=psz p hc h1 h2
 have n3:=Xw b ps rs cs (pnm who) (pencS p) (by show who.size≤_;omega) (Nat.zero_le _) hl
 have e9:vset cs (pnm who) (pencS p)=(0,cs++[⟨pnm who,pencS p,false⟩]):=by
  unfold vset
  rw [if_neg (by rw [Wm hv];simp),if_neg (by omega)]
 rw [e9] at n3
 generalize pencS p=S at *
 obtain ⟨a1,a2,a3,a4,a5,gs,a7,a8,a9,a10⟩:=p
 simp only [Pr.v] at n1 ⊢
 refine ZH [_,_,_] func60 ntmps60 fun G w hp=>?_
 repeat' (first|refine ZC ?_|refine ZB ?_|refine ZD ?_|refine ZP ?_|refine ZN (fun b=>?_)|refine ZE ?_|refine ZA (n1) (fun _ _=>?_)|refine ZA (n2) (fun _ _=>?_)|refine ZA (n3) (fun _ _=>?_)|fail)
 exact ZG () rfl trivial
theorem UO (a:Nm) (ha:a.owner.size≤1099511627770) (hat:a.text.size≤1099511627776):Enters 96∧Spec prog 96 #[.pointer (some ⟨b,0,none⟩),a.v] [St ps es,Usg] [Vw b ps rs cs]
  ⟨Unit,fun _=>.bool (vget es cs a).2,fun _=>True,fun _=>[],fun _=>[Vw b ps (vread es rs cs a) cs]⟩:=by
 have n1:=XR b ps es rs cs a ha hat
 refine ZH [_,_] func96 ntmps96 fun G w hp=>?_
 repeat' (first|refine ZC ?_|refine ZB ?_|refine ZD ?_|refine ZP ?_|refine ZN (fun b=>?_)|refine ZA (n1) (fun _ _=>?_)|fail)
 exact ZG () rfl trivial
theorem copy0_ok (x y:Nm) (hx:x.owner.size≤1099511627770) (hxt:x.text.size≤1099511627776) (h:(vget es cs x).2=false):Enters 111∧Spec prog 111 #[.pointer (some ⟨b,0,none⟩),x.v,y.v] [St ps es,Usg] [Vw b ps rs cs]
  ⟨Unit,fun _=>.int .i64 0,fun _=>True,fun _=>[],fun _=>[Vw b ps (vread es rs cs x) cs]⟩:=by
 have n1:=XR b ps es rs cs x hx hxt
 rw [h] at n1
 refine ZH [_,_,_] func111 ntmps111 fun G w hp=>?_
 repeat' (first|refine ZC ?_|refine ZB ?_|refine ZD ?_|refine ZP ?_|refine ZN (fun b=>?_)|refine ZJ ?_|refine ZA (n1) (fun _ _=>?_)|fail)
 exact ZG () rfl trivial
theorem proStart_ok (o:Option Addr) (c:Nat) (hc:pchk p=0) (hs:p.st=1) (h1:p.sp.size≤1000) (h2:p.dr.mkr.size≤1000) (hw:who.size≤1000) (hv:lvalid who.data.toList=true) (hne:isE who=false) (hep:p.ep=0) (hl:cs.length≤1000000)
  (hn:vget es cs enm=(⟨#[]⟩,false)) (hp:(vget es cs (pnm who)).2=false) :
  Enters 40∧Spec prog 40 #[.pointer (some ⟨b,0,none⟩),.string who,p.v o c] [Sl 3 zf o c p.gs,St ps es,Usg] [Vw b ps rs cs]
  ⟨Unit,fun _=>.int .i64 0,fun _=>True,fun _=>[],fun _=>[Vw b ps (vread es (vread es rs cs enm) cs (pnm who)) (cs++[⟨pnm who,pencS p,false⟩])]⟩:=by
 obtain ⟨q1,q2,q3,q4,q5,q6⟩:=Zg hc
 obtain ⟨q7,q8,q9⟩:=WQ q4
 have n0:=Zu who (by omega)
 rw [hv] at n0
 have n1:=XF p o c (by omega) (by omega) (by omega)
 rw [hc] at n1
 have n2:=Yi who
 have n3:=epoch0_ok b ps es rs cs hn
 have n4:=UO b ps es (vread es rs cs enm) cs (pnm who) (by show who.size≤_;omega) (Nat.zero_le _)
 rw [hp] at n4
 have n5:=Yx b ps (vread es (vread es rs cs enm) cs (pnm who)) cs who p o c hc h1 h2 hw hv hl
 generalize pencS p=S at *
 obtain ⟨a1,a2,a3,a4,a5,gs,a7,a8,a9,a10⟩:=p
 dsimp only at hs hep
 subst hs hep
 simp only [Pr.v] at n1 n5 ⊢
 have hE:(who.toList == (⟨#[]⟩:ByteArray).toList)=false:=by rw [isE] at hne;exact hne
 refine ZH [_,_,_] func40 ntmps40 fun G w hp=>?_
 repeat' (first|refine ZC ?_|refine ZB ?_|refine ZU ?_|refine ZD ?_|refine ZP ?_|refine ZS ?_|refine ZN (fun b=>?_)|refine ZE ?_|refine ZA (n0) (fun _ _=>?_)|refine ZA (n1) (fun _ _=>?_)|refine ZA (n2) (fun _ _=>?_)|refine ZA (n3) (fun _ _=>?_)|refine ZA (n4) (fun _ _=>?_)|refine ZA (n5) (fun _ _=>?_)|rw [hE]|fail)
 exact ZG () rfl trivial
end
end Go.Proofs.YtgfohjbcccfolaaGreatDoor
set_option maxRecDepth 10000
namespace Go.Proofs
open Go.Shelf
def Tryz.laysM171_ren:Go.Shelf.Ren:=⟨fun|171=>55|243=>113|246=>160|283=>196|284=>197|285=>198|286=>199|129=>186|317=>218|318=>219|319=>220|320=>221|337=>227|338=>228|n=>n,fun|3=>3|9=>9|2=>2|4=>4|171=>290|0=>0|53=>202|37=>22|5=>5|173=>292|212=>309|51=>55|20=>20|213=>310|46=>174|232=>315|233=>141|n=>n,fun|17=>2|18=>3|19=>4|n=>n⟩
theorem Tryz.laysM171:Go.Proofs.LaysM.n171 Tryz.prog Tryz.laysM171_ren:={
 mixed:=by kernel_rfl
 f129:=Tryz.func186.trans (congrArg some (by kernel_rfl))
 f171:=Tryz.func55.trans (congrArg some (by kernel_rfl))
 f243:=Tryz.func113.trans (congrArg some (by kernel_rfl))
 f246:=Tryz.func160.trans (congrArg some (by kernel_rfl))
 f283:=Tryz.func196.trans (congrArg some (by kernel_rfl))
 f284:=Tryz.func197.trans (congrArg some (by kernel_rfl))
 f285:=Tryz.func198.trans (congrArg some (by kernel_rfl))
 f286:=Tryz.func199.trans (congrArg some (by kernel_rfl))
 f317:=Tryz.func218.trans (congrArg some (by kernel_rfl))
 f318:=Tryz.func219.trans (congrArg some (by kernel_rfl))
 f319:=Tryz.func220.trans (congrArg some (by kernel_rfl))
 f320:=Tryz.func221.trans (congrArg some (by kernel_rfl))
 f337:=Tryz.func227.trans (congrArg some (by kernel_rfl))
 f338:=Tryz.func228.trans (congrArg some (by kernel_rfl))
 t0:=Tryz.underlying0
 a0:=Tryz.isAgg0
 z0:=Tryz.sizeOf0
 v0:=Tryz.zeroValue0
 t2:=Tryz.underlying2
 a2:=Tryz.isAgg2
 z2:=Tryz.sizeOf2
 v2:=Tryz.zeroValue2
 t3:=Tryz.underlying3
 a3:=Tryz.isAgg3
 z3:=Tryz.sizeOf3
 v3:=Tryz.zeroValue3
 t4:=Tryz.underlying4
 a4:=Tryz.isAgg4
 z4:=Tryz.sizeOf4
 v4:=Tryz.zeroValue4
 t5:=Tryz.underlying5
 a5:=Tryz.isAgg5
 z5:=Tryz.sizeOf5
 v5:=Tryz.zeroValue5
 t9:=Tryz.underlying9
 a9:=Tryz.isAgg9
 z9:=Tryz.sizeOf9
 v9:=Tryz.zeroValue9
 t20:=Tryz.underlying20
 a20:=Tryz.isAgg20
 z20:=Tryz.sizeOf20
 v20:=Tryz.zeroValue20
 t37:=Tryz.underlying22
 a37:=Tryz.isAgg22
 z37:=Tryz.sizeOf22
 v37:=Tryz.zeroValue22
 t46:=Tryz.underlying174
 a46:=Tryz.isAgg174
 z46:=Tryz.sizeOf174
 v46:=Tryz.zeroValue174
 t51:=Tryz.underlying55
 a51:=Tryz.isAgg55
 z51:=Tryz.sizeOf55
 v51:=Tryz.zeroValue55
 t53:=Tryz.underlying202
 a53:=Tryz.isAgg202
 z53:=Tryz.sizeOf202
 v53:=Tryz.zeroValue202
 t171:=Tryz.underlying290
 a171:=Tryz.isAgg290
 z171:=Tryz.sizeOf290
 v171:=Tryz.zeroValue290
 t173:=Tryz.underlying292
 a173:=Tryz.isAgg292
 z173:=Tryz.sizeOf292
 v173:=Tryz.zeroValue292
 t212:=Tryz.underlying309
 a212:=Tryz.isAgg309
 z212:=Tryz.sizeOf309
 v212:=Tryz.zeroValue309
 t213:=Tryz.underlying310
 a213:=Tryz.isAgg310
 z213:=Tryz.sizeOf310
 t232:=Tryz.underlying315
 a232:=Tryz.isAgg315
 z232:=Tryz.sizeOf315
 v232:=Tryz.zeroValue315
 t233:=Tryz.underlying141
 a233:=Tryz.isAgg141
 z233:=Tryz.sizeOf141
 v233:=Tryz.zeroValue141
 g17:=by kernel_rfl
 g18:=by kernel_rfl
 g19:=by kernel_rfl
 i0:=by kernel_rfl
 i2:=by kernel_rfl
 i3:=by kernel_rfl
 i4:=by kernel_rfl
 i5:=by kernel_rfl
 i9:=by kernel_rfl
 i20:=by kernel_rfl
 i37:=by kernel_rfl
 i46:=by kernel_rfl
 i51:=by kernel_rfl
 i53:=by kernel_rfl
 i171:=by kernel_rfl
 i173:=by kernel_rfl
 i212:=by kernel_rfl
 i232:=by kernel_rfl
 i233:=by kernel_rfl
 m17:=by kernel_rfl
 m18:=by kernel_rfl
 m19:=by kernel_rfl}
end Go.Proofs
namespace Go.Proofs.YtgfohjbcccfolaaGreatDoor
open Go.Proofs.Tryz
open Go.RowKit
theorem ext_grow (w:World) (k:Nat) (os:Array Obj):Ext w (Sort.grow (w.drewN k) os):=
 ⟨rfl,rfl,rfl,by simp [Sort.grow,World.drewN],fun j hj=>by
  show (w.heap++os)[j]? = _
  rw [Array.getElem?_append_left hj]⟩
def P10:Pf:=⟨fun h=>∃T fz,h 2=some (.cells (Lib.pow10Tab.map fun z=>Value.int .u64 z).toArray T fz),fun _ _ s ⟨T,fz,h⟩=>⟨T,fz,s _ _ h⟩⟩
theorem g10 : prog.globalNamed "internal/strconv.uint64pow10" = some 2 := by kernel_rfl
theorem tab10 {w : World} {T : TypeId} {fz : Nat × Nat} (h : w.heap[2]? = some (.cells (Lib.pow10Tab.map fun z => Value.int .u64 z).toArray T fz)) : Lib.TabIs prog w "internal/strconv.uint64pow10" .u64 Lib.pow10Tab := by
 unfold Lib.TabIs World.var?
 rw [g10]
 simp only [Option.bind_some]
 rw [h]
theorem itoa_ok (n:Int) (h0 : -9223372036854775808≤n) (h1:n≤9223372036854775807):Enters 55∧Spec prog 55 #[.int .i64 n] [P10] [] (RetV (.string ⟨(Lib.itoa n).toArray⟩)):=by
 refine ⟨enters_of func55 (by kernel_rfl) rfl,fun G w hp hs=>?_⟩
 obtain ⟨hp',hr,st⟩:=hs
 obtain ⟨T,fz,h⟩:=st.f P10 (by simp)
 refine (Any.strconv_Itoa Tryz.laysM171 n h0 h1 w (tab10 (st.inp _ _ h))).mono ?_
 rintro e w' ⟨rfl,k,os,rfl⟩
 exact ⟨(),rfl,trivial,(Sat.ext ⟨hp',hr,st⟩ (ext_grow w k os)).facts fun _ _ x hx=>by simp [RetV] at hx⟩
end Go.Proofs.YtgfohjbcccfolaaGreatDoor
namespace Go.Proofs.YtgfohjbcccfolaaGreatDoor
open Go.RowKit Go.Proofs.Tryz
theorem bsz (a:Array UInt8):(ByteArray.mk a).size=a.size:=rfl
variable {n:Nat} {C:Cx} {Q:Exit→Act→World→Prop} {E E':List (Nat×Value)} {F F' F1 Fs F0:List Pf} {R R' R0 Rs N N' A:List HP} {k k':List Fr} {ops l:List Oper} {L L':List (Nat×Nat)} {Tl:List Nat} {i d:Nat} {t t2 ty0:TypeId} {x y:Operand} {pos:String} {aft:Array Edge} {gd:Option (Nat×Bool)}
section
theorem run_cat {a b:ByteArray} {ac:Act} {w:World} (h:a.size+b.size≤9223372036854775807) (ha:Agree n C.ds (look E) ac) (hx:ev E x=some (.string a)) (hy:ev E y=some (.string b)) :
  (execOp ac.eval ⟨some d,.binOp .add t x y t2,ty0,pos,aft,gd⟩).run prog w = .ok (.value (.string (a++b))) w:=by
 have h1:¬(((a.size+b.size:Nat):Int) > IntKind.i64.max):=by
  have:IntKind.i64.max=9223372036854775807:=by decide
  omega
 have hg:(eqGuard .add t x y (.string a) (.string b)).run prog w = .ok () w:=by simp [eqGuard]
 have hb:(binOp .add t (.string a) (.string b)).run prog w = .ok (.string (a++b)) w:=by
  simp only [binOp,Op.stringOp]
  rw [if_neg h1];rfl
 simp only [execOp,ha.ev (x:=x) (by rw [ZL];exact hx),ha.ev (x:=y) (by rw [ZL];exact hy),Sem.run_bind,hg,Result.andThen,hb,Sem.run_pure]
theorem l_cat {a b:ByteArray} (nx:Wl n C ops.toArray k Q l ((d,.string (a++b))::E) F R) (hw:wantL ops E ⟨some d,.binOp .add t x y t2,ty0,pos,aft,gd⟩=some true:=by rfl) (hn:Nat.blt d n=true:=by rfl)
  (hx:ev E x=some (.string a):=by rfl) (hy:ev E y=some (.string b):=by rfl) (h:a.size+b.size≤9223372036854775807:=by simp only [ByteArray.size_append,bsz,List.size_toArray,List.length_cons,List.length_nil,List.length_append]<;>omega) :
  Wl n C ops.toArray k Q (⟨some d,.binOp .add t x y t2,ty0,pos,aft,gd⟩::l) E F R:=
 l_q (fun _ _ ha=>run_cat h ha hx hy) nx (by intro c h;cases h) hw hn
theorem r_cat {a b:ByteArray} (nx:Wr n C ops k Q Tl Fs R L ((d,.string (a++b))::E) F N) (ho:nth ops i=some ⟨some d,.binOp .add t x y t2,ty0,pos,aft,gd⟩:=by rfl) (hw:wantL ops E ⟨some d,.binOp .add t x y t2,ty0,pos,aft,gd⟩=some true:=by rfl)
  (hx:ev E x=some (.string a):=by rfl) (hy:ev E y=some (.string b):=by rfl) (h:a.size+b.size≤9223372036854775807:=by simp only [ByteArray.size_append,bsz,List.size_toArray,List.length_cons,List.length_nil,List.length_append]<;>omega) :
  Wr n C ops k Q Tl Fs R ((i,0)::L) E F N:=
 r_q (fun _ _ ha=>run_cat h ha hx hy) nx ho hw
end
theorem isOrd_ok (k:Int):Enters 53∧Spec prog 53 #[.int .i64 k] [] [] (RetV (.bool (decide (1≤k) && decide (k≤999999)))):=by
 refine ZH [_] func53 ntmps53 fun G w hp=>?_
 repeat' (first|refine ZC ?_|refine ZB ?_|refine ZU ?_|refine ZD ?_|(refine ZT (fun hc=>?_) (fun hc=>?_)<;>(try simp at hc))|fail)
 all_goals (refine ZG () ?_ trivial;simp_all [RetV,resV]<;>omega)
theorem depth_ok (s:ByteArray) (hs:s.size≤1099511627776):Enters 54∧Spec prog 54 #[.string s] [] [] (RetV (.int .i64 ((lords s.data.toList).length:Int))):=by
 have n1:=VC s hs
 refine ZH [_] func54 ntmps54 fun G w hp=>?_
 repeat' (first|refine ZC ?_|refine ZB ?_|refine ZD ?_|refine ZA (n1) (fun _ _=>?_)|fail)
 exact ZG () rfl trivial
def chN (who:ByteArray) (k:Int):ByteArray:=who++⟨#[46]⟩++⟨(Lib.itoa k).toArray⟩
theorem child_ok (who:ByteArray) (k:Int) (hv:lvalid who.data.toList=true) (hw:who.size≤1000) (hk:1≤k∧k≤999999) (hd:(lords who.data.toList).length≠8) (hne:isE who=false) (hi:(Lib.itoa k).length≤100) :
  Enters 12∧Spec prog 12 #[.string who,.int .i64 k] [P10] [] (RetV (.tuple #[.string (chN who k),.int .i64 0])):=by
 have n0:=Zu who (by omega)
 rw [hv] at n0
 have n1:=isOrd_ok k
 rw [show (decide (1≤k) && decide (k≤999999))=true by simp;omega] at n1
 have n2:=depth_ok who (by omega)
 have n3:=itoa_ok k (by omega) (by omega)
 have hE:(who.toList == (⟨#[]⟩:ByteArray).toList)=false:=by rw [isE] at hne;exact hne
 have hD:(((lords who.data.toList).length:Int) == 8)=false:=by rw [beq_eq_false_iff_ne];omega
 have z1:(⟨#[46]⟩:ByteArray).size=1:=rfl
 have z2:(⟨(Lib.itoa k).toArray⟩:ByteArray).size=(Lib.itoa k).length:=by show (List.toArray _).size=_;rw [List.size_toArray]
 unfold chN
 generalize (⟨(Lib.itoa k).toArray⟩:ByteArray)=I at *
 refine ZH [_,_] func12 ntmps12 fun G w hp=>?_
 repeat' (first|refine ZC ?_|refine ZB ?_|refine ZD ?_|refine ZE ?_|refine ZA (n0) (fun _ _=>?_)|refine ZA (n1) (fun _ _=>?_)|refine ZA (n2) (fun _ _=>?_)|refine ZA (n3) (fun _ _=>?_)|rw [hE]|rw [hD]|refine l_cat ?_ (h:=by rw [z1];omega)|refine l_cat ?_ (h:=by rw [ByteArray.size_append,z1,z2];omega)|fail)
 exact ZG () rfl trivial
section
variable (b:Nat) (ps:Option Addr) (es:Al) (rs:List (Nm×Ch)) (cs:List Ch) (who:ByteArray) (p:Pr)
theorem owner_ok (o:Option Addr) (c:Nat) (h:p.sp=who):Enters 109∧Spec prog 109 #[.pointer (some ⟨b,0,none⟩),.string who,p.v o c] [] [] (RetV (.tuple #[p.v o c,.int .i64 0])):=by
 obtain ⟨a1,a2,a3,a4,a5,gs,a7,a8,a9,a10⟩:=p
 dsimp only at h
 subst h
 have hE:(a7.toList == a7.toList)=true:=by simp
 refine ZH [_,_,_] func109 ntmps109 fun G w hp=>?_
 repeat' (first|refine ZC ?_|refine ZB ?_|refine ZD ?_|refine ZP ?_|refine ZS ?_|refine ZN (fun b=>?_)|refine ZJ ?_|rw [hE]|fail)
 exact ZG () rfl trivial
theorem exitF_ok (bx bc:Nat) (o:Option Addr) (c:Nat) (k:Int) (hk:0≤k∧k≤410):Enters 57∧Spec prog 57 #[.pointer (some ⟨bx,0,none⟩),.pointer (some ⟨bc,0,none⟩)] []
  [Pt bx (.cells (prf p o c).toArray 44),Pt bc (.cells #[.int .i64 k] 3)] ⟨Unit,fun _=>.int .i64 0,fun _=>True,fun _=>[],fun _=>[Pt bx (.cells (prf {p with st:=2,cd:=k} o c).toArray 44),Pt bc (.cells #[.int .i64 k] 3)]⟩:=by
 have n1:=WT k 410
 rw [show (decide (0≤k) && decide (k≤410))=true by simp;omega] at n1
 obtain ⟨a1,a2,a3,a4,a5,gs,a7,a8,a9,a10⟩:=p
 unfold prf
 refine ZH [_,_] func57 ntmps57 fun G w hp=>?_
 repeat' (first|refine ZC ?_|refine ZB ?_|refine ZD ?_|refine ZP ?_|refine ZE ?_|refine ZO ?_|refine Ze ?_|refine r_st ?_|refine ZQ ?_|refine ZA (n1) (fun _ _=>?_)|refine ZK 3 [Pt bx (.cells _ 44 _)] [(0,0),(1,0),(2,0),(3,0),(4,0),(5,4),(6,0),(7,0),(8,4)] [] ?_|fail)
 exact ZG () rfl trivial
set_option maxHeartbeats 1000000 in
theorem proExit_ok (h:PrAt es cs who p) (hr:p.st=1) (k:Int) (hk:0≤k∧k≤410) (hc:pchk {p with st:=2,cd:=k}=0) (hl:cs.length≤1000000):Enters 13∧Spec prog 13 #[.pointer (some ⟨b,0,none⟩),.string who,.int .i64 k] [St ps es,Usg] [Vw b ps rs cs]
  ⟨Unit,fun _=>.int .i64 0,fun _=>True,fun _=>[],fun _=>[Vw b ps (pgR es rs cs who) (cs++[⟨pnm who,pencS {p with st:=2,cd:=k},false⟩])]⟩:=by
 have n1:=running_ok b ps es rs cs who p h hr
 have n2:=fun bx bc o c=>exitF_ok p bx bc o c k hk
 have n3:=fun o c=>Yx b ps (pgR es rs cs who) cs who {p with st:=2,cd:=k} o c hc h.s h.d h.w h.v hl
 generalize pgR es rs cs who=rs2 at *
 generalize pencS {p with st:=2,cd:=k}=S at *
 have hch:∀bc:Nat,Enters 56∧Spec prog 56 #[.pointer (some ⟨b,0,none⟩),.string who,.func (.func 57) #[] #[.pointer (some ⟨bc,0,none⟩)]] [St ps es,Usg] [Vw b ps rs cs,Pt bc (.cells #[.int .i64 k] 3)]
   ⟨Unit,fun _=>.int .i64 0,fun _=>True,fun _=>[],fun _=>[Vw b ps rs2 (cs++[⟨pnm who,S,false⟩])]⟩:=fun bc=>by
  obtain ⟨a1,a2,a3,a4,a5,gs,a7,a8,a9,a10⟩:=p
  dsimp only at *
  simp only [Pr.v,prf] at n1 n2 n3
  generalize b=bv at *
  refine ZH [_,_,_] func56 ntmps56 fun G w hp=>?_
  repeat' (first|refine ZC ?_|refine ZB ?_|refine ZD ?_|refine ZP ?_|refine ZS ?_|refine ZN (fun b=>?_)|refine ZE ?_|refine ZA (n1) (fun _ _=>?_)|refine ZA (n3 _ _) (fun _ _=>?_)|refine X9 (n2 _ _ _ _) (fun _ _=>?_)|fail)
  exact ZG () rfl trivial
 generalize b=bv at *
 refine ZH [_,_,_] func13 ntmps13 fun G w hp=>?_
 repeat' (first|refine ZC ?_|refine ZB ?_|refine ZD ?_|refine ZN (fun b=>?_)|refine ZA (hch _) (fun _ _=>?_)|fail)
 exact ZG () rfl trivial
theorem Vj (h:PrAt es cs who p) (c:Ct) (hm:madeE es cs who=(c,0)) (hmv:(vget es cs (cnm who)).1.size≤1099511627776) (k:Int) (hk:1≤k∧k≤c.c) (hk2:k≤999999) (hd:(lords who.data.toList).length≠8) (hne:isE who=false) (hi:(Lib.itoa k).length≤100) (q:Pr)
  (hq:PrAt es cs (chN who k) q) (hl:cs.length≤1000000) (hc:q.st=2→pchk {q with st:=3}=0) :
  Enters 14∧Spec prog 14 #[.pointer (some ⟨b,0,none⟩),.string who,.int .i64 k] [St ps es,Usg,P10] [Vw b ps rs cs]
   ⟨Unit,fun _=>.tuple #[.int .i64 (if q.st=2 then q.cd else 0),.int .i64 (if q.st=1 then 19 else if q.st=3 then 10 else 0)],fun _=>True,fun _=>[],fun _=>[Vw b ps (pgR es (madeR es (pgR es rs cs who) cs who) cs (chN who k)) (if q.st=2 then cs++[⟨pnm (chN who k),pencS {q with st:=3},false⟩] else cs)]⟩:=by
 have hw:=h.w
 have n1:=Ud b ps es rs cs who p h
 have n2:=made_ok b ps es (pgR es rs cs who) cs who (by omega) hmv
 rw [hm] at n2
 have n3:=child_ok who k h.v hw ⟨hk.1,hk2⟩ hd hne hi
 have n4:=Ud b ps es (madeR es (pgR es rs cs who) cs who) cs (chN who k) q hq
 have n5:=fun o c hc=>Yx b ps (pgR es (madeR es (pgR es rs cs who) cs who) cs (chN who k)) cs (chN who k) {q with st:=3} o c hc hq.s hq.d hq.w hq.v hl
 have hst:1≤q.st∧q.st≤3:=by
  obtain ⟨q1,q2,q3,q4,q5,q6⟩:=Zg hq.c
  omega
 generalize pencS {q with st:=3}=S at *
 generalize pgR es (madeR es (pgR es rs cs who) cs who) cs (chN who k)=rs4 at *
 generalize madeR es (pgR es rs cs who) cs who=rs3 at *
 generalize pgR es rs cs who=rs2 at *
 generalize chN who k=ch at *
 clear h hq
 obtain ⟨c1,c2,c3⟩:=c
 obtain ⟨a1,a2,a3,a4,a5,gs,a7,a8,a9,a10⟩:=q
 dsimp only at *
 simp only [Pr.v] at n4 n5
 rcases (show a2=1∨a2=2∨a2=3 by omega) with rfl|rfl|rfl
 ·refine ZH [_,_,_] func14 ntmps14 fun G w hp=>?_
  repeat' (first|refine ZC ?_|refine ZB ?_|refine ZU ?_|refine ZD ?_|refine ZP ?_|refine ZS ?_|refine ZN (fun b=>?_)|refine ZJ ?_|refine ZE ?_|refine ZA (n1) (fun _ _=>?_)|refine ZA (n2) (fun _ _=>?_)|refine ZA (n3) (fun _ _=>?_)|refine ZA (n4) (fun _ _=>?_)|(refine ZT (fun hc=>?_) (fun hc=>?_)<;>(try simp at hc)<;>(try omega))|(refine ZF (fun hc=>?_) (fun hc=>?_)<;>(try simp at hc)<;>(try omega))|fail)
  exact ZG () rfl trivial
 ·have n6:=fun o c=>n5 o c (hc rfl)
  refine ZH [_,_,_] func14 ntmps14 fun G w hp=>?_
  repeat' (first|refine ZC ?_|refine ZB ?_|refine ZU ?_|refine ZD ?_|refine ZP ?_|refine ZS ?_|refine ZN (fun b=>?_)|refine ZE ?_|refine ZA (n1) (fun _ _=>?_)|refine ZA (n2) (fun _ _=>?_)|refine ZA (n3) (fun _ _=>?_)|refine ZA (n4) (fun _ _=>?_)|refine ZA (n6 _ _) (fun _ _=>?_)|(refine ZT (fun hc=>?_) (fun hc=>?_)<;>(try simp at hc)<;>(try omega))|(refine ZF (fun hc=>?_) (fun hc=>?_)<;>(try simp at hc)<;>(try omega))|fail)
  exact ZG () rfl trivial
 ·refine ZH [_,_,_] func14 ntmps14 fun G w hp=>?_
  repeat' (first|refine ZC ?_|refine ZB ?_|refine ZU ?_|refine ZD ?_|refine ZP ?_|refine ZS ?_|refine ZN (fun b=>?_)|refine ZJ ?_|refine ZE ?_|refine ZA (n1) (fun _ _=>?_)|refine ZA (n2) (fun _ _=>?_)|refine ZA (n3) (fun _ _=>?_)|refine ZA (n4) (fun _ _=>?_)|(refine ZT (fun hc=>?_) (fun hc=>?_)<;>(try simp at hc)<;>(try omega))|(refine ZF (fun hc=>?_) (fun hc=>?_)<;>(try simp at hc)<;>(try omega))|fail)
  exact ZG () rfl trivial
end
section
variable (b:Nat) (ps:Option Addr) (es:Al) (rs:List (Nm×Ch)) (cs:List Ch) (who:ByteArray) (p:Pr)
def kidP (p:Pr) (ch:ByteArray):Pr:={p with sp:=ch}
theorem kid_chk {p:Pr} {ch:ByteArray} (h:pchk p=0) (hv:lvalid ch.data.toList=true):pchk (kidP p ch)=0:=by
 obtain ⟨q1,q2,q3,q4,q5,q6⟩:=Zg h
 unfold pfit at q3
 unfold pchk pfit kidP
 dsimp only
 rw [if_neg (by omega),if_neg (by omega),if_neg (by simp only [Decidable.not_not];omega),if_neg (by simp [q4]),if_neg (by simp [hv])]
 exact q6
def frkC (cs:List Ch) (who ch:ByteArray) (c:Ct) (p:Pr):List Ch:=cs++[⟨cnm who,cvs {c with c:=c.c+1},false⟩]++[⟨pnm ch,pencS (kidP p ch),false⟩]
set_option maxHeartbeats 4000000 in
theorem fork_ok (h:PrAt es cs who p) (hr:p.st=1) (hsp:p.sp=who) (c:Ct) (hm:madeE es cs who=(c,0)) (hmv:(vget es cs (cnm who)).1.size≤1099511627776) (hct:CtOK c) (hk2:c.c+1≤999999) (hd:(lords who.data.toList).length≠8) (hne:isE who=false) (hi:(Lib.itoa (c.c+1)).length≤100)
  (hcv:lvalid (chN who (c.c+1)).data.toList=true) (hcw:(chN who (c.c+1)).size≤1000) (hg:(vget es cs (pnm (chN who (c.c+1)))).2=false) (hreg:(vget es cs (rnm who)).2=false) (hpg:∀i:Nat,(vget es cs (gnm who (i:Int))).2=false) (hl:cs.length≤900000) :
  Enters 52∧Spec prog 52 #[.pointer (some ⟨b,0,none⟩),.string who,.bool false] [St ps es,Usg,P10] [Vw b ps rs cs]
   ⟨List (Nm×Ch),fun _=>.tuple #[.string (chN who (c.c+1)),.int .i64 0],fun _=>True,fun _=>[],fun rs'=>[Vw b ps rs' (frkC cs who (chN who (c.c+1)) c p)]⟩:=by
 have hw:=h.w
 obtain ⟨q1,q2,q3,q4,q5,q6⟩:=Zg h.c
 unfold pfit at q3
 have n1:=running_ok b ps es rs cs who p h hr
 have n2:=made_ok b ps es (pgR es rs cs who) cs who (by omega) hmv
 rw [hm] at n2
 have hc0:=hct.c0
 have n3:=child_ok who (c.c+1) h.v hw ⟨by omega,hk2⟩ hd hne hi
 have n4:=Yi (chN who (c.c+1))
 have n5:=fun rs'=>UO b ps es rs' cs (pnm (chN who (c.c+1))) (by show (chN who (c.c+1)).size≤_;omega) (Nat.zero_le _)
 rw [hg] at n5
 have n6:=fun o c'=>owner_ok b who p o c' hsp
 have n7:=fun rs'=>WN b ps rs' cs
 have hct2:CtOK {c with c:=c.c+1}:=⟨hct.b0,hct.b1,hct.o0,hct.o1,by show 0≤c.c+1;omega,by show c.c+1≤_;omega⟩
 have n8:=fun rs'=>setMade_ok b ps rs' cs who {c with c:=c.c+1} (by omega) h.v hct2 (by omega)
 have hcs:=UA hct2
 have e8:vset cs (cnm who) ⟨(cenc {c with c:=c.c+1}).toArray⟩=(0,cs++[⟨cnm who,cvs {c with c:=c.c+1},false⟩]):=by
  unfold vset
  rw [if_neg (by rw [VK h.v];simp),if_neg (by show ¬65536<(cvs {c with c:=c.c+1}).size;omega)]
  rfl
 rw [e8] at n8
 have hkc:=kid_chk h.c hcv
 have n9:=fun rs' o c'=>Yx b ps rs' (cs++[⟨cnm who,cvs {c with c:=c.c+1},false⟩]) (chN who (c.c+1)) (kidP p (chN who (c.c+1))) o c' hkc hcw h.d hcw hcv (by simp;omega)
 have hfr:cs++[⟨cnm who,cvs {c with c:=c.c+1},false⟩]++[⟨pnm (chN who (c.c+1)),pencS (kidP p (chN who (c.c+1))),false⟩]=frkC cs who (chN who (c.c+1)) c p:=rfl
 rw [hfr] at n9
 have hreg2:(vget es (frkC cs who (chN who (c.c+1)) c p) (rnm who)).2=false:=by
  rw [←hfr,Yd (by simp [pnm,rnm]),Yd (by simp [cnm,rnm])];exact hreg
 have hpg2:∀i:Nat,(vget es (frkC cs who (chN who (c.c+1)) c p) (gnm who (i:Int))).2=false:=fun i=>by
  rw [←hfr,Yd (by simp [pnm,gnm]),Yd (by simp [cnm,gnm])];exact hpg i
 have n10:=fun rs'=>copy0_ok b ps es rs' (frkC cs who (chN who (c.c+1)) c p) (rnm who) (rnm (chN who (c.c+1))) (by show who.size≤_;omega) (Nat.zero_le _) hreg2
 have n11:=fun rs' (i:Nat)=>copy0_ok b ps es rs' (frkC cs who (chN who (c.c+1)) c p) (gnm who (i:Int)) (gnm (chN who (c.c+1)) (i:Int)) (by show who.size≤_;omega) (Nat.zero_le _) (hpg2 i)
 have n12:=Yq who
 have n13:=Yq (chN who (c.c+1))
 have n14:=fun i:Nat=>Xb who (i:Int)
 have n15:=fun i:Nat=>Xb (chN who (c.c+1)) (i:Int)
 have w1:IntKind.i64.wrap (c.c+1)=c.c+1:=wrapi (by omega) (by omega)
 generalize frkC cs who (chN who (c.c+1)) c p=cs3 at *
 generalize (cs++[⟨cnm who,cvs {c with c:=c.c+1},false⟩]:List Ch)=cs2 at *
 generalize chN who (c.c+1)=ch at *
 clear h hkc hfr e8 hcs hcv hcw hg
 obtain ⟨c1,c2,c3⟩:=c
 obtain ⟨a1,a2,a3,a4,a5,gs,a7,a8,⟨d1,d2⟩,a10⟩:=p
 dsimp only at *
 obtain ⟨pg,hpge⟩:∃pg:Nat,a8=(pg:Int):=⟨a8.toNat,by omega⟩
 subst hr hsp hpge
 simp only [Pr.v,kidP] at n1 n6 n9
 generalize b=bv at *
 refine ZH [_,_,_] func52 ntmps52 fun G w hp=>?_
 repeat' (first|refine ZC ?_|refine ZB ?_|refine ZD ?_|refine ZP ?_|refine ZS ?_|refine ZN (fun b=>?_)|refine ZJ ?_|refine ZE ?_|refine ZO ?_|refine Ze ?_|refine r_al (fun b=>?_)|refine r_st ?_|refine ZQ ?_|refine ZA (n1) (fun _ _=>?_)|refine ZA (n2) (fun _ _=>?_)|refine ZA (n3) (fun _ _=>?_)|refine ZA (n4) (fun _ _=>?_)|refine ZA (n5 _) (fun _ _=>?_)|refine ZA (n6 _ _) (fun _ _=>?_)|refine ZA (n7 _) (fun _ _=>?_)|refine ZA (n8 _) (fun _ _=>?_)|refine ZA (n9 _ _ _) (fun _ _=>?_)|refine ZA (n10 _) (fun _ _=>?_)|refine ZA (n12) (fun _ _=>?_)|refine ZA (n13) (fun _ _=>?_)|rw [w1]|refine ZK 15 [] [(0,0),(1,0),(2,0),(3,1),(4,0)] [5] ?_|refine ZK 21 [Pt _ (.cells #[_,_,_,_,_,_,_,.int .i64 0,_,_,_] 44 _)] [(0,0),(1,0),(2,0),(3,0),(4,4),(5,0),(6,4)] [] ?_|(refine ZF (fun hc=>?_) (fun hc=>?_)<;>(try simp at hc)<;>(try omega))|fail)
 rename_i q _ b8 _ _ b10 _ _ _ _ _ _ b13 _ _ _ _ _ _ _ _ _ _ _ _ _ _
 obtain ⟨o,c⟩:=q
 refine YH (X:={q:Nat×List (Nm×Ch) // q.1≤pg}) (fun q=>[(0,.pointer (some ⟨bv,0,none⟩)),(9,.int .i64 0),(11,.string ch),(12,.string a7),(13,.pointer (some ⟨b13,0,none⟩)),(17,.int .i64 (q.1.1:Int))]) (fun _=>[St ps es,Usg,P10]) (fun q=>[Vw bv ps q.1.2 cs3,Pt b13 (.cells #[.int .i64 a1,.int .i64 1,.int .i64 a3,.int .i64 a4,.int .i64 a5,.slice o gs.length c,.string ch,.int .i64 (pg:Int),.string d1,.int .i64 d2,.int .i64 a10] 44)]) (fun q=>pg - q.1.1) ⟨(0,_),by omega⟩ ⟨rfl,rfl,rfl,rfl,rfl,rfl,trivial⟩ ?_
 rintro ⟨⟨i,rs'⟩,hi'⟩
 dsimp only at hi' ⊢
 by_cases hlt:i<pg
 ·have m1:=n11 rs' i
  have m2:=n14 i
  have m3:=n15 i
  generalize vread es rs' cs3 (gnm a7 (i:Int))=rs2 at *
  repeat' (first|refine ZC ?_|refine ZB ?_|refine ZU ?_|refine ZD ?_|refine ZP ?_|refine ZJ ?_|refine ZA (m1) (fun _ _=>?_)|refine ZA (m2) (fun _ _=>?_)|refine ZA (m3) (fun _ _=>?_)|(refine ZT (fun hc=>?_) (fun hc=>?_)<;>(try simp at hc)<;>(try omega))|fail)
  rw [wrapi (z:=(i:Int)+1) (by omega) (by omega)]
  exact ZW ⟨(i+1,rs2),by dsimp only;omega⟩ (by show pg - (i+1)<pg - i;omega) ⟨rfl,rfl,rfl,rfl,rfl,rfl,trivial⟩
 ·repeat' (first|refine ZC ?_|refine ZB ?_|refine ZU ?_|refine ZD ?_|refine ZP ?_|refine ZE ?_|refine Zn ?_|(refine ZT (fun hc=>?_) (fun hc=>?_)<;>(try simp at hc)<;>(try omega))|fail)
  exact ZG rs' rfl trivial
end
def Idle (f:FuncId) (args:Array Value):Prop:=∀w,CallsDIn (fz none) 0 prog f args .returning w fun e u' w'=>e = .returned (.tuple #[])∧u' = .returning∧w'=w
theorem spec_ofD {f:FuncId} {fn:Func} {c:Code} {vs:List Value} {post:Post} {nt:Nat} {F:List Pf} {R:List HP} (hf:prog.funcs[f]? = some fn) (hb:fn.body=some c) (hnt:fn.ntmps=nt) (hle:Nat.ble vs.length nt=true)
  (t:∀G w hp,Wk nt ⟨none,G,w,hp,[]⟩ [.c c] (bodyPostDIn (fz none) 0 prog fn (post.holds G w hp)) (argsE 0 vs) F R):Spec prog f vs.toArray F R post:=by
 intro G w hp hsat
 refine (callsIn_wide (n:=0)).1 (callsIn_of_wp_defers hf hb trivial ?_)
 refine t G w hp _ w ⟨?_,rfl,fun i v hv=>?_⟩ hsat
 ·have:=Nat.le_of_ble_eq_true hle
  simp [hnt];omega
 ·obtain ⟨_,h2⟩:=WZ vs 0 i v hv
  simp only [Nat.sub_zero] at h2
  have hlt:i<vs.length:=(List.getElem?_eq_some_iff.1 h2).1
  simp only
  rw [Array.getElem?_append_left (by simpa using hlt)]
  simpa using h2
section
theorem l_defer {f:FuncId} {fs cs:Array Value} {tys:Array TypeId} {G:H} {w0:World} {hp0:H} {ds:List Deferred} (nx:Wl n ⟨none,G,w0,hp0,⟨.fn (.func f) cs,fs⟩::ds⟩ ops.toArray k Q l E F R)
  (hw:wantL ops E ⟨none,.defer ⟨.value x,#[],tys⟩,ty0,pos,aft,gd⟩=some true:=by rfl) (hx:ev E x=some (.func (.func f) fs cs):=by rfl) :
  Wl n ⟨none,G,w0,hp0,ds⟩ ops.toArray k Q (⟨none,.defer ⟨.value x,#[],tys⟩,ty0,pos,aft,gd⟩::l) E F R:=by
 intro a w ha hs
 have hw':=Wx ha (Zt hw)
 unfold wpListIn
 rw [if_pos hw']
 refine ⟨fun _ _=>trivial,?_⟩
 have hr:(Oper.semAt (fz none).round a.eval ⟨none,.defer ⟨.value x,#[],tys⟩,ty0,pos,aft,gd⟩).run prog w = .ok (.defer ⟨.fn (.func f) cs,fs⟩) w:=by
  rw [show (fz none).round=none from rfl,Oper.semAt_none]
  have e1:=ha.ev (x:=x) (by rw [ZL];exact hx)
  simp only [execOp,resolve,Sem.run_bind,Sem.run_pure,Result.andThen,e1,Deferred.ofValue]
  simp
 rw [hr]
 show wpListIn _ _ _ _ _ l _ _
 refine nx _ w ⟨?_,?_,?_⟩ hs
 ·exact ha.size
 ·show _::a.defers=_
  rw [ha.defers]
 ·exact ha.slots
theorem k_retD {fn:Func} {post:Post} {G:H} {w0:World} {hp0:H} {f:FuncId} {fs cs:Array Value} (he:Enters f) (hi:Idle f (fs++cs)) (xx:post.X) {vs:List Value} (hv:resV vs=post.val xx) (hp:post.pure xx)
  (hr:ResOK E R fn.results.toList vs:=by (repeat (first|exact ResOK.nil|exact Sel.here|apply Sel.there|exact rfl|apply ResOK.tmp|apply ResOK.cell));first|done|fail)
  (hF:EntF F (post.F xx):=by (repeat (first|exact trivial|exact Sel.here|apply Sel.there|apply EntF.cons));first|done|fail)
  (hR:Sels (post.R xx) R R0:=by (repeat (first|exact Sels.nil|exact Sel.here|apply Sel.there|apply Sels.cons));first|done|fail)
  (h:nf 1000 k = .c .ret::k':=by rfl) (hn:noR k'=true:=by rfl):Wk n ⟨none,G,w0,hp0,[⟨.fn (.func f) cs,fs⟩]⟩ k (bodyPostDIn (fz none) 0 prog fn (post.holds G w0 hp0)) E F R:=Y5 (fun a w ha hs=>by
 have h2:=results_ok ha hs hr
 show LeavesIn (fz none) 0 prog fn a.tmps _ a.defers .returning w
 rw [ha.defers]
 refine leavesIn_cons (f:=f) (args:=fs++cs) (by simp) (fun hx=>by cases hx) (by simpa [invoke] using he (fs++cs) w) (fun _ _=>trivial) ?_
 refine (hi w).mono ?_
 rintro e u' w' ⟨rfl,rfl,rfl⟩
 refine ⟨resV vs,h2,xx,by rw [hv],hp,((hs.sels hR).facts (F':=post.F xx) hF.all).res fun _ h=>Y8 h⟩) h hn
end
def cpL {α:Type} (es:List α) (d s n:Nat):List α:=es.take d++((es.drop s).take n++es.drop (d+n))
section
variable {α:Type} {f:α→List Value} {es:List α} {q:List Value×(Nat×Nat)}
end
section
theorem r_six {s:ByteArray} {z:Int} {rs:TRow} (j:Nat) (c:UInt8) (hc:s.data.toList[j]? = some c) (nx:Wr n C ops k Q Tl Fs R L ((d,.int .u8 c.toNat)::E) F N)
  (ho:nth ops i=some ⟨some d,.index t x y,ty0,pos,aft,gd⟩:=by rfl) (hw:wantL ops E ⟨some d,.index t x y,ty0,pos,aft,gd⟩=some true:=by rfl) (hx:ev E x=some (.string s):=by rfl) (hy:ev E y=some (.int .i64 z):=by rfl)
  (hts:lookT tab t=some rs:=by rfl) (hrs:rs.k = .str:=by rfl) (hz:z=(j:Int):=by first|rfl|omega):Wr n C ops k Q Tl Fs R ((i,0)::L) E F N:=
 r_q (fun a w ha=>by
  subst hz
  have h0:(0:Int)≤(j:Int):=by omega
  have h1:s[j]? = some c:=by
   obtain ⟨hlt,he⟩:=List.getElem?_eq_some_iff.1 hc
   have hlt':j<s.size:=by simpa using hlt
   rw [getElem?_pos s j hlt']
   exact congrArg some he
  simp only [execOp,ha.ev (x:=x) (by rw [ZL];exact hx),ha.ev (x:=y) (by rw [ZL];exact hy),Instr.index,asIntOf,Yp hts hrs,Sem.run_bind,Result.andThen,Sem.run_pure,if_pos h0,Int.toNat_natCast,h1]) nx ho hw
end
def orW (a b:Int):Int:=IntKind.u32.wrap (BitVec.ofInt IntKind.u32.bits a ||| BitVec.ofInt IntKind.u32.bits b).toNat
def shW (a b:Int):Int:=IntKind.u32.wrap (a * 2 ^ (min b.toNat IntKind.u32.bits))
def wb (c:UInt8):Int:=IntKind.u32.wrap (c.toNat:Int)
def wv (c0 c1 c2 c3:UInt8):Int:=orW (orW (orW (wb c0) (shW (wb c1) 8)) (shW (wb c2) 16)) (shW (wb c3) 24)
def wd (s:ByteArray) (i:Nat):Int:=wv (s.data.toList.getD (4 * i) 0) (s.data.toList.getD (4 * i+1) 0) (s.data.toList.getD (4 * i+2) 0) (s.data.toList.getD (4 * i+3) 0)
abbrev u32f:Int→List Value:=fun z=>[.int .u32 z]
def rgV (g:List Int):Value:=.agg (g.flatMap u32f).toArray
def rgs (s:ByteArray):List Int:=[wd s 0,wd s 1,wd s 2,wd s 3,wd s 4,wd s 5,wd s 6,wd s 7,wd s 8]
def rg0:List Int:=[0,0,0,0,0,0,0,0,0]
section
variable (b:Nat) (ps:Option Addr) (es:Al) (rs:List (Nm×Ch)) (cs:List Ch) (who:ByteArray)
theorem V5 {who:ByteArray} (h:lvalid who.data.toList=true):nchk (rnm who)=0:=by
 have h2:isE ⟨#[]⟩=true:=by simp [isE]
 rw [nchk,if_pos (by simp [rnm])]
 show uchk ⟨_,true,false,false,false,0⟩ (rnm who)=0
 simp [uchk,rnm,h,h2]
abbrev rgZ:Value:=.agg #[.int .u32 0,.int .u32 0,.int .u32 0,.int .u32 0,.int .u32 0,.int .u32 0,.int .u32 0,.int .u32 0,.int .u32 0]
end
inductive Pg where
 | u
 | n
 | h (bs:List UInt8) (c:Bool)
def Pg.kn:Pg→Bool
 | .u=>false
 | _=>true
def Pg.chg:Pg→Bool
 | .h _ c=>c
 | _=>false
def pgv:Pg→Nat→Value
 | .h _ _,b=>.pointer (some ⟨b,0,none⟩)
 | _,_=>.pointer none
def up {α:Type} (f:Nat→α) (i:Nat) (x:α):Nat→α:=fun j=>if j=i then x else f j
theorem Xk {α:Type} (f:Nat→α) (i:Nat) (x:α):up f i x i=x:=by simp [up]
theorem Wu {α:Type} (f:Nat→α) {i j:Nat} (x:α) (h:j≠i):up f i x j=f j:=by simp [up,h]
theorem up_id {α:Type} (f:Nat→α) (i:Nat):up f i (f i)=f:=by funext j;unfold up;split<;>simp_all
def spcAt (fv:Value) (M:Nat→Pg) (ak:Nat→Bool) (bl:Nat→Nat) (k:Nat):Value:=
 if k=0 then fv else if k<65 then .bool (M (k - 1)).kn else if k<129 then .bool (ak (k - 65)) else if k<193 then .bool (M (k - 129)).chg else pgv (M (k - 193)) (bl (k - 193))
def spcL (fv:Value) (M:Nat→Pg) (ak:Nat→Bool) (bl:Nat→Nat):List Value:=(List.range 257).map (spcAt fv M ak bl)
abbrev cf:Value→List Value:=fun v=>[v]
section
variable {fv:Value} {M M':Nat→Pg} {ak ak':Nat→Bool} {bl bl':Nat→Nat}
theorem Xd {k:Nat} (h:k<257):(spcL fv M ak bl)[k]? = some (spcAt fv M ak bl k):=by
 unfold spcL;rw [List.getElem?_map,List.getElem?_range h];rfl
theorem Xl:(spcL fv M ak bl).length=257:=by simp [spcL]
theorem spc_f:(spcL fv M ak bl)[0]? = some fv:=Xd (by decide)
theorem spc_kn (h:i<64):(spcL fv M ak bl)[1+i]? = some (.bool (M i).kn):=by
 rw [Xd (by omega)];unfold spcAt;rw [if_neg (by omega),if_pos (by omega),show 1+i - 1=i by omega]
theorem spc_ak (h:i<64):(spcL fv M ak bl)[65+i]? = some (.bool (ak i)):=by
 rw [Xd (by omega)];unfold spcAt;rw [if_neg (by omega),if_neg (by omega),if_pos (by omega),show 65+i - 65=i by omega]
theorem spc_ch (h:i<64):(spcL fv M ak bl)[129+i]? = some (.bool (M i).chg):=by
 rw [Xd (by omega)];unfold spcAt;rw [if_neg (by omega),if_neg (by omega),if_neg (by omega),if_pos (by omega),show 129+i - 129=i by omega]
theorem spc_pg (h:i<64):(spcL fv M ak bl)[193+i]? = some (pgv (M i) (bl i)):=by
 rw [Xd (by omega)];unfold spcAt;rw [if_neg (by omega),if_neg (by omega),if_neg (by omega),if_neg (by omega),show 193+i - 193=i by omega]
theorem spc_ext {l:List Value} (hl:l.length=257) (h:∀k,k<257→l[k]? = some (spcAt fv M ak bl k)):l=spcL fv M ak bl:=by
 apply List.ext_getElem?
 intro k
 by_cases hk:k<257
 ·rw [h k hk,Xd hk]
 ·rw [List.getElem?_eq_none (by omega),List.getElem?_eq_none (by rw [Xl];omega)]
theorem spc_new (h:i<64) (hu:M i = .u) (p:Pg) (hk:p.kn=true) (hc:p.chg=false) (b:Nat) :
  (((spcL fv M ak bl).set (1+i) (.bool true)).set (65+i) (.bool true)).set (193+i) (pgv p b)=spcL fv (up M i p) (up ak i true) (up bl i b):=by
 refine spc_ext (by simp [Xl]) fun k hk'=>?_
 rw [List.getElem?_set,List.getElem?_set,List.getElem?_set,Xd hk']
 simp only [List.length_set,Xl]
 unfold spcAt up
 by_cases h1:193+i=k
 ·subst h1
  rw [if_pos rfl,if_pos (by omega),if_neg (by omega),if_neg (by omega),if_neg (by omega),if_neg (by omega),if_pos (by omega),if_pos (by omega)]
 ·rw [if_neg h1]
  by_cases h2:65+i=k
  ·subst h2
   rw [if_pos rfl,if_pos (by omega),if_neg (by omega),if_neg (by omega),if_pos (by omega),if_pos (by omega)]
  ·rw [if_neg h2]
   by_cases h3:1+i=k
   ·subst h3
    rw [if_pos rfl,if_pos (by omega),if_neg (by omega),if_pos (by omega),if_pos (by omega),hk]
   ·rw [if_neg h3]
    by_cases h0:k=0
    ·rw [if_pos h0,if_pos h0]
    rw [if_neg h0,if_neg h0]
    by_cases a1:k<65
    ·rw [if_pos a1,if_pos a1,if_neg (by omega)]
    rw [if_neg a1,if_neg a1]
    by_cases a2:k<129
    ·rw [if_pos a2,if_pos a2,if_neg (by omega)]
    rw [if_neg a2,if_neg a2]
    by_cases a3:k<193
    ·rw [if_pos a3,if_pos a3]
     by_cases h4:k - 129=i
     ·rw [if_pos h4,h4,hu,hc];rfl
     ·rw [if_neg h4]
    rw [if_neg a3,if_neg a3,if_neg (by omega),if_neg (by omega)]
theorem spc_mark (h:i<64) {bs bs':List UInt8} {c:Bool} (hm:M i = .h bs c):(spcL fv M ak bl).set (129+i) (.bool true)=spcL fv (up M i (.h bs' true)) ak bl:=by
 refine spc_ext (by simp [Xl]) fun k hk'=>?_
 rw [List.getElem?_set,Xd hk']
 simp only [Xl]
 unfold spcAt up
 by_cases h1:129+i=k
 ·subst h1
  rw [if_pos rfl,if_pos (by omega),if_neg (by omega),if_neg (by omega),if_neg (by omega),if_pos (by omega),if_pos (by omega)];rfl
 ·rw [if_neg h1]
  by_cases h0:k=0
  ·rw [if_pos h0,if_pos h0]
  rw [if_neg h0,if_neg h0]
  by_cases a1:k<65
  ·rw [if_pos a1,if_pos a1]
   by_cases h4:k - 1=i
   ·rw [if_pos h4,h4,hm];rfl
   ·rw [if_neg h4]
  rw [if_neg a1,if_neg a1]
  by_cases a2:k<129
  ·rw [if_pos a2,if_pos a2]
  rw [if_neg a2,if_neg a2]
  by_cases a3:k<193
  ·rw [if_pos a3,if_pos a3,if_neg (by omega)]
  rw [if_neg a3,if_neg a3]
  by_cases h4:k - 193=i
  ·rw [if_pos h4,h4,hm];rfl
  ·rw [if_neg h4]
end
def Hld (b:Nat) (bs:List UInt8):HP:=Ax 143 bf b bs ([.bool false],(0,0))
def pgH:Pg→Nat→List HP
 | .h bs _,b=>[Hld b bs]
 | _,_=>[]
def heldL (is:List Nat) (M:Nat→Pg) (bl:Nat→Nat):List HP:=is.flatMap fun i=>pgH (M i) (bl i)
def Hd (M:Nat→Pg) (bl:Nat→Nat):HP:=fun h=>Sep (heldL (List.range 64) M bl) h
def HdX (i:Nat) (M:Nat→Pg) (bl:Nat→Nat):HP:=fun h=>Sep (heldL ((List.range 64).filter fun j=>j != i) M bl) h
theorem heldL_up {is:List Nat} {M:Nat→Pg} {bl:Nat→Nat} {i b:Nat} {p:Pg} (h:i ∉ is):heldL is (up M i p) (up bl i b)=heldL is M bl:=by
 unfold heldL
 simp only [List.flatMap_def]
 refine congrArg List.flatten (List.map_congr_left fun j hj=>?_)
 have:j≠i:=fun e=>h (e ▸ hj)
 rw [Wu M p this,Wu bl b this]
theorem hdX_up {M:Nat→Pg} {bl:Nat→Nat} (i b:Nat) (p:Pg):HdX i (up M i p) (up bl i b)=HdX i M bl:=by
 unfold HdX
 rw [heldL_up (by simp)]
theorem filt_perm:∀{l:List Nat} {i:Nat},i ∈ l→l.Nodup→l.Perm (i::l.filter fun j=>j != i)
 | [],_,h,_=>by simp at h
 | a::l,i,h,hn=>by
  rw [List.nodup_cons] at hn
  by_cases hai:a=i
  ·subst hai
   have:(a::l).filter (fun j=>j != a)=l:=by
    rw [List.filter_cons_of_neg (by simp)]
    exact List.filter_eq_self.2 fun j hj=>by simp;intro e;exact hn.1 (e ▸ hj)
   rw [this]
  ·have hil:i ∈ l:=by
    rcases List.mem_cons.1 h with h|h
    ·exact absurd h.symm hai
    ·exact h
   rw [List.filter_cons_of_pos (by simpa using hai)]
   exact ((filt_perm hil hn.2).cons a).trans (List.Perm.swap _ _ _)
theorem heldL_perm {l l':List Nat} {M:Nat→Pg} {bl:Nat→Nat} (h:l.Perm l'):(heldL l M bl).Perm (heldL l' M bl):=List.Perm.flatMap_right _ h
theorem XP {M:Nat→Pg} {bl:Nat→Nat} {i:Nat} (hi:i<64) {h:H}:Hd M bl h↔Sep (pgH (M i) (bl i)++[HdX i M bl]) h:=by
 have hp:(heldL (List.range 64) M bl).Perm (pgH (M i) (bl i)++heldL ((List.range 64).filter fun j=>j != i) M bl):=heldL_perm (filt_perm (List.mem_range.2 hi) List.nodup_range)
 constructor
 ·intro hh
  obtain ⟨h1,h2,d,s1,s2,ha,hb⟩:=YN (Sep.perm hp hh)
  exact YI d s1 s2 ha ⟨h2,emp,(fun _=>.inr rfl),Sub.refl _,(fun _ _ e=>by cases e),hb,trivial⟩
 ·intro hh
  obtain ⟨h1,h2,d,s1,s2,ha,k1,k2,_,t1,_,hb,_⟩:=YN hh
  exact Sep.perm hp.symm (YI d s1 s2 ha (Sep.sub hb t1))
section
variable {M:Nat→Pg} {bl:Nat→Nat}
theorem k_hd {i:Nat} {bs:List UInt8} {c:Bool} (hi:i<64) (hm:M i = .h bs c) (t:Wk n C k Q E F (Hld (bl i) bs::HdX i M bl::R0)) (hs:Sel (Hd M bl) R R0:=by (repeat (first|exact Sel.here|apply Sel.there));first|done|fail):Wk n C k Q E F R:=
 Ye (X:=Unit) (Lx:=fun _=>[Hld (bl i) bs,HdX i M bl]) (p:=fun _=>True) hs (fun h hh=>⟨(),trivial,by have:=(XP hi).1 hh;rw [hm] at this;exact this⟩) (fun _ _=>t)
theorem k_hd' {i b:Nat} {bs:List UInt8} (c:Bool) (hi:i<64) (t:Wk n C k Q E F (Hd (up M i (.h bs c)) (up bl i b)::R0)) (hs:Sels [Hld b bs,HdX i M bl] R R0:=by (repeat (first|exact Sels.nil|exact Sel.here|apply Sel.there|apply Sels.cons));first|done|fail):Wk n C k Q E F R:=
 Zq (fun h hh=>(XP (M:=up M i (.h bs c)) (bl:=up bl i b) hi).2 (by rw [Xk,Xk,hdX_up];exact hh)) t hs
theorem k_hdN {i b:Nat} {bs:List UInt8} (c:Bool) (hi:i<64) (hu:pgH (M i) (bl i)=[]) (t:Wk n C k Q E F (Hd (up M i (.h bs c)) (up bl i b)::R0)) (hs:Sels [Hld b bs,Hd M bl] R R0:=by (repeat (first|exact Sels.nil|exact Sel.here|apply Sel.there|apply Sels.cons));first|done|fail):Wk n C k Q E F R:=
 Zq (fun h ⟨h1,h2,d,s1,s2,ha,k1,k2,_,t1,_,hb,_⟩=>(XP (M:=up M i (.h bs c)) (bl:=up bl i b) hi).2 (by
  rw [Xk,Xk,hdX_up]
  have h3:=(XP hi).1 hb
  rw [hu] at h3
  exact ⟨h1,k1,d.sub2 (Sub.refl _) t1,s1,t1.trans s2,ha,h3⟩)) t hs
theorem hd_none {i:Nat} (hi:i<64) (hu:pgH (M i) (bl i)=[]) (b:Nat):Hd (up M i .n) (up bl i b)=Hd M bl:=by
 funext h
 refine propext ⟨fun hh=>(XP hi).2 ?_,fun hh=>(XP hi).2 ?_⟩
 ·have:=(XP (M:=up M i .n) (bl:=up bl i b) hi).1 hh
  rw [Xk,hdX_up] at this
  rw [hu];exact this
 ·have:=(XP hi).1 hh
  rw [hu] at this
  rw [Xk,hdX_up];exact this
end
end Go.Proofs.YtgfohjbcccfolaaGreatDoor
