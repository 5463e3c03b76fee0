/-
  The contracts of a book's matters and Repair.
  The contracts of the model's check of consequences, of what is the same matter, of what is settled.
  Parts of slices, whatever lies in them: s[a:b], s[:b], s[a:], s[a:b:c].
  The contracts of the model's repair and of the comparison of decisions.
  Cells are moved within one owned block: append and copy where both slices lie in it, clear.
  The contracts of slices.Delete at consequences, and of a book's Answer.
  The contracts of what a book answers: its parts, copies, what is found, compensations.
  Merging in place by exchanges: what it does to a list. No program in sight.
  Merging in place by exchanges: rotations, the small cases, and blocks. No program in sight.
  Pivots: median of three, choosePivot. (replevin/output.Entry)
  The contracts of pdqsort at replevin/output.Entry, for windows of less than 50 elements.
  The contracts of the stable sort's exchanges and rotations, for outputs.
  The contract of the stable sort's merge in place, for outputs.
  The contract of the stable sort of outputs, for at most 80 of them.
  Reversal, sifting down. (replevin/output.Entry)
  Sorting by a heap. (replevin/output.Entry)
  Partitions. (replevin/output.Entry)
  Insertion that gives up. (replevin/output.Entry)
  pdqsort, whole. (replevin/output.Entry)
  The contract of slices.SortFunc at replevin/output.Entry, for at most 200 elements.
  The contract of a ledger's Waiting, for at most 20 outputs.
  The contract of slices.SortStableFunc at outputs, for at most 80 of them.
  The contract of a book's Ready.
  The contracts of the model's answer, compensations, left, sent.
  copy between parts of an owned slice.
  copy between parts of one owned slice, where the order is drawn.
  The contract of the model's ready, and of the comparison of outputs.
  From contracts to the statements' form: memory that was there stays; plain data read the same everywhere; the table of the kinds.
  Slices of plain data as arguments: the fact that they lie in memory, and that they read the same later.
  The settled world; arguments of plain types, opened.
  Structures that hold slices of plain data, and slices of them, in general.
  The arguments of the statements of layer 52: items, operations.
  Conditions: those that each theorem states.
-/
import Derived.Test.YtcjfciifhdfjkaaGreatDoorP4
import Derived.Test.YtcjfciifhdfjkaaGreatDoorP3
import Derived.Test.YtcjfciifhdfjkaaGreatDoorP1
import Derived.Test.YtcjfciifhdfjkaaGreatDoorP2
import Derived.Test.YtcjfciifhdfjkaaGreatDoorRows
import Derived.Test.YtcjfciifhdfjkaaGreatDoorCards
import Derived.Test.YtcjfciifhdfjkaaGreatDoorTie
import Derived.ChangeSame
import Derived.ProofKit
import Derived.OpenShut
import Derived.MakeChecks
import Derived.Deep.DeepHandedRow
set_option maxRecDepth 10000
namespace Go.Proofs.YtcjfciifhdfjkaaGreatDoor
open Go.RowKit Go.Proofs.Tryz
theorem knB_snoc (l:List Dc) (d:Dc):knB (l++[d])=mset (mtr d.c) true (knB l):=by
 unfold knB
 rw [List.foldl_append]
 rfl
theorem ZT {α:Type} {l:List α} {i:Nat} {e:α} (h:l[i]? = some e):l.take (i+1)=l.take i++[e]:=by rw [List.take_add_one,h];rfl
theorem matters_ok (b:Nat) (B:Bk) (hl:B.dn.length≤1000000):Enters 58∧Spec prog 58 #[.pointer (some ⟨b,0,none⟩)] [BkF bkT b B] [] ⟨Nat,fun r=>.map (some r),fun _=>True,fun _=>[],fun r=>[Mp mtv bv r (knB B.dn)]⟩:=by
 generalize b=bb at *
 refine ZE [_] func58 ntmps58 fun G w hp=>?_
 refine Ye fun q=>?_
 obtain ⟨rd,si,dn,op⟩:=B
 dsimp only at hl ⊢
 repeat' (first|refine ZC ?_|refine Yk VE bv (fun r1=>?_)|fail)
 refine Zj (X:={i:Nat // i≤dn.length}) (fun i=>[(3,.map (some r1)),(10,.slice q.1.1 dn.length q.1.2),(11,.int .i64 (dn.length:Int)),(12,.int .i64 (i.1:Int))]) (fun _=>[SlD q.1 dn]) (fun i=>[Mp mtv bv r1 (knB (dn.take i.1))]) (fun i=>dn.length - i.1) ⟨0,by omega⟩ ⟨rfl,rfl,rfl,rfl,trivial⟩ ?_
 rintro ⟨i,hi⟩
 dsimp only
 by_cases hlt:i<dn.length
 ·obtain ⟨e,he⟩:∃e,dn[i]? = some e:=⟨_,List.getElem?_eq_getElem hlt⟩
  have hk:knB (dn.take (i+1))=mset (mtr e.c) true (knB (dn.take i)):=by rw [ZT he,knB_snoc]
  have n1:=WC e.c
  repeat' (first|refine ZC ?_|refine ZH (fun b=>?_)|refine ZA (n1) (fun _ _=>?_)|refine ZU (es:=dn) i e he (fun b off=>?_)|refine ZQ ?_|refine Y2 VE (mtr e.c) true ?_|(refine ZB (fun hc=>?_) (fun hc=>?_)<;>(try simp at hc)<;>(try omega))|fail)
  rw [wrapi (z:=(i:Int)+1) (by omega) (by omega),←hk]
  exact ZJ ⟨i+1,by omega⟩ (by show dn.length - (i+1)<dn.length - i;omega) ⟨rfl,rfl,rfl,rfl,trivial⟩
 ·have e:dn.take i=dn:=List.take_of_length_le (by omega)
  rw [e]
  repeat' (first|refine ZC ?_|refine ZM ?_|(refine ZB (fun hc=>?_) (fun hc=>?_)<;>(try simp at hc)<;>(try omega))|fail)
  exact ZD r1 rfl trivial
structure RpX (l:List Ru) (rd at':Int) (dn:List Dc) (cs:List Cq) where
 i:Nat
 od:Option Addr
 cd:Nat
 oo:Option Addr
 co:Nat
 hi:i≤cs.length
def rpT (l:List Ru) (rd at':Int) (dn:List Dc) (cs:List Cq) (i:Nat):Rp:=(cs.take i).foldl (rpS l rd at') ⟨knB dn,[],[]⟩
theorem rpT_snoc {l:List Ru} {rd at':Int} {dn:List Dc} {cs:List Cq} {i:Nat} {c:Cq} (h:cs[i]? = some c):rpT l rd at' dn cs (i+1)=rpS l rd at' (rpT l rd at' dn cs i) c:=by
 unfold rpT
 rw [ZT h,List.foldl_append]
 rfl
theorem rpT_len (l:List Ru) (rd at':Int) (dn:List Dc) (cs:List Cq) (i:Nat) (hi:i≤cs.length):(rpT l rd at' dn cs i).d.length≤cs.length∧(rpT l rd at' dn cs i).o.length≤cs.length:=by
 have h:=rpF_len l rd at' (cs.take i) ⟨knB dn,[],[]⟩
 rw [List.length_take] at h
 simp only [List.length_nil] at h
 unfold rpT
 omega
theorem repair_bad (b:Nat) (B:Bk) (o:Option Addr) (cap:Nat) (cs:List Cq) (pr:Option Addr) (at':Int) (hl:cs.length≤100000) (hw:∀c ∈ cs,c.who.size≤1099511627776) (h0:rpE B cs at'≠0) :
  Enters 26∧Spec prog 26 #[.pointer (some ⟨b,0,none⟩),.slice o cs.length cap,.pointer pr,.int .i64 at'] [SlQ (o,cap) cs] [BkR bkT b B] ⟨Unit,fun _=>.tuple #[.slice none 0 0,.int .i64 (rpE B cs at')],fun _=>True,fun _=>[],fun _=>[BkR bkT b B]⟩:=by
 generalize b=bb at *
 generalize hr:rpE B cs at'=r at *
 unfold rpE at hr
 refine ZE [_,_,_,_] func26 ntmps26 fun G w hp=>?_
 repeat' (first|refine ZC ?_|fail)
 refine Zj (X:={i:Nat // i≤cs.length∧∀c ∈ cs.take i,qchk c=0}) (fun i=>[(0,.pointer (some ⟨bb,0,none⟩)),(3,.int .i64 at'),(22,.slice o cs.length cap),(23,.int .i64 (cs.length:Int)),(24,.int .i64 (i.1:Int))]) (fun _=>[SlQ (o,cap) cs]) (fun _=>[BkR bkT bb B]) (fun i=>cs.length - i.1) ⟨0,by omega,fun c h=>by cases h⟩ ⟨rfl,rfl,rfl,rfl,rfl,trivial⟩ ?_
 rintro ⟨i,hi,hq⟩
 dsimp only
 by_cases hlt:i<cs.length
 ·obtain ⟨e,he⟩:∃e,cs[i]? = some e:=⟨_,List.getElem?_eq_getElem hlt⟩
  have n1:=UR e (hw e (List.mem_of_getElem? he))
  by_cases hz:qchk e=0
  ·rw [hz] at n1
   repeat' (first|refine ZC ?_|refine ZH (fun b=>?_)|refine ZA (n1) (fun _ _=>?_)|refine ZU (es:=cs) i e he (fun b off=>?_)|refine ZQ ?_|(refine ZB (fun hc=>?_) (fun hc=>?_)<;>(try simp at hc)<;>(try omega))|fail)
   rw [wrapi (z:=(i:Int)+1) (by omega) (by omega)]
   exact ZJ ⟨i+1,by omega,fun c h=>by
    rw [ZT he] at h
    rcases List.mem_append.1 h with h|h
    ·exact hq c h
    ·rw [List.mem_singleton.1 h];exact hz⟩ (by show cs.length - (i+1)<cs.length - i;omega) ⟨rfl,rfl,rfl,rfl,rfl,trivial⟩
  ·have hf:fstQ cs=qchk e:=by
    have e1:cs=cs.take i++e::cs.drop (i+1):=by
     obtain ⟨h1,h2⟩:=List.getElem?_eq_some_iff.1 he
     rw [←h2,List.getElem_cons_drop,List.take_append_drop]
    unfold fstQ
    rw [e1,List.map_append,List.find?_append]
    have e2:((cs.take i).map qchk).find? (fun e=>decide (e≠0))=none:=List.find?_eq_none.2 fun x hx=>by
     obtain ⟨c,hc,rfl⟩:=List.mem_map.1 hx
     simp [hq c hc]
    rw [e2,List.map_cons,List.find?_cons_of_pos (by simpa using hz)]
    rfl
   rw [hf,if_pos hz] at hr
   repeat' (first|refine ZC ?_|refine ZH (fun b=>?_)|refine ZA (n1) (fun _ _=>?_)|refine ZU (es:=cs) i e he (fun b off=>?_)|refine ZQ ?_|(refine ZB (fun hc=>?_) (fun hc=>?_)<;>(try simp at hc)<;>(try omega))|fail)
   all_goals first
    | (exact absurd hc hz)
    | (subst hr;exact Zz (Z5 (Zg () rfl trivial)))
 ·have e:cs.take i=cs:=List.take_of_length_le (by omega)
  rw [e] at hq
  have hf:fstQ cs=0:=by
   unfold fstQ
   rw [List.find?_eq_none.2 fun x hx=>by
    obtain ⟨c,hc,rfl⟩:=List.mem_map.1 hx
    simp [hq c hc]]
   rfl
  rw [hf,if_neg (by simp)] at hr
  refine k_bk fun q=>?_
  obtain ⟨rd,si,dn,op⟩:=B
  dsimp only at hr ⊢
  repeat' (first|refine ZC ?_|refine ZM ?_|(refine ZG (fun hc=>?_) (fun hc=>?_)<;>(try simp at hc)<;>(try omega))|(refine ZB (fun hc=>?_) (fun hc=>?_)<;>(try simp at hc)<;>(try omega))|fail)
  all_goals first
   | (rw [if_pos (by omega)] at hr;subst hr;refine Y4 (B:=⟨rd,si,dn,op⟩) (T:=bkT) ?_ rfl rfl rfl rfl rfl rfl;exact ZD () rfl trivial)
   | (rw [if_neg (by omega),if_pos (by omega)] at hr;subst hr;refine Y4 (B:=⟨rd,si,dn,op⟩) (T:=bkT) ?_ rfl rfl rfl rfl rfl rfl;exact ZD () rfl trivial)
   | (rw [if_neg (by omega),if_neg (by omega)] at hr;exact absurd hr.symm h0)
set_option maxHeartbeats 4000000 in
theorem repair_ok (b:Nat) (B:Bk) (o:Option Addr) (cap:Nat) (cs:List Cq) (pr:Option Addr) (l:List Ru) (at':Int) (Fr:Pf) (hl:cs.length≤20000) (hn:B.dn.length≤80000) (hrd:0≤B.rd∧B.rd<1048576) (hw:∀c ∈ cs,c.who.size≤1099511627776) (h0:rpE B cs at'=0)
  (hD:∀c ∈ cs,Enters 59∧Spec prog 59 #[.pointer pr,cqa c] [Fr] [] (RetV (DeV (decideF l c)))) :
  Enters 26∧Spec prog 26 #[.pointer (some ⟨b,0,none⟩),.slice o cs.length cap,.pointer pr,.int .i64 at'] [SlQ (o,cap) cs,Fr] [BkR bkT b B]
   ⟨Option Addr×Nat,fun q=>.tuple #[.slice q.1 (rpL l (B.rd+1) at' B.dn cs).d.length q.2,.int .i64 0],fun _=>True,fun q=>[SlD q (rpL l (B.rd+1) at' B.dn cs).d],fun _=>[BkR bkT b (rpB B l cs at')]⟩:=by
 generalize b=bb at *
 obtain ⟨hq,ht,hs⟩:=Vm h0
 clear h0
 refine ZE [_,_,_,_] func26 ntmps26 fun G w hp=>?_
 refine k_bk fun q=>?_
 have nm:=matters_ok bb B (by omega)
 have nm2:=lendLE (L:=BkL bkT bb B q) (fun h hh=>bkL_f h hh) nm
 obtain ⟨rd,si,dn,op⟩:=B
 obtain ⟨⟨od,cd⟩,⟨oo,co⟩⟩:=q
 unfold rpB
 dsimp only at *
 repeat' (first|refine ZC ?_|fail)
 refine YD (X:={i:Nat // i≤cs.length}) (Y:=Unit) (fun i=>[(0,.pointer (some ⟨bb,0,none⟩)),(1,.slice o cs.length cap),(2,.pointer pr),(3,.int .i64 at'),(22,.slice o cs.length cap),(23,.int .i64 (cs.length:Int)),(24,.int .i64 (i.1:Int))]) (fun _=>[SlQ (o,cap) cs,Fr]) (fun _=>BkL bkT bb ⟨rd,si,dn,op⟩ ((od,cd),(oo,co))) (fun i=>cs.length - i.1)
  (fun _=>[(0,.pointer (some ⟨bb,0,none⟩)),(1,.slice o cs.length cap),(2,.pointer pr),(3,.int .i64 at')]) (fun _=>[SlQ (o,cap) cs,Fr]) (fun _=>BkL bkT bb ⟨rd,si,dn,op⟩ ((od,cd),(oo,co))) ⟨0,by omega⟩ ⟨rfl,rfl,rfl,rfl,rfl,rfl,rfl,trivial⟩ ?_ ?_
 ·rintro ⟨⟩
  repeat' (first|refine ZC ?_|refine ZA (nm2) (fun _ _=>?_)|(refine ZG (fun hc=>?_) (fun hc=>?_)<;>(try simp at hc)<;>(try omega))|(refine ZB (fun hc=>?_) (fun hc=>?_)<;>(try simp at hc)<;>(try omega))|fail)
  rename_i r1 _
  refine ZO (Lx:=[]) (r:=Row 44 19 none 0 0 []) (fun h _=>Zb _ _ h) ?_
  refine ZO (Lx:=[]) (r:=Row 40 14 none 0 0 []) (fun h _=>Zb _ _ h) ?_
  refine Zj (X:=RpX l (rd+1) at' dn cs) (fun x=>[(0,.pointer (some ⟨bb,0,none⟩)),(2,.pointer pr),(3,.int .i64 at'),(13,.slice x.od (rpT l (rd+1) at' dn cs x.i).d.length x.cd),(14,.slice x.oo (rpT l (rd+1) at' dn cs x.i).o.length x.co),(15,.map (some r1)),(53,.slice o cs.length cap),(54,.int .i64 (cs.length:Int)),(55,.int .i64 (x.i:Int))]) (fun _=>[SlQ (o,cap) cs,Fr])
   (fun x=>BkL bkT bb ⟨rd,si,dn,op⟩ ((od,cd),(oo,co))++[Mp mtv bv r1 (rpT l (rd+1) at' dn cs x.i).k,RowD (x.od,x.cd) (rpT l (rd+1) at' dn cs x.i).d,RowQ (x.oo,x.co) (rpT l (rd+1) at' dn cs x.i).o]) (fun x=>cs.length - x.i) ⟨0,none,0,none,0,by omega⟩ ⟨rfl,rfl,rfl,rfl,rfl,rfl,rfl,rfl,rfl,trivial⟩ ?_
  rintro ⟨i,xd,yd,xo,yo,hi⟩
  dsimp only
  obtain ⟨l1,l2⟩:=rpT_len l (rd+1) at' dn cs i hi
  by_cases hlt:i<cs.length
  ·obtain ⟨e,he⟩:∃e,cs[i]? = some e:=⟨_,List.getElem?_eq_getElem hlt⟩
   have hem:=List.mem_of_getElem? he
   have n1:=dcounts_ok e
   have n2:=WC e
   have n3:=hD e hem
   have hst:=rpT_snoc (l:=l) (rd:=rd+1) (at':=at') (dn:=dn) he
   have wr1:IntKind.i64.wrap (rd+1)=rd+1:=wrapi (by omega) (by omega)
   unfold rpS at hst
   generalize rpT l (rd+1) at' dn cs i=s at *
   generalize hz:(mget (mtr e) s.k).getD false=z at hst
   generalize hcn:cnts e=cn at n1 hst
   generalize hdd:decideF l e=y at n3 hst
   obtain ⟨⟨yk,yt⟩,yi⟩:=y
   dsimp only at hst
   by_cases hskip:cn=false∨z=true
   ·rw [if_pos hskip] at hst
    repeat' (first|refine ZC ?_|refine ZH (fun b=>?_)|refine ZA (n1) (fun _ _=>?_)|refine ZA (n2) (fun _ _=>?_)|refine ZU (es:=cs) i e he (fun b off=>?_)|refine ZQ ?_|refine l_mgetB VE (mtr e) z hz ?_|(refine ZG (fun hc=>?_) (fun hc=>?_)<;>(try simp at hc)<;>(try omega))|(refine ZB (fun hc=>?_) (fun hc=>?_)<;>(try simp at hc)<;>(try omega))|fail)
    all_goals first
     | (exfalso;simp_all;done)
     | (rw [wrapi (z:=(i:Int)+1) (by omega) (by omega)];subst hst;exact ZJ ⟨i+1,xd,yd,xo,yo,by omega⟩ (by show cs.length - (i+1)<cs.length - i;omega) ⟨rfl,rfl,rfl,rfl,rfl,rfl,rfl,rfl,rfl,trivial⟩)
   ·rw [if_neg hskip] at hst
    obtain ⟨hc1,hc2⟩:cn=true∧z=false:=by cases cn<;>cases z<;>simp_all
    subst hc1 hc2
    by_cases h5:yk=5
    ·rw [if_pos h5] at hst
     subst h5
     repeat' (first|refine ZC ?_|refine ZH (fun b=>?_)|refine ZA (n1) (fun _ _=>?_)|refine ZA (n2) (fun _ _=>?_)|refine ZA (n3) (fun _ _=>?_)|refine ZU (es:=cs) i e he (fun b off=>?_)|refine ZQ ?_|refine l_mgetB VE (mtr e) false hz ?_|refine Y2 VE (mtr e) true ?_|refine Zs (fun o' cap'=>?_)|(refine ZB (fun hc=>?_) (fun hc=>?_)<;>(try simp at hc)<;>(try omega))|fail)
     rename_i o' cap'
     rw [wrapi (z:=(i:Int)+1) (by omega) (by omega)]
     have k1:mset (mtr e) true s.k=(rpT l (rd+1) at' dn cs (i+1)).k:=by rw [hst]
     have k2:s.d=(rpT l (rd+1) at' dn cs (i+1)).d:=by rw [hst]
     have k3:s.o.flatMap cqf++cqf e=(rpT l (rd+1) at' dn cs (i+1)).o.flatMap cqf:=by rw [hst];simp
     have k4:s.o.length+1=(rpT l (rd+1) at' dn cs (i+1)).o.length:=by rw [hst];simp
     refine Zi (T:=40) (sz:=14) (o:=o') (cap:=cap') (m:=s.o.length+1) _ _ k4 k3 ?_
     rw [k1,k2,k4]
     exact ZJ ⟨i+1,xd,yd,o',cap',by omega⟩ (by show cs.length - (i+1)<cs.length - i;omega) ⟨rfl,rfl,rfl,rfl,rfl,rfl,rfl,rfl,rfl,trivial⟩
    ·rw [if_neg h5] at hst
     repeat' (first|refine ZC ?_|refine ZH (fun b=>?_)|refine ZA (n1) (fun _ _=>?_)|refine ZA (n2) (fun _ _=>?_)|refine ZA (n3) (fun _ _=>?_)|refine ZU (es:=cs) i e he (fun b off=>?_)|refine ZQ ?_|refine l_mgetB VE (mtr e) false hz ?_|refine Y2 VE (mtr e) true ?_|refine Xd (fun o' cap'=>?_)|rw [wr1]|refine ZI 27 [Row _ _ xd _ _ _] [(0,0),(1,0),(2,0),(3,0),(4,0),(5,0),(6,0),(7,0),(8,0),(9,0),(10,0),(11,1),(12,4),(13,0)] [] ?_|(refine ZB (fun hc=>?_) (fun hc=>?_)<;>(try simp at hc)<;>(try omega))|fail)
     rename_i o' cap'
     rw [wrapi (z:=(i:Int)+1) (by omega) (by omega)]
     have k1:mset (mtr e) true s.k=(rpT l (rd+1) at' dn cs (i+1)).k:=by rw [hst]
     have k2:s.o=(rpT l (rd+1) at' dn cs (i+1)).o:=by rw [hst]
     have k3:s.d.flatMap dcf++dcf ⟨rd+1,at',e,⟨yk,yt⟩,yi⟩=(rpT l (rd+1) at' dn cs (i+1)).d.flatMap dcf:=by rw [hst];simp
     have k4:s.d.length+1=(rpT l (rd+1) at' dn cs (i+1)).d.length:=by rw [hst];simp
     refine Zi (T:=44) (sz:=19) (o:=o') (cap:=cap') (m:=s.d.length+1) _ _ k4 k3 ?_
     rw [k1,k2,k4]
     exact ZJ ⟨i+1,o',cap',xo,yo,by omega⟩ (by show cs.length - (i+1)<cs.length - i;omega) ⟨rfl,rfl,rfl,rfl,rfl,rfl,rfl,rfl,rfl,trivial⟩
  ·have e:rpT l (rd+1) at' dn cs i=rpL l (rd+1) at' dn cs:=by
    unfold rpT rpL
    rw [List.take_of_length_le (by omega)]
   rw [e] at l1 l2 ⊢
   generalize rpL l (rd+1) at' dn cs=s at *
   refine YA (T:=44) (sz:=19) (f:=dcf) (o:=xd) (cap:=yd) s.d ?_ rfl rfl
   have wr1:IntKind.i64.wrap (rd+1)=rd+1:=wrapi (by omega) (by omega)
   have wr2:IntKind.i64.wrap ((dn.length:Int)+(s.d.length:Int))=(dn.length:Int)+(s.d.length:Int):=wrapi (by omega) (by omega)
   repeat' (first|refine ZC ?_|refine ZM ?_|rw [wr1]|rw [wr2]|refine l_appF (es:=s.d) (fun o' cap'=>?_)|(refine ZB (fun hc=>?_) (fun hc=>?_)<;>(try simp at hc)<;>(try omega))|fail)
   refine Y4 (B:=⟨rd+1,at',dn++s.d,s.o⟩) (T:=bkT) (m1:=dn.length+s.d.length) (xs:=dn.flatMap dcf++s.d.flatMap dcf) ?_ rfl rfl (by simp) (by simp) rfl rfl
   exact ZD (xd,yd) rfl trivial
 ·rintro hx ⟨i,hi⟩
  dsimp only
  by_cases hlt:i<cs.length
  ·obtain ⟨e,he⟩:∃e,cs[i]? = some e:=⟨_,List.getElem?_eq_getElem hlt⟩
   have hem:=List.mem_of_getElem? he
   have n1:=UR e (hw e hem)
   rw [hq e hem] at n1
   repeat' (first|refine ZC ?_|refine ZH (fun b=>?_)|refine ZA (n1) (fun _ _=>?_)|refine ZU (es:=cs) i e he (fun b off=>?_)|refine ZQ ?_|(refine ZB (fun hc=>?_) (fun hc=>?_)<;>(try simp at hc)<;>(try omega))|fail)
   rw [wrapi (z:=(i:Int)+1) (by omega) (by omega)]
   exact ZJ ⟨i+1,by omega⟩ (by show cs.length - (i+1)<cs.length - i;omega) ⟨rfl,rfl,rfl,rfl,rfl,rfl,rfl,trivial⟩
  ·repeat' (first|refine ZC ?_|(refine ZB (fun hc=>?_) (fun hc=>?_)<;>(try simp at hc)<;>(try omega))|fail)
   exact Z2 hx () ⟨rfl,rfl,rfl,rfl,trivial⟩
def q2a (c:Cq):Bool:=if c.kind=4 then decide (c.place = -1) else decide (0≤c.place∧c.place<100000)
def q2b (c:Cq):Bool:=if c.kind=4 then decide (c.old=Ou.z∧c.oldAt=0) else decide (ochk c.old=0)
theorem q2_ab (c:Cq):q2 c=(q2a c && q2b c):=by
 unfold q2 q2a q2b
 by_cases h:c.kind=4
 ·rw [if_pos h,if_pos h,if_pos h,Bool.eq_iff_iff];simp
 ·rw [if_neg h,if_neg h,if_neg h,Bool.eq_iff_iff];simp [and_assoc]
set_option maxHeartbeats 4000000 in
theorem Ue (c:Cq) (hw:c.who.size≤1099511627776):Enters 76∧Spec prog 76 #[cqa c] [] [] (RetV (.int .i64 (qchk c))):=by
 have n1:=Zt c.who hw
 have n4:=YK c.old
 have n5:=YK c.new
 obtain ⟨r1,hr1⟩:∃r,q1 c=r:=⟨_,rfl⟩
 have hq1:=hr1
 unfold q1 tkF at hq1
 obtain ⟨ra,hra⟩:∃r,q2a c=r:=⟨_,rfl⟩
 have hqa:=hra
 unfold q2a at hqa
 obtain ⟨rb,hrb⟩:∃r,q2b c=r:=⟨_,rfl⟩
 have hqb:=hrb
 unfold q2b at hqb
 obtain ⟨r3,hr3⟩:∃r,q3 c=r:=⟨_,rfl⟩
 have hq3:=hr3
 unfold q3 at hq3
 have hres:qchk c=if c.kind<1∨4<c.kind then 11 else if r1 && (ra && rb) && r3 then 0 else 3:=by
  unfold qchk
  rw [qok_q,q2_ab,hr1,hra,hrb,hr3]
 clear hr1 hra hrb hr3
 generalize lvalid c.who.data.toList=lv at *
 rw [hres]
 clear hres
 by_cases hk:c.kind<1∨4<c.kind
 ·rw [if_pos hk]
  refine ZE [_] func76 ntmps76 fun G w hp=>?_
  repeat' (first|refine ZC ?_|refine ZH (fun b=>?_)|(refine ZG (fun hc=>?_) (fun hc=>?_)<;>(try simp at hc)<;>(try omega))|(refine ZB (fun hc=>?_) (fun hc=>?_)<;>(try simp at hc)<;>(try omega))|fail)
  all_goals exact ZD () rfl trivial
 ·rw [if_neg hk]
  refine ZE [_] func76 ntmps76 fun G w hp=>?_
  refine XJ (Y:={y:Nat×Bool×Bool // r1=true∧y.2.1=decide (c.kind=4)∧y.2.2=decide (c.kind=2)}) 4 (fun y=>[(1,.pointer (some ⟨y.1.1,0,none⟩)),(3,.bool y.1.2.1),(4,.bool y.1.2.2)]) (fun _=>[]) (fun y=>[Pt y.1.1 (.cells (cqf c).toArray 40)]) ?_ ?_
  ·rintro ⟨⟨bc,z4,z2⟩,e1,e2,e3⟩
   dsimp only at e1 e2 e3 ⊢
   subst e2 e3
   refine XJ (Y:={u:Unit // ra=true}) 1 (fun _=>[(1,.pointer (some ⟨bc,0,none⟩)),(3,.bool (decide (c.kind=4))),(4,.bool (decide (c.kind=2)))]) (fun _=>[]) (fun y=>[Pt bc (.cells (cqf c).toArray 40)]) ?_ ?_
   ·rintro ⟨⟨⟩,e4⟩
    refine XJ (Y:={u:Unit // rb=true}) 1 (fun _=>[(1,.pointer (some ⟨bc,0,none⟩)),(4,.bool (decide (c.kind=2)))]) (fun _=>[]) (fun y=>[Pt bc (.cells (cqf c).toArray 40)]) ?_ ?_
    ·rintro ⟨⟨⟩,e5⟩
     clear n1 n4 hq1 hqa hqb
     repeat' (first|refine ZC ?_|refine ZA (n5) (fun _ _=>?_)|refine l_sneq (b:=decide (c.new=Ou.z)) ?_ (he:=eqO5 c.new Ou.z)|(refine ZG (fun hc=>?_) (fun hc=>?_)<;>(try simp at hc)<;>(try omega))|(refine ZB (fun hc=>?_) (fun hc=>?_)<;>(try simp at hc)<;>(try omega))|fail)
     all_goals (refine ZD () ?_ trivial;show Value.int _ _=Value.int _ _;congr 1;subst hq3;simp_all)
    ·intro hx
     clear n1 n5 hq1 hqa hq3
     repeat' (first|refine Wf ?_|refine k_to hx ⟨(),?_⟩ ⟨rfl,rfl,trivial⟩|refine ZC ?_|refine ZA (n4) (fun _ _=>?_)|refine l_sneq (b:=decide (c.old=Ou.z)) ?_ (he:=eqO5 c.old Ou.z)|(refine ZG (fun hc=>?_) (fun hc=>?_)<;>(try simp at hc)<;>(try omega))|(refine ZB (fun hc=>?_) (fun hc=>?_)<;>(try simp at hc)<;>(try omega))|fail)
     all_goals first
      | (refine ZD () ?_ trivial;show Value.int _ _=Value.int _ _;congr 1;clear hx;subst hqb;simp_all;done)
      | (clear hx;subst hqb;rw [Bool.eq_iff_iff];simp_all;done)
   ·intro hx
    clear n1 n4 n5 hq1 hqb hq3
    repeat' (first|refine Wf ?_|refine k_to hx ⟨(),?_⟩ ⟨rfl,rfl,rfl,trivial⟩|refine ZC ?_|(refine ZG (fun hc=>?_) (fun hc=>?_)<;>(try simp at hc)<;>(try omega))|(refine ZB (fun hc=>?_) (fun hc=>?_)<;>(try simp at hc)<;>(try omega))|fail)
    all_goals first
     | (refine ZD () ?_ trivial;show Value.int _ _=Value.int _ _;congr 1;have hf:ra=false:=(by clear hx;rw [←hqa,Bool.eq_false_iff];intro h;split at h<;>simp only [decide_eq_true_eq] at h<;>omega);rw [hf];simp;done)
     | (clear hx;rw [←hqa];split<;>exact decide_eq_true (by omega))
  ·intro hx
   clear n4 n5 hqa hqb hq3
   repeat' (first|refine Wf ?_|refine k_to hx ⟨(_,_,_),?_,rfl,rfl⟩ ⟨rfl,rfl,rfl,trivial⟩|refine ZC ?_|refine ZH (fun b=>?_)|refine ZA (n1) (fun _ _=>?_)|(refine ZG (fun hc=>?_) (fun hc=>?_)<;>(try simp at hc)<;>(try omega))|refine ZI 3 [] [(0,0),(1,0),(2,0),(3,0),(4,0),(5,0),(6,0),(7,0)] [] ?_|(refine ZB (fun hc=>?_) (fun hc=>?_)<;>(try simp at hc)<;>(try omega))|fail)
   all_goals first
    | (refine ZD () ?_ trivial;show Value.int _ _=Value.int _ _;congr 1;have hf:r1=false:=(by clear hx;rw [←hq1,Bool.eq_false_iff];intro h;simp only [Bool.and_eq_true,decide_eq_true_eq] at h;obtain ⟨⟨⟨h1,h2⟩,h3⟩,h4⟩:=h;first|omega|(simp_all;done));rw [hf];simp;done)
    | (clear hx;rw [←hq1];simp only [Bool.and_eq_true,decide_eq_true_eq];exact ⟨⟨⟨by assumption,by omega⟩,by omega⟩,by omega⟩)
set_option maxHeartbeats 2000000 in
theorem msame_ok (a b:Cq):Enters 102∧Spec prog 102 #[cqa a,cqa b] [] [] (RetV (.bool (sameQ a b))):=by
 generalize b=c at *
 generalize hr:sameQ a c=r
 unfold sameQ at hr
 have hO:=eqO5 a.new c.new
 generalize hz:decide (a.new=c.new)=z at hO
 by_cases hk:a.kind=4∨c.kind=4
 ·rw [if_pos hk] at hr
  by_cases hwho:a.who=c.who
  ·have bw:=beqT hwho
   refine ZE [_,_] func102 ntmps102 fun G w hp=>?_
   repeat' (first|refine ZC ?_|refine ZH (fun b=>?_)|rw [bw]|refine l_seq (b:=z) ?_ (he:=hO)|(refine ZG (fun hc=>?_) (fun hc=>?_)<;>(try simp at hc)<;>(try omega))|(refine ZB (fun hc=>?_) (fun hc=>?_)<;>(try simp at hc)<;>(try omega))|fail)
   all_goals first
    | (refine ZD () ?_ trivial;subst hr;show Value.bool _=Value.bool _;congr 1;simp_all;done)
    | (exfalso;omega)
  ·have bw:=beqF hwho
   refine ZE [_,_] func102 ntmps102 fun G w hp=>?_
   repeat' (first|refine ZC ?_|refine ZH (fun b=>?_)|rw [bw]|(refine ZG (fun hc=>?_) (fun hc=>?_)<;>(try simp at hc)<;>(try omega))|(refine ZB (fun hc=>?_) (fun hc=>?_)<;>(try simp at hc)<;>(try omega))|fail)
   all_goals first
    | (refine ZD () ?_ trivial;subst hr;show Value.bool _=Value.bool _;congr 1;simp_all;done)
    | (exfalso;omega)
 ·rw [if_neg hk] at hr
  refine ZE [_,_] func102 ntmps102 fun G w hp=>?_
  repeat' (first|refine ZC ?_|refine ZH (fun b=>?_)|(refine ZG (fun hc=>?_) (fun hc=>?_)<;>(try simp at hc)<;>(try omega))|(refine ZB (fun hc=>?_) (fun hc=>?_)<;>(try simp at hc)<;>(try omega))|fail)
  all_goals (refine ZD () ?_ trivial;subst hr;show Value.bool _=Value.bool _;congr 1)
set_option maxHeartbeats 4000000 in
theorem msettled_ok (b:Nat) (B:Bk) (c:Cq) (hl:B.dn.length≤1000000) (hm:B.op.length≤1000000):Enters 78∧Spec prog 78 #[.pointer (some ⟨b,0,none⟩),cqa c] [BkF moT b B] [] (RetV (.bool (setl B.dn B.op c))):=by
 generalize b=bb at *
 obtain ⟨rd,si,dn,op⟩:=B
 dsimp only at hl hm ⊢
 generalize hr:setl dn op c=r
 unfold setl at hr
 refine ZE [_,_] func78 ntmps78 fun G w hp=>?_
 refine Ye fun q=>?_
 repeat' (first|refine ZC ?_|refine ZH (fun b=>?_)|fail)
 generalize b=bc
 refine YD (X:={i:Nat // i≤dn.length∧(dn.take i).any (fun d=>sameQ d.c c)=false}) (Y:={u:Unit // dn.any (fun d=>sameQ d.c c)=false})
  (fun i=>[(0,.pointer (some ⟨bb,0,none⟩)),(3,.pointer (some ⟨bc,0,none⟩)),(5,.int .i64 (i.1:Int))]) (fun _=>[Blk bb (.cells #[.int .i64 rd,.int .i64 si,.slice q.1.1 dn.length q.1.2,.slice q.2.1 op.length q.2.2] moT),SlD q.1 dn,SlQ q.2 op]) (fun _=>[Pt bc (.cells (cqf c).toArray 40)]) (fun i=>dn.length - i.1)
  (fun i=>[(0,.pointer (some ⟨bb,0,none⟩)),(3,.pointer (some ⟨bc,0,none⟩))]) (fun _=>[Blk bb (.cells #[.int .i64 rd,.int .i64 si,.slice q.1.1 dn.length q.1.2,.slice q.2.1 op.length q.2.2] moT),SlD q.1 dn,SlQ q.2 op]) (fun _=>[Pt bc (.cells (cqf c).toArray 40)])
  ⟨0,Nat.zero_le _,by simp⟩ ⟨rfl,rfl,rfl,trivial⟩ ?_ ?_
 ·rintro ⟨⟨⟩,h0⟩
  rw [h0,Bool.false_or] at hr
  repeat' (first|refine ZC ?_|fail)
  refine Zj (X:={i:Nat // i≤op.length∧(op.take i).any (fun x=>sameQ x c)=false}) (fun i=>[(0,.pointer (some ⟨bb,0,none⟩)),(3,.pointer (some ⟨bc,0,none⟩)),(6,.int .i64 (i.1:Int))]) (fun _=>[Blk bb (.cells #[.int .i64 rd,.int .i64 si,.slice q.1.1 dn.length q.1.2,.slice q.2.1 op.length q.2.2] moT),SlQ q.2 op]) (fun _=>[Pt bc (.cells (cqf c).toArray 40)]) (fun i=>op.length - i.1) ⟨0,Nat.zero_le _,by simp⟩ ⟨rfl,rfl,rfl,trivial⟩ ?_
  rintro ⟨i,hi,hp⟩
  dsimp only
  by_cases hlt:i<op.length
  ·obtain ⟨e,he⟩:∃e,op[i]? = some e:=⟨_,List.getElem?_eq_getElem hlt⟩
   have n1:=msame_ok e c
   cases hz:sameQ e c with
   | true=>
    rw [hz] at n1
    have hy:op.any (fun x=>sameQ x c)=true:=List.any_eq_true.2 ⟨e,List.mem_of_getElem? he,hz⟩
    rw [hy] at hr
    subst hr
    repeat' (first|refine ZC ?_|refine ZK (n1) (fun _ _=>?_)|refine Zo (es:=op) i e he (fun b off=>?_)|refine YE ?_|refine ZI 9 [] [(0,0),(1,0),(2,0),(3,0),(4,0),(5,0),(6,0),(7,0),(8,4)] [] ?_|(refine ZB (fun hc=>?_) (fun hc=>?_)<;>(try simp at hc)<;>(try omega))|fail)
    exact Zz (Z5 (Zg () rfl trivial))
   | false=>
    rw [hz] at n1
    repeat' (first|refine ZC ?_|refine ZK (n1) (fun _ _=>?_)|refine Zo (es:=op) i e he (fun b off=>?_)|refine YE ?_|refine ZI 9 [] [(0,0),(1,0),(2,0),(3,0),(4,0),(5,0),(6,0),(7,0),(8,4)] [] ?_|(refine ZB (fun hc=>?_) (fun hc=>?_)<;>(try simp at hc)<;>(try omega))|fail)
    rw [wrapi (z:=(i:Int)+1) (by omega) (by omega)]
    exact ZJ ⟨i+1,by omega,by rw [ZT he,List.any_append,hp];simp [hz]⟩ (by show op.length - (i+1)<op.length - i;omega) ⟨rfl,rfl,rfl,trivial⟩
  ·rw [List.take_of_length_le (by omega)] at hp
   rw [hp] at hr
   subst hr
   repeat' (first|refine ZC ?_|refine ZM ?_|(refine ZB (fun hc=>?_) (fun hc=>?_)<;>(try simp at hc)<;>(try omega))|fail)
   exact ZD () rfl trivial
 ·rintro hx ⟨i,hi,hp⟩
  dsimp only
  by_cases hlt:i<dn.length
  ·obtain ⟨e,he⟩:∃e,dn[i]? = some e:=⟨_,List.getElem?_eq_getElem hlt⟩
   have n1:=msame_ok e.c c
   cases hz:sameQ e.c c with
   | true=>
    rw [hz] at n1
    have hy:dn.any (fun d=>sameQ d.c c)=true:=List.any_eq_true.2 ⟨e,List.mem_of_getElem? he,hz⟩
    rw [hy,Bool.true_or] at hr
    subst hr
    repeat' (first|refine ZC ?_|refine ZK (n1) (fun _ _=>?_)|refine Zo (es:=dn) i e he (fun b off=>?_)|refine YE ?_|refine ZI 4 [] [(0,0),(1,0),(2,0),(3,0),(4,0),(5,0),(6,0),(7,0),(8,0),(9,4)] [] ?_|(refine ZB (fun hc=>?_) (fun hc=>?_)<;>(try simp at hc)<;>(try omega))|fail)
    exact Zz (Z5 (Zg () rfl trivial))
   | false=>
    rw [hz] at n1
    repeat' (first|refine ZC ?_|refine ZK (n1) (fun _ _=>?_)|refine Zo (es:=dn) i e he (fun b off=>?_)|refine YE ?_|refine ZI 4 [] [(0,0),(1,0),(2,0),(3,0),(4,0),(5,0),(6,0),(7,0),(8,0),(9,4)] [] ?_|(refine ZB (fun hc=>?_) (fun hc=>?_)<;>(try simp at hc)<;>(try omega))|fail)
    rw [wrapi (z:=(i:Int)+1) (by omega) (by omega)]
    exact ZJ ⟨i+1,by omega,by rw [ZT he,List.any_append,hp];simp [hz]⟩ (by show dn.length - (i+1)<dn.length - i;omega) ⟨rfl,rfl,rfl,trivial⟩
  ·rw [List.take_of_length_le (by omega)] at hp
   repeat' (first|refine ZC ?_|(refine ZB (fun hc=>?_) (fun hc=>?_)<;>(try simp at hc)<;>(try omega))|fail)
   exact Z2 hx ⟨(),hp⟩ ⟨rfl,rfl,trivial⟩
variable {n:Nat} {C:Cx} {Q:Exit→Act→World→Prop} {E E':List (Nat×Value)} {F F' F1 Fs F0:List Pf} {R R' R0 Rs N N' A:List HP} {k k':List Fr} {ops l:List Oper} {L L':List (Nat×Nat)} {Tl:List Nat} {i d:Nat} {t ty0:TypeId} {x y:Operand} {pos:String} {aft:Array Edge} {gd:Option (Nat×Bool)} {m:Nat}
section
variable {y1 y2 y3:Operand} {T cap:Nat} {o:Option Addr} {z1 z2 z3:Int} {rs tr:TRow}
def slVd (o:Option Addr) (sz lo hi mx:Nat):Value:=.slice (if mx=lo then o else o.map (·.add (lo * sz))) (hi - lo) (mx - lo)
theorem slVd_b {b off sz lo hi mx:Nat} (h:lo<mx):slVd (some ⟨b,off,none⟩) sz lo hi mx = .slice (some ⟨b,off+lo * sz,none⟩) (hi - lo) (mx - lo):=by
 unfold slVd
 rw [if_neg (by omega),Option.map_some,Yu rfl]
theorem slVd_0 {o:Option Addr} {sz hi mx:Nat}:slVd o sz 0 hi mx = .slice o hi mx:=by
 unfold slVd
 split
 ·rfl
 ·rename_i h
  rcases o with _|⟨b,off,sp⟩
  ·rfl
  ·rw [Nat.zero_mul]
   simp [Addr.add]
theorem slVd_e {o:Option Addr} {sz hi mx:Nat}:slVd o sz mx hi mx = .slice o (hi - mx) 0:=by
 unfold slVd
 rw [if_pos rfl,Nat.sub_self]
theorem l_sdABC {sz:Nat} (lo hi mx:Nat) (h1:lo≤hi) (h2:hi≤mx) (h3:mx≤cap) (v:Value) (hv:slVd o sz lo hi mx=v) (nx:Wl n C ops.toArray k Q l ((d,v)::E) F R)
  (hw:wantL ops E ⟨some d,.slice t x (some y1) (some y2) (some y3),ty0,pos,aft,gd⟩=some true:=by rfl) (hn:Nat.blt d n=true:=by rfl) (hx:ev E x=some (.slice o m cap):=by rfl) (hy1:ev E y1=some (.int .i64 z1):=by rfl) (hy2:ev E y2=some (.int .i64 z2):=by rfl) (hy3:ev E y3=some (.int .i64 z3):=by rfl) (hts:lookT tab t=some rs:=by rfl) (hrs:rs.k = .slice T:=by rfl) (hT:lookT tab T=some tr:=by rfl) (hsz:tr.size=sz:=by rfl) (hz1:z1=(lo:Int):=by first|rfl|omega) (hz2:z2=(hi:Int):=by first|rfl|omega) (hz3:z3=(mx:Int):=by first|rfl|omega):Wl n C ops.toArray k Q (⟨some d,.slice t x (some y1) (some y2) (some y3),ty0,pos,aft,gd⟩::l) E F R:=
 l_q (fun a w ha=>by
  subst hv hz1 hz2 hz3
  have hs1:=ZR.sizeOf hT w
  rw [hsz] at hs1
  have c3:(0:Int)≤(mx:Int)∧(mx:Int)≤(cap:Int):=⟨by omega,by omega⟩
  have c2:(0:Int)≤(hi:Int)∧(hi:Int)≤(mx:Int):=⟨by omega,by omega⟩
  have c1:(0:Int)≤(lo:Int)∧(lo:Int)≤(hi:Int):=⟨by omega,by omega⟩
  simp only [execOp,ha.ev (x:=x) (by rw [ZF];exact hx),ha.ev (x:=y1) (by rw [ZF];exact hy1),ha.ev (x:=y2) (by rw [ZF];exact hy2),ha.ev (x:=y3) (by rw [ZF];exact hy3),Option.map_some,Instr.sliceAt,Instr.slice,YG hts hrs,Instr.sliceBounds,Instr.sliceBound,asIntOf,Sem.run_bind,Result.andThen,Sem.run_pure,if_pos c1,if_pos c2,if_pos c3,hs1,Int.toNat_natCast]
  rfl) nx (by intro c h;cases h) hw hn
theorem l_sdAB {sz:Nat} (lo hi:Nat) (h1:lo≤hi) (h2:hi≤cap) (v:Value) (hv:slVd o sz lo hi cap=v) (nx:Wl n C ops.toArray k Q l ((d,v)::E) F R)
  (hw:wantL ops E ⟨some d,.slice t x (some y1) (some y2) none,ty0,pos,aft,gd⟩=some true:=by rfl) (hn:Nat.blt d n=true:=by rfl) (hx:ev E x=some (.slice o m cap):=by rfl) (hy1:ev E y1=some (.int .i64 z1):=by rfl) (hy2:ev E y2=some (.int .i64 z2):=by rfl) (hts:lookT tab t=some rs:=by rfl) (hrs:rs.k = .slice T:=by rfl) (hT:lookT tab T=some tr:=by rfl) (hsz:tr.size=sz:=by rfl) (hz1:z1=(lo:Int):=by first|rfl|omega) (hz2:z2=(hi:Int):=by first|rfl|omega):Wl n C ops.toArray k Q (⟨some d,.slice t x (some y1) (some y2) none,ty0,pos,aft,gd⟩::l) E F R:=
 l_q (fun a w ha=>by
  subst hv hz1 hz2
  have hs1:=ZR.sizeOf hT w
  rw [hsz] at hs1
  have c2:(0:Int)≤(hi:Int)∧(hi:Int)≤(cap:Int):=⟨by omega,by omega⟩
  have c1:(0:Int)≤(lo:Int)∧(lo:Int)≤(hi:Int):=⟨by omega,by omega⟩
  simp only [execOp,ha.ev (x:=x) (by rw [ZF];exact hx),ha.ev (x:=y1) (by rw [ZF];exact hy1),ha.ev (x:=y2) (by rw [ZF];exact hy2),Option.map_some,Option.map_none,Instr.sliceAt,Instr.slice,YG hts hrs,Instr.sliceBounds,Instr.sliceBound,asIntOf,Sem.run_bind,Result.andThen,Sem.run_pure,if_pos c1,if_pos c2,hs1,Int.toNat_natCast]
  rfl) nx (by intro c h;cases h) hw hn
theorem r_sdB {sz:Nat} (hi:Nat) (h2:hi≤cap) (v:Value) (hv:slVd o sz 0 hi cap=v) (nx:Wr n C ops k Q Tl Fs R L ((d,v)::E) F N)
  (ho:nth ops i=some ⟨some d,.slice t x none (some y2) none,ty0,pos,aft,gd⟩:=by rfl) (hw:wantL ops E ⟨some d,.slice t x none (some y2) none,ty0,pos,aft,gd⟩=some true:=by rfl) (hx:ev E x=some (.slice o m cap):=by rfl) (hy2:ev E y2=some (.int .i64 z2):=by rfl) (hts:lookT tab t=some rs:=by rfl) (hrs:rs.k = .slice T:=by rfl) (hT:lookT tab T=some tr:=by rfl) (hsz:tr.size=sz:=by rfl) (hz2:z2=(hi:Int):=by first|rfl|omega):Wr n C ops k Q Tl Fs R ((i,0)::L) E F N:=
 r_q (fun a w ha=>by
  subst hv hz2
  have hs1:=ZR.sizeOf hT w
  rw [hsz] at hs1
  have c2:(0:Int)≤(hi:Int)∧(hi:Int)≤(cap:Int):=⟨by omega,by omega⟩
  simp only [execOp,ha.ev (x:=x) (by rw [ZF];exact hx),ha.ev (x:=y2) (by rw [ZF];exact hy2),Option.map_some,Option.map_none,Instr.sliceAt,Instr.slice,YG hts hrs,Instr.sliceBounds,Instr.sliceBound,asIntOf,Sem.run_bind,Result.andThen,Sem.run_pure,if_pos c2,hs1,Int.toNat_natCast]
  rfl) nx ho hw
theorem l_sdA {sz:Nat} (lo:Nat) (h1:lo≤m) (v:Value) (hv:slVd o sz lo m cap=v) (nx:Wl n C ops.toArray k Q l ((d,v)::E) F R)
  (hw:wantL ops E ⟨some d,.slice t x (some y1) none none,ty0,pos,aft,gd⟩=some true:=by rfl) (hn:Nat.blt d n=true:=by rfl) (hx:ev E x=some (.slice o m cap):=by rfl) (hy1:ev E y1=some (.int .i64 z1):=by rfl) (hts:lookT tab t=some rs:=by rfl) (hrs:rs.k = .slice T:=by rfl) (hT:lookT tab T=some tr:=by rfl) (hsz:tr.size=sz:=by rfl) (hz1:z1=(lo:Int):=by first|rfl|omega):Wl n C ops.toArray k Q (⟨some d,.slice t x (some y1) none none,ty0,pos,aft,gd⟩::l) E F R:=
 l_q (fun a w ha=>by
  subst hv hz1
  have hs1:=ZR.sizeOf hT w
  rw [hsz] at hs1
  have c1:(0:Int)≤(lo:Int)∧(lo:Int)≤(m:Int):=⟨by omega,by omega⟩
  simp only [execOp,ha.ev (x:=x) (by rw [ZF];exact hx),ha.ev (x:=y1) (by rw [ZF];exact hy1),Option.map_some,Option.map_none,Instr.sliceAt,Instr.slice,YG hts hrs,Instr.sliceBounds,Instr.sliceBound,asIntOf,Sem.run_bind,Result.andThen,Sem.run_pure,if_pos c1,hs1,Int.toNat_natCast]
  rfl) nx (by intro c h;cases h) hw hn
theorem r_sdA {sz:Nat} (lo:Nat) (h1:lo≤m) (v:Value) (hv:slVd o sz lo m cap=v) (nx:Wr n C ops k Q Tl Fs R L ((d,v)::E) F N)
  (ho:nth ops i=some ⟨some d,.slice t x (some y1) none none,ty0,pos,aft,gd⟩:=by rfl) (hw:wantL ops E ⟨some d,.slice t x (some y1) none none,ty0,pos,aft,gd⟩=some true:=by rfl) (hx:ev E x=some (.slice o m cap):=by rfl) (hy1:ev E y1=some (.int .i64 z1):=by rfl) (hts:lookT tab t=some rs:=by rfl) (hrs:rs.k = .slice T:=by rfl) (hT:lookT tab T=some tr:=by rfl) (hsz:tr.size=sz:=by rfl) (hz1:z1=(lo:Int):=by first|rfl|omega):Wr n C ops k Q Tl Fs R ((i,0)::L) E F N:=
 r_q (fun a w ha=>by
  subst hv hz1
  have hs1:=ZR.sizeOf hT w
  rw [hsz] at hs1
  have c1:(0:Int)≤(lo:Int)∧(lo:Int)≤(m:Int):=⟨by omega,by omega⟩
  simp only [execOp,ha.ev (x:=x) (by rw [ZF];exact hx),ha.ev (x:=y1) (by rw [ZF];exact hy1),Option.map_some,Option.map_none,Instr.sliceAt,Instr.slice,YG hts hrs,Instr.sliceBounds,Instr.sliceBound,asIntOf,Sem.run_bind,Result.andThen,Sem.run_pure,if_pos c1,hs1,Int.toNat_natCast]
  rfl) nx ho hw
end
abbrev slO (o:Option Addr) (cap sz lo:Nat):Option Addr:=if cap=lo then o else o.map (·.add (lo * sz))
theorem row_slD {α:Type} {T sz lo:Nat} {f:α→List Value} (hf:∀e,(f e).length=sz) {o:Option Addr} {cap:Nat} {es:List α} (hlo:lo≤es.length) {h:H} (hh:Row T sz o es.length cap (es.flatMap f) h):(Sl T f (slO o cap sz lo) (cap - lo) (es.drop lo)).p h:=by
 rcases hh with ⟨rfl,h3,rfl,h4⟩|⟨bb,rest,fz,rfl,hb,hxl,hcl,hmc,hfz⟩
 ·have h5:es=[]:=List.eq_nil_of_length_eq_zero h3
  subst h5
  exact ⟨by simp,.inl (by simp)⟩
 ·refine ⟨by rw [List.length_drop];omega,?_⟩
  by_cases he:es.drop lo=[]
  ·exact .inl he
  ·right
   have hlt:lo<es.length:=by
    rcases Nat.lt_or_ge lo es.length with h|h
    ·exact h
    ·exact absurd (List.drop_eq_nil_of_le h) he
   have hpl:((es.take lo).flatMap f).length=lo * sz:=by rw [Za hf,List.length_take];congr 1;omega
   refine ⟨bb,_,(T,fz),(es.take lo).flatMap f,rest,?_,hb,?_⟩
   ·unfold slO
    rw [if_neg (by omega),Option.map_some,Yu rfl,Nat.zero_add,hpl]
   ·have e:es.flatMap f=(es.take lo).flatMap f++(es.drop lo).flatMap f:=by rw [←List.flatMap_append,List.take_append_drop]
    rw [e];simp
theorem sameDec_ok (o1 o2:Option Addr) (c1 c2:Nat) (us ws:List Dc) (hl:us.length≤1000000) (hlb:ws.length≤1000000):Enters 49∧Spec prog 49 #[.slice o1 us.length c1,.slice o2 ws.length c2]
  [SlD (o1,c1) us,SlD (o2,c2) ws] [] (RetV (.bool (decide (us=ws)))):=by
 refine ZE [_,_] func49 ntmps49 fun G w hp=>?_
 by_cases hlen:us.length=ws.length
 ·repeat' (first|refine ZC ?_|(refine ZB (fun hc=>?_) (fun hc=>?_)<;>(try simp at hc)<;>(try omega))|fail)
  refine Zj (X:={i:Nat // i≤us.length∧pre_eP us ws i}) (fun i=>[(0,.slice o1 us.length c1),(1,.slice o2 ws.length c2),(5,.int .i64 (i.1:Int))]) (fun _=>[SlD (o1,c1) us,SlD (o2,c2) ws]) (fun _=>[]) (fun i=>us.length - i.1) ⟨0,by omega,fun j hj=>by omega⟩ ⟨rfl,rfl,rfl,trivial⟩ ?_
  rintro ⟨i,hi,hp⟩
  dsimp only
  by_cases hlt:i<us.length
  ·obtain ⟨x,hx⟩:∃x,us[i]? = some x:=⟨_,List.getElem?_eq_getElem hlt⟩
   obtain ⟨y,hy⟩:∃y,ws[i]? = some y:=⟨_,List.getElem?_eq_getElem (by omega)⟩
   have he:=eqD x y
   by_cases hxy:x=y
   ·rw [decide_eq_true hxy] at he
    repeat' (first|refine ZC ?_|refine Zo (es:=us) i x hx (fun b off=>?_)|refine Zo (es:=ws) i y hy (fun b off=>?_)|refine YE ?_|refine VI (b:=true) ?_ (he:=he)|refine ZI 6 [] [(0,0),(1,0),(2,0),(3,0),(4,0),(5,0),(6,0),(7,0),(8,0)] [] ?_|(refine ZB (fun hc=>?_) (fun hc=>?_)<;>(try simp at hc)<;>(try omega))|fail)
    rw [wrapi (z:=(i:Int)+1) (by omega) (by omega)]
    refine ZJ ⟨i+1,by omega,fun j hj=>?_⟩ (by show us.length - (i+1)<us.length - i;omega) ⟨rfl,rfl,rfl,trivial⟩
    by_cases hji:j=i
    ·subst hji;rw [hx,hy,hxy]
    ·exact hp j (by omega)
   ·rw [decide_eq_false hxy] at he
    have hne:decide (us=ws)=false:=decide_eq_false fun e=>hxy (by subst e;exact Option.some.inj (hx.symm.trans hy))
    rw [hne]
    repeat' (first|refine ZC ?_|refine Zo (es:=us) i x hx (fun b off=>?_)|refine Zo (es:=ws) i y hy (fun b off=>?_)|refine YE ?_|refine VI (b:=false) ?_ (he:=he)|refine ZI 6 [] [(0,0),(1,0),(2,0),(3,0),(4,0),(5,0),(6,0),(7,0),(8,0)] [] ?_|(refine ZB (fun hc=>?_) (fun hc=>?_)<;>(try simp at hc)<;>(try omega))|fail)
    exact Zz (Z5 (Zg () rfl trivial))
  ·obtain rfl:i=us.length:=by omega
   rw [decide_eq_true (eq_of_peP hlen hp)]
   repeat' (first|refine ZC ?_|refine ZM ?_|(refine ZB (fun hc=>?_) (fun hc=>?_)<;>(try simp at hc)<;>(try omega))|fail)
   exact ZD () rfl trivial
 ·have hne:decide (us=ws)=false:=decide_eq_false fun e=>hlen (by rw [e])
  rw [hne]
  repeat' (first|refine ZC ?_|(refine ZB (fun hc=>?_) (fun hc=>?_)<;>(try simp at hc)<;>(try omega))|fail)
  exact ZD () rfl trivial
def rmT (l:List Ru) (rd at':Int) (dn:List Dc) (cs:List Cq) (i:Nat):List Dc×List Cq:=(cs.take i).foldl (rpM l rd at') (dn,[])
theorem rmT_snoc {l:List Ru} {rd at':Int} {dn:List Dc} {cs:List Cq} {i:Nat} {c:Cq} (h:cs[i]? = some c):rmT l rd at' dn cs (i+1)=rpM l rd at' (rmT l rd at' dn cs i) c:=by
 unfold rmT
 rw [ZT h,List.foldl_append]
 rfl
theorem rmF_len (l:List Ru) (rd at':Int):∀(cs:List Cq) (s:List Dc×List Cq),(cs.foldl (rpM l rd at') s).1.length+(cs.foldl (rpM l rd at') s).2.length≤s.1.length+s.2.length+cs.length
 | [],_=>Nat.le_refl _
 | c::cs,s=>by
  have h:=rmF_len l rd at' cs (rpM l rd at' s c)
  have h2:(rpM l rd at' s c).1.length+(rpM l rd at' s c).2.length≤s.1.length+s.2.length+1:=by
   unfold rpM
   split
   ·omega
   ·split
    ·simp only [List.length_append,List.length_singleton];omega
    ·simp only [List.length_append,List.length_singleton];omega
  rw [List.foldl_cons,List.length_cons]
  omega
theorem rmT_len (l:List Ru) (rd at':Int) (dn:List Dc) (cs:List Cq) (i:Nat) (hi:i≤cs.length):(rmT l rd at' dn cs i).1.length≤dn.length+cs.length∧(rmT l rd at' dn cs i).2.length≤dn.length+cs.length:=by
 have h:=rmF_len l rd at' (cs.take i) (dn,[])
 rw [List.length_take] at h
 simp only [List.length_nil] at h
 unfold rmT
 omega
theorem rmT_all {B:Bk} (h:BkI B) (l:List Ru) (at':Int) {cs:List Cq} (hc:∀c ∈ cs,qchk c=0):rmT l (B.rd+1) at' B.dn cs cs.length=((rpB B l cs at').dn,(rpB B l cs at').op):=by
 have:=(rpL_ok l (B.rd+1) at' B.dn cs ⟨knB B.dn,[],[]⟩ (rpOK_nil fun d hd=>(h.dq d hd).1) hc).2
 unfold rmT rpB
 rw [List.take_length]
 simpa [rpL] using this
theorem mrepair_bad (b:Nat) (B:Bk) (o:Option Addr) (cap:Nat) (cs:List Cq) (pr:Option Addr) (at':Int) (hl:cs.length≤100000) (hw:∀c ∈ cs,c.who.size≤1099511627776) (h0:rpE B cs at'≠0) :
  Enters 48∧Spec prog 48 #[.pointer (some ⟨b,0,none⟩),.slice o cs.length cap,.pointer pr,.int .i64 at'] [SlQ (o,cap) cs] [BkR moT b B] ⟨Unit,fun _=>.tuple #[.slice none 0 0,.int .i64 (rpE B cs at')],fun _=>True,fun _=>[],fun _=>[BkR moT b B]⟩:=by
 generalize b=bb at *
 generalize hr:rpE B cs at'=r at *
 unfold rpE at hr
 refine ZE [_,_,_,_] func48 ntmps48 fun G w hp=>?_
 repeat' (first|refine ZC ?_|fail)
 refine Zj (X:={i:Nat // i≤cs.length∧∀c ∈ cs.take i,qchk c=0}) (fun i=>[(0,.pointer (some ⟨bb,0,none⟩)),(1,.slice o cs.length cap),(3,.int .i64 at'),(10,.int .i64 (i.1:Int))]) (fun _=>[SlQ (o,cap) cs]) (fun _=>[BkR moT bb B]) (fun i=>cs.length - i.1) ⟨0,by omega,fun c h=>by cases h⟩ ⟨rfl,rfl,rfl,rfl,trivial⟩ ?_
 rintro ⟨i,hi,hq⟩
 dsimp only
 by_cases hlt:i<cs.length
 ·obtain ⟨e,he⟩:∃e,cs[i]? = some e:=⟨_,List.getElem?_eq_getElem hlt⟩
  have n1:=Ue e (hw e (List.mem_of_getElem? he))
  by_cases hz:qchk e=0
  ·rw [hz] at n1
   repeat' (first|refine ZC ?_|refine ZA (n1) (fun _ _=>?_)|refine ZU (es:=cs) i e he (fun b off=>?_)|refine ZQ ?_|(refine ZB (fun hc=>?_) (fun hc=>?_)<;>(try simp at hc)<;>(try omega))|fail)
   rw [wrapi (z:=(i:Int)+1) (by omega) (by omega)]
   exact ZJ ⟨i+1,by omega,fun c h=>by
    rw [ZT he] at h
    rcases List.mem_append.1 h with h|h
    ·exact hq c h
    ·rw [List.mem_singleton.1 h];exact hz⟩ (by show cs.length - (i+1)<cs.length - i;omega) ⟨rfl,rfl,rfl,rfl,trivial⟩
  ·have hf:fstQ cs=qchk e:=by
    have e1:cs=cs.take i++e::cs.drop (i+1):=by
     obtain ⟨h1,h2⟩:=List.getElem?_eq_some_iff.1 he
     rw [←h2,List.getElem_cons_drop,List.take_append_drop]
    unfold fstQ
    rw [e1,List.map_append,List.find?_append]
    have e2:((cs.take i).map qchk).find? (fun e=>decide (e≠0))=none:=List.find?_eq_none.2 fun x hx=>by
     obtain ⟨c,hc,rfl⟩:=List.mem_map.1 hx
     simp [hq c hc]
    rw [e2,List.map_cons,List.find?_cons_of_pos (by simpa using hz)]
    rfl
   rw [hf,if_pos hz] at hr
   repeat' (first|refine ZC ?_|refine ZA (n1) (fun _ _=>?_)|refine ZU (es:=cs) i e he (fun b off=>?_)|refine ZQ ?_|(refine ZB (fun hc=>?_) (fun hc=>?_)<;>(try simp at hc)<;>(try omega))|fail)
   all_goals first
    | (exact absurd hc hz)
    | (subst hr;exact Zz (Z5 (Zg () rfl trivial)))
 ·have e:cs.take i=cs:=List.take_of_length_le (by omega)
  rw [e] at hq
  have hf:fstQ cs=0:=by
   unfold fstQ
   rw [List.find?_eq_none.2 fun x hx=>by
    obtain ⟨c,hc,rfl⟩:=List.mem_map.1 hx
    simp [hq c hc]]
   rfl
  rw [hf,if_neg (by simp)] at hr
  refine k_bk fun q=>?_
  obtain ⟨rd,si,dn,op⟩:=B
  dsimp only at hr ⊢
  by_cases h1:at'<0∨1073741824<at'
  ·rw [if_pos h1] at hr
   subst hr
   repeat' (first|refine ZC ?_|refine ZM ?_|(refine ZG (fun hc=>?_) (fun hc=>?_)<;>(try simp at hc)<;>(try omega))|(refine ZB (fun hc=>?_) (fun hc=>?_)<;>(try simp at hc)<;>(try omega))|fail)
   all_goals (refine Y4 (B:=⟨rd,si,dn,op⟩) (T:=moT) ?_ rfl rfl rfl rfl rfl rfl;exact ZD () rfl trivial)
  ·rw [if_neg h1] at hr
   by_cases h2:at'<si
   ·rw [if_pos h2] at hr
    subst hr
    repeat' (first|refine ZC ?_|refine ZM ?_|(refine ZG (fun hc=>?_) (fun hc=>?_)<;>(try simp at hc)<;>(try omega))|(refine ZB (fun hc=>?_) (fun hc=>?_)<;>(try simp at hc)<;>(try omega))|fail)
    all_goals (refine Y4 (B:=⟨rd,si,dn,op⟩) (T:=moT) ?_ rfl rfl rfl rfl rfl rfl;exact ZD () rfl trivial)
   ·rw [if_neg h2] at hr
    exact absurd hr.symm h0
section
theorem k_rle {T sz m cap:Nat} {o:Option Addr} {xs:List Value} (t:m≤cap→Wk n C k Q E F R) (hs:Sel (Row T sz o m cap xs) R R0:=by (repeat (first|exact Sel.here|apply Sel.there));first|done|fail):Wk n C k Q E F R:=fun a w ha hsat=>by
 obtain ⟨hp,hr,st⟩:=hsat.sel hs
 obtain ⟨h1,h2,dj,s1,s2,hrow,hR⟩:=st.r
 refine t ?_ a w ha hsat
 rcases hrow with ⟨_,h3,h4,_⟩|⟨_,_,_,_,_,_,_,hmc,_⟩
 ·omega
 ·exact hmc
end
structure RmX (cs:List Cq) where
 i:Nat
 hi:i≤cs.length
set_option maxHeartbeats 8000000 in
theorem mrepair_ok (b:Nat) (B:Bk) (hB:BkI B) (o:Option Addr) (cap:Nat) (cs:List Cq) (pr:Option Addr) (l:List Ru) (at':Int) (Fr:Pf) (hl:cs.length≤20000) (hn:B.dn.length≤80000) (hrd:B.rd<1048576) (hw:∀c ∈ cs,c.who.size≤1099511627776) (h0:rpE B cs at'=0)
  (hD:∀c ∈ cs,Enters 59∧Spec prog 59 #[.pointer pr,cqa c] [Fr] [] (RetV (DeV (decideF l c)))) :
  Enters 48∧Spec prog 48 #[.pointer (some ⟨b,0,none⟩),.slice o cs.length cap,.pointer pr,.int .i64 at'] [SlQ (o,cap) cs,Fr] [BkR moT b B]
   ⟨Bq,fun q=>.tuple #[slVd q.1.1 19 B.dn.length (rpB B l cs at').dn.length q.1.2,.int .i64 0],fun _=>True,fun _=>[],fun q=>BkL moT b (rpB B l cs at') q⟩:=by
 have hrd0:=hB.r0
 obtain ⟨hq,ht,hs⟩:=Vm h0
 have hall:=rmT_all hB l at' hq
 have hge:B.dn.length≤(rpB B l cs at').dn.length:=by
  show _≤(B.dn++_).length
  rw [List.length_append]
  exact Nat.le_add_right _ _
 generalize hB':rpB B l cs at'=B' at *
 have hB1:B'.rd=B.rd+1∧B'.si=at':=by rw [←hB'];exact ⟨rfl,rfl⟩
 clear hB' hB
 generalize b=bb at *
 clear h0
 refine ZE [_,_,_,_] func48 ntmps48 fun G w hp=>?_
 repeat' (first|refine ZC ?_|fail)
 refine YD (X:={i:Nat // i≤cs.length}) (Y:=Unit) (fun i=>[(0,.pointer (some ⟨bb,0,none⟩)),(1,.slice o cs.length cap),(2,.pointer pr),(3,.int .i64 at'),(10,.int .i64 (i.1:Int))]) (fun _=>[SlQ (o,cap) cs,Fr]) (fun _=>[BkR moT bb B]) (fun i=>cs.length - i.1)
  (fun _=>[(0,.pointer (some ⟨bb,0,none⟩)),(1,.slice o cs.length cap),(2,.pointer pr),(3,.int .i64 at')]) (fun _=>[SlQ (o,cap) cs,Fr]) (fun _=>[BkR moT bb B]) ⟨0,by omega⟩ ⟨rfl,rfl,rfl,rfl,rfl,trivial⟩ ?_ ?_
 ·rintro ⟨⟩
  refine k_bk fun q=>?_
  have wr1:IntKind.i64.wrap (B.rd+1)=B.rd+1:=wrapi (by omega) (by omega)
  obtain ⟨rd,si,dn,op⟩:=B
  obtain ⟨⟨od,cd⟩,⟨oo,co⟩⟩:=q
  dsimp only at *
  repeat' (first|refine ZC ?_|rw [wr1]|(refine ZG (fun hc=>?_) (fun hc=>?_)<;>(try simp at hc)<;>(try omega))|(refine ZB (fun hc=>?_) (fun hc=>?_)<;>(try simp at hc)<;>(try omega))|fail)
  refine ZO (Lx:=[]) (r:=Row 40 14 none 0 0 []) (fun h _=>Zb _ _ h) ?_
  refine Y4 (B:=⟨rd+1,at',dn,[]⟩) (T:=moT) (o:=od) (c1:=cd) (p:=none) (c2:=0) (m1:=dn.length) (m2:=0) (ys:=[]) ?_ rfl rfl rfl rfl rfl rfl
  refine Zj (X:=RmX cs) (fun x=>[(0,.pointer (some ⟨bb,0,none⟩)),(1,.slice o cs.length cap),(2,.pointer pr),(3,.int .i64 at'),(12,.int .i64 (dn.length:Int)),(13,.int .i64 (x.i:Int))]) (fun _=>[SlQ (o,cap) cs,Fr])
   (fun x=>[BkR moT bb ⟨rd+1,at',(rmT l (rd+1) at' dn cs x.i).1,(rmT l (rd+1) at' dn cs x.i).2⟩]) (fun x=>cs.length - x.i) ⟨0,by omega⟩ ⟨rfl,rfl,rfl,rfl,rfl,rfl,trivial⟩ ?_
  rintro ⟨i,hi⟩
  dsimp only
  obtain ⟨l1,l2⟩:=rmT_len l (rd+1) at' dn cs i hi
  by_cases hlt:i<cs.length
  ·obtain ⟨e,he⟩:∃e,cs[i]? = some e:=⟨_,List.getElem?_eq_getElem hlt⟩
   have hem:=List.mem_of_getElem? he
   have n1:=mcounts_ok e
   have n3:=hD e hem
   have hst:=rmT_snoc (l:=l) (rd:=rd+1) (at':=at') (dn:=dn) he
   unfold rpM at hst
   generalize rmT l (rd+1) at' dn cs i=s at *
   obtain ⟨sd,so⟩:=s
   dsimp only at hst l1 l2 ⊢
   have n2:=lendE (bk_f (T:=moT) (b:=bb) (B:=⟨rd+1,at',sd,so⟩)) (msettled_ok bb ⟨rd+1,at',sd,so⟩ e (by dsimp only;omega) (by dsimp only;omega))
   dsimp only at n2
   generalize hz:setl sd so e=z at n2 hst
   generalize hcn:cnts e=cn at n1 hst
   generalize hdd:decideF l e=y at n3 hst
   obtain ⟨⟨yk,yt⟩,yi⟩:=y
   dsimp only at hst
   by_cases hskip:cn=false∨z=true
   ·rw [if_pos hskip] at hst
    repeat' (first|refine ZC ?_|refine ZH (fun b=>?_)|refine ZA (n1) (fun _ _=>?_)|refine ZA (n2) (fun _ _=>?_)|refine ZU (es:=cs) i e he (fun b off=>?_)|refine ZQ ?_|(refine ZG (fun hc=>?_) (fun hc=>?_)<;>(try simp at hc)<;>(try omega))|(refine ZB (fun hc=>?_) (fun hc=>?_)<;>(try simp at hc)<;>(try omega))|fail)
    all_goals first
     | (exfalso;simp_all;done)
     | (rw [wrapi (z:=(i:Int)+1) (by omega) (by omega)];rw [show sd=(rmT l (rd+1) at' dn cs (i+1)).1 by rw [hst],show so=(rmT l (rd+1) at' dn cs (i+1)).2 by rw [hst]];exact ZJ ⟨i+1,by omega⟩ (by show cs.length - (i+1)<cs.length - i;omega) ⟨rfl,rfl,rfl,rfl,rfl,rfl,trivial⟩)
   ·rw [if_neg hskip] at hst
    obtain ⟨hc1,hc2⟩:cn=true∧z=false:=by cases cn<;>cases z<;>simp_all
    subst hc1 hc2
    by_cases h5:yk=5
    ·rw [if_pos h5] at hst
     subst h5
     repeat' (first|refine ZC ?_|refine ZH (fun b=>?_)|refine ZA (n1) (fun _ _=>?_)|refine ZA (n2) (fun _ _=>?_)|refine ZA (n3) (fun _ _=>?_)|refine ZU (es:=cs) i e he (fun b off=>?_)|refine ZQ ?_|(refine ZB (fun hc=>?_) (fun hc=>?_)<;>(try simp at hc)<;>(try omega))|fail)
     refine k_bk fun q=>?_
     obtain ⟨⟨xd,yd⟩,⟨xo,yo⟩⟩:=q
     dsimp only [BkL]
     repeat' (first|refine ZC ?_|refine ZH (fun b=>?_)|refine Xd (fun o' cap'=>?_)|refine r_up ?_|refine ZI 20 [Pt bb _,Row 40 _ _ _ _ _] [(0,0),(1,0),(2,0),(3,0),(4,3),(5,3),(6,1),(7,4),(8,0),(9,0)] [10] ?_|fail)
     rename_i o' cap'
     rw [wrapi (z:=(i:Int)+1) (by omega) (by omega)]
     refine Y4 (B:=⟨rd+1,at',(rmT l (rd+1) at' dn cs (i+1)).1,(rmT l (rd+1) at' dn cs (i+1)).2⟩) (T:=moT) (m1:=sd.length) (xs:=sd.flatMap dcf) (m2:=so.length+1) (ys:=so.flatMap cqf++cqf e) ?_ rfl rfl (by rw [hst]) (by rw [hst]) (by rw [hst];simp) (by rw [hst];simp)
     exact ZJ ⟨i+1,by omega⟩ (by show cs.length - (i+1)<cs.length - i;omega) ⟨rfl,rfl,rfl,rfl,rfl,rfl,trivial⟩
    ·rw [if_neg h5] at hst
     repeat' (first|refine ZC ?_|refine ZH (fun b=>?_)|refine ZA (n1) (fun _ _=>?_)|refine ZA (n2) (fun _ _=>?_)|refine ZA (n3) (fun _ _=>?_)|refine ZU (es:=cs) i e he (fun b off=>?_)|refine ZQ ?_|(refine ZB (fun hc=>?_) (fun hc=>?_)<;>(try simp at hc)<;>(try omega))|fail)
     refine k_bk fun q=>?_
     obtain ⟨⟨xd,yd⟩,⟨xo,yo⟩⟩:=q
     dsimp only [BkL]
     repeat' (first|refine ZC ?_|refine ZH (fun b=>?_)|refine Xd (fun o' cap'=>?_)|refine r_up ?_|refine ZI 21 [Pt bb _,Row 44 _ _ _ _ _] [(0,0),(1,0),(2,0),(3,0),(5,0),(6,0),(7,0),(9,0),(12,0),(4,3),(8,3),(10,3),(11,3),(13,0),(14,1),(15,4),(16,0),(17,0)] [18] ?_|fail)
     rename_i o' cap'
     rw [wrapi (z:=(i:Int)+1) (by omega) (by omega)]
     refine Y4 (B:=⟨rd+1,at',(rmT l (rd+1) at' dn cs (i+1)).1,(rmT l (rd+1) at' dn cs (i+1)).2⟩) (T:=moT) (m1:=sd.length+1) (xs:=sd.flatMap dcf++dcf ⟨rd+1,at',e,⟨yk,yt⟩,yi⟩) (m2:=so.length) (ys:=so.flatMap cqf) ?_ rfl rfl (by rw [hst];simp) (by rw [hst];simp) (by rw [hst]) (by rw [hst])
     exact ZJ ⟨i+1,by omega⟩ (by show cs.length - (i+1)<cs.length - i;omega) ⟨rfl,rfl,rfl,rfl,rfl,rfl,trivial⟩
  ·obtain rfl:i=cs.length:=by omega
   rw [hall]
   dsimp only
   obtain ⟨rd',si',dn',op'⟩:=B'
   obtain ⟨hB2,hB3⟩:=hB1
   dsimp only at *
   subst hB2 hB3
   refine k_bk fun q=>?_
   obtain ⟨⟨xd,yd⟩,⟨xo,yo⟩⟩:=q
   dsimp only [BkL]
   refine k_rle (T:=44) (sz:=19) (o:=xd) (m:=dn'.length) (cap:=yd) (fun hcap=>?_)
   repeat' (first|refine ZC ?_|refine ZM ?_|refine l_sdA (m:=dn'.length) dn.length hge _ rfl ?_|(refine ZB (fun hc=>?_) (fun hc=>?_)<;>(try simp at hc)<;>(try omega))|fail)
   exact ZD ((xd,yd),(xo,yo)) rfl trivial
 ·rintro hx ⟨i,hi⟩
  dsimp only
  by_cases hlt:i<cs.length
  ·obtain ⟨e,he⟩:∃e,cs[i]? = some e:=⟨_,List.getElem?_eq_getElem hlt⟩
   have hem:=List.mem_of_getElem? he
   have n1:=Ue e (hw e hem)
   rw [hq e hem] at n1
   repeat' (first|refine ZC ?_|refine ZA (n1) (fun _ _=>?_)|refine ZU (es:=cs) i e he (fun b off=>?_)|refine ZQ ?_|(refine ZB (fun hc=>?_) (fun hc=>?_)<;>(try simp at hc)<;>(try omega))|fail)
   rw [wrapi (z:=(i:Int)+1) (by omega) (by omega)]
   exact ZJ ⟨i+1,by omega⟩ (by show cs.length - (i+1)<cs.length - i;omega) ⟨rfl,rfl,rfl,rfl,rfl,trivial⟩
  ·repeat' (first|refine ZC ?_|(refine ZB (fun hc=>?_) (fun hc=>?_)<;>(try simp at hc)<;>(try omega))|fail)
   exact Z2 hx () ⟨rfl,rfl,rfl,rfl,trivial⟩
variable {b:Nat}
section
variable {ty:TypeId} {v:Value}
def mvC (cs:List Value) (d s k:Nat):List Value:=cs.take d++((cs.drop s).take k++cs.drop (d+k))
theorem mvC_len {cs:List Value} {d s k:Nat} (h1:d+k≤cs.length) (h2:s+k≤cs.length):(mvC cs d s k).length=cs.length:=by
 unfold mvC
 simp only [List.length_append,List.length_take,List.length_drop]
 omega
theorem run_mv {w:World} {cs:List Value} {fz:Nat×Nat} {d s k:Nat} (hb:w.heap[b]? = some (.cells cs.toArray ty fz)) (hf:fz=(0,0)∨cs.length≤fz.1) (h1:d+k≤cs.length) (h2:s+k≤cs.length) (ho:((cs.drop s).take k).all YR=true) :
  ∃w',(storeCells ⟨b,d,none⟩ ((cs.drop s).take k) 0).run prog w = .ok () w'∧w'.heap[b]? = some (.cells (mvC cs d s k).toArray ty fz)∧Same w w'∧∀c,c≠b→w'.heap[c]? = w.heap[c]?:=by
 have hl:((cs.drop s).take k).length=k:=by simp only [List.length_take,List.length_drop];omega
 obtain ⟨w',g1,g2,g3,g4⟩:=Z0 (P:=prog) (b:=b) (ty:=ty) d ((cs.drop s).take k) 0 w cs hb hf ho (by omega)
 refine ⟨w',g1,?_,g3,g4⟩
 rw [g2,Nat.add_zero,hl]
 unfold mvC
 rw [List.append_assoc]
theorem run_ldn {w:World} {cs:List Value} {fz:Nat×Nat} {s k:Nat} (hb:w.heap[b]? = some (.cells cs.toArray ty fz)) (h2:s+k≤cs.length):(loadCells ⟨b,s,none⟩ k).run prog w = .ok ((cs.drop s).take k).toArray w:=by
 unfold loadCells
 rw [run_loadCells hb s k 0 #[] (by simpa using h2)]
 simp
theorem add_at (b o p:Nat):(Addr.add ⟨b,o,none⟩ p)=⟨b,o+p,none⟩:=by
 unfold Addr.add
 split
 ·rename_i h0;rw [h0,Nat.add_zero]
 ·rfl
theorem run_appIn {T o1 m1 c1 o2 m2 c2 sz:Nat} {w:World} {cs:List Value} {fz:Nat×Nat} {ts tx:TypeId} {rs rx tr:TRow} (hts:lookT tab ts=some rs) (hrs:rs.k = .slice T) (htx:lookT tab tx=some rx) (hrx:rx.k = .slice T) (hT:lookT tab T=some tr) (hsz:tr.size=sz)
  (hb:w.heap[b]? = some (.cells cs.toArray ty fz)) (hf:fz=(0,0)∨cs.length≤fz.1) (hc:m1+m2≤c1) (h1:o1+m1 * sz+m2 * sz≤cs.length) (h2:o2+m2 * sz≤cs.length) (ho:((cs.drop o2).take (m2 * sz)).all YR=true) :
  ∃w',(Builtin.append_ #[ts,tx] ty0 #[.slice (some ⟨b,o1,none⟩) m1 c1,.slice (some ⟨b,o2,none⟩) m2 c2]).run prog w = .ok (.slice (some ⟨b,o1,none⟩) (m1+m2) c1) w'∧w'.heap[b]? = some (.cells (mvC cs (o1+m1 * sz) o2 (m2 * sz)).toArray ty fz)∧Same w w'∧∀c,c≠b→w'.heap[c]? = w.heap[c]?:=by
 have hs1:=ZR.sizeOf hT w
 rw [hsz] at hs1
 obtain ⟨w',g1,g2,g3,g4⟩:=run_mv hb hf h1 h2 ho
 refine ⟨w',?_,g2,g3,g4⟩
 unfold Builtin.append_
 simp only [List.getElem?_toArray,List.getElem?_cons_zero,List.getElem?_cons_succ,Sem.run_bind,YG hts hrs,Result.andThen,hs1,YG htx hrx,Builtin.lenOf,Sem.run_pure,Bool.false_eq_true,if_false,Bool.not_false,if_true]
 rw [if_pos hc]
 simp only [Sem.run_bind,Builtin.firstCells,run_ldn hb h2,Result.andThen,add_at,g1,Sem.run_pure]
def zrC (cs zs:List Value) (o:Nat):List Value:=cs.take o++(zs++cs.drop (o+zs.length))
theorem zc_one (zs:List Value):(Builtin.zeroCells zs.toArray 1).toList=zs:=by
 simp only [Builtin.zeroCells,Nat.one_mul,Array.toList_map,Array.toList_range]
 refine List.ext_getElem (by simp) fun i h1 h2=>?_
 simp [Nat.mod_eq_of_lt h2,h2]
theorem run_clrIn {T o m c sz:Nat} {w:World} {cs zs:List Value} {fz:Nat×Nat} {ts:TypeId} {rs tr:TRow} {zv:Value} (hts:lookT tab ts=some rs) (hrs:rs.k = .slice T) (hT:lookT tab T=some tr) (hzv:zval tr=some zv)
  (hzs:(Builtin.zeroCells zv.cells m).toList=zs) (hzl:zs.length=m * sz) (hzo:zs.all YR=true) (hb:w.heap[b]? = some (.cells cs.toArray ty fz)) (hf:fz=(0,0)∨cs.length≤fz.1) (h1:o+m * sz≤cs.length) :
  ∃w',(Builtin.clear_ #[ts] ty0 #[.slice (some ⟨b,o,none⟩) m c]).run prog w = .ok (.tuple #[]) w'∧w'.heap[b]? = some (.cells (zrC cs zs o).toArray ty fz)∧Same w w'∧∀c,c≠b→w'.heap[c]? = w.heap[c]?:=by
 have hz:=Wy hT hzv w
 cases m with
 | zero=>
  have h0:zs=[]:=List.eq_nil_of_length_eq_zero (by omega)
  refine ⟨w,?_,?_,Same.refl _,fun _ _=>rfl⟩
  ·simp only [Builtin.clear_,List.getElem?_toArray,List.getElem?_cons_zero,Sem.run_bind,YG hts hrs,Result.andThen,Sem.run_pure]
  ·rw [hb]
   unfold zrC
   rw [h0,List.length_nil,Nat.add_zero,List.nil_append,List.take_append_drop]
 | succ m=>
  obtain ⟨w',g1,g2,g3,g4⟩:=Z0 (P:=prog) (b:=b) (ty:=ty) o zs 0 w cs hb hf hzo (by omega)
  refine ⟨w',?_,?_,g3,g4⟩
  ·simp only [Builtin.clear_,List.getElem?_toArray,List.getElem?_cons_zero,Sem.run_bind,YG hts hrs,Result.andThen,Sem.run_pure,hz]
   rw [hzs,g1]
  ·rw [g2,Nat.add_zero]
   unfold zrC
   rw [List.append_assoc]
theorem r_appIn {T o1 m1 c1 o2 m2 c2 sz:Nat} {cs:List Value} {fz:Nat×Nat} {ts tx:TypeId} {rs rx tr:TRow} (nx:Wr n C ops k Q Tl Fs R L ((d,.slice (some ⟨b,o1,none⟩) (m1+m2) c1)::E) F (Pt b (.cells (mvC cs (o1+m1 * sz) o2 (m2 * sz)).toArray ty fz)::N'))
  (hf:fz=(0,0)∨cs.length≤fz.1) (hc:m1+m2≤c1) (h1:o1+m1 * sz+m2 * sz≤cs.length) (h2:o2+m2 * sz≤cs.length) (hone:((cs.drop o2).take (m2 * sz)).all YR=true)
  (ho:nth ops i=some ⟨some d,.call ⟨.builtin .append,#[x,y],#[ts,tx]⟩,ty0,pos,aft,gd⟩:=by rfl) (hw:wantL ops E ⟨some d,.call ⟨.builtin .append,#[x,y],#[ts,tx]⟩,ty0,pos,aft,gd⟩=some true:=by rfl) (hx:ev E x=some (.slice (some ⟨b,o1,none⟩) m1 c1):=by rfl) (hy:ev E y=some (.slice (some ⟨b,o2,none⟩) m2 c2):=by rfl)
  (hts:lookT tab ts=some rs:=by rfl) (hrs:rs.k = .slice T:=by rfl) (htx:lookT tab tx=some rx:=by rfl) (hrx:rx.k = .slice T:=by rfl) (hT:lookT tab T=some tr:=by rfl) (hsz:tr.size=sz:=by rfl) (hs:Sel (Pt b (.cells cs.toArray ty fz)) N N':=by (repeat (first|exact Sel.here|apply Sel.there));first|done|fail) :
  Wr n C ops k Q Tl Fs R ((i,4)::L) E F N:=
 Z6 ho fun hp hr w st hz sb=>by
  simp only [ZW hw]
  refine ⟨⟨Unit,fun _=>.slice (some ⟨b,o1,none⟩) (m1+m2) c1,fun _=>True,fun _=>F,fun _=>Pt b (.cells (mvC cs (o1+m1 * sz) o2 (m2 * sz)).toArray ty fz)::N'⟩,fun a G w hp' ha hsub hsat=>?_,fun _ _=>nx hp hr w st hz sb⟩
  obtain ⟨w',g1,g2,g3,g4⟩:=run_appIn (ty0:=ty0) (c2:=c2) hts hrs htx hrx hT hsz (hsat.pt hs) hf hc h1 h2 hone
  unfold OpRes
  have e1:=ha.ev (x:=x) (by rw [ZF];exact hx)
  have e2:=ha.ev (x:=y) (by rw [ZF];exact hy)
  simp only [execOp,resolve,Sem.run_bind,Sem.run_pure,Result.andThen,invoke,builtin,List.map_toArray,List.map_cons,List.map_nil,e1,e2,g1]
  exact ⟨(),trivial,trivial,(hsat.sel hs).write g3 g2 fun e he _=>g4 e he⟩
theorem l_clrIn {T o m c:Nat} {cs:List Value} {fz:Nat×Nat} {ts:TypeId} {rs tr:TRow} {zv:Value} (sz:Nat) (zs:List Value) (nx:Wl n C ops.toArray k Q l E F (Pt b (.cells (zrC cs zs o).toArray ty fz)::R0))
  (hzl:zs.length=m * sz) (hzo:zs.all YR=true) (hf:fz=(0,0)∨cs.length≤fz.1) (h1:o+m * sz≤cs.length)
  (hw:wantL ops E ⟨none,.call ⟨.builtin .clear,#[x],#[ts]⟩,ty0,pos,aft,gd⟩=some true:=by rfl) (hx:ev E x=some (.slice (some ⟨b,o,none⟩) m c):=by rfl)
  (hts:lookT tab ts=some rs:=by rfl) (hrs:rs.k = .slice T:=by rfl) (hT:lookT tab T=some tr:=by rfl) (hzv:zval tr=some zv:=by rfl) (hzs:(Builtin.zeroCells zv.cells m).toList=zs:=by rfl) (hs:Sel (Pt b (.cells cs.toArray ty fz)) R R0:=by (repeat (first|exact Sel.here|apply Sel.there));first|done|fail) :
  Wl n C ops.toArray k Q (⟨none,.call ⟨.builtin .clear,#[x],#[ts]⟩,ty0,pos,aft,gd⟩::l) E F R:=
 Zn (fun t ht=>by cases ht) (fun c hc=>by cases hc) hw fun a w ha hsat=>by
  obtain ⟨w',g1,g2,g3,g4⟩:=run_clrIn (ty0:=ty0) (c:=c) hts hrs hT hzv hzs hzl hzo (hsat.pt hs) hf h1
  have hse:=(hsat.sel hs).write g3 g2 fun e he _=>g4 e he
  unfold OpRes
  have e1:=ha.ev (x:=x) (by rw [ZF];exact hx)
  simp only [execOp,resolve,Sem.run_bind,Sem.run_pure,Result.andThen,invoke,builtin,List.map_toArray,List.map_cons,List.map_nil,e1,g1]
  exact fun a' ha'=>nx a' w' ha' hse
theorem take_flat {α:Type} {f:α→List Value} {sz:Nat} (hf:∀e,(f e).length=sz) (l:List α) (i:Nat) (ys:List Value) (hi:i≤l.length):(l.flatMap f++ys).take (i * sz)=(l.take i).flatMap f:=by
 have e:l.flatMap f=(l.take i).flatMap f++(l.drop i).flatMap f:=by rw [←List.flatMap_append,List.take_append_drop]
 rw [e,List.append_assoc,List.take_left' (by rw [Za hf,List.length_take];congr 1;omega)]
theorem VO {α:Type} {f:α→List Value} {sz:Nat} (hf:∀e,(f e).length=sz) (l:List α) (i:Nat) (ys:List Value) (hi:i≤l.length):(l.flatMap f++ys).drop (i * sz)=(l.drop i).flatMap f++ys:=by
 have e:l.flatMap f=(l.take i).flatMap f++(l.drop i).flatMap f:=by rw [←List.flatMap_append,List.take_append_drop]
 rw [e,List.append_assoc,List.drop_left' (by rw [Za hf,List.length_take];congr 1;omega)]
theorem mv_del {α:Type} {f:α→List Value} {sz:Nat} (hf:∀e,(f e).length=sz) (l:List α) (i:Nat) (ys:List Value) (hi:i<l.length) :
  ∃zs,zs.length=sz∧mvC (l.flatMap f++ys) (i * sz) ((i+1) * sz) ((l.length - (i+1)) * sz)=(l.eraseIdx i).flatMap f++(zs++ys):=by
 have hl:=Za hf l
 have e1:l.eraseIdx i=l.take i++l.drop (i+1):=List.eraseIdx_eq_take_drop_succ l i
 have e2:((l.drop (i+1)).flatMap f).length=(l.length - (i+1)) * sz:=by rw [Za hf,List.length_drop]
 have e3:i * sz+(l.length - (i+1)) * sz=(l.length - 1) * sz:=by rw [←Nat.add_mul];congr 1;omega
 refine ⟨(l.drop (l.length - 1)).flatMap f,by rw [Za hf,List.length_drop,show l.length - (l.length - 1)=1 by omega,Nat.one_mul],?_⟩
 unfold mvC
 rw [take_flat hf l i ys (by omega),VO hf l (i+1) ys (by omega),List.take_left' e2,e3,VO hf l (l.length - 1) ys (by omega),e1,List.flatMap_append,List.append_assoc]
end
section
structure RwA (sz m cap:Nat) (o:Option Addr) (q:Nat×List Value×(Nat×Nat)):Prop where
 o:o=some ⟨q.1,0,none⟩
 ax:AxOK (m * sz) q.2
 c:m * sz+q.2.1.length=cap * sz
 m:m≤cap
theorem row_axO {α:Type} {T sz cap:Nat} {f:α→List Value} {o:Option Addr} {es:List α} (hf:∀e,(f e).length=sz) (hm:0<es.length) (h:H) (hh:Row T sz o es.length cap (es.flatMap f) h):∃q:Nat×List Value×(Nat×Nat),RwA sz es.length cap o q∧Sep [Ax T f q.1 es q.2] h:=by
 have hl:=Za hf es
 rcases hh with ⟨_,h2,_⟩|⟨b,rest,fz,h1,h2,h3,h4,h5,h6⟩
 ·omega
 ·rw [List.length_append,hl] at h4 h6
  exact ⟨(b,rest,fz),⟨h1,h6,h4,h5⟩,h,emp,(fun _=>.inr rfl),Sub.refl _,(fun _ _ e=>by cases e),h2,trivial⟩
theorem k_rowA {α:Type} {T sz cap:Nat} {f:α→List Value} {o:Option Addr} {es:List α} (hf:∀e,(f e).length=sz) (hm:0<es.length) (t:∀q,RwA sz es.length cap o q→Wk n C k Q E F (Ax T f q.1 es q.2::R0)) (hs:Sel (Row T sz o es.length cap (es.flatMap f)) R R0:=by (repeat (first|exact Sel.here|apply Sel.there));first|done|fail):Wk n C k Q E F R:=
 Zq (Lx:=fun q:Nat×List Value×(Nat×Nat)=>[Ax T f q.1 es q.2]) (p:=fun q=>RwA sz es.length cap o q) (r:=Row T sz o es.length cap (es.flatMap f)) hs (row_axO hf hm) t
theorem axD_row {α:Type} {T sz m cap:Nat} {f:α→List Value} {o:Option Addr} {es:List α} {q:Nat×List Value×(Nat×Nat)} (hf:∀e,(f e).length=sz) (hq:RwA sz m cap o q) (hm:es.length=m) (h:H) (hh:Sep [Ax T f q.1 es q.2] h):Row T sz o m cap (es.flatMap f) h:=by
 obtain ⟨h1,h2,_,s1,_,hx,_⟩:=hh
 have hl:=Za hf es
 refine .inr ⟨q.1,q.2.1,q.2.2,hq.o,s1 _ _ hx,by rw [hl,hm],by rw [List.length_append,hl,hm];exact hq.c,hq.m,?_⟩
 rcases hq.ax with h|h
 ·exact .inl h
 ·exact .inr (by rw [List.length_append,hl,hm];exact h)
theorem k_axR {α:Type} {T sz m cap:Nat} {f:α→List Value} {o:Option Addr} {es:List α} {q:Nat×List Value×(Nat×Nat)} (hf:∀e,(f e).length=sz) (hq:RwA sz m cap o q) (hm:es.length=m) (t:Wk n C k Q E F (Row T sz o m cap (es.flatMap f)::R0)) (hs:Sels [Ax T f q.1 es q.2] R R0:=by (repeat (first|exact Sels.nil|exact Sel.here|apply Sel.there|apply Sels.cons));first|done|fail):Wk n C k Q E F R:=
 ZO (axD_row hf hq hm) t hs
theorem l_axR {α:Type} {T sz m cap:Nat} {f:α→List Value} {o:Option Addr} {es:List α} {q:Nat×List Value×(Nat×Nat)} (hf:∀e,(f e).length=sz) (hq:RwA sz m cap o q) (hm:es.length=m) (t:Wl n C ops.toArray k Q l E F (Row T sz o m cap (es.flatMap f)::R0)) (hs:Sels [Ax T f q.1 es q.2] R R0:=by (repeat (first|exact Sels.nil|exact Sel.here|apply Sel.there|apply Sels.cons));first|done|fail):Wl n C ops.toArray k Q l E F R:=
 l_shut (axD_row hf hq hm) t hs
end
theorem X9 (c:Cq):(cqf c).length=14:=rfl
theorem cqf_one (c:Cq):(cqf c).all YR=true:=rfl
theorem all_flat {α:Type} {f:α→List Value} (h1:∀e,(f e).all YR=true):∀es:List α,(es.flatMap f).all YR=true
 | []=>rfl
 | e::es=>by rw [List.flatMap_cons,List.all_append,h1,all_flat h1 es];rfl
def cqz:List Value:=cqf ⟨0,⟨#[]⟩,0,0,Ou.z,0,Ou.z,0⟩
set_option maxHeartbeats 4000000 in
theorem deleteQ_ok (o:Option Addr) (cap:Nat) (l:List Cq) (i:Nat) (hi:i<l.length) (hl:l.length≤1000000):Enters 62∧Spec prog 62 #[.slice o l.length cap,.int .i64 (i:Int),.int .i64 ((i+1:Nat):Int)] [] [RowQ (o,cap) l]
  ⟨Unit,fun _=>.slice o (l.length - 1) cap,fun _=>True,fun _=>[],fun _=>[Row 40 14 o (l.length - 1) cap ((l.eraseIdx i).flatMap cqf)]⟩:=by
 refine ZE [_,_,_] func62 ntmps62 fun G w hp=>?_
 refine k_rowA (f:=cqf) (sz:=14) (es:=l) X9 (by omega) (fun q hq=>?_)
 obtain ⟨b,rest,fz⟩:=q
 obtain ⟨ho,ha,hc,hm⟩:=hq
 dsimp only at ho ha hc hm ⊢
 subst ho
 have hne:((i:Int) == ((i+1:Nat):Int))=false:=by rw [Bool.eq_false_iff];simp;omega
 have hfl:=cqfs_len l
 obtain ⟨zs,hz1,hz2⟩:=mv_del X9 l i rest hi
 have hcs:(l.flatMap cqf++rest).length=cap * 14:=by rw [List.length_append,hfl];omega
 have hfz:fz=(0,0)∨(l.flatMap cqf++rest).length≤fz.1:=by
  rcases ha with h|h
  ·exact .inl h
  ·exact .inr (by rw [List.length_append,hfl];exact h)
 have hone:(((l.flatMap cqf++rest).drop ((i+1) * 14)).take ((l.length - (i+1)) * 14)).all YR=true:=by
  rw [VO X9 l (i+1) rest (by omega),List.take_left' (by rw [Za X9,List.length_drop])]
  exact all_flat cqf_one _
 obtain ⟨off2,hv1,ho2⟩:∃off2,slVd (some ⟨b,0,none⟩) 14 (i+1) l.length cap = .slice (some ⟨b,off2,none⟩) (l.length - (i+1)) (cap - (i+1))∧(off2=(i+1) * 14∨l.length - (i+1)=0∧off2=0):=by
  by_cases hcap:i+1=cap
  ·subst hcap
   exact ⟨0,by rw [slVd_e,Nat.sub_self],.inr ⟨by omega,rfl⟩⟩
  ·exact ⟨(i+1) * 14,by rw [slVd_b (by omega),Nat.zero_add],.inl rfl⟩
 have hv2:slVd (some ⟨b,0,none⟩) 14 (l.length - 1) l.length cap = .slice (some ⟨b,(l.length - 1) * 14,none⟩) 1 (cap - (l.length - 1)):=by
  rw [slVd_b (by omega),Nat.zero_add,show l.length - (l.length - 1)=1 by omega]
 have hmv:mvC (l.flatMap cqf++rest) (0+i * 14) off2 ((l.length - (i+1)) * 14)=(l.eraseIdx i).flatMap cqf++(zs++rest):=by
  rw [←hz2,Nat.zero_add]
  rcases ho2 with h|⟨h1,h2⟩
  ·rw [h]
  ·rw [h1,h2]
   simp [mvC]
 have hone2:(((l.flatMap cqf++rest).drop off2).take ((l.length - (i+1)) * 14)).all YR=true:=by
  rcases ho2 with h|⟨h1,h2⟩
  ·rw [h];exact hone
  ·rw [h1];simp
 have hbd:off2+(l.length - (i+1)) * 14≤(l.flatMap cqf++rest).length:=by
  rw [hcs]
  omega
 have hfz2:fz=(0,0)∨((l.eraseIdx i).flatMap cqf++(zs++rest)).length≤fz.1:=by
  rw [←hmv,mvC_len (by omega) hbd]
  exact hfz
 have hel:(l.eraseIdx i).length=l.length - 1:=List.length_eraseIdx_of_lt hi
 have hl2:((l.eraseIdx i).flatMap cqf++(zs++rest)).length=cap * 14:=by rw [←hmv,mvC_len (by omega) hbd,hcs]
 have hzr:zrC ((l.eraseIdx i).flatMap cqf++(zs++rest)) cqz ((l.length - 1) * 14)=(l.eraseIdx i).flatMap cqf++(cqz++rest):=by
  have e1:((l.eraseIdx i).flatMap cqf).length=(l.length - 1) * 14:=by rw [cqfs_len,hel]
  have e2:cqz.length=14:=rfl
  unfold zrC
  rw [←e1,List.take_left,e2,←List.drop_drop,List.drop_left,←hz1,List.drop_left]
 repeat' (first|refine ZC ?_|rw [hne]|refine l_sdABC (cap:=cap) i (i+1) l.length (by omega) (by omega) (by omega) _ rfl ?_|refine r_sdB (cap:=cap) i (by omega) _ slVd_0 ?_|refine r_sdA (sz:=14) (m:=l.length) (cap:=cap) (i+1) (by omega) _ hv1 ?_|refine r_appIn (sz:=14) (o1:=0) (m1:=i) (c1:=cap) (o2:=off2) (m2:=l.length - (i+1)) (cs:=l.flatMap cqf++rest) ?_ hfz (by omega) (by rw [hcs];omega) hbd hone2|refine ZI 5 [Ax _ _ _ _ _] [(0,0),(1,0),(2,0),(3,0),(4,0),(5,0),(6,4),(7,0)] [] ?_|fail)
 rw [hmv]
 repeat' (first|refine ZC ?_|refine l_sdAB (sz:=14) (cap:=cap) (l.length - 1) l.length (by omega) (by omega) _ hv2 ?_|refine l_clrIn (zv:=.agg cqz.toArray) (hzs:=zc_one cqz) (o:=(l.length - 1) * 14) (m:=1) (cs:=(l.eraseIdx i).flatMap cqf++(zs++rest)) 14 cqz ?_ rfl rfl hfz2 (by rw [hl2];omega)|fail)
 rw [hzr,show i+(l.length - (i+1))=l.length - 1 by omega]
 refine k_axR (f:=cqf) (sz:=14) (es:=l.eraseIdx i) (q:=(b,cqz++rest,fz)) (o:=some ⟨b,0,none⟩) (cap:=cap) X9 ⟨rfl,?_,?_,by omega⟩ hel ?_
 ·rcases ha with h|h
  ·exact .inl h
  ·refine .inr ?_
   have e2:cqz.length=14:=rfl
   simp only [List.length_append,e2] at h ⊢
   omega
 ·have e2:cqz.length=14:=rfl
  simp only [List.length_append,e2]
  omega
 ·exact ZD () rfl trivial
theorem answer_bad (b:Nat) (B:Bk) (i:Int) (a:Ac) (at':Int) (h0:ansE B i a at'≠0) :
  Enters 28∧Spec prog 28 #[.pointer (some ⟨b,0,none⟩),.int .i64 i,acV a,.int .i64 at'] [BkF bkT b B] [] (RetV (.tuple #[Dc.z.v,.int .i64 (ansE B i a at')])):=by
 generalize b=bb at *
 generalize hr:ansE B i a at'=r at *
 obtain ⟨rd,si,dn,op⟩:=B
 unfold ansE at hr
 dsimp only at hr
 by_cases h1:i<0∨(op.length:Int)≤i∨at'<0∨1073741824<at'
 ·rw [if_pos h1] at hr
  subst hr
  refine ZE [_,_,_,_] func28 ntmps28 fun G w hp=>?_
  refine Ye fun q=>?_
  repeat' (first|refine ZC ?_|refine ZH (fun b=>?_)|(refine ZG (fun hc=>?_) (fun hc=>?_)<;>(try simp at hc)<;>(try omega))|(refine ZB (fun hc=>?_) (fun hc=>?_)<;>(try simp at hc)<;>(try omega))|fail)
  all_goals exact ZD () rfl trivial
 ·rw [if_neg h1] at hr
  by_cases h2:at'<si
  ·rw [if_pos h2] at hr
   subst hr
   refine ZE [_,_,_,_] func28 ntmps28 fun G w hp=>?_
   refine Ye fun q=>?_
   repeat' (first|refine ZC ?_|refine ZH (fun b=>?_)|(refine ZG (fun hc=>?_) (fun hc=>?_)<;>(try simp at hc)<;>(try omega))|(refine ZB (fun hc=>?_) (fun hc=>?_)<;>(try simp at hc)<;>(try omega))|fail)
   all_goals exact ZD () rfl trivial
  ·rw [if_neg h2] at hr
   obtain ⟨j,rfl⟩:∃j:Nat,i=(j:Int):=⟨i.toNat,by omega⟩
   obtain ⟨c,hc0⟩:∃c,op[j]? = some c:=⟨_,List.getElem?_eq_getElem (by omega)⟩
   rw [Int.toNat_natCast,hc0] at hr
   dsimp only at hr
   have n1:=dpermit_ok a c
   rw [hr] at n1
   refine ZE [_,_,_,_] func28 ntmps28 fun G w hp=>?_
   refine Ye fun q=>?_
   repeat' (first|refine ZC ?_|refine ZH (fun b=>?_)|refine ZA (n1) (fun _ _=>?_)|refine ZU (es:=op) j c hc0 (fun b off=>?_)|refine ZQ ?_|(refine ZG (fun hc=>?_) (fun hc=>?_)<;>(try simp at hc)<;>(try omega))|(refine ZB (fun hc=>?_) (fun hc=>?_)<;>(try simp at hc)<;>(try omega))|fail)
   all_goals first
    | exact ZD () rfl trivial
    | (exfalso;simp_all;done)
set_option maxHeartbeats 4000000 in
theorem answer_ok (b:Nat) (B:Bk) (j:Nat) (c:Cq) (a:Ac) (at':Int) (hc0:B.op[j]? = some c) (ht:0≤at'∧at'≤1073741824) (hs:B.si≤at') (hp:permF a c=0) (hn:B.dn.length≤90000) (hm:B.op.length≤1000000) :
  Enters 28∧Spec prog 28 #[.pointer (some ⟨b,0,none⟩),.int .i64 (j:Int),acV a,.int .i64 at'] [] [BkR bkT b B] ⟨Unit,fun _=>.tuple #[(ansD B c a at').v,.int .i64 0],fun _=>True,fun _=>[],fun _=>[BkR bkT b (ansB B j c a at')]⟩:=by
 generalize b=bb at *
 obtain ⟨rd,si,dn,op⟩:=B
 unfold ansB ansD
 dsimp only at *
 have hj:=(List.getElem?_eq_some_iff.1 hc0).1
 have n1:=dpermit_ok a c
 rw [hp] at n1
 have n2:=fun o cap=>deleteQ_ok o cap op j hj hm
 have w1:IntKind.i64.wrap ((j:Int)+1)=((j+1:Nat):Int):=by rw [wrapi (by omega) (by omega)];omega
 refine ZE [_,_,_,_] func28 ntmps28 fun G w hp=>?_
 refine k_bk fun q=>?_
 obtain ⟨⟨od,cd⟩,⟨oo,co⟩⟩:=q
 dsimp only [BkL]
 refine k_rowA (f:=cqf) (sz:=14) (es:=op) X9 (by omega) (fun q hq=>?_)
 obtain ⟨b2,rest,fz⟩:=q
 have ho:=hq.o
 dsimp only at ho ⊢
 subst ho
 repeat' (first|refine ZC ?_|refine ZH (fun b=>?_)|refine ZA (n1) (fun _ _=>?_)|refine l_ixS (m:=op.length) j hj ?_|refine l_ldE 14 j 0 hc0 ?_|rw [w1]|(refine ZG (fun hc=>?_) (fun hc=>?_)<;>(try simp at hc)<;>(try omega))|refine ZI 13 [] [(0,0),(1,0),(2,0),(3,0),(4,0),(5,0),(6,0),(7,0),(8,1)] [9] ?_|(refine ZB (fun hc=>?_) (fun hc=>?_)<;>(try simp at hc)<;>(try omega))|fail)
 refine l_axR (f:=cqf) (sz:=14) (es:=op) (q:=(b2,rest,fz)) (o:=some ⟨b2,0,none⟩) (cap:=co) X9 hq rfl ?_
 repeat' (first|refine ZC ?_|refine ZH (fun b=>?_)|refine ZA (n2 _ _) (fun _ _=>?_)|refine Xd (fun o' cap'=>?_)|refine r_up ?_|refine ZI 15 [Pt bb _,Row 44 _ _ _ _ _] [(0,0),(1,0),(2,0),(3,0),(4,3),(5,3),(6,1),(7,4),(8,0),(9,0)] [10] ?_|fail)
 refine Y4 (B:=⟨rd,si,dn++[(⟨rd,at',c,a,-1⟩:Dc)],op.eraseIdx j⟩) (T:=bkT) (m1:=dn.length+1) (xs:=dn.flatMap dcf++dcf ⟨rd,at',c,a,-1⟩) (m2:=op.length - 1) (ys:=(op.eraseIdx j).flatMap cqf) ?_ rfl rfl (by simp) (by simp) (List.length_eraseIdx_of_lt hj).symm rfl
 exact ZD () rfl trivial
section
theorem l_fzD {b:Nat} {o:Obj} (nx:Wl n C ops.toArray k Q l E (Blk b o::F) R0) (hs:Sel (Pt b o) R R0:=by (repeat (first|exact Sel.here|apply Sel.there));first|done|fail):Wl n C ops.toArray k Q l E F R:=
 fun a w ha hsat=>nx a w ha (hsat.sel hs).freeze
end
theorem bookNew_ok:Enters 22∧Spec prog 22 #[] [] [] ⟨Nat,fun b=>.pointer (some ⟨b,0,none⟩),fun _=>True,fun _=>[],fun b=>[BkR bkT b ⟨0,0,[],[]⟩]⟩:=by
 refine ZE [] func22 ntmps22 fun G w hp=>?_
 repeat' (first|refine ZC ?_|refine ZH (fun b=>?_)|fail)
 refine ZO (Lx:=[]) (r:=Row 44 19 none 0 0 []) (fun h _=>Zb _ _ h) ?_
 refine ZO (Lx:=[]) (r:=Row 40 14 none 0 0 []) (fun h _=>Zb _ _ h) ?_
 refine Y4 (B:=⟨0,0,[],[]⟩) (T:=bkT) (b:=b) (o:=none) (p:=none) (c1:=0) (c2:=0) ?_ rfl rfl rfl rfl rfl rfl
 exact ZD b rfl trivial
theorem Vd (b:Nat) (B:Bk):Enters 16∧Spec prog 16 #[.pointer (some ⟨b,0,none⟩)] [BkF bkT b B] [] (RetV (.int .i64 B.rd)):=by
 refine ZE [_] func16 ntmps16 fun G w hp=>?_
 refine Ye fun q=>?_
 repeat' (first|refine ZC ?_|fail)
 exact ZD () rfl trivial
theorem VW (b:Nat) (B:Bk):Enters 14∧Spec prog 14 #[.pointer (some ⟨b,0,none⟩)] [BkF bkT b B] [] (RetV (.int .i64 B.si)):=by
 refine ZE [_] func14 ntmps14 fun G w hp=>?_
 refine Ye fun q=>?_
 repeat' (first|refine ZC ?_|fail)
 exact ZD () rfl trivial
theorem Ym (b:Nat) (B:Bk) (hl:B.dn.length≤1000000):Enters 8∧Spec prog 8 #[.pointer (some ⟨b,0,none⟩)] [BkF bkT b B] [] ⟨Option Addr×Nat,fun q=>.slice q.1 B.dn.length q.2,fun _=>True,fun _=>[],fun q=>[RowD q B.dn]⟩:=by
 have n1:=fun o cap=>cloneD_ok o cap B.dn hl
 refine ZE [_] func8 ntmps8 fun G w hp=>?_
 refine Ye fun q=>?_
 repeat' (first|refine ZC ?_|refine ZA (n1 _ _) (fun _ _=>?_)|fail)
 rename_i q2 _
 exact ZD q2 rfl trivial
theorem WO (b:Nat) (B:Bk) (hl:B.op.length≤2000000000):Enters 27∧Spec prog 27 #[.pointer (some ⟨b,0,none⟩)] [BkF bkT b B] [] ⟨Option Addr×Nat,fun q=>.slice q.1 B.op.length q.2,fun _=>True,fun _=>[],fun q=>[RowQ q B.op]⟩:=by
 have n1:=fun o cap=>cloneQ_ok o cap B.op hl
 refine ZE [_] func27 ntmps27 fun G w hp=>?_
 refine Ye fun q=>?_
 repeat' (first|refine ZC ?_|refine ZA (n1 _ _) (fun _ _=>?_)|fail)
 rename_i q2 _
 exact ZD q2 rfl trivial
def bkEq (B D:Bk):Bool:=decide (B.rd=D.rd∧B.si=D.si∧B.dn=D.dn∧B.op=D.op)
theorem US (b:Nat) (B:Bk) (V:Value) (Fc:Pf) (p:Dc→Bool) (hl:B.dn.length≤1000000) (hV:∀d ∈ B.dn,SpecV V [d.v] [Fc] [] (RetV (.bool (p d)))):Enters 33∧Spec prog 33 #[.pointer (some ⟨b,0,none⟩),V] [BkF bkT b B,Fc] []
  ⟨Option Addr×Nat,fun q=>.slice q.1 (B.dn.filter p).length q.2,fun _=>True,fun _=>[],fun q=>[RowD q (B.dn.filter p)]⟩:=by
 generalize b=bb at *
 refine ZE [_,_] func33 ntmps33 fun G w hp=>?_
 refine Ye fun q=>?_
 obtain ⟨rd,si,dn,op⟩:=B
 dsimp only at hl hV ⊢
 repeat' (first|refine ZC ?_|fail)
 refine ZO (Lx:=[]) (r:=Row 44 19 none 0 0 []) (fun h _=>Zb _ _ h) ?_
 refine Zj (X:={x:Nat×Option Addr×Nat // x.1≤dn.length}) (fun x=>[(1,V),(5,.slice x.1.2.1 ((dn.take x.1.1).filter p).length x.1.2.2),(11,.slice q.1.1 dn.length q.1.2),(12,.int .i64 (dn.length:Int)),(13,.int .i64 (x.1.1:Int))]) (fun _=>[SlD q.1 dn,Fc]) (fun x=>[RowD x.1.2 ((dn.take x.1.1).filter p)]) (fun x=>dn.length - x.1.1) ⟨(0,none,0),by omega⟩ ⟨rfl,rfl,rfl,rfl,rfl,trivial⟩ ?_
 rintro ⟨⟨i,o,cap⟩,hi⟩
 dsimp only at hi ⊢
 have hln:((dn.take i).filter p).length≤1000000:=by
  have h4:((dn.take i).filter p).length≤(dn.take i).length:=List.length_filter_le ..
  simp only [List.length_take] at h4
  omega
 by_cases hlt:i<dn.length
 ·obtain ⟨e,he⟩:∃e,dn[i]? = some e:=⟨_,List.getElem?_eq_getElem hlt⟩
  have n1:=hV e (List.mem_of_getElem? he)
  have htk:=ZT he
  by_cases hp:p e=true
  ·have e3:(dn.take (i+1)).filter p=(dn.take i).filter p++[e]:=by simp [htk,hp]
   have e1:((dn.take i).filter p).length+1=((dn.take (i+1)).filter p).length:=by rw [e3];simp
   have e2:((dn.take i).filter p).flatMap dcf++dcf e=((dn.take (i+1)).filter p).flatMap dcf:=by rw [e3];simp
   rw [hp] at n1
   repeat' (first|refine ZC ?_|refine ZH (fun b=>?_)|refine ZM ?_|refine YN n1 (fun _ _=>?_)|refine ZU (es:=dn) i e he (fun b off=>?_)|refine ZQ ?_|refine Zs (fun o' cap'=>?_)|(refine ZG (fun hc=>?_) (fun hc=>?_)<;>(try simp at hc)<;>(try omega))|(refine ZB (fun hc=>?_) (fun hc=>?_)<;>(try simp at hc)<;>(try omega)))
   rename_i o' cap'
   rw [wrapi (z:=(i:Int)+1) (by omega) (by omega)]
   refine Zi (T:=44) (sz:=19) (o:=o') (cap:=cap') (m:=((dn.take i).filter p).length+1) _ _ e1 e2 ?_
   rw [e1]
   exact ZJ ⟨(i+1,o',cap'),by show i+1≤_;omega⟩ (by show dn.length - (i+1)<dn.length - i;omega) ⟨rfl,rfl,rfl,rfl,rfl,trivial⟩
  ·have hp:p e=false:=by simpa using hp
   have e3:(dn.take (i+1)).filter p=(dn.take i).filter p:=by simp [htk,hp]
   rw [hp] at n1
   repeat' (first|refine ZC ?_|refine ZH (fun b=>?_)|refine ZM ?_|refine YN n1 (fun _ _=>?_)|refine ZU (es:=dn) i e he (fun b off=>?_)|refine ZQ ?_|(refine ZG (fun hc=>?_) (fun hc=>?_)<;>(try simp at hc)<;>(try omega))|(refine ZB (fun hc=>?_) (fun hc=>?_)<;>(try simp at hc)<;>(try omega)))
   rw [wrapi (z:=(i:Int)+1) (by omega) (by omega),←e3]
   exact ZJ ⟨(i+1,o,cap),by show i+1≤_;omega⟩ (by show dn.length - (i+1)<dn.length - i;omega) ⟨rfl,rfl,rfl,rfl,rfl,trivial⟩
 ·have e:dn.take i=dn:=List.take_of_length_le (by omega)
  rw [e]
  repeat' (first|refine ZC ?_|refine ZH (fun b=>?_)|refine ZM ?_|(refine ZG (fun hc=>?_) (fun hc=>?_)<;>(try simp at hc)<;>(try omega))|(refine ZB (fun hc=>?_) (fun hc=>?_)<;>(try simp at hc)<;>(try omega)))
  exact ZD (o,cap) rfl trivial
def mtc (m:Mt):List Value:=[.int .i64 m.1,.string m.2.who,.int .i64 m.2.nu,.int .i64 m.2.tk,.int .i64 m.2.o.ch,.string m.2.o.tg,.string m.2.o.tx,.int .i64 m.2.o.us]
theorem findC_ok (bm:Nat) (m:Mt) (d:Dc):Enters 34∧Spec prog 34 #[d.v,.pointer (some ⟨bm,0,none⟩)] [Blk bm (.cells (mtc m).toArray 87)] [] (RetV (.bool (decide (mtr d.c=m)))):=by
 have n1:=WC d.c
 generalize mtr d.c=m1 at *
 have he:=eqMt m1 m
 generalize decide (m1=m)=z at *
 refine ZE [_,_] func34 ntmps34 fun G w hp=>?_
 repeat' (first|refine ZC ?_|refine ZH (fun b=>?_)|refine ZM ?_|refine ZA (n1) (fun _ _=>?_)|refine ZP (n1) (fun _ _=>?_)|refine ZK (n1) (fun _ _=>?_)|refine r_seq (b:=z) ?_ (he:=he)|(refine ZG (fun hc=>?_) (fun hc=>?_)<;>(try simp at hc))|(refine ZS (fun hc=>?_) (fun hc=>?_)<;>(try simp at hc))|refine ZI 1 [] [(0,0),(1,0),(3,0),(2,4),(4,0),(5,0)] [] ?_|(refine ZB (fun hc=>?_) (fun hc=>?_)<;>(try simp at hc)))
 exact ZD () rfl trivial
theorem readyC_ok (d:Dc):Enters 36∧Spec prog 36 #[d.v] [] [] (RetV (.bool (decide (d.a.k=3)))):=by
 refine ZE [_] func36 ntmps36 fun G w hp=>?_
 repeat' (first|refine ZC ?_|refine ZH (fun b=>?_)|refine ZM ?_|(refine ZG (fun hc=>?_) (fun hc=>?_)<;>(try simp at hc))|(refine ZB (fun hc=>?_) (fun hc=>?_)<;>(try simp at hc)))
 all_goals (refine ZD () ?_ trivial;show Value.bool _=Value.bool _;congr 1)
theorem compC_ok (d:Dc):Enters 71∧Spec prog 71 #[d.v] [] [] (RetV (.bool (decide (d.a.k=2)))):=by
 refine ZE [_] func71 ntmps71 fun G w hp=>?_
 repeat' (first|refine ZC ?_|refine ZH (fun b=>?_)|refine ZM ?_|(refine ZG (fun hc=>?_) (fun hc=>?_)<;>(try simp at hc))|(refine ZB (fun hc=>?_) (fun hc=>?_)<;>(try simp at hc)))
 all_goals (refine ZD () ?_ trivial;show Value.bool _=Value.bool _;congr 1)
theorem bkFind_ok (b:Nat) (B:Bk) (c:Cq) (hl:B.dn.length≤1000000) (hw:c.who.size≤1099511627776):Enters 9∧Spec prog 9 #[.pointer (some ⟨b,0,none⟩),cqa c] [BkF bkT b B] [] (RetV (.tuple #[((fndD B.dn c).getD Dc.z).v,.bool (fndD B.dn c).isSome])):=by
 generalize b=bb at *
 have n1:=UR c hw
 have n2:=dcounts_ok c
 have n3:=WC c
 obtain ⟨r,hr⟩:∃r,fndD B.dn c=r:=⟨_,rfl⟩
 rw [hr]
 unfold fndD at hr
 by_cases h0:qchk c≠0∨cnts c=false
 ·rw [if_pos h0] at hr
  subst hr
  refine ZE [_,_] func9 ntmps9 fun G w hp=>?_
  repeat' (first|refine ZC ?_|refine ZH (fun b=>?_)|refine ZM ?_|refine ZA (n1) (fun _ _=>?_)|refine ZP (n1) (fun _ _=>?_)|refine ZA (n2) (fun _ _=>?_)|refine ZP (n2) (fun _ _=>?_)|(refine ZG (fun hc=>?_) (fun hc=>?_)<;>(try simp at hc)<;>(try omega))|(refine ZB (fun hc=>?_) (fun hc=>?_)<;>(try simp at hc)<;>(try omega)))
  all_goals first
   | exact ZD () rfl trivial
   | (exfalso;simp_all;done)
 ·rw [if_neg h0] at hr
  obtain ⟨h1,h2⟩:qchk c=0∧cnts c=true:=by
   refine ⟨Classical.byContradiction fun h=>h0 (.inl h),?_⟩
   cases hc:cnts c with
   | true=>rfl
   | false=>exact absurd (.inr hc) h0
  rw [h1] at n1
  rw [h2] at n2
  have n4:=fun bm=>US bb B (.func (.func 34) #[] #[.pointer (some ⟨bm,0,none⟩)]) (Blk bm (.cells (mtc (mtr c)).toArray 87)) (fun d=>decide (mtr d.c=mtr c)) hl (fun d _=>Zc (cs:=#[.pointer (some ⟨bm,0,none⟩)]) (findC_ok bm (mtr c) d))
  generalize mtr c=m at *
  generalize (B.dn.filter fun d=>decide (mtr d.c=m))=l at *
  refine ZE [_,_] func9 ntmps9 fun G w hp=>?_
  repeat' (first|refine ZC ?_|refine ZH (fun b=>?_)|refine ZM ?_|refine ZA (n1) (fun _ _=>?_)|refine ZP (n1) (fun _ _=>?_)|refine ZA (n2) (fun _ _=>?_)|refine ZP (n2) (fun _ _=>?_)|refine ZA (n3) (fun _ _=>?_)|refine ZP (n3) (fun _ _=>?_)|(refine ZG (fun hc=>?_) (fun hc=>?_)<;>(try simp at hc)<;>(try omega))|(refine ZB (fun hc=>?_) (fun hc=>?_)<;>(try simp at hc)<;>(try omega)))
  refine l_fzD (b:=b) (o:=.cells (mtc m).toArray 87) ?_
  cases l with
  | nil=>
   subst hr
   repeat' (first|refine ZC ?_|refine ZH (fun b=>?_)|refine ZM ?_|refine ZA (n4 _) (fun _ _=>?_)|refine ZP (n4 _) (fun _ _=>?_)|(refine ZG (fun hc=>?_) (fun hc=>?_)<;>(try simp at hc)<;>(try omega))|(refine ZB (fun hc=>?_) (fun hc=>?_)<;>(try simp at hc)<;>(try omega)))
   exact ZD () rfl trivial
  | cons d l=>
   subst hr
   repeat' (first|refine ZC ?_|refine ZH (fun b=>?_)|refine ZM ?_|refine ZA (n4 _) (fun _ _=>?_)|refine ZP (n4 _) (fun _ _=>?_)|(refine ZG (fun hc=>?_) (fun hc=>?_)<;>(try simp at hc)<;>(try omega))|(refine ZB (fun hc=>?_) (fun hc=>?_)<;>(try simp at hc)<;>(try omega)))
   rename_i q _
   refine l_frz (T:=44) (sz:=19) (f:=dcf) (o:=q.1) (cap:=q.2) (d::l) ?_ rfl rfl
   repeat' (first|refine ZC ?_|refine ZH (fun b=>?_)|refine ZM ?_|refine ZU (es:=d::l) 0 d rfl (fun b off=>?_)|refine ZQ ?_|(refine ZG (fun hc=>?_) (fun hc=>?_)<;>(try simp at hc)<;>(try omega))|(refine ZB (fun hc=>?_) (fun hc=>?_)<;>(try simp at hc)<;>(try omega)))
   exact ZD () rfl trivial
theorem comps_ok (b:Nat) (B:Bk) (hl:B.dn.length≤1000000):Enters 42∧Spec prog 42 #[.pointer (some ⟨b,0,none⟩)] [BkF bkT b B] []
  ⟨Option Addr×Nat,fun q=>.slice q.1 (compF B.dn).length q.2,fun _=>True,fun _=>[],fun q=>[Row 50 7 q.1 (compF B.dn).length q.2 ((compF B.dn).flatMap enf)]⟩:=by
 have n1:=US b B (.func (.func 71) #[] #[]) ⟨fun _=>True,fun _ _ _ h=>h⟩ (fun d=>decide (d.a.k=2)) hl (fun d _=>Zc (cs:=#[]) ⟨(compC_ok d).1,(compC_ok d).2.more⟩)
 generalize b=bb at *
 have hfl:(B.dn.filter fun d=>decide (d.a.k=2)).length≤1000000:=Nat.le_trans (List.length_filter_le ..) hl
 unfold compF
 generalize (B.dn.filter fun d=>decide (d.a.k=2))=l at *
 refine ZE [_] func42 ntmps42 fun G w hp=>?_
 refine Yw (f:=⟨fun _=>True,fun _ _ _ h=>h⟩) (fun _=>trivial) ?_
 repeat' (first|refine ZC ?_|refine ZH (fun b=>?_)|refine ZA (n1) (fun _ _=>?_)|refine ZP (n1) (fun _ _=>?_)|(refine ZG (fun hc=>?_) (fun hc=>?_)<;>(try simp at hc))|(refine ZB (fun hc=>?_) (fun hc=>?_)<;>(try simp at hc)))
 rename_i q _
 refine ZO (Lx:=[]) (r:=Row 50 7 none 0 0 []) (fun h _=>Zb _ _ h) ?_
 refine YA (T:=44) (sz:=19) (f:=dcf) (o:=q.1) (cap:=q.2) l ?_ rfl rfl
 refine Zj (X:={x:Nat×Option Addr×Nat // x.1≤l.length}) (fun x=>[(3,.slice x.1.2.1 ((l.take x.1.1).mapIdx fun i d=>cpE d i).length x.1.2.2),(10,.slice q.1 l.length q.2),(11,.int .i64 (l.length:Int)),(12,.int .i64 (x.1.1:Int))]) (fun _=>[SlD q l]) (fun x=>[Row 50 7 x.1.2.1 ((l.take x.1.1).mapIdx fun i d=>cpE d i).length x.1.2.2 (((l.take x.1.1).mapIdx fun i d=>cpE d i).flatMap enf)]) (fun x=>l.length - x.1.1) ⟨(0,none,0),by omega⟩ ⟨rfl,rfl,rfl,rfl,trivial⟩ ?_
 rintro ⟨⟨i,o,cap⟩,hi⟩
 dsimp only at hi ⊢
 by_cases hlt:i<l.length
 ·obtain ⟨e,he⟩:∃e,l[i]? = some e:=⟨_,List.getElem?_eq_getElem hlt⟩
  have htk:=ZT he
  have e3:(l.take (i+1)).mapIdx (fun i d=>cpE d i)=(l.take i).mapIdx (fun i d=>cpE d i)++[cpE e i]:=by
   rw [htk,List.mapIdx_append]
   simp
   congr 1
   omega
  have hln:((l.take i).mapIdx fun i d=>cpE d i).length≤1000000:=by
   rw [List.length_mapIdx,List.length_take];omega
  have e1:((l.take i).mapIdx fun i d=>cpE d i).length+1=((l.take (i+1)).mapIdx fun i d=>cpE d i).length:=by rw [e3];simp
  have e2:((l.take i).mapIdx fun i d=>cpE d i).flatMap enf++enf (cpE e i)=((l.take (i+1)).mapIdx fun i d=>cpE d i).flatMap enf:=by rw [e3];simp
  generalize (l.take i).mapIdx (fun i d=>cpE d i)=L1 at *
  repeat' (first|refine ZC ?_|refine ZH (fun b=>?_)|refine ZU (es:=l) i e he (fun b off=>?_)|refine ZQ ?_|refine Zs (fun o' cap'=>?_)|(refine ZG (fun hc=>?_) (fun hc=>?_)<;>(try simp at hc)<;>(try omega))|(refine ZB (fun hc=>?_) (fun hc=>?_)<;>(try simp at hc)<;>(try omega)))
  rename_i o' cap'
  rw [wrapi (z:=(i:Int)+1) (by omega) (by omega)]
  refine Zi (T:=50) (sz:=7) (o:=o') (cap:=cap') (m:=L1.length+1) _ _ e1 e2 ?_
  rw [e1]
  exact ZJ ⟨(i+1,o',cap'),by show i+1≤_;omega⟩ (by show l.length - (i+1)<l.length - i;omega) ⟨rfl,rfl,rfl,rfl,trivial⟩
 ·have e:l.take i=l:=List.take_of_length_le (by omega)
  rw [e]
  repeat' (first|refine ZC ?_|refine ZH (fun b=>?_)|refine ZM ?_|(refine ZG (fun hc=>?_) (fun hc=>?_)<;>(try simp at hc)<;>(try omega))|(refine ZB (fun hc=>?_) (fun hc=>?_)<;>(try simp at hc)<;>(try omega)))
  exact ZD (o,cap) rfl trivial
section
variable {α:Type} [Inhabited α] {c:α→α→Int} {l l' D D1 D2 D3:List α} {a b m s e mid:Nat}
omit [Inhabited α] in
theorem Yz (hb:b≤l.length):(wn l a b).length=b - a:=by
 unfold wn
 rw [List.length_take,List.length_drop];omega
theorem wn_get {i:Nat} (hb:b≤l.length) (hi:i<b - a):(wn l a b)[i]? = some (gt l (a+i)):=by
 unfold wn
 rw [List.getElem?_take,if_pos hi,List.getElem?_drop,ZV (by omega)]
theorem wn_ext {a' b':Nat} (hb:b≤l.length) (hb':b'≤l'.length) (hl:b' - a'=b - a) (h:∀i,i<b - a→gt l' (a'+i)=gt l (a+i)):wn l' a' b'=wn l a b:=by
 apply List.ext_getElem?
 intro i
 by_cases hi:i<b - a
 ·rw [wn_get hb' (by omega),wn_get hb hi,h i hi]
 ·rw [List.getElem?_eq_none (by rw [Yz hb'];omega),List.getElem?_eq_none (by rw [Yz hb];omega)]
theorem X4 (h1:a≤m) (h2:m≤b) (hb:b≤l.length):wn l a b=wn l a m++wn l m b:=by
 apply List.ext_getElem?
 intro i
 by_cases hi:i<b - a
 ·rw [wn_get hb hi]
  by_cases hm:i<m - a
  ·rw [List.getElem?_append_left (by rw [Yz (by omega)];exact hm),wn_get (by omega) hm]
  ·rw [List.getElem?_append_right (by rw [Yz (by omega)];omega),Yz (by omega),wn_get hb (by omega),show m+(i - (m - a))=a+i by omega]
 ·rw [List.getElem?_eq_none (by rw [Yz hb];omega),List.getElem?_eq_none (by rw [List.length_append,Yz (by omega),Yz hb];omega)]
theorem win_mk (hl:l'.length=l.length) (hab:a≤b) (ho:∀k,k<a∨b≤k→gt l' k=gt l k) (hp:(wn l' a b).Perm (wn l a b)):Win a b l l':=by
 refine ⟨?_,ho⟩
 have e1:l'.take a=l.take a:=by
  apply List.ext_getElem?
  intro i
  rw [List.getElem?_take,List.getElem?_take]
  split
  ·rename_i hi
   by_cases hl2:i<l.length
   ·rw [ZV (by rw [hl];exact hl2),ZV hl2,ho i (by omega)]
   ·rw [List.getElem?_eq_none (by rw [hl];omega),List.getElem?_eq_none (by omega)]
  ·rfl
 have e2:l'.drop b=l.drop b:=by
  apply List.ext_getElem?
  intro i
  rw [List.getElem?_drop,List.getElem?_drop]
  by_cases hl2:b+i<l.length
  ·rw [ZV (by rw [hl];exact hl2),ZV hl2,ho (b+i) (by omega)]
  ·rw [List.getElem?_eq_none (by rw [hl];omega),List.getElem?_eq_none (by omega)]
 rw [XF (l:=l') hab,XF (l:=l) hab,e1,e2]
 exact (hp.append_right _).append_left _
theorem srd_wn (hb:b≤l.length):Srd c (wn l a b)↔Sw c a b l:=by
 unfold Srd
 rw [List.pairwise_iff_getElem]
 have hl:=Yz (l:=l) (a:=a) hb
 have hg:∀i (h:i<(wn l a b).length),(wn l a b)[i]=gt l (a+i):=fun i h=>by
  have:=wn_get (l:=l) (a:=a) hb (show i<b - a by omega)
  rw [List.getElem?_eq_getElem h] at this
  exact Option.some.inj this
 constructor
 ·intro h i j h1 h2 h3
  have:=h (i - a) (j - a) (by omega) (by omega) (by omega)
  rw [hg,hg,show a+(i - a)=i by omega,show a+(j - a)=j by omega] at this
  exact this
 ·intro h i j h1 h2 h3
  rw [hg,hg]
  exact h _ _ (by omega) (by omega) (by omega)
def Sm (c:α→α→Int) (a b:Nat) (l l':List α):Prop:=Win a b l l'∧StOf c (wn l a b) (wn l' a b)
theorem Sm.self (hb:b≤l.length) (h:Sw c a b l):Sm c a b l l:=⟨Win.refl,.self ((srd_wn hb).2 h)⟩
theorem Sm.sw (hb:b≤l.length) (h:Sm c a b l l'):Sw c a b l':=(srd_wn (by rw [h.1.len];exact hb)).1 h.2.srd
structure Rot (s m e:Nat) (l l':List α):Prop where
 len:l'.length=l.length
 out:∀k,k<s∨e≤k→gt l' k=gt l k
 lo:∀k,k<e - m→gt l' (s+k)=gt l (m+k)
 hi:∀k,k<m - s→gt l' (s+(e - m)+k)=gt l (s+k)
theorem Rot.same (h:s≤m) (h2:m≤e) (hh:s=m∨m=e):Rot s m e l l:=⟨rfl,fun _ _=>rfl,fun k hk=>by
 rcases hh with rfl|rfl
 ·rfl
 ·omega,fun k hk=>by
 rcases hh with rfl|rfl
 ·omega
 ·rw [Nat.sub_self,Nat.add_zero]⟩
variable (W:Wk0 c)
include W in
theorem sm_join (q1:a≤s) (q2:s≤m) (q3:m≤e) (q4:e≤b) (hb:b≤D.length) (hmid:mid=s+(e - m)) (h1:∀j i,m≤j→j<e→s≤i→i<m→c (gt D j) (gt D i)<0) (h2:∀i j,a≤i→i<s→e≤j→j<b→¬c (gt D j) (gt D i)<0)
  (hL:Sw c a m D) (hR:Sw c m b D) (hr:Rot s m e D D1) (k1:Sm c a mid D1 D2) (k2:Sm c mid b D2 D3):Sm c a b D D3:=by
 have l1:=hr.len
 have l2:=k1.1.len
 have l3:=k2.1.len
 have e1:wn D a b=wn D a s++wn D s m++(wn D m e++wn D e b):=by
  rw [X4 (m:=m) (by omega) (by omega) hb,X4 (l:=D) (a:=a) (m:=s) (b:=m) q1 q2 (by omega),X4 (l:=D) (a:=m) (m:=e) q3 q4 hb]
 have e2:wn D1 a mid=wn D a s++wn D m e:=by
  rw [X4 (m:=s) q1 (by omega) (by omega)]
  congr 1
  ·exact wn_ext (by omega) (by omega) rfl fun i hi=>hr.out _ (by omega)
  ·exact wn_ext (by omega) (by omega) (by omega) fun i hi=>hr.lo _ hi
 have e3:wn D1 mid b=wn D s m++wn D e b:=by
  rw [X4 (m:=e) (by omega) q4 (by omega)]
  congr 1
  ·exact wn_ext (by omega) (by omega) (by omega) fun i hi=>by rw [hmid];exact hr.hi _ hi
  ·exact wn_ext (by omega) (by omega) rfl fun i hi=>hr.out _ (by omega)
 have e4:wn D2 mid b=wn D1 mid b:=wn_ext (by omega) (by omega) rfl fun i hi=>k1.1.out _ (by omega)
 have e5:wn D3 a b=wn D2 a mid++wn D3 mid b:=by
  rw [X4 (m:=mid) (by omega) (by omega) (by omega)]
  congr 1
  exact wn_ext (by omega) (by omega) rfl fun i hi=>k2.1.out _ (by omega)
 have p1:Win a b D D1:=by
  refine win_mk l1 (by omega) (fun k hk=>hr.out k (by omega)) ?_
  rw [X4 (m:=mid) (by omega) (by omega) (by omega),e2,e3,e1]
  simp only [List.append_assoc]
  refine List.Perm.append_left _ ?_
  rw [←List.append_assoc,←List.append_assoc]
  exact List.Perm.append_right _ List.perm_append_comm
 refine ⟨p1.trans ((k1.1.mono (Nat.le_refl _) (by omega)).trans (k2.1.mono (by omega) (Nat.le_refl _))),?_⟩
 rw [e1,e5]
 have s1:=k1.2
 have s2:=k2.2
 rw [e2] at s1
 rw [e4,e3] at s2
 refine st_merge W ?_ ?_ (fun r hr l hl=>?_) (fun l hl r hr=>?_) s1 s2
 ·rw [←X4 q1 q2 (by omega)];exact (srd_wn (by omega)).2 hL
 ·rw [←X4 q3 q4 hb];exact (srd_wn hb).2 hR
 ·obtain ⟨j,j1,j2,rfl⟩:=(mem_wn (by omega)).1 hr
  obtain ⟨i,i1,i2,rfl⟩:=(mem_wn (by omega)).1 hl
  exact h1 j i j1 j2 i1 i2
 ·obtain ⟨i,i1,i2,rfl⟩:=(mem_wn (by omega)).1 hl
  obtain ⟨j,j1,j2,rfl⟩:=(mem_wn (by omega)).1 hr
  exact h2 i j i1 i2 j1 j2
structure Cut (c:α→α→Int) (D:List α) (p s0 r0 s r:Nat):Prop where
 a:s0≤s
 b:s≤r
 d:r≤r0
 yes:∀i,s0≤i→i<s→¬c (gt D (p - i)) (gt D i)<0
 no:∀i,r≤i→i<r0→c (gt D (p - i)) (gt D i)<0
theorem Cut.init {p s0 r0:Nat} (h:s0≤r0):Cut c D p s0 r0 s0 r0:=⟨Nat.le_refl _,h,Nat.le_refl _,fun i h1 h2=>by omega,fun i h1 h2=>by omega⟩
include W in
theorem Sw.le (h:Sw c a b D) {i j:Nat} (h1:a≤i) (h2:i≤j) (h3:j<b):¬c (gt D j) (gt D i)<0:=by
 rcases Nat.lt_or_eq_of_le h2 with h2|rfl
 ·exact h i j h1 h2 h3
 ·exact fun hh=>W.a _ _ hh hh
structure CutB (a m b mid p s0 r0:Nat):Prop where
 am:a<m
 mb:m<b
 md:mid=(a+b) / 2
 pp:p+1=mid+m
 sr:(m > mid∧s0=mid+m - b∧r0=mid)∨(m≤mid∧s0=a∧r0=m)
include W in
theorem Cut.yesStep {p s0 r0 r q:Nat} (B:CutB a m b mid p s0 r0) (hL:Sw c a m D) (hR:Sw c m b D) (h:Cut c D p s0 r0 s r) (hq:q=(s+r) / 2) (hs:s<r) (hy:¬c (gt D (p - q)) (gt D q)<0):Cut c D p s0 r0 (q+1) r:=by
 obtain ⟨b1,b2,b3,b4,b5⟩:=B
 have h1:=h.a
 have h2:=h.d
 refine ⟨by omega,by omega,h.d,fun i i1 i2=>?_,h.no⟩
 have f1:a≤i:=by omega
 have f2:q<m:=by omega
 have f3:m≤p - q:=by omega
 have f4:p - i<b:=by omega
 have t1:=hL.le W (i:=i) (j:=q) f1 (by omega) f2
 have t2:=hR.le W (i:=p - q) (j:=p - i) f3 (by omega) f4
 exact W.t _ _ _ (W.t _ _ _ t1 hy) t2
include W in
theorem Cut.noStep {p s0 r0 r q:Nat} (B:CutB a m b mid p s0 r0) (hL:Sw c a m D) (hR:Sw c m b D) (h:Cut c D p s0 r0 s r) (hq:q=(s+r) / 2) (hs:s<r) (hy:c (gt D (p - q)) (gt D q)<0):Cut c D p s0 r0 s q:=by
 obtain ⟨b1,b2,b3,b4,b5⟩:=B
 have h1:=h.a
 have h2:=h.d
 refine ⟨h.a,by omega,by omega,h.yes,fun i i1 i2=>?_⟩
 have t1:=hL.le W (i:=q) (j:=i) (by omega) i1 (by omega)
 have t2:=hR.le W (i:=p - i) (j:=p - q) (by omega) (by omega) (by omega)
 exact W.lt_of (W.le_lt t2 hy) t1
include W in
theorem Cut.done {p s0 r0:Nat} (B:CutB a m b mid p s0 r0) (hL:Sw c a m D) (hR:Sw c m b D) (h:Cut c D p s0 r0 s s) (he:e=mid+m - s):a≤s∧s≤m∧m≤e∧e≤b∧mid=s+(e - m)∧(∀j i,m≤j→j<e→s≤i→i<m→c (gt D j) (gt D i)<0)∧∀i j,a≤i→i<s→e≤j→j<b→¬c (gt D j) (gt D i)<0:=by
 obtain ⟨b1,b2,b3,b4,b5⟩:=B
 have h1:=h.a
 have h2:=h.d
 refine ⟨by omega,by omega,by omega,by omega,by omega,fun j i j1 j2 i1 i2=>?_,fun i j i1 i2 j1 j2=>?_⟩
 ·have hs:s<r0:=by omega
  have hn:=h.no s (Nat.le_refl _) hs
  have t1:=hL.le W (i:=s) (j:=i) (by omega) i1 i2
  have t2:=hR.le W (i:=j) (j:=p - s) j1 (by omega) (by omega)
  exact W.lt_of (W.le_lt t2 hn) t1
 ·have hs:s0<s:=by omega
  have hy:=h.yes (s - 1) (by omega) (by omega)
  have t1:=hL.le W (i:=i) (j:=s - 1) i1 (by omega) (by omega)
  have t2:=hR.le W (i:=p - (s - 1)) (j:=j) (by omega) (by omega) j2
  exact W.t _ _ _ (W.t _ _ _ t1 hy) t2
end
section
variable {α:Type} [Inhabited α] {c:α→α→Int} {l l' l2 D D1 l0:List α} {a b m s e mid i j n k:Nat}
structure SwR (a b n:Nat) (l l':List α):Prop where
 len:l'.length=l.length
 out:∀k,¬(a≤k∧k<a+n)→¬(b≤k∧k<b+n)→gt l' k=gt l k
 lo:∀k,k<n→gt l' (a+k)=gt l (b+k)
 hi:∀k,k<n→gt l' (b+k)=gt l (a+k)
theorem SwR.init:SwR a b 0 l l:=⟨rfl,fun _ _ _=>rfl,fun k h=>by omega,fun k h=>by omega⟩
theorem SwR.step {N:Nat} (h:SwR a b n l l') (hn:n<N) (h1:a+N≤b) (h2:b+N≤l.length):SwR a b (n+1) l (sw l' (a+n) (b+n)):=by
 have hl:=h.len
 have g:∀k,gt (sw l' (a+n) (b+n)) k=if k=b+n then gt l' (a+n) else if k=a+n then gt l' (b+n) else gt l' k:=fun k=>WD (by omega) (by omega)
 have oa:gt l' (a+n)=gt l (a+n):=h.out _ (by omega) (by omega)
 have ob:gt l' (b+n)=gt l (b+n):=h.out _ (by omega) (by omega)
 refine ⟨by rw [sw_len];exact hl,fun k k1 k2=>?_,fun k hk=>?_,fun k hk=>?_⟩
 ·rw [g,if_neg (by omega),if_neg (by omega)]
  exact h.out k (by omega) (by omega)
 ·rw [g,if_neg (by omega)]
  by_cases hkn:k=n
  ·subst hkn;rw [if_pos rfl,ob]
  ·rw [if_neg (by omega)];exact h.lo k (by omega)
 ·rw [g]
  by_cases hkn:k=n
  ·subst hkn;rw [if_pos rfl,oa]
  ·rw [if_neg (by omega),if_neg (by omega)];exact h.hi k (by omega)
theorem rot_gt (hi:i≤m) (hji:j<i) (h:SwR (m - i) m j l l2) (r:Rot (m - (i - j)) m (m+j) l2 l'):Rot (m - i) m (m+j) l l':=by
 refine ⟨r.len.trans h.len,fun k hk=>?_,fun k hk=>?_,fun k hk=>?_⟩
 ·rw [r.out k (by omega)]
  exact h.out k (by omega) (by omega)
 ·rw [r.out _ (by omega)]
  exact h.lo k (by omega)
 ·by_cases hkj:k<j
  ·have e1:=r.lo k (by omega)
   rw [show m - (i - j)+k=m - i+(m+j - m)+k by omega] at e1
   rw [e1]
   exact h.hi k hkj
  ·have e1:=r.hi (k - j) (by omega)
   rw [show m - (i - j)+(m+j - m)+(k - j)=m - i+(m+j - m)+k by omega,show m - (i - j)+(k - j)=m - i+k by omega] at e1
   rw [e1]
   exact h.out _ (by omega) (by omega)
theorem rot_lt (hi:i≤m) (hij:i<j) (h:SwR (m - i) (m+j - i) i l l2) (r:Rot (m - i) m (m+j - i) l2 l'):Rot (m - i) m (m+j) l l':=by
 refine ⟨r.len.trans h.len,fun k hk=>?_,fun k hk=>?_,fun k hk=>?_⟩
 ·rw [r.out k (by omega)]
  exact h.out k (by omega) (by omega)
 ·by_cases hkj:k<j - i
  ·rw [r.lo k (by omega)]
   exact h.out _ (by omega) (by omega)
  ·have e1:=r.hi (k - (j - i)) (by omega)
   rw [show m - i+(m+j - i - m)+(k - (j - i))=m - i+k by omega] at e1
   rw [e1,h.lo _ (by omega),show m+j - i+(k - (j - i))=m+k by omega]
 ·rw [r.out _ (by omega),show m - i+(m+j - m)+k=m+j - i+k by omega]
  exact h.hi k (by omega)
theorem rot_eq (hi:i≤m) (h:SwR (m - i) m i l l'):Rot (m - i) m (m+i) l l':=by
 refine ⟨h.len,fun k hk=>h.out k (by omega) (by omega),fun k hk=>h.lo k (by omega),fun k hk=>?_⟩
 rw [show m - i+(m+i - m)+k=m+k by omega]
 exact h.hi k (by omega)
theorem rot_up (h:Rot a (a+1) (k+1) l l') (hak:a≤k) (hk:k+1<l.length):Rot a (a+1) (k+2) l (sw l' k (k+1)):=by
 have hl:=h.len
 have g:∀x,gt (sw l' k (k+1)) x=if x=k+1 then gt l' k else if x=k then gt l' (k+1) else gt l' x:=fun x=>WD (by omega) (by omega)
 have g1:gt l' (k+1)=gt l (k+1):=h.out _ (by omega)
 have g0:=h.hi 0 (by omega)
 rw [show a+(k+1 - (a+1))+0=k by omega,Nat.add_zero] at g0
 refine ⟨by rw [sw_len];exact hl,fun x hx=>?_,fun x hx=>?_,fun x hx=>?_⟩
 ·rw [g,if_neg (by omega),if_neg (by omega)];exact h.out x (by omega)
 ·rw [g,if_neg (by omega)]
  by_cases hxk:a+x=k
  ·rw [if_pos hxk,g1,show a+1+x=k+1 by omega]
  ·rw [if_neg hxk];exact h.lo x (by omega)
 ·rw [g,if_pos (by omega),g0,show a+x=a by omega]
theorem rot_dn (h:Rot k m (m+1) l l') (hk0:0<k) (hkm:k≤m) (hm:m<l.length):Rot (k - 1) m (m+1) l (sw l' k (k - 1)):=by
 have hl:=h.len
 have g:∀x,gt (sw l' k (k - 1)) x=if x=k - 1 then gt l' k else if x=k then gt l' (k - 1) else gt l' x:=fun x=>WD (by omega) (by omega)
 have g1:gt l' (k - 1)=gt l (k - 1):=h.out _ (by omega)
 have g0:=h.lo 0 (by omega)
 rw [Nat.add_zero,Nat.add_zero] at g0
 refine ⟨by rw [sw_len];exact hl,fun x hx=>?_,fun x hx=>?_,fun x hx=>?_⟩
 ·rw [g,if_neg (by omega),if_neg (by omega)];exact h.out x (by omega)
 ·rw [g,if_pos (by omega),g0,show m+x=m by omega]
 ·rw [g,if_neg (by omega)]
  by_cases hxk:k - 1+(m+1 - m)+x=k
  ·rw [if_pos hxk,g1,show k - 1+x=k - 1 by omega]
  ·rw [if_neg hxk]
   have e1:=h.hi (x - 1) (by omega)
   rw [show k+(m+1 - m)+(x - 1)=k - 1+(m+1 - m)+x by omega,show k+(x - 1)=k - 1+x by omega] at e1
   exact e1
variable (W:Wk0 c)
include W in
theorem sm_left (hm:m=a+1) (h2:m≤e) (h3:e≤b) (hb:b≤D.length) (hR:Sw c m b D) (h1:∀j,m≤j→j<e→c (gt D j) (gt D a)<0) (h4:∀j,e≤j→j<b→¬c (gt D j) (gt D a)<0) (r:Rot a m e D D1):Sm c a b D D1:=by
 have hl:=r.len
 have g0:=r.hi 0 (by omega)
 rw [Nat.add_zero,Nat.add_zero] at g0
 refine sm_join W (s:=a) (m:=m) (e:=e) (mid:=a+(e - m)) (Nat.le_refl _) (by omega) h2 h3 hb rfl (fun j i j1 j2 i1 i2=>?_) (fun i j i1 i2=>by omega) (Sw.nil (by omega)) hR r (.self (by omega) fun i j i1 ij j1=>?_) (.self (by omega) fun i j i1 ij j1=>?_)
 ·obtain rfl:i=a:=by omega
  exact h1 j j1 j2
 ·have e1:=r.lo (i - a) (by omega)
  have e2:=r.lo (j - a) (by omega)
  rw [show a+(i - a)=i by omega] at e1
  rw [show a+(j - a)=j by omega] at e2
  rw [e1,e2]
  exact hR _ _ (by omega) (by omega) (by omega)
 ·have e2:=r.out j (by omega)
  rw [e2]
  by_cases hi:i=a+(e - m)
  ·rw [hi,g0];exact h4 j (by omega) j1
  ·rw [r.out i (by omega)];exact hR i j (by omega) ij j1
include W in
theorem sm_right (hm:b=m+1) (h2:a≤s) (h3:s≤m) (hb:b≤D.length) (hL:Sw c a m D) (h1:∀i,s≤i→i<m→c (gt D m) (gt D i)<0) (h4:∀i,a≤i→i<s→¬c (gt D m) (gt D i)<0) (r:Rot s m b D D1):Sm c a b D D1:=by
 have hl:=r.len
 have g0:=r.lo 0 (by omega)
 rw [Nat.add_zero,Nat.add_zero] at g0
 refine sm_join W (s:=s) (m:=m) (e:=b) (mid:=s+(b - m)) h2 h3 (by omega) (Nat.le_refl _) hb rfl (fun j i j1 j2 i1 i2=>?_) (fun i j i1 i2 j1 j2=>by omega) hL (Sw.nil (by omega)) r (.self (by omega) fun i j i1 ij j1=>?_) (.self (by omega) fun i j i1 ij j1=>?_)
 ·obtain rfl:j=m:=by omega
  exact h1 i i1 i2
 ·rw [r.out i (by omega)]
  by_cases hj:j=s
  ·rw [hj,g0];exact h4 i i1 (by omega)
  ·rw [r.out j (by omega)];exact hL i j i1 ij (by omega)
 ·have e1:=r.hi (i - (s+(b - m))) (by omega)
  have e2:=r.hi (j - (s+(b - m))) (by omega)
  rw [show s+(b - m)+(i - (s+(b - m)))=i by omega] at e1
  rw [show s+(b - m)+(j - (s+(b - m)))=j by omega] at e2
  rw [e1,e2]
  exact hL _ _ (by omega) (by omega) (by omega)
def Stb (c:α→α→Int) (l l':List α):Prop:=l'.Perm l∧∀x,l'.filter (eqvO c x)=l.filter (eqvO c x)
omit [Inhabited α] in
theorem Stb.rfl':Stb c l l:=⟨List.Perm.refl _,fun _=>rfl⟩
omit [Inhabited α] in
theorem Stb.trans (h:Stb c l l') (k:Stb c l' l2):Stb c l l2:=⟨k.1.trans h.1,fun x=>(k.2 x).trans (h.2 x)⟩
theorem Sm.stb (hab:a≤b) (h:Sm c a b l l'):Stb c l l':=by
 refine ⟨h.1.perm,fun x=>?_⟩
 have e1:l'.take a=l.take a:=by
  apply List.ext_getElem?
  intro i
  rw [List.getElem?_take,List.getElem?_take]
  split
  ·rename_i hi
   by_cases hl2:i<l.length
   ·rw [ZV (by rw [h.1.len];exact hl2),ZV hl2,h.1.out i (by omega)]
   ·rw [List.getElem?_eq_none (by rw [h.1.len];omega),List.getElem?_eq_none (by omega)]
  ·rfl
 have e2:l'.drop b=l.drop b:=by
  apply List.ext_getElem?
  intro i
  rw [List.getElem?_drop,List.getElem?_drop]
  by_cases hl2:b+i<l.length
  ·rw [ZV (by rw [h.1.len];exact hl2),ZV hl2,h.1.out (b+i) (by omega)]
  ·rw [List.getElem?_eq_none (by rw [h.1.len];omega),List.getElem?_eq_none (by omega)]
 rw [XF (l:=l') hab,XF (l:=l) hab,e1,e2,List.filter_append,List.filter_append,List.filter_append,List.filter_append,h.2.fil]
include W in
theorem Stb.done (h:Stb c l l') (hs:Sw c 0 l'.length l'):l'=isR c l:=StOf.uniq W ⟨hs.srd,h.2⟩ (isR_st W l)
end
section
variable (bk cap:Nat) (q:List Value×(Nat×Nat)) (fv:FuncId) (Fc:Pf) (c:En→En→Int) (W:Wk0 c) (U:En→Prop) (hcmp:∀x y,U x→U y→Enters fv∧Spec prog fv #[x.w,y.w] [Fc] [] (RetV (.int .i64 (c x y))))
instance inhE:Inhabited En:=⟨⟨⟨#[]⟩,0,0,⟨0,⟨#[]⟩,⟨#[]⟩,0⟩⟩⟩
include hcmp in
include hcmp in
include hcmp in
include hcmp in
end
section
variable (b cap:Nat) (q:List Value×(Nat×Nat)) (fv:FuncId) (Fc:Pf) (c:En→En→Int) (W:Wk0 c) (U:En→Prop) (hcmp:∀x y,U x→U y→Enters fv∧Spec prog fv #[x.w,y.w] [Fc] [] (RetV (.int .i64 (c x y))))
include hcmp in
set_option maxHeartbeats 4000000 in
theorem insWE_ok (A M B:List En) (n:Nat) (hn:n=A.length+(M.length+B.length)) (hn2:n≤1000000) (hq:AxOK (n * 7) q) (hU:∀x ∈ A++(M++B),U x) :
  Enters 97∧Spec prog 97 #[.slice (some ⟨b,0,none⟩) n cap,.int .i64 (A.length:Int),.int .i64 ((A.length+M.length:Nat):Int),.func (.func fv) #[] #[]] [Fc] [Ax 50 enf b (A++(M++B)) q]
   ⟨Unit,fun _=>.tuple #[],fun _=>True,fun _=>[],fun _=>[Ax 50 enf b (A++(isR c M++B)) q]⟩:=by
 have w0:IntKind.i64.wrap ((A.length:Int)+1)=((A.length+1:Nat):Int):=by rw [wrapi (by omega) (by omega)];omega
 have h1:M.take 1++(M.drop 1++B)=M++B:=by rw [←List.append_assoc,List.take_append_drop]
 have h2:isR c (M.take 1)=M.take 1:=by
  cases M with
  | nil=>rfl
  | cons x M=>simp [isR,inR]
 refine ZE [_,_,_,_] func97 ntmps97 fun G w hp=>?_
 repeat' (first|refine ZC ?_|fail)
 rw [w0]
 refine Zj (X:={i:Nat // 1≤i∧i≤max 1 M.length}) (fun i=>[(0,.slice (some ⟨b,0,none⟩) n cap),(1,.int .i64 (A.length:Int)),(2,.int .i64 ((A.length+M.length:Nat):Int)),(3,.func (.func fv) #[] #[]),(8,.int .i64 ((A.length+i.1:Nat):Int))]) (fun _=>[Fc]) (fun i=>[Ax 50 enf b (A++(isR c (M.take i.1)++(M.drop i.1++B))) q]) (fun i=>M.length - i.1)
  ⟨1,by omega,by omega⟩ ⟨rfl,rfl,rfl,rfl,rfl,trivial⟩ ?_ (hr:=by dsimp only;rw [h2,h1];exact Sels.cons Sel.here Sels.nil)
 rintro ⟨i,hi1,hi2⟩
 dsimp only at hi1 hi2 ⊢
 by_cases hin:i<M.length
 ·obtain ⟨x,hx⟩:∃x,M[i]? = some x:=⟨_,List.getElem?_eq_getElem hin⟩
  have hd:M.drop i=x::M.drop (i+1):=by
   rw [List.getElem?_eq_getElem hin] at hx
   rw [←Option.some.inj hx,List.getElem_cons_drop]
  have ht:M.take (i+1)=M.take i++[x]:=by rw [List.take_add_one,hx];rfl
  have hl0:(isR c (M.take i)).length=i:=by rw [VA,List.length_take];omega
  have hUx:U x:=hU x (by simp [List.mem_of_getElem? hx])
  have hUP:∀p ∈ isR c (M.take i),U p:=fun p hp=>hU p (by
   have:=List.mem_of_mem_take ((Xr _).mem_iff.1 hp)
   simp [this])
  have hdl:(M.drop (i+1)).length=M.length - (i+1):=List.length_drop
  rw [hd]
  have hR:isR c (M.take (i+1))=inR c (isR c (M.take i)) x:=by rw [ht,Vv]
  generalize isR c (M.take i)=P0 at *
  generalize hDe:M.drop (i+1)=D0 at *
  obtain ⟨D,hD⟩:∃D,D=D0++B:=⟨_,rfl⟩
  have hDl:D.length=D0.length+B.length:=by rw [hD,List.length_append]
  rw [show (x::D0++B)=x::([]++D) by rw [hD];rfl]
  repeat' (first|refine ZC ?_|(refine ZB (fun hc=>?_) (fun hc=>?_)<;>(try simp at hc)<;>(try omega))|fail)
  refine Zj (X:={t:List En×List En // t.1++t.2=P0∧∀s ∈ t.2,c x s<0}) (fun t=>[(0,.slice (some ⟨b,0,none⟩) n cap),(1,.int .i64 (A.length:Int)),(2,.int .i64 ((A.length+M.length:Nat):Int)),(3,.func (.func fv) #[] #[]),(8,.int .i64 ((A.length+i:Nat):Int)),(9,.int .i64 ((A.length+t.1.1.length:Nat):Int))]) (fun _=>[Fc]) (fun t=>[Ax 50 enf b (A++(t.1.1++x::(t.1.2++D))) q]) (fun t=>t.1.1.length)
   ⟨(P0,[]),by simp,by simp⟩ ⟨rfl,rfl,rfl,rfl,rfl,(by show look _ _=some (Value.int .i64 ((A.length+P0.length:Nat):Int));rw [hl0];rfl),trivial⟩ ?_
  rintro ⟨⟨P,S⟩,hPS,hS⟩
  dsimp only at hPS hS ⊢
  have hout:(∀p,P.getLast? = some p→¬c x p<0)→A++(P++x::(S++D))=A++(isR c (M.take (i+1))++(M.drop (i+1)++B)):=fun h2=>by
   rw [hR,hDe,inR_eq hPS hS h2,←hD];simp
  have wn:IntKind.i64.wrap (((A.length+i:Nat):Int)+1)=((A.length+(i+1):Nat):Int):=by rw [wrapi (by omega) (by omega)];omega
  rcases List.eq_nil_or_concat P with hP|⟨P',p,hP⟩
  ·subst hP
   have h1:=hout (by simp)
   rw [h1]
   simp only [List.length_nil,Nat.add_zero]
   repeat' (first|refine ZC ?_|refine ZM ?_|(refine ZS (fun hc=>?_) (fun hc=>?_)<;>(try simp at hc)<;>(try omega))|refine ZI 4 [] [(0,0),(1,0),(2,0),(3,0),(4,0),(5,0),(6,0),(7,0),(8,0),(9,0),(10,0),(11,0),(12,0),(13,0),(14,4),(15,0),(16,0)] [] ?_|fail)
   rw [wn]
   exact ZJ ⟨i+1,by omega,by omega⟩ (by show M.length - (i+1)<M.length - i;omega) ⟨rfl,rfl,rfl,rfl,rfl,trivial⟩
  ·rw [List.concat_eq_append] at hP
   subst hP
   have hPl:=congrArg List.length hPS
   simp only [List.length_append,List.length_cons,List.length_nil] at hPl
   have hj:((A.length+(P'++[p]).length:Nat):Int)=(((A++P').length:Nat):Int)+1:=by simp;omega
   have hAP:(A++P').length=A.length+P'.length:=List.length_append
   have w1:IntKind.i64.wrap (((A++P').length:Int)+1 - 1)=((A++P').length:Int):=by
    rw [wrapi (by omega) (by omega)];omega
   have e1:A++(P'++[p]++x::(S++D))=(A++P')++p::x::(S++D):=by simp
   have hUp:U p:=hUP p (by rw [←hPS];simp)
   have e2:A.length+P'.length=(A++P').length:=hAP.symm
   have e3:A++(P'++x::(p::S++D))=(A++P')++x::p::(S++D):=by simp
   have hSD:(S++D).length=S.length+D.length:=List.length_append
   rw [hj,e1]
   rw [e1] at hout
   have b0:decide ((A.length:Int)<((A++P').length:Int)+1)=true:=by simp<;>omega
   have hlen:n=(A++P').length+1+1+(S++D).length:=by omega
   have hnx:∀t:{t:List En×List En // t.1++t.2=P0∧∀s ∈ t.2,c x s<0},True:=fun _=>trivial
   clear hnx
   generalize hAPe:A++P'=AP at *
   generalize hSDe:S++D=SD at *
   have g1:(AP++p::x::SD)[AP.length+1]? = some x:=by
    rw [List.getElem?_append_right (by omega)];simp
   have g0:(AP++p::x::SD)[AP.length]? = some p:=by
    rw [List.getElem?_append_right (by omega)];simp
   have g2:((AP++p::x::SD).set (AP.length+1) p)[AP.length]? = some p:=by
    rw [List.getElem?_set_ne (by omega)];exact g0
   have hl2:(AP++p::x::SD).length=n:=by simp;omega
   have hq1:AxOK ((AP++p::x::SD).length * 7) q:=by rw [hl2];exact hq
   have hq2:AxOK (((AP++p::x::SD).set (AP.length+1) p).length * 7) q:=by rw [List.length_set,hl2];exact hq
   have hj1:AP.length+1<n:=by omega
   have hj0:AP.length<n:=by omega
   have sp:=hcmp x p hUx hUp
   repeat' (first|refine ZC ?_|refine ZM ?_|rw [b0]|rw [w1]|refine r_ixP (m:=n) (AP.length+1) hj1 ?_|refine r_ixP (m:=n) AP.length hj0 ?_|refine Y6 7 (AP.length+1) 0 g1 ?_|refine Y6 7 AP.length 0 g0 ?_|refine Wa 7 (AP.length+1) 0 g1 ?_|refine Wa 7 AP.length 0 g0 ?_|refine r_stE 7 (AP.length+1) 0 p g1 hq1 ?_|refine X0 sp (fun _ _=>?_)|refine l_stE 7 AP.length 0 x g2 hq2 ?_|refine ZI 4 [] [(0,0),(1,0),(2,0),(3,0),(4,0),(5,0),(6,0),(7,0),(8,0),(9,0),(10,0),(11,0),(12,0),(13,0),(14,4),(15,0),(16,0)] [] ?_|refine ZI 6 [Ax _ _ _ _ _] [(0,0),(1,0),(2,0),(3,0),(4,0),(5,0),(6,0),(7,0),(8,0),(10,0),(11,0),(12,0),(9,3),(13,3),(14,0),(15,4),(16,0)] [17] ?_|(refine ZB (fun hc=>?_) (fun hc=>?_)<;>(try simp at hc)<;>(try omega))|fail)
   ·rw [swap_set,←e3]
    refine ZJ ⟨(P',p::S),by simpa using hPS,by
     intro s hs
     rcases List.mem_cons.1 hs with rfl|hs
     ·exact hc
     ·exact hS s hs⟩ (by simp) ⟨rfl,rfl,rfl,rfl,rfl,(by show look _ _=some (Value.int .i64 ((A.length+P'.length:Nat):Int));rw [e2];rfl),trivial⟩
   ·rw [hout (by simpa using hc),wn]
    exact ZJ ⟨i+1,by omega,by omega⟩ (by show M.length - (i+1)<M.length - i;omega) ⟨rfl,rfl,rfl,rfl,rfl,trivial⟩
 ·have e1:isR c (M.take i)++(M.drop i++B)=isR c M++B:=by
   rw [List.take_of_length_le (by omega),List.drop_eq_nil_of_le (by omega)];rfl
  rw [e1]
  repeat' (first|refine ZC ?_|refine ZM ?_|(refine ZB (fun hc=>?_) (fun hc=>?_)<;>(try simp at hc)<;>(try omega))|fail)
  exact Zw () rfl trivial
end
section
variable (bk cap:Nat) (q:List Value×(Nat×Nat)) (fv:FuncId) (Fc:Pf)
theorem swpE_ok (l:List En) (n:Nat) (hn:n=l.length) (hn2:n≤1000000) (hq:AxOK (n * 7) q) (a b N:Nat) (hab:a+N≤b) (hb:b+N≤n) :
  Enters 150∧Spec prog 150 #[.slice (some ⟨bk,0,none⟩) n cap,.int .i64 (a:Int),.int .i64 (b:Int),.int .i64 (N:Int),.func (.func fv) #[] #[]] [Fc] [Ax 50 enf bk l q]
   ⟨{l':List En // SwR a b N l l'},fun _=>.tuple #[],fun _=>True,fun _=>[],fun l'=>[Ax 50 enf bk l'.1 q]⟩:=by
 refine ZE [_,_,_,_,_] func150 ntmps150 fun G w hp=>?_
 repeat' (first|refine ZC ?_|fail)
 refine Zj (X:={t:Nat×List En // t.1≤N∧SwR a b t.1 l t.2}) (fun t=>[(0,.slice (some ⟨bk,0,none⟩) n cap),(1,.int .i64 (a:Int)),(2,.int .i64 (b:Int)),(3,.int .i64 (N:Int)),(10,.int .i64 (t.1.1:Int))]) (fun _=>[Fc]) (fun t=>[Ax 50 enf bk t.1.2 q]) (fun t=>N - t.1.1)
  ⟨(0,l),Nat.zero_le _,SwR.init⟩ ⟨rfl,rfl,rfl,rfl,rfl,trivial⟩ ?_
 rintro ⟨⟨i,m⟩,h1,h2⟩
 dsimp only at h1 h2 ⊢
 have hl:=h2.len
 by_cases hij:i<N
 ·have hi:a+i<n:=by omega
  have hj:b+i<n:=by omega
  have ki:a+i<m.length:=by omega
  have kj:b+i<m.length:=by omega
  have kj2:b+i<(m.set (a+i) (gt m (b+i))).length:=by rw [List.length_set];exact kj
  have hq1:AxOK (m.length * 7) q:=by rw [hl,←hn];exact hq
  have hq2:AxOK ((m.set (a+i) (gt m (b+i))).length * 7) q:=by rw [List.length_set];exact hq1
  have w1:IntKind.i64.wrap ((i:Int)+1)=((i+1:Nat):Int):=by rw [wrapi (by omega) (by omega)];omega
  repeat' (first|refine ZC ?_|refine Yc (m:=n) (a+i) hi ?_|refine Yc (m:=n) (b+i) hj ?_|refine Wa 7 (a+i) 0 (ZV ki) ?_|refine Wa 7 (b+i) 0 (ZV kj) ?_|refine r_stE 7 (a+i) 0 (gt m (b+i)) (ZV ki) hq1 ?_|refine l_stE 7 (b+i) 0 (gt m (a+i)) (ZV kj2) hq2 ?_|rw [w1]|refine ZI 3 [Ax _ _ _ _ _] [(0,0),(1,0),(2,0),(3,0),(4,0),(5,0),(6,0),(7,0),(8,0),(9,0),(10,0),(11,0),(12,0),(14,0),(15,0),(16,0),(17,0),(18,0),(13,3),(19,3),(20,0),(21,4),(22,0)] [23] ?_|(refine ZB (fun hc=>?_) (fun hc=>?_)<;>(try simp at hc)<;>(try omega))|fail)
  exact ZJ ⟨(i+1,sw m (a+i) (b+i)),by show i+1≤N;omega,h2.step hij hab (by omega)⟩ (by show N - (i+1)<N - i;omega) ⟨rfl,rfl,rfl,rfl,rfl,trivial⟩
 ·obtain rfl:i=N:=by omega
  repeat' (first|refine ZC ?_|refine ZM ?_|(refine ZB (fun hc=>?_) (fun hc=>?_)<;>(try simp at hc)<;>(try omega))|fail)
  exact Zw ⟨m,h2⟩ rfl trivial
theorem rotE_ok (l:List En) (n:Nat) (hn:n=l.length) (hn2:n≤1000000) (hq:AxOK (n * 7) q) (a m b:Nat) (ham:a<m) (hmb:m<b) (hb:b≤n) :
  Enters 126∧Spec prog 126 #[.slice (some ⟨bk,0,none⟩) n cap,.int .i64 (a:Int),.int .i64 (m:Int),.int .i64 (b:Int),.func (.func fv) #[] #[]] [Fc] [Ax 50 enf bk l q]
   ⟨{l':List En // Rot a m b l l'},fun _=>.tuple #[],fun _=>True,fun _=>[],fun l'=>[Ax 50 enf bk l'.1 q]⟩:=by
 have w0:IntKind.i64.wrap ((m:Int) - (a:Int))=((m - a:Nat):Int):=by rw [wrapi (by omega) (by omega)];omega
 have w1:IntKind.i64.wrap ((b:Int) - (m:Int))=((b - m:Nat):Int):=by rw [wrapi (by omega) (by omega)];omega
 refine ZE [_,_,_,_,_] func126 ntmps126 fun G w hp=>?_
 repeat' (first|refine ZC ?_|rw [w0]|rw [w1]|fail)
 refine Zj (X:={t:Nat×Nat×List En // 0<t.1∧0<t.2.1∧t.1≤m - a∧t.2.1≤b - m∧t.2.2.length=l.length∧∀l',Rot (m - t.1) m (m+t.2.1) t.2.2 l'→Rot a m b l l'}) (fun t=>[(0,.slice (some ⟨bk,0,none⟩) n cap),(2,.int .i64 (m:Int)),(4,.func (.func fv) #[] #[]),(10,.int .i64 (t.1.1:Int)),(11,.int .i64 (t.1.2.1:Int))]) (fun _=>[Fc]) (fun t=>[Ax 50 enf bk t.1.2.2 q]) (fun t=>t.1.1+t.1.2.1)
  ⟨(m - a,b - m,l),by show 0<m - a;omega,by show 0<b - m;omega,Nat.le_refl _,Nat.le_refl _,rfl,fun l' h=>by
   have e1:m - (m - a)=a:=by omega
   have e2:m+(b - m)=b:=by omega
   dsimp only at h
   rw [e1,e2] at h
   exact h⟩ ⟨rfl,rfl,rfl,rfl,rfl,trivial⟩ ?_
 rintro ⟨⟨i,j,D⟩,h1,h2,h3,h4,h5,h6⟩
 dsimp only at h1 h2 h3 h4 h5 h6 ⊢
 have hq1:AxOK (n * 7) q:=hq
 have v1:IntKind.i64.wrap ((m:Int) - (i:Int))=((m - i:Nat):Int):=by rw [wrapi (by omega) (by omega)];omega
 have v2:IntKind.i64.wrap ((m:Int)+(j:Int))=((m+j:Nat):Int):=by rw [wrapi (by omega) (by omega)];omega
 rcases Nat.lt_trichotomy i j with hij|hij|hij
 ·have v3:IntKind.i64.wrap (((m+j:Nat):Int) - (i:Int))=((m+j - i:Nat):Int):=by rw [wrapi (by omega) (by omega)];omega
  have v4:IntKind.i64.wrap ((j:Int) - (i:Int))=((j - i:Nat):Int):=by rw [wrapi (by omega) (by omega)];omega
  have s1:=swpE_ok bk cap q fv Fc D n (by omega) hn2 hq1 (m - i) (m+j - i) i (by omega) (by omega)
  repeat' (first|refine ZC ?_|refine ZA (s1) (fun _ _=>?_)|rw [v1]|rw [v2]|rw [v3]|rw [v4]|(refine ZB (fun hc=>?_) (fun hc=>?_)<;>(try simp at hc)<;>(try omega))|fail)
  rename_i D2 _
  obtain ⟨D2,hD⟩:=D2
  exact ZJ ⟨(i,j - i,D2),h1,by show 0<j - i;omega,h3,by show j - i≤_;omega,by show D2.length=_;rw [hD.len];exact h5,fun l' h=>h6 l' (rot_lt (by omega) hij hD (by
   have e:m+(j - i)=m+j - i:=by omega
   dsimp only at h
   rw [e] at h
   exact h))⟩ (by show i+(j - i)<i+j;omega) ⟨rfl,rfl,rfl,rfl,rfl,trivial⟩
 ·subst hij
  have s1:=swpE_ok bk cap q fv Fc D n (by omega) hn2 hq1 (m - i) m i (by omega) (by omega)
  repeat' (first|refine ZC ?_|refine ZM ?_|refine ZA (s1) (fun _ _=>?_)|rw [v1]|(refine ZB (fun hc=>?_) (fun hc=>?_)<;>(try simp at hc)<;>(try omega))|fail)
  rename_i D2 _
  obtain ⟨D2,hD⟩:=D2
  exact Zw ⟨D2,h6 D2 (rot_eq (by omega) hD)⟩ rfl trivial
 ·have v4:IntKind.i64.wrap ((i:Int) - (j:Int))=((i - j:Nat):Int):=by rw [wrapi (by omega) (by omega)];omega
  have s1:=swpE_ok bk cap q fv Fc D n (by omega) hn2 hq1 (m - i) m j (by omega) (by omega)
  repeat' (first|refine ZC ?_|refine ZA (s1) (fun _ _=>?_)|rw [v1]|rw [v4]|(refine ZB (fun hc=>?_) (fun hc=>?_)<;>(try simp at hc)<;>(try omega))|fail)
  rename_i D2 _
  obtain ⟨D2,hD⟩:=D2
  exact ZJ ⟨(i - j,j,D2),by show 0<i - j;omega,h2,by show i - j≤_;omega,h4,by show D2.length=_;rw [hD.len];exact h5,fun l' h=>h6 l' (rot_gt (by omega) hij hD h)⟩ (by show i - j+j<i+j;omega) ⟨rfl,rfl,rfl,rfl,rfl,trivial⟩
end
theorem halfW {i j:Nat} (_h:i+j<4611686018427387904):((i+j:Nat):Int).fdiv (2 ^ min (Int.toNat 1) IntKind.u64.bits)=(((i+j) / 2:Nat):Int):=by
 have e:(2:Int) ^ min (Int.toNat 1) IntKind.u64.bits=2:=rfl
 rw [e,Int.fdiv_eq_ediv_of_nonneg _ (by decide)];omega
section
variable {α:Type} [Inhabited α] {c:α→α→Int} {D D1 D2:List α} {a s m e b mid:Nat}
theorem rot_mem (q2:s≤m) (q3:m≤e) (hb:e≤D.length) (hr:Rot s m e D D1) {x:α} (hx:x ∈ D1):x ∈ D:=by
 obtain ⟨k,hk,rfl⟩:=List.mem_iff_getElem.1 hx
 have hl:=hr.len
 have hg:D1[k]=gt D1 k:=(gt_of (List.getElem?_eq_getElem hk)).symm
 rw [hg]
 by_cases h1:k<s∨e≤k
 ·rw [hr.out k h1];exact X7 (by omega)
 ·by_cases h2:k<s+(e - m)
  ·rw [show k=s+(k - s) by omega,hr.lo (k - s) (by omega)]
   exact X7 (by omega)
  ·rw [show k=s+(e - m)+(k - (s+(e - m))) by omega,hr.hi _ (by omega)]
   exact X7 (by omega)
theorem rot_sw (q1:a≤s) (q2:s≤m) (q3:m≤e) (q4:e≤b) (hmid:mid=s+(e - m)) (hL:Sw c a m D) (hR:Sw c m b D) (hr:Rot s m e D D1):Sw c a s D1∧Sw c s mid D1∧Sw c mid e D1∧Sw c e b D1:=by
 refine ⟨fun i j h1 h2 h3=>?_,fun i j h1 h2 h3=>?_,fun i j h1 h2 h3=>?_,fun i j h1 h2 h3=>?_⟩
 ·rw [hr.out i (by omega),hr.out j (by omega)]
  exact hL i j h1 h2 (by omega)
 ·have e1:=hr.lo (i - s) (by omega)
  have e2:=hr.lo (j - s) (by omega)
  rw [show s+(i - s)=i by omega] at e1
  rw [show s+(j - s)=j by omega] at e2
  rw [e1,e2]
  exact hR _ _ (by omega) (by omega) (by omega)
 ·have e1:=hr.hi (i - mid) (by omega)
  have e2:=hr.hi (j - mid) (by omega)
  rw [show s+(e - m)+(i - mid)=i by omega] at e1
  rw [show s+(e - m)+(j - mid)=j by omega] at e2
  rw [e1,e2]
  exact hL _ _ (by omega) (by omega) (by omega)
 ·rw [hr.out i (by omega),hr.out j (by omega)]
  exact hR i j (by omega) h2 h3
theorem Xe {x y:Nat} (h:Win a b D D1) (hs:Sw c x y D) (hxy:b≤x∨y≤a):Sw c x y D1:=fun i j h1 h2 h3=>by
 rw [h.out i (by omega),h.out j (by omega)]
 exact hs i j h1 h2 h3
end
section
variable (bk cap:Nat) (q:List Value×(Nat×Nat)) (fv:FuncId) (Fc:Pf) (c:En→En→Int) (W:Wk0 c) (U:En→Prop) (hcmp:∀x y,U x→U y→Enters fv∧Spec prog fv #[x.w,y.w] [Fc] [] (RetV (.int .i64 (c x y))))
def SymP (n:Nat) (l:List En) (a m b:Nat):Prop:=Enters 98∧Spec prog 98 #[.slice (some ⟨bk,0,none⟩) n cap,.int .i64 (a:Int),.int .i64 (m:Int),.int .i64 (b:Int),.func (.func fv) #[] #[]] [Fc] [Ax 50 enf bk l q]
   ⟨{l':List En // Sm c a b l l'},fun _=>.tuple #[],fun _=>True,fun _=>[],fun l'=>[Ax 50 enf bk l'.1 q]⟩
include hcmp W in
set_option maxHeartbeats 4000000 in
theorem symL_ok (l:List En) (n:Nat) (hn:n=l.length) (hn2:n≤1000000) (hq:AxOK (n * 7) q) (hU:∀x ∈ l,U x) (a m b:Nat) (ham:m=a+1) (hmb:m<b) (hb:b≤n) (hR:Sw c m b l):SymP bk cap q fv Fc c n l a m b:=by
 have ka:a<l.length:=by omega
 have w0:IntKind.i64.wrap ((m:Int) - (a:Int))=1:=by rw [wrapi (by omega) (by omega)];omega
 unfold SymP
 refine ZE [_,_,_,_,_] func98 ntmps98 fun G w hp=>?_
 repeat' (first|refine ZC ?_|rw [w0]|fail)
 refine YD (X:={t:Nat×Nat // m≤t.1∧t.1≤t.2∧t.2≤b∧(∀x,m≤x→x<t.1→c (gt l x) (gt l a)<0)∧∀x,t.2≤x→x<b→¬c (gt l x) (gt l a)<0}) (Y:={e:Nat // m≤e∧e≤b∧(∀x,m≤x→x<e→c (gt l x) (gt l a)<0)∧∀x,e≤x→x<b→¬c (gt l x) (gt l a)<0})
  (fun t=>[(0,.slice (some ⟨bk,0,none⟩) n cap),(1,.int .i64 (a:Int)),(4,.func (.func fv) #[] #[]),(10,.int .i64 (t.1.1:Int)),(11,.int .i64 (t.1.2:Int))]) (fun _=>[Fc]) (fun _=>[Ax 50 enf bk l q]) (fun t=>t.1.2 - t.1.1)
  (fun e=>[(0,.slice (some ⟨bk,0,none⟩) n cap),(1,.int .i64 (a:Int)),(10,.int .i64 (e.1:Int))]) (fun _=>[Fc]) (fun _=>[Ax 50 enf bk l q])
  ⟨(m,b),Nat.le_refl _,by show m≤b;omega,Nat.le_refl _,fun x h1 h2=>by dsimp only at h2;omega,fun x h1 h2=>by dsimp only at h1;omega⟩ ⟨rfl,rfl,rfl,rfl,rfl,trivial⟩ ?_ ?_
 ·rintro ⟨e,e1,e2,e3,e4⟩
  dsimp only
  have w1:IntKind.i64.wrap ((e:Int) - 1)=((e - 1:Nat):Int):=by rw [wrapi (by omega) (by omega)];omega
  repeat' (first|refine ZC ?_|fail)
  refine Zj (X:={t:Nat×List En // a≤t.1∧t.1+1≤e∧Rot a m (t.1+1) l t.2}) (fun t=>[(0,.slice (some ⟨bk,0,none⟩) n cap),(10,.int .i64 (e:Int)),(13,.int .i64 (t.1.1:Int))]) (fun _=>[Fc]) (fun t=>[Ax 50 enf bk t.1.2 q]) (fun t=>e - t.1.1)
   ⟨(a,l),Nat.le_refl _,by show a+1≤e;omega,Rot.same (by omega) (by show m≤a+1;omega) (.inr ham)⟩ ⟨rfl,rfl,rfl,trivial⟩ ?_
  rintro ⟨⟨i,D⟩,h1,h2,h3⟩
  dsimp only at h1 h2 h3 ⊢
  have hl:=h3.len
  by_cases hij:i+1<e
  ·have hi:i<n:=by omega
   have hj:i+1<n:=by omega
   have ki:i<D.length:=by omega
   have kj:i+1<D.length:=by omega
   have kj2:i+1<(D.set i (gt D (i+1))).length:=by rw [List.length_set];exact kj
   have hq1:AxOK (D.length * 7) q:=by rw [hl,←hn];exact hq
   have hq2:AxOK ((D.set i (gt D (i+1))).length * 7) q:=by rw [List.length_set];exact hq1
   have w2:IntKind.i64.wrap ((i:Int)+1)=((i+1:Nat):Int):=by rw [wrapi (by omega) (by omega)];omega
   subst ham
   repeat' (first|refine ZC ?_|refine Yc (m:=n) (i) hi ?_|refine Yc (m:=n) (i+1) hj ?_|refine Wa 7 (i) 0 (ZV ki) ?_|refine Wa 7 (i+1) 0 (ZV kj) ?_|refine r_stE 7 (i) 0 (gt D (i+1)) (ZV ki) hq1 ?_|refine l_stE 7 (i+1) 0 (gt D i) (ZV kj2) hq2 ?_|rw [w1]|rw [w2]|refine ZI 11 [Ax _ _ _ _ _] [(0,0),(1,0),(2,0),(3,0),(4,0),(5,0),(6,0),(7,0),(8,0),(10,0),(11,0),(12,0),(9,3),(13,3),(14,0),(15,4),(16,0)] [17] ?_|(refine ZB (fun hc=>?_) (fun hc=>?_)<;>(try simp at hc)<;>(try omega))|fail)
   exact ZJ ⟨(i+1,sw D i (i+1)),by show a≤i+1;omega,by show i+1+1≤e;omega,rot_up h3 h1 (by omega)⟩ (by show e - (i+1)<e - i;omega) ⟨rfl,rfl,rfl,trivial⟩
  ·obtain rfl:e=i+1:=by omega
   repeat' (first|refine ZC ?_|refine ZM ?_|rw [w1]|(refine ZB (fun hc=>?_) (fun hc=>?_)<;>(try simp at hc)<;>(try omega))|fail)
   exact ZD ⟨D,sm_left W ham e1 e2 (by omega) hR e3 e4 h3⟩ rfl trivial
 ·rintro hx ⟨⟨i,j⟩,h1,h2,h3,h4,h5⟩
  dsimp only at h1 h2 h3 h4 h5 ⊢
  by_cases hlt:i<j
  ·have w1:IntKind.i64.wrap ((i:Int)+(j:Int))=((i+j:Nat):Int):=by rw [wrapi (by omega) (by omega)];omega
   have w2:IntKind.u64.wrap ((i+j:Nat):Int)=((i+j:Nat):Int):=wrap64 (by omega)
   have w3:=halfW (i:=i) (j:=j) (by omega)
   have w4:=wrapi (z:=(((i+j) / 2:Nat):Int)) (by omega) (by omega)
   have w5:IntKind.i64.wrap ((((i+j) / 2:Nat):Int)+1)=(((i+j) / 2+1:Nat):Int):=by rw [wrapi (by omega) (by omega)];omega
   have hh1:i≤(i+j) / 2∧(i+j) / 2<j:=by omega
   generalize (i+j) / 2=h at *
   have kh:h<l.length:=by omega
   have hhn:h<n:=by omega
   have han:a<n:=by omega
   have n1:=hcmp (gt l h) (gt l a) (hU _ (X7 kh)) (hU _ (X7 ka))
   by_cases hc0:c (gt l h) (gt l a)<0
   ·repeat' (first|refine ZC ?_|rw [w1]|rw [w2]|rw [w3]|rw [w4]|rw [w5]|refine Yc (m:=n) (h) hhn ?_|refine Yc (m:=n) (a) han ?_|refine Y6 7 (h) 0 (ZV kh) ?_|refine Y6 7 (a) 0 (ZV ka) ?_|refine X0 n1 (fun _ _=>?_)|refine ZI 5 [] [(0,0),(1,0),(2,0),(3,0),(4,0),(5,0),(6,0),(7,0),(8,0),(9,4),(10,0)] [] ?_|(refine ZB (fun hc=>?_) (fun hc=>?_)<;>(try simp at hc)<;>(try omega))|fail)
    exact ZJ ⟨(h+1,j),by show m≤h+1;omega,by show h+1≤j;omega,h3,fun x x1 x2=>by
     dsimp only at x2
     by_cases hxh:x=h
     ·rw [hxh];exact hc0
     ·exact W.le_lt (hR x h x1 (by omega) (by omega)) hc0,h5⟩ (by show j - (h+1)<j - i;omega) ⟨rfl,rfl,rfl,rfl,rfl,trivial⟩
   ·repeat' (first|refine ZC ?_|rw [w1]|rw [w2]|rw [w3]|rw [w4]|refine Yc (m:=n) (h) hhn ?_|refine Yc (m:=n) (a) han ?_|refine Y6 7 (h) 0 (ZV kh) ?_|refine Y6 7 (a) 0 (ZV ka) ?_|refine X0 n1 (fun _ _=>?_)|refine ZI 5 [] [(0,0),(1,0),(2,0),(3,0),(4,0),(5,0),(6,0),(7,0),(8,0),(9,4),(10,0)] [] ?_|(refine ZB (fun hc=>?_) (fun hc=>?_)<;>(try simp at hc)<;>(try omega))|fail)
    exact ZJ ⟨(i,h),h1,by show i≤h;omega,by show h≤b;omega,h4,fun x x1 x2 hxc=>by
     dsimp only at x1
     by_cases hxh:x=h
     ·rw [hxh] at hxc;exact hc0 hxc
     ·exact hc0 (W.le_lt (hR h x (by omega) (by omega) x2) hxc)⟩ (by show h - i<j - i;omega) ⟨rfl,rfl,rfl,rfl,rfl,trivial⟩
  ·obtain rfl:i=j:=by omega
   repeat' (first|refine ZC ?_|(refine ZB (fun hc=>?_) (fun hc=>?_)<;>(try simp at hc)<;>(try omega))|fail)
   exact Z2 hx ⟨i,h1,h3,h4,h5⟩ ⟨rfl,rfl,rfl,trivial⟩
include hcmp W in
set_option maxHeartbeats 4000000 in
theorem symR_ok (l:List En) (n:Nat) (hn:n=l.length) (hn2:n≤1000000) (hq:AxOK (n * 7) q) (hU:∀x ∈ l,U x) (a m b:Nat) (ham:a+1<m) (hmb:b=m+1) (hb:b≤n) (hL:Sw c a m l):SymP bk cap q fv Fc c n l a m b:=by
 have km:m<l.length:=by omega
 have w0:IntKind.i64.wrap ((m:Int) - (a:Int))=((m - a:Nat):Int):=by rw [wrapi (by omega) (by omega)];omega
 have w00:IntKind.i64.wrap ((b:Int) - (m:Int))=1:=by rw [wrapi (by omega) (by omega)];omega
 unfold SymP
 refine ZE [_,_,_,_,_] func98 ntmps98 fun G w hp=>?_
 repeat' (first|refine ZC ?_|rw [w0]|rw [w00]|(refine ZB (fun hc=>?_) (fun hc=>?_)<;>(try simp at hc)<;>(try omega))|fail)
 refine YD (X:={t:Nat×Nat // a≤t.1∧t.1≤t.2∧t.2≤m∧(∀x,a≤x→x<t.1→¬c (gt l m) (gt l x)<0)∧∀x,t.2≤x→x<m→c (gt l m) (gt l x)<0}) (Y:={e:Nat // a≤e∧e≤m∧(∀x,a≤x→x<e→¬c (gt l m) (gt l x)<0)∧∀x,e≤x→x<m→c (gt l m) (gt l x)<0})
  (fun t=>[(0,.slice (some ⟨bk,0,none⟩) n cap),(2,.int .i64 (m:Int)),(4,.func (.func fv) #[] #[]),(14,.int .i64 (t.1.1:Int)),(15,.int .i64 (t.1.2:Int))]) (fun _=>[Fc]) (fun _=>[Ax 50 enf bk l q]) (fun t=>t.1.2 - t.1.1)
  (fun e=>[(0,.slice (some ⟨bk,0,none⟩) n cap),(2,.int .i64 (m:Int)),(14,.int .i64 (e.1:Int))]) (fun _=>[Fc]) (fun _=>[Ax 50 enf bk l q])
  ⟨(a,m),Nat.le_refl _,by show a≤m;omega,Nat.le_refl _,fun x h1 h2=>by dsimp only at h2;omega,fun x h1 h2=>by dsimp only at h1;omega⟩ ⟨rfl,rfl,rfl,rfl,rfl,trivial⟩ ?_ ?_
 ·rintro ⟨e,e1,e2,e3,e4⟩
  dsimp only
  repeat' (first|refine ZC ?_|fail)
  refine Zj (X:={t:Nat×List En // e≤t.1∧t.1≤m∧Rot t.1 m (m+1) l t.2}) (fun t=>[(0,.slice (some ⟨bk,0,none⟩) n cap),(14,.int .i64 (e:Int)),(17,.int .i64 (t.1.1:Int))]) (fun _=>[Fc]) (fun t=>[Ax 50 enf bk t.1.2 q]) (fun t=>t.1.1 - e)
   ⟨(m,l),e2,Nat.le_refl _,Rot.same (Nat.le_refl _) (by omega) (.inl rfl)⟩ ⟨rfl,rfl,rfl,trivial⟩ ?_
  rintro ⟨⟨i,D⟩,h1,h2,h3⟩
  dsimp only at h1 h2 h3 ⊢
  have hl:=h3.len
  by_cases hij:e<i
  ·have hi:i<n:=by omega
   have hj:i - 1<n:=by omega
   have ki:i<D.length:=by omega
   have kj:i - 1<D.length:=by omega
   have kj2:i - 1<(D.set i (gt D (i - 1))).length:=by rw [List.length_set];exact kj
   have hq1:AxOK (D.length * 7) q:=by rw [hl,←hn];exact hq
   have hq2:AxOK ((D.set i (gt D (i - 1))).length * 7) q:=by rw [List.length_set];exact hq1
   have w2:IntKind.i64.wrap ((i:Int) - 1)=((i - 1:Nat):Int):=by rw [wrapi (by omega) (by omega)];omega
   repeat' (first|refine ZC ?_|refine Yc (m:=n) (i) hi ?_|refine Yc (m:=n) (i - 1) hj ?_|refine Wa 7 (i) 0 (ZV ki) ?_|refine Wa 7 (i - 1) 0 (ZV kj) ?_|refine r_stE 7 (i) 0 (gt D (i - 1)) (ZV ki) hq1 ?_|refine l_stE 7 (i - 1) 0 (gt D i) (ZV kj2) hq2 ?_|rw [w2]|refine ZI 23 [Ax _ _ _ _ _] [(0,0),(1,0),(2,0),(3,0),(4,0),(5,0),(6,0),(7,0),(8,0),(10,0),(11,0),(12,0),(9,3),(13,3),(14,0),(15,4),(16,0)] [17] ?_|(refine ZB (fun hc=>?_) (fun hc=>?_)<;>(try simp at hc)<;>(try omega))|fail)
   exact ZJ ⟨(i - 1,sw D i (i - 1)),by show e≤i - 1;omega,by show i - 1≤m;omega,rot_dn h3 (by omega) h2 (by omega)⟩ (by show i - 1 - e<i - e;omega) ⟨rfl,rfl,rfl,trivial⟩
  ·obtain rfl:e=i:=by omega
   repeat' (first|refine ZC ?_|refine ZM ?_|(refine ZB (fun hc=>?_) (fun hc=>?_)<;>(try simp at hc)<;>(try omega))|fail)
   subst hmb
   exact ZD ⟨D,sm_right W rfl e1 e2 (by omega) hL e4 e3 h3⟩ rfl trivial
 ·rintro hx ⟨⟨i,j⟩,h1,h2,h3,h4,h5⟩
  dsimp only at h1 h2 h3 h4 h5 ⊢
  by_cases hlt:i<j
  ·have w1:IntKind.i64.wrap ((i:Int)+(j:Int))=((i+j:Nat):Int):=by rw [wrapi (by omega) (by omega)];omega
   have w2:IntKind.u64.wrap ((i+j:Nat):Int)=((i+j:Nat):Int):=wrap64 (by omega)
   have w3:=halfW (i:=i) (j:=j) (by omega)
   have w4:=wrapi (z:=(((i+j) / 2:Nat):Int)) (by omega) (by omega)
   have w5:IntKind.i64.wrap ((((i+j) / 2:Nat):Int)+1)=(((i+j) / 2+1:Nat):Int):=by rw [wrapi (by omega) (by omega)];omega
   have hh1:i≤(i+j) / 2∧(i+j) / 2<j:=by omega
   generalize (i+j) / 2=h at *
   have kh:h<l.length:=by omega
   have hhn:h<n:=by omega
   have hmn:m<n:=by omega
   have n1:=hcmp (gt l m) (gt l h) (hU _ (X7 km)) (hU _ (X7 kh))
   by_cases hc0:c (gt l m) (gt l h)<0
   ·repeat' (first|refine ZC ?_|rw [w1]|rw [w2]|rw [w3]|rw [w4]|refine Yc (m:=n) (h) hhn ?_|refine Yc (m:=n) (m) hmn ?_|refine Y6 7 (h) 0 (ZV kh) ?_|refine Y6 7 (m) 0 (ZV km) ?_|refine X0 n1 (fun _ _=>?_)|refine ZI 17 [] [(0,0),(1,0),(2,0),(3,0),(4,0),(5,0),(6,0),(7,0),(8,0),(9,4),(10,0),(11,0)] [] ?_|(refine ZB (fun hc=>?_) (fun hc=>?_)<;>(try simp at hc)<;>(try omega))|fail)
    exact ZJ ⟨(i,h),h1,by show i≤h;omega,by show h≤m;omega,h4,fun x x1 x2=>by
     dsimp only at x1
     by_cases hxh:x=h
     ·rw [hxh];exact hc0
     ·exact W.lt_of hc0 (hL h x (by omega) (by omega) x2)⟩ (by show h - i<j - i;omega) ⟨rfl,rfl,rfl,rfl,rfl,trivial⟩
   ·repeat' (first|refine ZC ?_|rw [w1]|rw [w2]|rw [w3]|rw [w4]|rw [w5]|refine Yc (m:=n) (h) hhn ?_|refine Yc (m:=n) (m) hmn ?_|refine Y6 7 (h) 0 (ZV kh) ?_|refine Y6 7 (m) 0 (ZV km) ?_|refine X0 n1 (fun _ _=>?_)|refine ZI 17 [] [(0,0),(1,0),(2,0),(3,0),(4,0),(5,0),(6,0),(7,0),(8,0),(9,4),(10,0),(11,0)] [] ?_|(refine ZB (fun hc=>?_) (fun hc=>?_)<;>(try simp at hc)<;>(try omega))|fail)
    exact ZJ ⟨(h+1,j),by show a≤h+1;omega,by show h+1≤j;omega,h3,fun x x1 x2 hxc=>by
     dsimp only at x2
     by_cases hxh:x=h
     ·rw [hxh] at hxc;exact hc0 hxc
     ·exact hc0 (W.lt_of hxc (hL x h x1 (by omega) (by omega))),h5⟩ (by show j - (h+1)<j - i;omega) ⟨rfl,rfl,rfl,rfl,rfl,trivial⟩
  ·obtain rfl:i=j:=by omega
   repeat' (first|refine ZC ?_|(refine ZB (fun hc=>?_) (fun hc=>?_)<;>(try simp at hc)<;>(try omega))|fail)
   exact Z2 hx ⟨i,h1,h3,h4,h5⟩ ⟨rfl,rfl,rfl,trivial⟩
include hcmp W in
set_option maxHeartbeats 8000000 in
theorem symG_ok (l:List En) (n:Nat) (hn:n=l.length) (hn2:n≤1000000) (hq:AxOK (n * 7) q) (hU:∀x ∈ l,U x) (a m b:Nat) (ham:a+1<m) (hmb:m+1<b) (hb:b≤n) (hL:Sw c a m l) (hR:Sw c m b l)
  (ih:∀(D:List En) (x y z:Nat),z - x<b - a→D.length=n→(∀e ∈ D,U e)→x<y→y<z→z≤n→Sw c x y D→Sw c y z D→SymP bk cap q fv Fc c n D x y z):SymP bk cap q fv Fc c n l a m b:=by
 have w0:IntKind.i64.wrap ((m:Int) - (a:Int))=((m - a:Nat):Int):=by rw [wrapi (by omega) (by omega)];omega
 have w00:IntKind.i64.wrap ((b:Int) - (m:Int))=((b - m:Nat):Int):=by rw [wrapi (by omega) (by omega)];omega
 have w1:IntKind.i64.wrap ((a:Int)+(b:Int))=((a+b:Nat):Int):=by rw [wrapi (by omega) (by omega)];omega
 have w2:IntKind.u64.wrap ((a+b:Nat):Int)=((a+b:Nat):Int):=wrap64 (by omega)
 have w3:=halfW (i:=a) (j:=b) (by omega)
 have w4:=wrapi (z:=(((a+b) / 2:Nat):Int)) (by omega) (by omega)
 obtain ⟨mid,hmid⟩:∃mid,mid=(a+b) / 2:=⟨_,rfl⟩
 rw [←hmid] at w3 w4
 have w5:IntKind.i64.wrap ((mid:Int)+(m:Int))=((mid+m:Nat):Int):=by rw [wrapi (by omega) (by omega)];omega
 have w7:IntKind.i64.wrap (((mid+m:Nat):Int) - 1)=((mid+m - 1:Nat):Int):=by rw [wrapi (by omega) (by omega)];omega
 unfold SymP
 refine ZE [_,_,_,_,_] func98 ntmps98 fun G w hp=>?_
 refine XJ (Y:={t:Nat×Nat // CutB a m b mid (mid+m - 1) t.1 t.2}) 6 (fun t=>[(0,.slice (some ⟨bk,0,none⟩) n cap),(1,.int .i64 (a:Int)),(2,.int .i64 (m:Int)),(3,.int .i64 (b:Int)),(4,.func (.func fv) #[] #[]),(18,.int .i64 (mid:Int)),(19,.int .i64 ((mid+m:Nat):Int)),(20,.int .i64 (t.1.1:Int)),(21,.int .i64 (t.1.2:Int))]) (fun _=>[Fc]) (fun _=>[Ax 50 enf bk l q]) ?_ ?_
 ·rintro ⟨⟨s0,r0⟩,B⟩
  dsimp only at B ⊢
  have hsr:s0≤r0∧r0≤m∧r0≤mid:=by
   obtain ⟨b1,b2,b3,b4,b5⟩:=B
   omega
  repeat' (first|refine ZC ?_|rw [w7]|fail)
  refine YD (X:={t:Nat×Nat // Cut c l (mid+m - 1) s0 r0 t.1 t.2}) (Y:={s:Nat // Cut c l (mid+m - 1) s0 r0 s s})
   (fun t=>[(0,.slice (some ⟨bk,0,none⟩) n cap),(1,.int .i64 (a:Int)),(2,.int .i64 (m:Int)),(3,.int .i64 (b:Int)),(4,.func (.func fv) #[] #[]),(18,.int .i64 (mid:Int)),(19,.int .i64 ((mid+m:Nat):Int)),(20,.int .i64 (t.1.1:Int)),(21,.int .i64 (t.1.2:Int)),(22,.int .i64 ((mid+m - 1:Nat):Int))]) (fun _=>[Fc]) (fun _=>[Ax 50 enf bk l q]) (fun t=>t.1.2 - t.1.1)
   (fun s=>[(0,.slice (some ⟨bk,0,none⟩) n cap),(1,.int .i64 (a:Int)),(2,.int .i64 (m:Int)),(3,.int .i64 (b:Int)),(4,.func (.func fv) #[] #[]),(18,.int .i64 (mid:Int)),(19,.int .i64 ((mid+m:Nat):Int)),(20,.int .i64 (s.1:Int))]) (fun _=>[Fc]) (fun _=>[Ax 50 enf bk l q])
   ⟨(s0,r0),Cut.init hsr.1⟩ ⟨rfl,rfl,rfl,rfl,rfl,rfl,rfl,rfl,rfl,rfl,trivial⟩ ?_ ?_
  ·rintro ⟨s,hs⟩
   dsimp only
   obtain ⟨e,he⟩:∃e,e=mid+m - s:=⟨_,rfl⟩
   obtain ⟨q1,q2,q3,q4,q5,q6,q7⟩:=hs.done W B hL hR he
   have v1:IntKind.i64.wrap (((mid+m:Nat):Int) - (s:Int))=(e:Int):=by rw [wrapi (by omega) (by omega)];omega
   refine XJ (Y:={D1:List En // Rot s m e l D1}) 2 (fun _=>[(0,.slice (some ⟨bk,0,none⟩) n cap),(1,.int .i64 (a:Int)),(3,.int .i64 (b:Int)),(4,.func (.func fv) #[] #[]),(18,.int .i64 (mid:Int)),(20,.int .i64 (s:Int)),(24,.int .i64 (e:Int))]) (fun _=>[Fc]) (fun D1=>[Ax 50 enf bk D1.1 q]) ?_ ?_
   ·rintro ⟨D1,hr⟩
    dsimp only
    obtain ⟨t1,t2,t3,t4⟩:=rot_sw q1 q2 q3 q4 q5 hL hR hr
    have hU1:∀x ∈ D1,U x:=fun x hx=>hU x (rot_mem q2 q3 (by omega) hr hx)
    have hl1:=hr.len
    refine XJ (Y:={D2:List En // Sm c a mid D1 D2}) 1 (fun _=>[(0,.slice (some ⟨bk,0,none⟩) n cap),(3,.int .i64 (b:Int)),(4,.func (.func fv) #[] #[]),(18,.int .i64 (mid:Int)),(24,.int .i64 (e:Int))]) (fun _=>[Fc]) (fun D2=>[Ax 50 enf bk D2.1 q]) ?_ ?_
    ·rintro ⟨D2,hm2⟩
     dsimp only
     have hU2:∀x ∈ D2,U x:=fun x hx=>hU1 x (hm2.1.perm.mem_iff.1 hx)
     have hl2:=hm2.1.len
     have t3':=Xe hm2.1 t3 (.inl (Nat.le_refl _))
     have t4':=Xe hm2.1 t4 (.inl (by omega))
     by_cases hcs:mid<e∧e<b
     ·have s1:=ih D2 mid e b (by omega) (by omega) hU2 hcs.1 hcs.2 hb t3' t4'
      unfold SymP at s1
      repeat' (first|refine ZC ?_|refine ZA (s1) (fun _ _=>?_)|(refine ZG (fun hc=>?_) (fun hc=>?_)<;>(try simp at hc)<;>(try omega))|(refine ZB (fun hc=>?_) (fun hc=>?_)<;>(try simp at hc)<;>(try omega))|fail)
      rename_i D3 _
      exact Zw ⟨D3.1,sm_join W q1 q2 q3 q4 (by omega) q5 q6 q7 hL hR hr hm2 D3.2⟩ rfl trivial
     ·have hs3:Sw c mid b D2:=by
       rcases Nat.lt_or_ge mid e with h|h
       ·have:e=b:=by omega
        rw [←this];exact t3'
       ·have:e=mid:=by omega
        rw [←this];exact t4'
      repeat' (first|refine ZC ?_|(refine ZG (fun hc=>?_) (fun hc=>?_)<;>(try simp at hc)<;>(try omega))|(refine ZB (fun hc=>?_) (fun hc=>?_)<;>(try simp at hc)<;>(try omega))|fail)
      all_goals exact Zw ⟨D2,sm_join W q1 q2 q3 q4 (by omega) q5 q6 q7 hL hR hr hm2 (Sm.self (by omega) hs3)⟩ rfl trivial
    ·intro hx2
     by_cases hcs:a<s∧s<mid
     ·have s1:=ih D1 a s mid (by omega) (by omega) hU1 hcs.1 hcs.2 (by omega) t1 t2
      unfold SymP at s1
      repeat' (first|refine k_to hx2 ⟨_,Subtype.property _⟩ ⟨rfl,rfl,rfl,rfl,rfl,trivial⟩|refine ZC ?_|refine ZA (s1) (fun _ _=>?_)|(refine ZG (fun hc=>?_) (fun hc=>?_)<;>(try simp at hc)<;>(try omega))|(refine ZB (fun hc=>?_) (fun hc=>?_)<;>(try simp at hc)<;>(try omega))|fail)
     ·have hs3:Sw c a mid D1:=by
       rcases Nat.lt_or_ge a s with h|h
       ·have:s=mid:=by omega
        rw [←this];exact t1
       ·have:s=a:=by omega
        rw [←this];exact t2
      repeat' (first|refine Wf ?_|refine k_to hx2 ⟨D1,Sm.self (by omega) hs3⟩ ⟨rfl,rfl,rfl,rfl,rfl,trivial⟩|refine ZC ?_|(refine ZG (fun hc=>?_) (fun hc=>?_)<;>(try simp at hc)<;>(try omega))|(refine ZB (fun hc=>?_) (fun hc=>?_)<;>(try simp at hc)<;>(try omega))|fail)
   ·intro hx1
    by_cases hcs:s<m∧m<e
    ·have s1:=rotE_ok bk cap q fv Fc l n hn hn2 hq s m e hcs.1 hcs.2 (by omega)
     repeat' (first|rw [v1]|refine k_to hx1 ⟨_,Subtype.property _⟩ ⟨rfl,rfl,rfl,rfl,rfl,rfl,rfl,trivial⟩|refine ZC ?_|refine ZA (s1) (fun _ _=>?_)|(refine ZG (fun hc=>?_) (fun hc=>?_)<;>(try simp at hc)<;>(try omega))|(refine ZB (fun hc=>?_) (fun hc=>?_)<;>(try simp at hc)<;>(try omega))|fail)
    ·repeat' (first|rw [v1]|refine Wf ?_|refine k_to hx1 ⟨l,Rot.same q2 q3 (by omega)⟩ ⟨rfl,rfl,rfl,rfl,rfl,rfl,rfl,trivial⟩|refine ZC ?_|(refine ZG (fun hc=>?_) (fun hc=>?_)<;>(try simp at hc)<;>(try omega))|(refine ZB (fun hc=>?_) (fun hc=>?_)<;>(try simp at hc)<;>(try omega))|fail)
  ·rintro hx ⟨⟨i,j⟩,hC⟩
   dsimp only at hC ⊢
   have hCa:=hC.a
   have hCb:=hC.b
   have hCd:=hC.d
   by_cases hlt:i<j
   ·have y1:IntKind.i64.wrap ((i:Int)+(j:Int))=((i+j:Nat):Int):=by rw [wrapi (by omega) (by omega)];omega
    have y2:IntKind.u64.wrap ((i+j:Nat):Int)=((i+j:Nat):Int):=wrap64 (by omega)
    have y3:=halfW (i:=i) (j:=j) (by omega)
    have y4:=wrapi (z:=(((i+j) / 2:Nat):Int)) (by omega) (by omega)
    have y5:IntKind.i64.wrap ((((i+j) / 2:Nat):Int)+1)=(((i+j) / 2+1:Nat):Int):=by rw [wrapi (by omega) (by omega)];omega
    obtain ⟨h,hh⟩:∃h,h=(i+j) / 2:=⟨_,rfl⟩
    rw [←hh] at y3 y4 y5
    have hh1:i≤h∧h<j:=by omega
    have kp:mid+m - 1 - h<l.length:=by
     obtain ⟨b1,b2,b3,b4,b5⟩:=B
     omega
    have kh:h<l.length:=by omega
    have hhn:h<n:=by omega
    have hpn:mid+m - 1 - h<n:=by omega
    have n1:=hcmp (gt l (mid+m - 1 - h)) (gt l h) (hU _ (X7 kp)) (hU _ (X7 kh))
    by_cases hc0:c (gt l (mid+m - 1 - h)) (gt l h)<0
    ·repeat' (first|refine ZC ?_|rw [y1]|rw [y2]|rw [y3]|rw [y4]|refine Yc (m:=n) (h) hhn ?_|refine Yc (m:=n) (mid+m - 1 - h) hpn ?_|refine Y6 7 (h) 0 (ZV kh) ?_|refine Y6 7 (mid+m - 1 - h) 0 (ZV kp) ?_|refine X0 n1 (fun _ _=>?_)|refine ZI 35 [] [(0,0),(1,0),(2,0),(3,0),(4,0),(5,0),(6,0),(7,0),(8,0),(9,0),(10,0),(11,4),(12,0),(13,0)] [] ?_|(refine ZB (fun hc=>?_) (fun hc=>?_)<;>(try simp at hc)<;>(try omega))|fail)
     exact ZJ ⟨(i,h),hC.noStep W B hL hR hh hlt hc0⟩ (by show h - i<j - i;omega) ⟨rfl,rfl,rfl,rfl,rfl,rfl,rfl,rfl,rfl,rfl,trivial⟩
    ·repeat' (first|refine ZC ?_|rw [y1]|rw [y2]|rw [y3]|rw [y4]|rw [y5]|refine Yc (m:=n) (h) hhn ?_|refine Yc (m:=n) (mid+m - 1 - h) hpn ?_|refine Y6 7 (h) 0 (ZV kh) ?_|refine Y6 7 (mid+m - 1 - h) 0 (ZV kp) ?_|refine X0 n1 (fun _ _=>?_)|refine ZI 35 [] [(0,0),(1,0),(2,0),(3,0),(4,0),(5,0),(6,0),(7,0),(8,0),(9,0),(10,0),(11,4),(12,0),(13,0)] [] ?_|(refine ZB (fun hc=>?_) (fun hc=>?_)<;>(try simp at hc)<;>(try omega))|fail)
     exact ZJ ⟨(h+1,j),hC.yesStep W B hL hR hh hlt hc0⟩ (by show j - (h+1)<j - i;omega) ⟨rfl,rfl,rfl,rfl,rfl,rfl,rfl,rfl,rfl,rfl,trivial⟩
   ·obtain rfl:i=j:=by omega
    repeat' (first|refine ZC ?_|(refine ZB (fun hc=>?_) (fun hc=>?_)<;>(try simp at hc)<;>(try omega))|fail)
    exact Z2 hx ⟨i,hC⟩ ⟨rfl,rfl,rfl,rfl,rfl,rfl,rfl,rfl,trivial⟩
 ·intro hx
  by_cases hmm:m > mid
  ·have w6:IntKind.i64.wrap (((mid+m:Nat):Int) - (b:Int))=((mid+m - b:Nat):Int):=by rw [wrapi (by omega) (by omega)];omega
   repeat' (first|rw [w6]|rw [w5]|rw [w4]|rw [w3]|rw [w2]|rw [w1]|rw [w00]|rw [w0]|refine Wf ?_|refine k_to hx ⟨(mid+m - b,mid),⟨by omega,by omega,hmid,by omega,.inl ⟨hmm,rfl,rfl⟩⟩⟩ ⟨rfl,rfl,rfl,rfl,rfl,rfl,rfl,rfl,rfl,trivial⟩|refine ZC ?_|(refine ZB (fun hc=>?_) (fun hc=>?_)<;>(try simp at hc)<;>(try omega))|fail)
  ·repeat' (first|rw [w5]|rw [w4]|rw [w3]|rw [w2]|rw [w1]|rw [w00]|rw [w0]|refine Wf ?_|refine k_to hx ⟨(a,m),⟨by omega,by omega,hmid,by omega,.inr ⟨by omega,rfl,rfl⟩⟩⟩ ⟨rfl,rfl,rfl,rfl,rfl,rfl,rfl,rfl,rfl,trivial⟩|refine ZC ?_|(refine ZB (fun hc=>?_) (fun hc=>?_)<;>(try simp at hc)<;>(try omega))|fail)
include hcmp W in
theorem Vf (n:Nat) (hn2:n≤1000000) (hq:AxOK (n * 7) q):∀(k:Nat) (l:List En) (a m b:Nat),b - a≤k→l.length=n→(∀x ∈ l,U x)→a<m→m<b→b≤n→Sw c a m l→Sw c m b l→SymP bk cap q fv Fc c n l a m b
 | 0,_,_,_,_,h,_,_,h1,h2,_,_,_=>by omega
 | k+1,l,a,m,b,h,hl,hU,h1,h2,h3,h4,h5=>by
  by_cases e1:m=a+1
  ·exact symL_ok bk cap q fv Fc c W U hcmp l n hl.symm hn2 hq hU a m b e1 h2 h3 h5
  ·by_cases e2:b=m+1
   ·exact symR_ok bk cap q fv Fc c W U hcmp l n hl.symm hn2 hq hU a m b (by omega) e2 h3 h4
   ·exact symG_ok bk cap q fv Fc c W U hcmp l n hl.symm hn2 hq hU a m b (by omega) (by omega) h3 h4 h5 fun D x y z hz hD hUD g1 g2 g3 g4 g5=>Vf n hn2 hq k D x y z (by omega) hD hUD g1 g2 g3 g4 g5
end
section
variable {α:Type} [Inhabited α] {c:α→α→Int}
def insX (c:α→α→Int) (x y:Nat) (l:List α):List α:=l.take x++(isR c (wn l x y)++l.drop y)
omit [Inhabited α] in
theorem insX_len {x y:Nat} {l:List α} (hx:x≤y) (hy:y≤l.length):(insX c x y l).length=l.length:=by
 unfold insX
 rw [List.length_append,List.length_append,VA,Yz hy,List.length_take,List.length_drop]
 omega
theorem insX_sm (W:Wk0 c) {x y:Nat} {l:List α} (hx:x≤y) (hy:y≤l.length):Sm c x y l (insX c x y l):=by
 have hM:(isR c (wn l x y)).length=y - x:=by rw [VA,Yz hy]
 have hT:(l.take x).length=x:=by rw [List.length_take];omega
 have e:wn (insX c x y l) x y=isR c (wn l x y):=by
  conv=>lhs;unfold wn
  unfold insX
  rw [List.drop_left' hT,List.take_left' hM]
 refine ⟨win_mk (insX_len hx hy) hx (fun k hk=>?_) (by rw [e];exact Xr _),by rw [e];exact isR_st W _⟩
 unfold gt insX
 rw [List.getD_eq_getElem?_getD,List.getD_eq_getElem?_getD]
 congr 1
 rcases hk with hk|hk
 ·rw [List.getElem?_append_left (by omega),List.getElem?_take,if_pos hk]
 ·rw [List.getElem?_append_right (by omega),List.getElem?_append_right (by omega),List.getElem?_drop,hT,hM]
  congr 1
  omega
end
section
variable (bk cap:Nat) (q:List Value×(Nat×Nat)) (fv:FuncId) (Fc:Pf) (c:En→En→Int) (W:Wk0 c) (U:En→Prop) (hcmp:∀x y,U x→U y→Enters fv∧Spec prog fv #[x.w,y.w] [Fc] [] (RetV (.int .i64 (c x y))))
include hcmp in
theorem insXE_ok (L:List En) (n:Nat) (hn:n=L.length) (hn2:n≤1000000) (hq:AxOK (n * 7) q) (hU:∀x ∈ L,U x) (x y:Nat) (hx:x≤y) (hy:y≤n) :
  Enters 97∧Spec prog 97 #[.slice (some ⟨bk,0,none⟩) n cap,.int .i64 (x:Int),.int .i64 (y:Int),.func (.func fv) #[] #[]] [Fc] [Ax 50 enf bk L q]
   ⟨Unit,fun _=>.tuple #[],fun _=>True,fun _=>[],fun _=>[Ax 50 enf bk (insX c x y L) q]⟩:=by
 have hA:(L.take x).length=x:=by rw [List.length_take];omega
 have hM:(wn L x y).length=y - x:=Yz (by omega)
 have hs:L.take x++(wn L x y++L.drop y)=L:=(XF hx).symm
 have h:=insWE_ok bk cap q fv Fc c U hcmp (L.take x) (wn L x y) (L.drop y) n (by rw [hA,hM,List.length_drop];omega) hn2 hq (by rw [hs];exact hU)
 rw [hs,hA,hM,show x+(y - x)=y by omega] at h
 exact h
def BlS (c:En→En→Int) (n bs:Nat) (L:List En):Prop:=∀i,Sw c (bs * i) (min (bs * i+bs) n) L
include hcmp W in
set_option maxHeartbeats 8000000 in
theorem stableX_ok (l:List En) (n:Nat) (hn:n=l.length) (hn2:n≤80) (hq:AxOK (n * 7) q) (hU:∀x ∈ l,U x) :
  Enters 69∧Spec prog 69 #[.slice (some ⟨bk,0,none⟩) n cap,.int .i64 (n:Int),.func (.func fv) #[] #[]] [Fc] [Ax 50 enf bk l q]
   ⟨Unit,fun _=>.tuple #[],fun _=>True,fun _=>[],fun _=>[Ax 50 enf bk (isR c l) q]⟩:=by
 have hUs:∀{L:List En},Stb c l L→∀x ∈ L,U x:=fun h x hx=>hU x (h.1.mem_iff.1 hx)
 have hls:∀{L:List En},Stb c l L→L.length=n:=fun h=>by rw [h.1.length_eq,hn]
 refine ZE [_,_,_] func69 ntmps69 fun G w hp=>?_
 repeat' (first|refine ZC ?_|fail)
 refine YD (X:={t:Nat×List En // 20 * t.1≤n∧Stb c l t.2∧∀i,i<t.1→Sw c (20 * i) (20 * i+20) t.2}) (Y:={t:Nat×List En // 20 * t.1≤n∧n<20 * t.1+20∧Stb c l t.2∧∀i,i<t.1→Sw c (20 * i) (20 * i+20) t.2})
  (fun t=>[(0,.slice (some ⟨bk,0,none⟩) n cap),(1,.int .i64 (n:Int)),(2,.func (.func fv) #[] #[]),(6,.int .i64 20),(7,.int .i64 ((20 * t.1.1:Nat):Int)),(8,.int .i64 ((20 * t.1.1+20:Nat):Int))]) (fun _=>[Fc]) (fun t=>[Ax 50 enf bk t.1.2 q]) (fun t=>n - 20 * t.1.1)
  (fun t=>[(0,.slice (some ⟨bk,0,none⟩) n cap),(1,.int .i64 (n:Int)),(2,.func (.func fv) #[] #[]),(6,.int .i64 20),(7,.int .i64 ((20 * t.1.1:Nat):Int))]) (fun _=>[Fc]) (fun t=>[Ax 50 enf bk t.1.2 q])
  ⟨(0,l),Nat.zero_le _,Stb.rfl',fun i h=>by dsimp only at h;omega⟩ ⟨rfl,rfl,rfl,rfl,rfl,rfl,trivial⟩ ?_ ?_
 ·rintro ⟨⟨j,L⟩,h1,h2,h3,h4⟩
  dsimp only at h1 h2 h3 h4 ⊢
  have s1:=insXE_ok bk cap q fv Fc c U hcmp L n (hls h3).symm (by omega) hq (hUs h3) (20 * j) n h1 (Nat.le_refl _)
  have hsm:=insX_sm W (l:=L) (x:=20 * j) (y:=n) h1 (by rw [hls h3];exact Nat.le_refl _)
  have hst:=h3.trans (hsm.stb (c:=c) h1)
  have hbl:BlS c n 20 (insX c (20 * j) n L):=fun i=>by
   by_cases hi:i<j
   ·rw [Nat.min_eq_left (by omega)]
    exact Xe hsm.1 (h4 i hi) (.inr (by omega))
   ·by_cases hij:i=j
    ·subst hij
     rw [Nat.min_eq_right (by omega)]
     exact hsm.sw (by rw [hls h3];exact Nat.le_refl _)
    ·exact Sw.nil (by rw [Nat.min_eq_right (by omega)];omega)
  generalize insX c (20 * j) n L=L0 at *
  repeat' (first|refine ZC ?_|refine ZA (s1) (fun _ _=>?_)|fail)
  clear h3 h4 hsm s1
  refine Zj (X:={t:Int×List En // Stb c l t.2∧((t.1=20∧BlS c n 20 t.2)∨(t.1=40∧BlS c n 40 t.2)∨(t.1=80∧BlS c n 80 t.2))}) (fun t=>[(0,.slice (some ⟨bk,0,none⟩) n cap),(1,.int .i64 (n:Int)),(2,.func (.func fv) #[] #[]),(6,.int .i64 t.1.1)]) (fun _=>[Fc]) (fun t=>[Ax 50 enf bk t.1.2 q]) (fun t=>80 - t.1.1.toNat) ⟨(20,L0),hst,.inl ⟨rfl,hbl⟩⟩ ⟨rfl,rfl,rfl,rfl,trivial⟩ ?_
  rintro ⟨⟨bs,L⟩,g1,g2⟩
  dsimp only at g1 g2 ⊢
  have hfin:Sw c 0 n L→L=isR c l:=fun h=>g1.done W (by rw [hls g1];exact h)
  rcases g2 with ⟨g2,g3⟩|⟨g2,g3⟩|⟨g2,g3⟩
  all_goals subst g2
  ·by_cases hlt:20<n
   ·repeat' (first|refine ZC ?_|(refine ZB (fun hc=>?_) (fun hc=>?_)<;>(try simp at hc)<;>(try omega))|fail)
    refine YD (X:={t:Nat×List En // 40 * t.1≤n∧Stb c l t.2∧(∀i,i<t.1→Sw c (40 * i) (40 * i+40) t.2)∧∀i,2 * t.1≤i→Sw c (20 * i) (min (20 * i+20) n) t.2}) (Y:={t:Nat×List En // 40 * t.1≤n∧n<40 * t.1+40∧Stb c l t.2∧(∀i,i<t.1→Sw c (40 * i) (40 * i+40) t.2)∧∀i,2 * t.1≤i→Sw c (20 * i) (min (20 * i+20) n) t.2})
     (fun t=>[(0,.slice (some ⟨bk,0,none⟩) n cap),(1,.int .i64 (n:Int)),(2,.func (.func fv) #[] #[]),(6,.int .i64 20),(7,.int .i64 ((40 * t.1.1:Nat):Int)),(8,.int .i64 ((40 * t.1.1+40:Nat):Int))]) (fun _=>[Fc]) (fun t=>[Ax 50 enf bk t.1.2 q]) (fun t=>n - 40 * t.1.1)
     (fun t=>[(0,.slice (some ⟨bk,0,none⟩) n cap),(1,.int .i64 (n:Int)),(2,.func (.func fv) #[] #[]),(6,.int .i64 20),(7,.int .i64 ((40 * t.1.1:Nat):Int))]) (fun _=>[Fc]) (fun t=>[Ax 50 enf bk t.1.2 q])
     ⟨(0,L),Nat.zero_le _,g1,fun i h=>by dsimp only at h;omega,fun i _=>g3 i⟩ ⟨rfl,rfl,rfl,rfl,rfl,rfl,trivial⟩ ?_ ?_
    ·rintro ⟨⟨j,L1⟩,k1,k2,k3,k4,k5⟩
     dsimp only at k1 k2 k3 k4 k5 ⊢
     have w1:IntKind.i64.wrap (((40 * j:Nat):Int)+20)=((40 * j+20:Nat):Int):=by rw [wrapi (by omega) (by omega)];omega
     have w2:IntKind.i64.wrap (20 * 2)=40:=rfl
     have hbl:∀L2,Stb c l L2→(∀i,i<j→Sw c (40 * i) (40 * i+40) L2)→Sw c (40 * j) n L2→BlS c n 40 L2:=fun L2 _ m1 m2 i=>by
      by_cases hi:i<j
      ·rw [Nat.min_eq_left (by omega)];exact m1 i hi
      ·by_cases hij:i=j
       ·subst hij
        rw [Nat.min_eq_right (by omega)];exact m2
       ·exact Sw.nil (by rw [Nat.min_eq_right (by omega)];omega)
     have p1:=k5 (2 * j) (by omega)
     have p2:=k5 (2 * j+1) (by omega)
     rw [show 20 * (2 * j)=40 * j by omega] at p1
     rw [show 20 * (2 * j+1)=40 * j+20 by omega,Nat.min_eq_right (by omega)] at p2
     by_cases hm:40 * j+20<n
     ·rw [Nat.min_eq_left (by omega)] at p1
      have s2:=Vf bk cap q fv Fc c W U hcmp n (by omega) hq n L1 (40 * j) (40 * j+20) n (by omega) (hls k3) (hUs k3) (by omega) hm (Nat.le_refl _) p1 p2
      unfold SymP at s2
      repeat' (first|refine ZC ?_|refine ZA (s2) (fun _ _=>?_)|rw [w1]|rw [w2]|(refine ZB (fun hc=>?_) (fun hc=>?_)<;>(try simp at hc)<;>(try omega))|fail)
      rename_i L2 _
      obtain ⟨L2,hsm⟩:=L2
      have hst2:=k3.trans (hsm.stb (c:=c) (by omega))
      refine ZJ ⟨(40,L2),hst2,?_⟩ (by show 80 - Int.toNat 40<80 - Int.toNat 20;decide) ⟨rfl,rfl,rfl,rfl,trivial⟩
      have hb:=hbl L2 hst2 (fun i hi=>Xe hsm.1 (k4 i hi) (.inr (by omega))) (hsm.sw (by rw [hls k3];exact Nat.le_refl _))
      exact .inr (.inl ⟨rfl,hb⟩)
     ·rw [Nat.min_eq_right (by omega)] at p1
      repeat' (first|refine ZC ?_|rw [w1]|rw [w2]|(refine ZB (fun hc=>?_) (fun hc=>?_)<;>(try simp at hc)<;>(try omega))|fail)
      refine ZJ ⟨(40,L1),k3,?_⟩ (by show 80 - Int.toNat 40<80 - Int.toNat 20;decide) ⟨rfl,rfl,rfl,rfl,trivial⟩
      have hb:=hbl L1 k3 k4 p1
      exact .inr (.inl ⟨rfl,hb⟩)
    ·rintro hx ⟨⟨j,L1⟩,k1,k3,k4,k5⟩
     dsimp only at k1 k3 k4 k5 ⊢
     by_cases hle:40 * j+40≤n
     ·have w1:IntKind.i64.wrap (((40 * j:Nat):Int)+20)=((40 * j+20:Nat):Int):=by rw [wrapi (by omega) (by omega)];omega
      have w2:IntKind.i64.wrap (2 * 20)=40:=rfl
      have w3:IntKind.i64.wrap (((40 * j+40:Nat):Int)+40)=((40 * (j+1)+40:Nat):Int):=by rw [wrapi (by omega) (by omega)];omega
      have p1:=k5 (2 * j) (by omega)
      have p2:=k5 (2 * j+1) (by omega)
      rw [show 20 * (2 * j)=40 * j by omega,Nat.min_eq_left (by omega)] at p1
      rw [show 20 * (2 * j+1)=40 * j+20 by omega,Nat.min_eq_left (by omega),show 40 * j+20+20=40 * j+40 by omega] at p2
      have s2:=Vf bk cap q fv Fc c W U hcmp n (by omega) hq n L1 (40 * j) (40 * j+20) (40 * j+40) (by omega) (hls k3) (hUs k3) (by omega) (by omega) hle p1 p2
      unfold SymP at s2
      repeat' (first|refine ZC ?_|refine ZA (s2) (fun _ _=>?_)|rw [w1]|rw [w2]|rw [w3]|(refine ZB (fun hc=>?_) (fun hc=>?_)<;>(try simp at hc)<;>(try omega))|fail)
      rename_i L2 _
      obtain ⟨L2,hsm⟩:=L2
      have hst2:=k3.trans (hsm.stb (c:=c) (by omega))
      exact ZJ ⟨(j+1,L2),by show 40 * (j+1)≤n;omega,hst2,fun i hi=>by
       dsimp only at hi
       by_cases hij:i=j
       ·subst hij
        exact hsm.sw (by rw [hls k3];exact hle)
       ·exact Xe hsm.1 (k4 i (by omega)) (.inr (by omega)),fun i hi=>by
       dsimp only at hi
       exact Xe hsm.1 (k5 i (by omega)) (.inl (by omega))⟩ (by show n - 40 * (j+1)<n - 40 * j;omega) ⟨rfl,rfl,rfl,rfl,(by show look _ _=some (Value.int .i64 ((40 * (j+1):Nat):Int));rw [show 40 * (j+1)=40 * j+40 by omega];rfl),rfl,trivial⟩
     ·repeat' (first|refine ZC ?_|(refine ZB (fun hc=>?_) (fun hc=>?_)<;>(try simp at hc)<;>(try omega))|fail)
      exact Z2 hx ⟨(j,L1),k1,by show n<_;omega,k3,k4,k5⟩ ⟨rfl,rfl,rfl,rfl,rfl,trivial⟩
   ·have hz:L=isR c l:=hfin (by
     have:=g3 0
     rw [Nat.min_eq_right (by omega)] at this
     exact this)
    repeat' (first|refine ZC ?_|refine ZM ?_|(refine ZB (fun hc=>?_) (fun hc=>?_)<;>(try simp at hc)<;>(try omega))|fail)
    rw [hz]
    exact Zw () rfl trivial
  ·by_cases hlt:40<n
   ·repeat' (first|refine ZC ?_|(refine ZB (fun hc=>?_) (fun hc=>?_)<;>(try simp at hc)<;>(try omega))|fail)
    refine YD (X:={t:Nat×List En // 80 * t.1≤n∧Stb c l t.2∧(∀i,i<t.1→Sw c (80 * i) (80 * i+80) t.2)∧∀i,2 * t.1≤i→Sw c (40 * i) (min (40 * i+40) n) t.2}) (Y:={t:Nat×List En // 80 * t.1≤n∧n<80 * t.1+80∧Stb c l t.2∧(∀i,i<t.1→Sw c (80 * i) (80 * i+80) t.2)∧∀i,2 * t.1≤i→Sw c (40 * i) (min (40 * i+40) n) t.2})
     (fun t=>[(0,.slice (some ⟨bk,0,none⟩) n cap),(1,.int .i64 (n:Int)),(2,.func (.func fv) #[] #[]),(6,.int .i64 40),(7,.int .i64 ((80 * t.1.1:Nat):Int)),(8,.int .i64 ((80 * t.1.1+80:Nat):Int))]) (fun _=>[Fc]) (fun t=>[Ax 50 enf bk t.1.2 q]) (fun t=>n - 80 * t.1.1)
     (fun t=>[(0,.slice (some ⟨bk,0,none⟩) n cap),(1,.int .i64 (n:Int)),(2,.func (.func fv) #[] #[]),(6,.int .i64 40),(7,.int .i64 ((80 * t.1.1:Nat):Int))]) (fun _=>[Fc]) (fun t=>[Ax 50 enf bk t.1.2 q])
     ⟨(0,L),Nat.zero_le _,g1,fun i h=>by dsimp only at h;omega,fun i _=>g3 i⟩ ⟨rfl,rfl,rfl,rfl,rfl,rfl,trivial⟩ ?_ ?_
    ·rintro ⟨⟨j,L1⟩,k1,k2,k3,k4,k5⟩
     dsimp only at k1 k2 k3 k4 k5 ⊢
     have w1:IntKind.i64.wrap (((80 * j:Nat):Int)+40)=((80 * j+40:Nat):Int):=by rw [wrapi (by omega) (by omega)];omega
     have w2:IntKind.i64.wrap (40 * 2)=80:=rfl
     have hbl:∀L2,Stb c l L2→(∀i,i<j→Sw c (80 * i) (80 * i+80) L2)→Sw c (80 * j) n L2→BlS c n 80 L2:=fun L2 _ m1 m2 i=>by
      by_cases hi:i<j
      ·rw [Nat.min_eq_left (by omega)];exact m1 i hi
      ·by_cases hij:i=j
       ·subst hij
        rw [Nat.min_eq_right (by omega)];exact m2
       ·exact Sw.nil (by rw [Nat.min_eq_right (by omega)];omega)
     have p1:=k5 (2 * j) (by omega)
     have p2:=k5 (2 * j+1) (by omega)
     rw [show 40 * (2 * j)=80 * j by omega] at p1
     rw [show 40 * (2 * j+1)=80 * j+40 by omega,Nat.min_eq_right (by omega)] at p2
     by_cases hm:80 * j+40<n
     ·rw [Nat.min_eq_left (by omega)] at p1
      have s2:=Vf bk cap q fv Fc c W U hcmp n (by omega) hq n L1 (80 * j) (80 * j+40) n (by omega) (hls k3) (hUs k3) (by omega) hm (Nat.le_refl _) p1 p2
      unfold SymP at s2
      repeat' (first|refine ZC ?_|refine ZA (s2) (fun _ _=>?_)|rw [w1]|rw [w2]|(refine ZB (fun hc=>?_) (fun hc=>?_)<;>(try simp at hc)<;>(try omega))|fail)
      rename_i L2 _
      obtain ⟨L2,hsm⟩:=L2
      have hst2:=k3.trans (hsm.stb (c:=c) (by omega))
      refine ZJ ⟨(80,L2),hst2,?_⟩ (by show 80 - Int.toNat 80<80 - Int.toNat 40;decide) ⟨rfl,rfl,rfl,rfl,trivial⟩
      have hb:=hbl L2 hst2 (fun i hi=>Xe hsm.1 (k4 i hi) (.inr (by omega))) (hsm.sw (by rw [hls k3];exact Nat.le_refl _))
      exact .inr (.inr ⟨rfl,hb⟩)
     ·rw [Nat.min_eq_right (by omega)] at p1
      repeat' (first|refine ZC ?_|rw [w1]|rw [w2]|(refine ZB (fun hc=>?_) (fun hc=>?_)<;>(try simp at hc)<;>(try omega))|fail)
      refine ZJ ⟨(80,L1),k3,?_⟩ (by show 80 - Int.toNat 80<80 - Int.toNat 40;decide) ⟨rfl,rfl,rfl,rfl,trivial⟩
      have hb:=hbl L1 k3 k4 p1
      exact .inr (.inr ⟨rfl,hb⟩)
    ·rintro hx ⟨⟨j,L1⟩,k1,k3,k4,k5⟩
     dsimp only at k1 k3 k4 k5 ⊢
     by_cases hle:80 * j+80≤n
     ·have w1:IntKind.i64.wrap (((80 * j:Nat):Int)+40)=((80 * j+40:Nat):Int):=by rw [wrapi (by omega) (by omega)];omega
      have w2:IntKind.i64.wrap (2 * 40)=80:=rfl
      have w3:IntKind.i64.wrap (((80 * j+80:Nat):Int)+80)=((80 * (j+1)+80:Nat):Int):=by rw [wrapi (by omega) (by omega)];omega
      have p1:=k5 (2 * j) (by omega)
      have p2:=k5 (2 * j+1) (by omega)
      rw [show 40 * (2 * j)=80 * j by omega,Nat.min_eq_left (by omega)] at p1
      rw [show 40 * (2 * j+1)=80 * j+40 by omega,Nat.min_eq_left (by omega),show 80 * j+40+40=80 * j+80 by omega] at p2
      have s2:=Vf bk cap q fv Fc c W U hcmp n (by omega) hq n L1 (80 * j) (80 * j+40) (80 * j+80) (by omega) (hls k3) (hUs k3) (by omega) (by omega) hle p1 p2
      unfold SymP at s2
      repeat' (first|refine ZC ?_|refine ZA (s2) (fun _ _=>?_)|rw [w1]|rw [w2]|rw [w3]|(refine ZB (fun hc=>?_) (fun hc=>?_)<;>(try simp at hc)<;>(try omega))|fail)
      rename_i L2 _
      obtain ⟨L2,hsm⟩:=L2
      have hst2:=k3.trans (hsm.stb (c:=c) (by omega))
      exact ZJ ⟨(j+1,L2),by show 80 * (j+1)≤n;omega,hst2,fun i hi=>by
       dsimp only at hi
       by_cases hij:i=j
       ·subst hij
        exact hsm.sw (by rw [hls k3];exact hle)
       ·exact Xe hsm.1 (k4 i (by omega)) (.inr (by omega)),fun i hi=>by
       dsimp only at hi
       exact Xe hsm.1 (k5 i (by omega)) (.inl (by omega))⟩ (by show n - 80 * (j+1)<n - 80 * j;omega) ⟨rfl,rfl,rfl,rfl,(by show look _ _=some (Value.int .i64 ((80 * (j+1):Nat):Int));rw [show 80 * (j+1)=80 * j+80 by omega];rfl),rfl,trivial⟩
     ·repeat' (first|refine ZC ?_|(refine ZB (fun hc=>?_) (fun hc=>?_)<;>(try simp at hc)<;>(try omega))|fail)
      exact Z2 hx ⟨(j,L1),k1,by show n<_;omega,k3,k4,k5⟩ ⟨rfl,rfl,rfl,rfl,rfl,trivial⟩
   ·have hz:L=isR c l:=hfin (by
     have:=g3 0
     rw [Nat.min_eq_right (by omega)] at this
     exact this)
    repeat' (first|refine ZC ?_|refine ZM ?_|(refine ZB (fun hc=>?_) (fun hc=>?_)<;>(try simp at hc)<;>(try omega))|fail)
    rw [hz]
    exact Zw () rfl trivial
  ·have hz:L=isR c l:=hfin (by
    have:=g3 0
    rw [Nat.min_eq_right (by omega)] at this
    exact this)
   repeat' (first|refine ZC ?_|refine ZM ?_|(refine ZB (fun hc=>?_) (fun hc=>?_)<;>(try simp at hc)<;>(try omega))|fail)
   rw [hz]
   exact Zw () rfl trivial
 ·rintro hx ⟨⟨j,L⟩,h1,h3,h4⟩
  dsimp only at h1 h3 h4 ⊢
  by_cases hle:20 * j+20≤n
  ·have w1:IntKind.i64.wrap (((20 * j+20:Nat):Int)+20)=((20 * (j+1)+20:Nat):Int):=by rw [wrapi (by omega) (by omega)];omega
   have s1:=insXE_ok bk cap q fv Fc c U hcmp L n (hls h3).symm (by omega) hq (hUs h3) (20 * j) (20 * j+20) (by omega) hle
   have hsm:=insX_sm W (l:=L) (x:=20 * j) (y:=20 * j+20) (by omega) (by rw [hls h3];exact hle)
   have hst:=h3.trans (hsm.stb (c:=c) (by omega))
   repeat' (first|refine ZC ?_|refine ZA (s1) (fun _ _=>?_)|rw [w1]|(refine ZB (fun hc=>?_) (fun hc=>?_)<;>(try simp at hc)<;>(try omega))|fail)
   exact ZJ ⟨(j+1,insX c (20 * j) (20 * j+20) L),by show 20 * (j+1)≤n;omega,hst,fun i hi=>by
    dsimp only at hi
    by_cases hij:i=j
    ·subst hij
     exact hsm.sw (by rw [hls h3];exact hle)
    ·exact Xe hsm.1 (h4 i (by omega)) (.inr (by omega))⟩ (by show n - 20 * (j+1)<n - 20 * j;omega) ⟨rfl,rfl,rfl,rfl,(by show look _ _=some (Value.int .i64 ((20 * (j+1):Nat):Int));rw [show 20 * (j+1)=20 * j+20 by omega];rfl),rfl,trivial⟩
  ·repeat' (first|refine ZC ?_|(refine ZB (fun hc=>?_) (fun hc=>?_)<;>(try simp at hc)<;>(try omega))|fail)
   exact Z2 hx ⟨(j,L),h1,by show n<_;omega,h3,h4⟩ ⟨rfl,rfl,rfl,rfl,rfl,trivial⟩
end
section
variable (bk cap:Nat) (q:List Value×(Nat×Nat)) (fv:FuncId) (Fc:Pf) (c:En→En→Int) (W:Wk0 c) (U:En→Prop) (hcmp:∀x y,U x→U y→Enters fv∧Spec prog fv #[x.w,y.w] [Fc] [] (RetV (.int .i64 (c x y))))
include hcmp W in
end
section
variable (bk cap:Nat) (q:List Value×(Nat×Nat)) (fv:FuncId) (Fc:Pf) (c:En→En→Int) (W:Wk0 c) (U:En→Prop) (hcmp:∀x y,U x→U y→Enters fv∧Spec prog fv #[x.w,y.w] [Fc] [] (RetV (.int .i64 (c x y))))
include hcmp W in
end
section
variable (bk cap:Nat) (q:List Value×(Nat×Nat)) (fv:FuncId) (Fc:Pf) (c:En→En→Int) (W:Wk0 c) (U:En→Prop) (hcmp:∀x y,U x→U y→Enters fv∧Spec prog fv #[x.w,y.w] [Fc] [] (RetV (.int .i64 (c x y))))
include hcmp in
include hcmp W in
end
section
variable (bk cap:Nat) (q:List Value×(Nat×Nat)) (fv:FuncId) (Fc:Pf) (c:En→En→Int) (W:Wk0 c) (U:En→Prop) (hcmp:∀x y,U x→U y→Enters fv∧Spec prog fv #[x.w,y.w] [Fc] [] (RetV (.int .i64 (c x y))))
include hcmp W in
end
section
variable (bk cap:Nat) (q:List Value×(Nat×Nat)) (fv:FuncId) (Fc:Pf) (c:En→En→Int) (W:Wk0 c) (U:En→Prop) (hcmp:∀x y,U x→U y→Enters fv∧Spec prog fv #[x.w,y.w] [Fc] [] (RetV (.int .i64 (c x y))))
include hcmp W in
end
theorem insE0_ok (o:Option Addr) (cap:Nat) (fv:FuncId) :
  Enters 97∧Spec prog 97 #[.slice o 0 cap,.int .i64 0,.int .i64 0,.func (.func fv) #[] #[]] [] [] ⟨Unit,fun _=>.tuple #[],fun _=>True,fun _=>[],fun _=>[]⟩:=by
 refine ZE [_,_,_,_] func97 ntmps97 fun G w hp=>?_
 repeat' (first|refine ZC ?_|fail)
 refine Zj (X:=Unit) (fun _=>[(2,.int .i64 0),(8,.int .i64 1)]) (fun _=>[]) (fun _=>[]) (fun _=>0) () ⟨rfl,rfl,trivial⟩ ?_
 rintro ⟨⟩
 repeat' (first|refine ZC ?_|refine ZM ?_|fail)
 exact Zw () rfl trivial
theorem insE0b_ok (o:Option Addr) (cap:Nat) (fv:FuncId):Enters 69∧Spec prog 69 #[.slice o 0 cap,.int .i64 0,.func (.func fv) #[] #[]] [] [] ⟨Unit,fun _=>.tuple #[],fun _=>True,fun _=>[],fun _=>[]⟩:=by
 have s1:=insE0_ok o cap fv
 refine ZE [_,_,_] func69 ntmps69 fun G w hp=>?_
 repeat' (first|refine ZC ?_|fail)
 refine Zj (X:=Unit) (fun _=>[(0,.slice o 0 cap),(1,.int .i64 0),(2,.func (.func fv) #[] #[]),(6,.int .i64 20),(7,.int .i64 0),(8,.int .i64 20)]) (fun _=>[]) (fun _=>[]) (fun _=>0) () ⟨rfl,rfl,rfl,rfl,rfl,rfl,trivial⟩ ?_
 rintro ⟨⟩
 repeat' (first|refine ZC ?_|refine ZM ?_|refine ZA (s1) (fun _ _=>?_)|fail)
 refine Zj (X:=Unit) (fun _=>[(1,.int .i64 0),(6,.int .i64 20)]) (fun _=>[]) (fun _=>[]) (fun _=>0) () ⟨rfl,rfl,trivial⟩ ?_
 rintro ⟨⟩
 repeat' (first|refine ZC ?_|refine ZM ?_|fail)
 exact Zw () rfl trivial
theorem Vq (x y:En):cmpT x y<0↔x.tk<y.tk:=by
 unfold cmpT cmpI
 by_cases h1:x.tk<y.tk
 ·rw [if_pos h1];exact ⟨fun _=>h1,fun _=>by decide⟩
 ·rw [if_neg h1]
  by_cases h2:y.tk<x.tk
  ·rw [if_pos h2];omega
  ·rw [if_neg h2];omega
theorem wk0T:Wk0 cmpT where
 a:=fun x y h=>by simp only [Vq] at *;omega
 t:=fun x y z h1 h2=>by simp only [Vq] at *;omega
theorem sortStableX_ok (o:Option Addr) (cap:Nat) (es:List En) (fv:FuncId) (Fc:Pf) (c:En→En→Int) (hn:es.length≤80) (W:Wk0 c)
  (hcmp:∀x y,x ∈ es→y ∈ es→Enters fv∧Spec prog fv #[x.w,y.w] [Fc] [] (RetV (.int .i64 (c x y)))) :
  Enters 39∧Spec prog 39 #[.slice o es.length cap,.func (.func fv) #[] #[]] [Fc] [Row 50 7 o es.length cap (es.flatMap enf)]
   ⟨Unit,fun _=>.tuple #[],fun _=>True,fun _=>[],fun _=>[Row 50 7 o es.length cap ((isR c es).flatMap enf)]⟩:=by
 by_cases h0:es=[]
 ·subst h0
  refine ZE [_,_] func39 ntmps39 fun G w hp=>?_
  have s3:=insE0b_ok o cap fv
  repeat' (first|refine ZC ?_|refine ZA (s3) (fun _ _=>?_)|fail)
  exact Zw () rfl trivial
 ·have hlen:0<es.length:=List.length_pos_iff.2 h0
  refine ZE [_,_] func39 ntmps39 fun G w hp=>?_
  refine k_row hlen fun p hp=>?_
  have hq:AxOK (es.length * 7) p.2:=by
   rcases hp.f with h|h
   ·exact .inl h
   ·exact .inr (by rw [List.length_append,hp.l] at h;exact h)
  have ho:=hp.o
  subst ho
  have s3:=stableX_ok p.1 cap p.2 fv Fc c W (fun x=>x ∈ es) (fun x y hx hy=>hcmp x y hx hy) es es.length rfl hn hq (fun x hx=>hx)
  repeat' (first|refine ZC ?_|refine ZA (s3) (fun _ _=>?_)|fail)
  have hll:=VA (c:=c) es
  generalize isR c es=l at *
  refine ZO (r:=Row 50 7 (some ⟨p.1,0,none⟩) es.length cap (l.flatMap enf)) (Lx:=[Ax 50 enf p.1 l p.2]) (fun h hh=>row_shut (q:=p) ⟨rfl,by rw [Za (f:=enf) (sz:=7) (fun _=>rfl),hll],by rw [←hp.c,List.length_append,List.length_append,Za (f:=enf) (sz:=7) (fun _=>rfl),Za (f:=enf) (sz:=7) (fun _=>rfl),hll],hp.m,by rw [List.length_append,Za (f:=enf) (sz:=7) (fun _=>rfl),hll];rcases hp.f with h|h;exact .inl h;exact .inr (by rw [List.length_append,hp.l] at h;exact h)⟩ h hh) ?_
  exact Zw () rfl trivial
abbrev RowE (q:Option Addr×Nat) (l:List En):HP:=Row 50 7 q.1 l.length q.2 (l.flatMap enf)
abbrev SlE (q:Option Addr×Nat) (l:List En):Pf:=Sl 50 enf q.1 q.2 l
theorem UN (ls:List Lf) (wn:ByteArray) (nu tk:Int):∀m,(lfind ls wn nu tk m).isSome=(ls.take m).any fun x=>idq x wn nu tk
 | 0=>by simp [lfind]
 | m+1=>by
  rw [lfind]
  cases hx:ls[m]? with
  | none=>
   rw [List.take_add_one,hx]
   simpa using UN ls wn nu tk m
  | some x=>
   rw [ZT hx,List.any_append]
   dsimp only
   by_cases h:idq x wn nu tk=true
   ·rw [if_pos h];simp [h]
   ·rw [if_neg h,UN ls wn nu tk m];simp [h]
theorem lfind_all (ls:List Lf) (x:En):(lfind ls x.who x.nu x.tk ls.length).isSome=ls.any fun y=>decide (y.e.who=x.who∧y.e.nu=x.nu∧y.e.tk=x.tk):=by
 rw [UN,List.take_length]
 congr 1
 funext y
 rw [idq_id]
 simp [En.id]
theorem Ua (a c:En):Enters 40∧Spec prog 40 #[a.w,c.w] [] [] (RetV (.int .i64 (cmpT a c))):=by
 have n1:=cmp_int a.tk c.tk
 refine ZE [_,_] func40 ntmps40 fun G w hp=>?_
 repeat' (first|refine ZC ?_|refine ZH (fun b=>?_)|refine ZA (n1) (fun _ _=>?_)|fail)
 exact ZD () rfl trivial
def KnE (m:List (En×Bool)) (l:List En):Prop:=∀e,mget e m=if e ∈ l then some true else none
theorem knE_nil:KnE [] []:=fun e=>by simp [mget]
theorem knE_snoc {m:List (En×Bool)} {l:List En} (h:KnE m l) (x:En):KnE (mset x true m) (l++[x]):=fun e=>by
 rw [YT,h e]
 by_cases hxe:x=e
 ·subst hxe;simp
 ·rw [if_neg hxe]
  have:e≠x:=fun h=>hxe h.symm
  simp [this]
theorem knE_get {m:List (En×Bool)} {l:List En} (h:KnE m l) (x:En):(mget x m).getD false=decide (x ∈ l):=by
 rw [h x]
 by_cases hx:x ∈ l<;>simp [hx]
theorem isE_len {c:En→En→Int} (l:List En):(isR c l).length=l.length:=VA l
theorem rdy_yes {z1 z2:Bool} {a b:Int} (h:(!z1 && (decide (a≤b) || z2))=true):z1=false∧(a≤b∨(¬a≤b∧z2=true)):=by
 by_cases hab:a≤b<;>cases z1<;>cases z2<;>simp_all
theorem rdy_no {z1 z2:Bool} {a b:Int} (h:(!z1 && (decide (a≤b) || z2))=false):z1=true∨(z1=false∧¬a≤b∧z2=false):=by
 by_cases hab:a≤b<;>cases z1<;>cases z2<;>simp_all
set_option maxHeartbeats 8000000 in
theorem V2 (b bl bs:Nat) (B:Bk) (ls:List Lf) (es:Al) (hl:ls.length≤1000000) (hn:B.dn.length≤1000000) (hes:es.length≤80):Enters 13∧Spec prog 13 #[.pointer (some ⟨b,0,none⟩),.pointer (some ⟨bl,0,none⟩),.pointer (some ⟨bs,0,none⟩)] [BkF bkT b B,LgF bl ls,St (some ⟨bs,0,none⟩) es] []
  ⟨Option Addr×Nat,fun q=>.tuple #[.slice q.1 (rdyF (allE es) ls B).length q.2,.int .i64 0],fun _=>True,fun _=>[],fun q=>[RowE q (rdyF (allE es) ls B)]⟩:=by
 have nl:=V4 bl ls
 have ng:=fun i x h=>Wn bl ls i x h
 have nf:=lgFind_ok bl ls
 have na:=UL (some ⟨bs,0,none⟩) es
 have hal:=Xc es
 have nF:=US b B (.func (.func 36) #[] #[]) ⟨fun _=>True,fun _ _ _ h=>h⟩ (fun d=>decide (d.a.k=3)) hn (fun d _=>Zc (cs:=#[]) ⟨(readyC_ok d).1,(readyC_ok d).2.more⟩)
 have nC:=comps_ok b B hn
 have hcl:(compF B.dn).length≤1000000:=by
  unfold compF
  rw [List.length_mapIdx]
  exact Nat.le_trans (List.length_filter_le ..) hn
 have hfl:(B.dn.filter fun d=>decide (d.a.k=3)).length≤1000000:=Nat.le_trans (List.length_filter_le ..) hn
 have hrd:rdyF (allE es) ls B=isR cmpT ((allE es).filter fun x=>decide (x ∉ ls.map (·.e)) && (decide (B.si≤x.tk) || decide (x ∈ (B.dn.filter fun d=>decide (d.a.k=3)).map fun d=>wou d.c)))++(compF B.dn).filter fun x=>!ls.any fun y=>decide (y.e.who=x.who∧y.e.nu=x.nu∧y.e.tk=x.tk):=rfl
 rw [hrd]
 generalize allE es=all at *
 generalize compF B.dn=cm at *
 generalize (B.dn.filter fun d=>decide (d.a.k=3))=sd at *
 clear hrd
 generalize b=bb at *
 refine ZE [_,_,_] func13 ntmps13 fun G w hp=>?_
 refine Yw (f:=⟨fun _=>True,fun _ _ _ h=>h⟩) (fun _=>trivial) ?_
 repeat' (first|refine ZC ?_|refine ZA (nl) (fun _ _=>?_)|refine Yk Z4 bv (fun r1=>?_)|fail)
 refine YD (X:={x:Nat×List (En×Bool) // x.1≤ls.length∧KnE x.2 ((ls.take x.1).map (·.e))}) (Y:={m:List (En×Bool) // KnE m (ls.map (·.e))})
  (fun x=>[(0,.pointer (some ⟨bb,0,none⟩)),(1,.pointer (some ⟨bl,0,none⟩)),(2,.pointer (some ⟨bs,0,none⟩)),(8,.map (some r1)),(34,.int .i64 (ls.length:Int)),(35,.int .i64 (x.1.1:Int))]) (fun _=>[⟨fun _=>True,fun _ _ _ h=>h⟩,BkF bkT bb B,LgF bl ls,St (some ⟨bs,0,none⟩) es]) (fun x=>[Mp En.v bv r1 x.1.2]) (fun x=>ls.length - x.1.1)
  (fun _=>[(0,.pointer (some ⟨bb,0,none⟩)),(1,.pointer (some ⟨bl,0,none⟩)),(2,.pointer (some ⟨bs,0,none⟩)),(8,.map (some r1))]) (fun _=>[⟨fun _=>True,fun _ _ _ h=>h⟩,BkF bkT bb B,LgF bl ls,St (some ⟨bs,0,none⟩) es]) (fun m=>[Mp En.v bv r1 m.1])
  ⟨(0,[]),Nat.zero_le _,knE_nil⟩ ⟨rfl,rfl,rfl,rfl,rfl,rfl,trivial⟩ ?_ ?_
 ·rintro ⟨m1,hm1⟩
  dsimp only
  repeat' (first|refine ZC ?_|refine ZA (nF) (fun _ _=>?_)|refine Yk Z4 bv (fun r2=>?_)|fail)
  rename_i q2 _
  refine YA (T:=44) (sz:=19) (f:=dcf) (o:=q2.1) (cap:=q2.2) sd ?_ rfl rfl
  refine YD (X:={x:Nat×List (En×Bool) // x.1≤sd.length∧KnE x.2 ((sd.take x.1).map fun d=>wou d.c)}) (Y:={m:List (En×Bool) // KnE m (sd.map fun d=>wou d.c)})
   (fun x=>[(0,.pointer (some ⟨bb,0,none⟩)),(1,.pointer (some ⟨bl,0,none⟩)),(2,.pointer (some ⟨bs,0,none⟩)),(8,.map (some r1)),(12,.map (some r2)),(53,.slice q2.1 sd.length q2.2),(54,.int .i64 (sd.length:Int)),(55,.int .i64 (x.1.1:Int))]) (fun _=>[SlD q2 sd,⟨fun _=>True,fun _ _ _ h=>h⟩,BkF bkT bb B,LgF bl ls,St (some ⟨bs,0,none⟩) es]) (fun x=>[Mp En.v bv r1 m1,Mp En.v bv r2 x.1.2]) (fun x=>sd.length - x.1.1)
   (fun _=>[(0,.pointer (some ⟨bb,0,none⟩)),(1,.pointer (some ⟨bl,0,none⟩)),(2,.pointer (some ⟨bs,0,none⟩)),(8,.map (some r1)),(12,.map (some r2))]) (fun _=>[⟨fun _=>True,fun _ _ _ h=>h⟩,BkF bkT bb B,LgF bl ls,St (some ⟨bs,0,none⟩) es]) (fun m=>[Mp En.v bv r1 m1,Mp En.v bv r2 m.1])
   ⟨(0,[]),Nat.zero_le _,knE_nil⟩ ⟨rfl,rfl,rfl,rfl,rfl,rfl,rfl,rfl,trivial⟩ ?_ ?_
  ·rintro ⟨m2,hm2⟩
   dsimp only
   repeat' (first|refine ZC ?_|refine ZA (na) (fun _ _=>?_)|fail)
   rename_i q3 _
   refine ZO (Lx:=[]) (r:=Row 50 7 none 0 0 []) (fun h _=>Zb _ _ h) ?_
   obtain ⟨p,hp⟩:∃p:En→Bool,p=fun x=>decide (x ∉ ls.map (·.e)) && (decide (B.si≤x.tk) || decide (x ∈ sd.map fun d=>wou d.c)):=⟨_,rfl⟩
   rw [←hp]
   refine YD (X:={x:Nat×Option Addr×Nat // x.1≤all.length}) (Y:=Option Addr×Nat)
    (fun x=>[(0,.pointer (some ⟨bb,0,none⟩)),(1,.pointer (some ⟨bl,0,none⟩)),(8,.map (some r1)),(12,.map (some r2)),(15,.slice x.1.2.1 ((all.take x.1.1).filter p).length x.1.2.2),(65,.slice q3.1 all.length q3.2),(66,.int .i64 (all.length:Int)),(67,.int .i64 (x.1.1:Int))]) (fun _=>[SlE q3 all,⟨fun _=>True,fun _ _ _ h=>h⟩,BkF bkT bb B,LgF bl ls]) (fun x=>[Mp En.v bv r1 m1,Mp En.v bv r2 m2,RowE x.1.2 ((all.take x.1.1).filter p)]) (fun x=>all.length - x.1.1)
    (fun q=>[(0,.pointer (some ⟨bb,0,none⟩)),(1,.pointer (some ⟨bl,0,none⟩)),(15,.slice q.1 (all.filter p).length q.2)]) (fun _=>[⟨fun _=>True,fun _ _ _ h=>h⟩,BkF bkT bb B,LgF bl ls]) (fun q=>[RowE q (all.filter p)])
    ⟨(0,none,0),Nat.zero_le _⟩ ⟨rfl,rfl,rfl,rfl,rfl,rfl,rfl,rfl,trivial⟩ ?_ ?_
   ·rintro ⟨o4,c4⟩
    dsimp only
    have nS:=sortStableX_ok o4 c4 (all.filter p) 40 ⟨fun _=>True,fun _ _ _ h=>h⟩ cmpT (by
     have:=List.length_filter_le p all
     omega) wk0T (fun x y _ _=>⟨(Ua x y).1,(Ua x y).2.more⟩)
    have hil:=isE_len (c:=cmpT) (all.filter p)
    have hfl2:=List.length_filter_le p all
    rw [←hil] at nS
    dsimp only [RowE]
    rw [←hil]
    generalize isR cmpT (all.filter p)=A at *
    obtain ⟨g,hg⟩:∃g:En→Bool,g=fun x=>!ls.any fun y=>decide (y.e.who=x.who∧y.e.nu=x.nu∧y.e.tk=x.tk):=⟨_,rfl⟩
    rw [←hg]
    repeat' (first|refine ZC ?_|refine ZA (nS) (fun _ _=>?_)|refine ZA (nC) (fun _ _=>?_)|fail)
    rename_i q5 _
    refine YA (T:=50) (sz:=7) (f:=enf) (o:=q5.1) (cap:=q5.2) cm ?_ rfl rfl
    have e0:A=A++(cm.take 0).filter g:=by simp
    refine Zi (T:=50) (sz:=7) (o:=o4) (cap:=c4) (m:=A.length) (m':=(A++(cm.take 0).filter g).length) (A.flatMap enf) ((A++(cm.take 0).filter g).flatMap enf) (by rw [←e0]) (by rw [←e0]) ?_
    refine Zj (X:={x:Nat×Option Addr×Nat // x.1≤cm.length}) (fun x=>[(1,.pointer (some ⟨bl,0,none⟩)),(15,.slice x.1.2.1 (A++(cm.take x.1.1).filter g).length x.1.2.2),(97,.slice q5.1 cm.length q5.2),(98,.int .i64 (cm.length:Int)),(99,.int .i64 (x.1.1:Int))]) (fun _=>[SlE q5 cm,LgF bl ls]) (fun x=>[RowE x.1.2 (A++(cm.take x.1.1).filter g)]) (fun x=>cm.length - x.1.1)
     ⟨(0,o4,c4),Nat.zero_le _⟩ ⟨rfl,by rw [←e0];rfl,rfl,rfl,rfl,trivial⟩ ?_
    rintro ⟨⟨i,o,cap⟩,hi⟩
    dsimp only at hi ⊢
    by_cases hlt:i<cm.length
    ·obtain ⟨e,he⟩:∃e,cm[i]? = some e:=⟨_,List.getElem?_eq_getElem hlt⟩
     have htk:=ZT he
     have nfe:=nf e.who e.nu e.tk (by omega)
     have hge:(lfind ls e.who e.nu e.tk ls.length).isSome = !g e:=by rw [lfind_all,hg];simp
     generalize lfind ls e.who e.nu e.tk ls.length=fo at nfe hge
     unfold fndP at nfe
     rw [hge] at nfe
     have hln:(A++(cm.take i).filter g).length≤2000000:=by
      have h4:((cm.take i).filter g).length≤(cm.take i).length:=List.length_filter_le ..
      rw [List.length_append]
      rw [List.length_take] at h4
      omega
     cases hgt:g e with
     | true=>
      have e3:A++(cm.take (i+1)).filter g=A++(cm.take i).filter g++[e]:=by simp [htk,hgt]
      have e1:(A++(cm.take i).filter g).length+1=(A++(cm.take (i+1)).filter g).length:=by rw [e3,List.length_append (bs:=[e])];rfl
      have e2:(A++(cm.take i).filter g).flatMap enf++enf e=(A++(cm.take (i+1)).filter g).flatMap enf:=by rw [e3,List.flatMap_append (ys:=[e])];simp
      rw [hgt] at nfe
      generalize A++(cm.take i).filter g=L1 at *
      repeat' (first|refine ZC ?_|refine ZH (fun b=>?_)|refine ZA (nfe) (fun _ _=>?_)|refine ZU (es:=cm) i e he (fun b off=>?_)|refine ZQ ?_|refine Zs (fun o' cap'=>?_)|(refine ZB (fun hc=>?_) (fun hc=>?_)<;>(try simp at hc)<;>(try omega))|fail)
      rename_i o' cap'
      rw [wrapi (z:=(i:Int)+1) (by omega) (by omega)]
      refine Zi (T:=50) (sz:=7) (o:=o') (cap:=cap') (m:=L1.length+1) _ _ e1 e2 ?_
      rw [e1]
      exact ZJ ⟨(i+1,o',cap'),by show i+1≤_;omega⟩ (by show cm.length - (i+1)<cm.length - i;omega) ⟨rfl,rfl,rfl,rfl,rfl,trivial⟩
     | false=>
      have e3:A++(cm.take (i+1)).filter g=A++(cm.take i).filter g:=by simp [htk,hgt]
      rw [hgt] at nfe
      repeat' (first|refine ZC ?_|refine ZH (fun b=>?_)|refine ZA (nfe) (fun _ _=>?_)|refine ZU (es:=cm) i e he (fun b off=>?_)|refine ZQ ?_|(refine ZB (fun hc=>?_) (fun hc=>?_)<;>(try simp at hc)<;>(try omega))|fail)
      rw [wrapi (z:=(i:Int)+1) (by omega) (by omega),←e3]
      exact ZJ ⟨(i+1,o,cap),by show i+1≤_;omega⟩ (by show cm.length - (i+1)<cm.length - i;omega) ⟨rfl,rfl,rfl,rfl,rfl,trivial⟩
    ·have e:cm.take i=cm:=List.take_of_length_le (by omega)
     rw [e]
     repeat' (first|refine ZC ?_|refine ZM ?_|(refine ZB (fun hc=>?_) (fun hc=>?_)<;>(try simp at hc)<;>(try omega))|fail)
     exact ZD (o,cap) rfl trivial
   ·rintro hx ⟨⟨i,o,cap⟩,hi⟩
    dsimp only at hi ⊢
    by_cases hlt:i<all.length
    ·obtain ⟨e,he⟩:∃e,all[i]? = some e:=⟨_,List.getElem?_eq_getElem hlt⟩
     have htk:=ZT he
     have hz1:=knE_get hm1 e
     have hz2:=knE_get hm2 e
     have hpe:p e=(!decide (e ∈ ls.map (·.e)) && (decide (B.si≤e.tk) || decide (e ∈ sd.map fun d=>wou d.c))):=by
      rw [hp]
      show (decide (e ∉ ls.map (·.e)) && _)=_
      rw [decide_not]
     generalize decide (e ∈ ls.map (·.e))=z1 at hz1 hpe
     generalize decide (e ∈ sd.map fun d=>wou d.c)=z2 at hz2 hpe
     have hln:((all.take i).filter p).length≤2000000:=by
      have h4:((all.take i).filter p).length≤(all.take i).length:=List.length_filter_le ..
      rw [List.length_take] at h4
      omega
     refine Ye fun qb=>?_
     cases hpt:p e with
     | true=>
      have e3:(all.take (i+1)).filter p=(all.take i).filter p++[e]:=by simp [htk,hpt]
      have e1:((all.take i).filter p).length+1=((all.take (i+1)).filter p).length:=by rw [e3];simp
      have e2:((all.take i).filter p).flatMap enf++enf e=((all.take (i+1)).filter p).flatMap enf:=by rw [e3];simp
      rw [hpt] at hpe
      generalize (all.take i).filter p=L1 at *
      obtain ⟨rfl,hq⟩:=rdy_yes hpe.symm
      rcases hq with hq|⟨hq,rfl⟩
      all_goals
       repeat' (first|refine ZC ?_|refine ZH (fun b=>?_)|refine ZU (es:=all) i e he (fun b off=>?_)|refine ZQ ?_|refine r_mgetB Z4 e _ hz1 ?_|refine r_mgetB Z4 e _ hz2 ?_|refine Zs (fun o' cap'=>?_)|(refine ZS (fun hc=>?_) (fun hc=>?_)<;>(try simp at hc)<;>(try omega))|refine ZI 22 [] [(0,0),(1,0),(2,0),(3,0),(4,0),(5,0),(6,0),(7,0),(8,0),(9,0),(10,0),(11,0),(12,0),(13,0),(14,0),(15,0),(16,0),(17,0)] [] ?_|(refine ZB (fun hc=>?_) (fun hc=>?_)<;>(try simp at hc)<;>(try omega))|fail)
       rename_i o' cap'
       rw [wrapi (z:=(i:Int)+1) (by omega) (by omega)]
       refine Zi (T:=50) (sz:=7) (o:=o') (cap:=cap') (m:=L1.length+1) _ _ e1 e2 ?_
       rw [e1]
       exact ZJ ⟨(i+1,o',cap'),by show i+1≤_;omega⟩ (by show all.length - (i+1)<all.length - i;omega) ⟨rfl,rfl,rfl,rfl,rfl,rfl,rfl,rfl,trivial⟩
     | false=>
      have e3:(all.take (i+1)).filter p=(all.take i).filter p:=by simp [htk,hpt]
      rw [hpt] at hpe
      rcases rdy_no hpe.symm with rfl|⟨rfl,hq,rfl⟩
      all_goals
       repeat' (first|refine ZC ?_|refine ZH (fun b=>?_)|refine ZU (es:=all) i e he (fun b off=>?_)|refine ZQ ?_|refine r_mgetB Z4 e _ hz1 ?_|refine r_mgetB Z4 e _ hz2 ?_|(refine ZS (fun hc=>?_) (fun hc=>?_)<;>(try simp at hc)<;>(try omega))|refine ZI 22 [] [(0,0),(1,0),(2,0),(3,0),(4,0),(5,0),(6,0),(7,0),(8,0),(9,0),(10,0),(11,0),(12,0),(13,0),(14,0),(15,0),(16,0),(17,0)] [] ?_|(refine ZB (fun hc=>?_) (fun hc=>?_)<;>(try simp at hc)<;>(try omega))|fail)
       rw [wrapi (z:=(i:Int)+1) (by omega) (by omega),←e3]
       exact ZJ ⟨(i+1,o,cap),by show i+1≤_;omega⟩ (by show all.length - (i+1)<all.length - i;omega) ⟨rfl,rfl,rfl,rfl,rfl,rfl,rfl,rfl,trivial⟩
    ·have e:all.take i=all:=List.take_of_length_le (by omega)
     rw [e]
     repeat' (first|refine ZC ?_|(refine ZB (fun hc=>?_) (fun hc=>?_)<;>(try simp at hc)<;>(try omega))|fail)
     exact Z2 hx (o,cap) ⟨rfl,rfl,rfl,trivial⟩
  ·rintro hx ⟨⟨i,m2⟩,hi,hm2⟩
   dsimp only at hi hm2 ⊢
   by_cases hlt:i<sd.length
   ·obtain ⟨e,he⟩:∃e,sd[i]? = some e:=⟨_,List.getElem?_eq_getElem hlt⟩
    have nw:=dwould_ok e.c
    have htk:=ZT he
    repeat' (first|refine ZC ?_|refine ZH (fun b=>?_)|refine ZA (nw) (fun _ _=>?_)|refine ZU (es:=sd) i e he (fun b off=>?_)|refine ZQ ?_|refine Y2 Z4 (wou e.c) true ?_|(refine ZB (fun hc=>?_) (fun hc=>?_)<;>(try simp at hc)<;>(try omega))|fail)
    rw [wrapi (z:=(i:Int)+1) (by omega) (by omega)]
    exact ZJ ⟨(i+1,mset (wou e.c) true m2),by show i+1≤_;omega,by rw [htk,List.map_append];exact knE_snoc hm2 _⟩ (by show sd.length - (i+1)<sd.length - i;omega) ⟨rfl,rfl,rfl,rfl,rfl,rfl,rfl,rfl,trivial⟩
   ·rw [List.take_of_length_le (by omega)] at hm2
    repeat' (first|refine ZC ?_|(refine ZB (fun hc=>?_) (fun hc=>?_)<;>(try simp at hc)<;>(try omega))|fail)
    exact Z2 hx ⟨m2,hm2⟩ ⟨rfl,rfl,rfl,rfl,rfl,trivial⟩
 ·rintro hx ⟨⟨i,m1⟩,hi,hm1⟩
  dsimp only at hi hm1 ⊢
  by_cases hlt:i<ls.length
  ·obtain ⟨e,he⟩:∃e,ls[i]? = some e:=⟨_,List.getElem?_eq_getElem hlt⟩
   have n1:=ng i e he
   have htk:=ZT he
   repeat' (first|refine ZC ?_|refine ZH (fun b=>?_)|refine ZA (n1) (fun _ _=>?_)|refine Y2 Z4 e.e true ?_|(refine ZB (fun hc=>?_) (fun hc=>?_)<;>(try simp at hc)<;>(try omega))|fail)
   rw [wrapi (z:=(i:Int)+1) (by omega) (by omega)]
   exact ZJ ⟨(i+1,mset e.e true m1),by show i+1≤_;omega,by rw [htk,List.map_append];exact knE_snoc hm1 _⟩ (by show ls.length - (i+1)<ls.length - i;omega) ⟨rfl,rfl,rfl,rfl,rfl,rfl,trivial⟩
  ·rw [List.take_of_length_le (by omega)] at hm1
   repeat' (first|refine ZC ?_|(refine ZB (fun hc=>?_) (fun hc=>?_)<;>(try simp at hc)<;>(try omega))|fail)
   exact Z2 hx ⟨m1,hm1⟩ ⟨rfl,rfl,rfl,rfl,trivial⟩
set_option maxHeartbeats 4000000 in
theorem manswer_bad (b:Nat) (B:Bk) (i:Int) (a:Ac) (at':Int) (h0:ansE B i a at'≠0) :
  Enters 50∧Spec prog 50 #[.pointer (some ⟨b,0,none⟩),.int .i64 i,acV a,.int .i64 at'] [BkF moT b B] [] (RetV (.tuple #[Dc.z.v,.int .i64 (ansE B i a at')])):=by
 generalize b=bb at *
 generalize hr:ansE B i a at'=r at *
 obtain ⟨rd,si,dn,op⟩:=B
 unfold ansE at hr
 dsimp only at hr
 by_cases h1:i<0∨(op.length:Int)≤i∨at'<0∨1073741824<at'
 ·rw [if_pos h1] at hr
  subst hr
  refine ZE [_,_,_,_] func50 ntmps50 fun G w hp=>?_
  refine Ye fun q=>?_
  repeat' (first|refine ZC ?_|refine ZH (fun b=>?_)|(refine ZG (fun hc=>?_) (fun hc=>?_)<;>(try simp at hc)<;>(try omega))|(refine ZB (fun hc=>?_) (fun hc=>?_)<;>(try simp at hc)<;>(try omega))|fail)
  all_goals exact ZD () rfl trivial
 ·rw [if_neg h1] at hr
  by_cases h2:at'<si
  ·rw [if_pos h2] at hr
   subst hr
   refine ZE [_,_,_,_] func50 ntmps50 fun G w hp=>?_
   refine Ye fun q=>?_
   repeat' (first|refine ZC ?_|refine ZH (fun b=>?_)|(refine ZG (fun hc=>?_) (fun hc=>?_)<;>(try simp at hc)<;>(try omega))|(refine ZB (fun hc=>?_) (fun hc=>?_)<;>(try simp at hc)<;>(try omega))|fail)
   all_goals exact ZD () rfl trivial
  ·rw [if_neg h2] at hr
   obtain ⟨j,rfl⟩:∃j:Nat,i=(j:Int):=⟨i.toNat,by omega⟩
   obtain ⟨c,hc0⟩:∃c,op[j]? = some c:=⟨_,List.getElem?_eq_getElem (by omega)⟩
   rw [Int.toNat_natCast,hc0] at hr
   dsimp only at hr
   have n1:=Yd a.k c.kind
   unfold permF at hr
   generalize posF a.k c.kind=pf at *
   refine ZE [_,_,_,_] func50 ntmps50 fun G w hp=>?_
   refine Ye fun q=>?_
   repeat' (first|refine ZC ?_|refine ZH (fun b=>?_)|refine ZK (n1) (fun _ _=>?_)|refine Zo (es:=op) j c hc0 (fun b off=>?_)|refine YE ?_|(refine ZG (fun hc=>?_) (fun hc=>?_)<;>(try simp at hc)<;>(try omega))|(refine ZS (fun hc=>?_) (fun hc=>?_)<;>(try simp at hc)<;>(try omega))|refine ZI 5 [] [(0,0),(1,0),(2,0),(3,0),(4,0),(5,0),(6,0),(7,0),(8,0),(9,0),(10,0),(11,0),(12,0),(13,0),(14,4),(15,0),(16,0),(17,0)] [] ?_|(refine ZB (fun hc=>?_) (fun hc=>?_)<;>(try simp at hc)<;>(try omega))|fail)
   all_goals first
    | (refine ZD () ?_ trivial;subst hr;show Value.tuple _=Value.tuple _;congr 4;simp_all [isE];done)
    | (refine ZD () ?_ trivial;subst hr;show Value.tuple _=Value.tuple _;congr 4;simp_all [isE];omega)
    | (exfalso;apply h0;rw [←hr];simp_all [isE];done)
    | (exfalso;apply h0;rw [←hr];simp_all [isE];omega)
theorem erase_snoc {α:Type} {l:List α} {i j:Nat} {e:α} (he:l[i]? = some e) (hne:i≠j):(l.take (i+1)).eraseIdx j=(l.take i).eraseIdx j++[e]:=by
 have hi:=(List.getElem?_eq_some_iff.1 he).1
 rw [ZT he]
 rcases Nat.lt_or_ge j i with h|h
 ·rw [List.eraseIdx_append_of_lt_length (by rw [List.length_take];omega)]
 ·rw [List.eraseIdx_of_length_le (l:=l.take i) (by rw [List.length_take];omega),List.eraseIdx_of_length_le (by rw [List.length_append,List.length_take,List.length_singleton];omega)]
theorem erase_here {α:Type} {l:List α} {j:Nat} {e:α} (he:l[j]? = some e):(l.take (j+1)).eraseIdx j=(l.take j).eraseIdx j:=by
 have hi:=(List.getElem?_eq_some_iff.1 he).1
 rw [ZT he,List.eraseIdx_append_of_length_le (by rw [List.length_take];omega),List.eraseIdx_of_length_le (l:=l.take j) (by rw [List.length_take];omega),List.length_take,show j - min j l.length=0 by omega]
 simp
set_option maxHeartbeats 8000000 in
theorem manswer_ok (b:Nat) (B:Bk) (j:Nat) (c:Cq) (a:Ac) (at':Int) (hc0:B.op[j]? = some c) (ht:0≤at'∧at'≤1073741824) (hs:B.si≤at') (hp:permF a c=0) (hn:B.dn.length≤90000) (hm:B.op.length≤1000000) :
  Enters 50∧Spec prog 50 #[.pointer (some ⟨b,0,none⟩),.int .i64 (j:Int),acV a,.int .i64 at'] [] [BkR moT b B] ⟨Unit,fun _=>.tuple #[(ansD B c a at').v,.int .i64 0],fun _=>True,fun _=>[],fun _=>[BkR moT b (ansB B j c a at')]⟩:=by
 generalize b=bb at *
 obtain ⟨rd,si,dn,op⟩:=B
 unfold ansB ansD
 dsimp only at *
 have hj:=(List.getElem?_eq_some_iff.1 hc0).1
 have n1:=Yd a.k c.kind
 unfold permF at hp
 generalize posF a.k c.kind=pf at *
 refine ZE [_,_,_,_] func50 ntmps50 fun G w hp=>?_
 refine k_bk fun q=>?_
 obtain ⟨⟨od,cd⟩,⟨oo,co⟩⟩:=q
 dsimp only [BkL]
 refine YA (T:=40) (sz:=14) (f:=cqf) (o:=oo) (cap:=co) op ?_ rfl rfl
 refine XJ (Y:=Nat×Nat) 3 (fun y=>[(0,.pointer (some ⟨bb,0,none⟩)),(1,.int .i64 (j:Int)),(8,.pointer (some ⟨y.1,0,none⟩)),(10,.pointer (some ⟨y.2,0,none⟩))]) (fun _=>[SlQ (oo,co) op]) (fun y=>[Pt bb (.cells #[.int .i64 rd,.int .i64 si,.slice od dn.length cd,.slice oo op.length co] moT),RowD (od,cd) dn,Pt y.1 (.cells (dcf Dc.z).toArray 44),Pt y.2 (.cells (dcf ⟨rd,at',c,a,-1⟩).toArray 44)]) ?_ ?_
 ·rintro ⟨b8,b10⟩
  dsimp only
  repeat' (first|refine ZC ?_|fail)
  refine ZO (Lx:=[]) (r:=Row 40 14 none 0 0 []) (fun h _=>Zb _ _ h) ?_
  refine YD (X:={x:Nat×Option Addr×Nat // x.1≤op.length}) (Y:=Option Addr×Nat) (fun x=>[(0,.pointer (some ⟨bb,0,none⟩)),(1,.int .i64 (j:Int)),(8,.pointer (some ⟨b8,0,none⟩)),(10,.pointer (some ⟨b10,0,none⟩)),(11,.slice x.1.2.1 ((op.take x.1.1).eraseIdx j).length x.1.2.2),(12,.int .i64 (x.1.1:Int))]) (fun _=>[SlQ (oo,co) op]) (fun x=>[Pt bb (.cells #[.int .i64 rd,.int .i64 si,.slice od dn.length cd,.slice oo op.length co] moT),RowD (od,cd) dn,Pt b8 (.cells (dcf Dc.z).toArray 44),Pt b10 (.cells (dcf ⟨rd,at',c,a,-1⟩).toArray 44),RowQ x.1.2 ((op.take x.1.1).eraseIdx j)]) (fun x=>op.length - x.1.1)
   (fun q=>[(0,.pointer (some ⟨bb,0,none⟩)),(8,.pointer (some ⟨b8,0,none⟩)),(10,.pointer (some ⟨b10,0,none⟩)),(11,.slice q.1 (op.eraseIdx j).length q.2)]) (fun _=>[]) (fun q=>[Pt bb (.cells #[.int .i64 rd,.int .i64 si,.slice od dn.length cd,.slice oo op.length co] moT),RowD (od,cd) dn,Pt b8 (.cells (dcf Dc.z).toArray 44),Pt b10 (.cells (dcf ⟨rd,at',c,a,-1⟩).toArray 44),RowQ q (op.eraseIdx j)])
   ⟨(0,none,0),Nat.zero_le _⟩ ⟨rfl,rfl,rfl,rfl,rfl,rfl,trivial⟩ ?_ ?_
  ·rintro ⟨o2,c2⟩
   dsimp only
   repeat' (first|refine ZC ?_|refine ZH (fun b=>?_)|refine Xd (fun o' cap'=>?_)|refine r_up ?_|refine ZI 18 [Pt bb _,Row 44 _ _ _ _ _] [(0,0),(1,0),(2,0),(3,0),(4,0),(5,0),(6,3),(7,3),(8,1),(9,4),(10,0),(11,0),(12,4),(13,0),(14,0)] [15] ?_|fail)
   refine Y4 (B:=⟨rd,si,dn++[(⟨rd,at',c,a,-1⟩:Dc)],op.eraseIdx j⟩) (T:=moT) (m1:=dn.length+1) (xs:=dn.flatMap dcf++dcf ⟨rd,at',c,a,-1⟩) ?_ rfl rfl (by simp) (by simp) rfl rfl
   exact ZD () rfl trivial
  ·rintro hx ⟨⟨i,o,cap⟩,hi⟩
   dsimp only at hi ⊢
   have hln:((op.take i).eraseIdx j).length≤1000000:=by
    have:=List.length_eraseIdx_le (op.take i) j
    rw [List.length_take] at this
    omega
   by_cases hlt:i<op.length
   ·obtain ⟨e,he⟩:∃e,op[i]? = some e:=⟨_,List.getElem?_eq_getElem hlt⟩
    by_cases hij:i=j
    ·subst hij
     have e3:=erase_here he
     rw [←e3]
     repeat' (first|refine ZC ?_|(refine ZB (fun hc=>?_) (fun hc=>?_)<;>(try simp at hc)<;>(try omega))|fail)
     rw [wrapi (z:=(i:Int)+1) (by omega) (by omega)]
     exact ZJ ⟨(i+1,o,cap),by show i+1≤_;omega⟩ (by show op.length - (i+1)<op.length - i;omega) ⟨rfl,rfl,rfl,rfl,rfl,rfl,trivial⟩
    ·have e3:=erase_snoc he hij
     have e1:((op.take i).eraseIdx j).length+1=((op.take (i+1)).eraseIdx j).length:=by rw [e3];simp
     have e2:((op.take i).eraseIdx j).flatMap cqf++cqf e=((op.take (i+1)).eraseIdx j).flatMap cqf:=by rw [e3];simp
     repeat' (first|refine ZC ?_|refine ZH (fun b=>?_)|refine ZU (es:=op) i e he (fun b off=>?_)|refine ZQ ?_|refine Zs (fun o' cap'=>?_)|(refine ZB (fun hc=>?_) (fun hc=>?_)<;>(try simp at hc)<;>(try omega))|fail)
     rename_i o' cap'
     rw [wrapi (z:=(i:Int)+1) (by omega) (by omega)]
     refine Zi (T:=40) (sz:=14) (o:=o') (cap:=cap') (m:=((op.take i).eraseIdx j).length+1) _ _ e1 e2 ?_
     rw [e1]
     exact ZJ ⟨(i+1,o',cap'),by show i+1≤_;omega⟩ (by show op.length - (i+1)<op.length - i;omega) ⟨rfl,rfl,rfl,rfl,rfl,rfl,trivial⟩
   ·have e:op.take i=op:=List.take_of_length_le (by omega)
    rw [e]
    repeat' (first|refine ZC ?_|(refine ZB (fun hc=>?_) (fun hc=>?_)<;>(try simp at hc)<;>(try omega))|fail)
    exact Z2 hx (o,cap) ⟨rfl,rfl,rfl,rfl,trivial⟩
 ·intro hx
  repeat' (first|refine Wf ?_|refine k_to hx (_,_) ⟨rfl,rfl,rfl,rfl,trivial⟩|refine ZC ?_|refine ZH (fun b=>?_)|refine ZK (n1) (fun _ _=>?_)|refine Zo (es:=op) j c hc0 (fun b off=>?_)|refine YE ?_|(refine ZG (fun hc=>?_) (fun hc=>?_)<;>(try simp at hc)<;>(try omega))|(refine ZS (fun hc=>?_) (fun hc=>?_)<;>(try simp at hc)<;>(try omega))|refine ZI 5 [] [(0,0),(1,0),(2,0),(3,0),(4,0),(5,0),(6,0),(7,0),(8,0),(9,0),(10,0),(11,0),(12,0),(13,0),(14,4),(15,0),(16,0),(17,0)] [] ?_|refine ZI 11 [] [(0,0),(1,0),(2,0),(3,0),(4,0),(5,0),(6,0),(7,0),(8,0),(9,0),(10,0),(11,0),(12,0),(13,0),(14,1)] [15] ?_|(refine ZB (fun hc=>?_) (fun hc=>?_)<;>(try simp at hc)<;>(try omega))|fail)
  all_goals first
   | (exfalso;simp_all [isE];done)
   | (exfalso;simp_all [isE];omega)
theorem compF_snoc (l:List Dc) (d:Dc):compF (l++[d])=if d.a.k=2 then compF l++[cpE d (compF l).length] else compF l:=by
 unfold compF
 rw [List.filter_append]
 by_cases h:d.a.k=2
 ·rw [if_pos h,List.filter_cons_of_pos (by simpa using h),List.filter_nil,List.mapIdx_append,List.length_mapIdx]
  simp
 ·rw [if_neg h,List.filter_cons_of_neg (by simpa using h),List.filter_nil,List.append_nil]
set_option maxHeartbeats 4000000 in
theorem mcomps_ok (b:Nat) (B:Bk) (hl:B.dn.length≤1000000):Enters 55∧Spec prog 55 #[.pointer (some ⟨b,0,none⟩)] [BkF moT b B] []
  ⟨Option Addr×Nat,fun q=>.slice q.1 (compF B.dn).length q.2,fun _=>True,fun _=>[],fun q=>[RowE q (compF B.dn)]⟩:=by
 generalize b=bb at *
 obtain ⟨rd,si,dn,op⟩:=B
 dsimp only at hl ⊢
 refine ZE [_] func55 ntmps55 fun G w hp=>?_
 refine Ye fun q=>?_
 repeat' (first|refine ZC ?_|fail)
 refine ZO (Lx:=[]) (r:=Row 50 7 none 0 0 []) (fun h _=>Zb _ _ h) ?_
 refine Zj (X:={x:Nat×Option Addr×Nat // x.1≤dn.length}) (fun x=>[(0,.pointer (some ⟨bb,0,none⟩)),(3,.slice x.1.2.1 (compF (dn.take x.1.1)).length x.1.2.2),(4,.int .i64 (x.1.1:Int))]) (fun _=>[Blk bb (.cells #[.int .i64 rd,.int .i64 si,.slice q.1.1 dn.length q.1.2,.slice q.2.1 op.length q.2.2] moT),SlD q.1 dn]) (fun x=>[RowE x.1.2 (compF (dn.take x.1.1))]) (fun x=>dn.length - x.1.1) ⟨(0,none,0),Nat.zero_le _⟩ ⟨rfl,rfl,rfl,trivial⟩ ?_
 rintro ⟨⟨i,o,cap⟩,hi⟩
 dsimp only at hi ⊢
 by_cases hlt:i<dn.length
 ·obtain ⟨e,he⟩:∃e,dn[i]? = some e:=⟨_,List.getElem?_eq_getElem hlt⟩
  have e3:=compF_snoc (dn.take i) e
  rw [←ZT he] at e3
  have hln:(compF (dn.take i)).length≤1000000:=by
   unfold compF
   rw [List.length_mapIdx]
   refine Nat.le_trans (List.length_filter_le ..) ?_
   rw [List.length_take];omega
  by_cases hk:e.a.k=2
  ·rw [if_pos hk] at e3
   have e1:(compF (dn.take i)).length+1=(compF (dn.take (i+1))).length:=by rw [e3];simp
   have e2:(compF (dn.take i)).flatMap enf++enf (cpE e (compF (dn.take i)).length)=(compF (dn.take (i+1))).flatMap enf:=by rw [e3];simp
   generalize compF (dn.take i)=L1 at *
   repeat' (first|refine ZC ?_|refine ZH (fun b=>?_)|refine ZU (es:=dn) i e he (fun b off=>?_)|refine ZQ ?_|refine Zs (fun o' cap'=>?_)|(refine ZB (fun hc=>?_) (fun hc=>?_)<;>(try simp at hc)<;>(try omega))|fail)
   rename_i o' cap'
   rw [wrapi (z:=(i:Int)+1) (by omega) (by omega)]
   refine Zi (T:=50) (sz:=7) (o:=o') (cap:=cap') (m:=L1.length+1) _ _ e1 e2 ?_
   rw [e1]
   exact ZJ ⟨(i+1,o',cap'),by show i+1≤_;omega⟩ (by show dn.length - (i+1)<dn.length - i;omega) ⟨rfl,rfl,rfl,trivial⟩
  ·rw [if_neg hk] at e3
   rw [←e3]
   repeat' (first|refine ZC ?_|refine ZH (fun b=>?_)|refine ZU (es:=dn) i e he (fun b off=>?_)|refine ZQ ?_|(refine ZB (fun hc=>?_) (fun hc=>?_)<;>(try simp at hc)<;>(try omega))|fail)
   rw [wrapi (z:=(i:Int)+1) (by omega) (by omega)]
   exact ZJ ⟨(i+1,o,cap),by show i+1≤_;omega⟩ (by show dn.length - (i+1)<dn.length - i;omega) ⟨rfl,rfl,rfl,trivial⟩
 ·have e:dn.take i=dn:=List.take_of_length_le (by omega)
  rw [e]
  repeat' (first|refine ZC ?_|refine ZM ?_|(refine ZB (fun hc=>?_) (fun hc=>?_)<;>(try simp at hc)<;>(try omega))|fail)
  exact ZD (o,cap) rfl trivial
theorem eqEnD (a b:En):eqC eqS 20 50 a.w b.w=some (decide (a=b)):=by
 rw [show eqC eqS 20 50 a.w b.w=some ((a.who.toList == b.who.toList) && ((a.nu == b.nu) && ((a.tk == b.tk) && (((a.o.ch == b.o.ch) && ((a.o.tg.toList == b.o.tg.toList) && ((a.o.tx.toList == b.o.tx.toList) && ((a.o.us == b.o.us) && true)))) && true)))) from rfl]
 congr 1
 obtain ⟨a2,a3,a4,⟨a5,a6,a7,a8⟩⟩:=a
 obtain ⟨b2,b3,b4,⟨b5,b6,b7,b8⟩⟩:=b
 simp only [beqS,beqI,En.mk.injEq,Ou.mk.injEq]
 rw [Bool.eq_iff_iff];simp
set_option maxHeartbeats 2000000 in
theorem mleft_ok (bl:Nat) (ls:List Lf) (x:En) (hl:ls.length≤1000000):Enters 56∧Spec prog 56 #[.pointer (some ⟨bl,0,none⟩),x.w] [LgF bl ls] [] (RetV (.bool (decide (x ∈ ls.map (·.e))))):=by
 have nl:=V4 bl ls
 generalize hr:decide (x ∈ ls.map (·.e))=r
 refine ZE [_,_] func56 ntmps56 fun G w hp=>?_
 repeat' (first|refine ZC ?_|refine ZH (fun b=>?_)|fail)
 generalize b=bx
 refine Zj (X:={i:Nat // i≤ls.length∧x ∉ (ls.take i).map (·.e)}) (fun i=>[(0,.pointer (some ⟨bl,0,none⟩)),(3,.pointer (some ⟨bx,0,none⟩)),(5,.int .i64 (i.1:Int))]) (fun _=>[LgF bl ls]) (fun _=>[Pt bx (.cells (enf x).toArray 50)]) (fun i=>ls.length - i.1) ⟨0,Nat.zero_le _,by simp⟩ ⟨rfl,rfl,rfl,trivial⟩ ?_
 rintro ⟨i,hi,hp⟩
 dsimp only
 by_cases hlt:i<ls.length
 ·obtain ⟨e,he⟩:∃e,ls[i]? = some e:=⟨_,List.getElem?_eq_getElem hlt⟩
  have n1:=Wn bl ls i e he
  have hq:=eqEnD e.e x
  by_cases hex:e.e=x
  ·have hy:x ∈ ls.map (·.e):=List.mem_map.2 ⟨e,List.mem_of_getElem? he,hex⟩
   rw [decide_eq_true hy] at hr
   rw [decide_eq_true hex] at hq
   subst hr
   repeat' (first|refine ZC ?_|refine ZH (fun b=>?_)|refine ZA (nl) (fun _ _=>?_)|refine ZA (n1) (fun _ _=>?_)|refine l_seq (b:=true) ?_ (he:=hq)|(refine ZB (fun hc=>?_) (fun hc=>?_)<;>(try simp at hc)<;>(try omega))|fail)
   exact Zz (Z5 (Zg () rfl trivial))
  ·rw [decide_eq_false hex] at hq
   repeat' (first|refine ZC ?_|refine ZH (fun b=>?_)|refine ZA (nl) (fun _ _=>?_)|refine ZA (n1) (fun _ _=>?_)|refine l_seq (b:=false) ?_ (he:=hq)|(refine ZB (fun hc=>?_) (fun hc=>?_)<;>(try simp at hc)<;>(try omega))|fail)
   rw [wrapi (z:=(i:Int)+1) (by omega) (by omega)]
   exact ZJ ⟨i+1,by omega,by rw [ZT he,List.map_append];simp only [List.map_cons,List.map_nil,List.mem_append,List.mem_singleton,not_or];exact ⟨hp,fun h=>hex h.symm⟩⟩ (by show ls.length - (i+1)<ls.length - i;omega) ⟨rfl,rfl,rfl,trivial⟩
 ·rw [List.take_of_length_le (by omega)] at hp
  rw [decide_eq_false hp] at hr
  subst hr
  repeat' (first|refine ZC ?_|refine ZM ?_|refine ZA (nl) (fun _ _=>?_)|(refine ZB (fun hc=>?_) (fun hc=>?_)<;>(try simp at hc)<;>(try omega))|fail)
  exact ZD () rfl trivial
def sndQ (d:Dc) (x:En):Bool:=decide (d.a.k=3∧wou d.c=x)
theorem snd_any (dn:List Dc) (x:En):decide (x ∈ sndF dn)=dn.any fun d=>sndQ d x:=by
 unfold sndF sndQ
 rw [Bool.eq_iff_iff]
 simp only [decide_eq_true_eq,List.any_eq_true,List.mem_map,List.mem_filter]
 constructor
 ·rintro ⟨d,⟨h1,h2⟩,h3⟩
  exact ⟨d,h1,h2,h3⟩
 ·rintro ⟨d,h1,h2,h3⟩
  exact ⟨d,⟨h1,h2⟩,h3⟩
set_option maxHeartbeats 4000000 in
theorem msent_ok (b:Nat) (B:Bk) (x:En) (hl:B.dn.length≤1000000):Enters 57∧Spec prog 57 #[.pointer (some ⟨b,0,none⟩),x.w] [BkF moT b B] [] (RetV (.bool (decide (x ∈ sndF B.dn)))):=by
 generalize b=bb at *
 obtain ⟨rd,si,dn,op⟩:=B
 dsimp only at hl ⊢
 rw [snd_any]
 generalize hr:(dn.any fun d=>sndQ d x)=r
 refine ZE [_,_] func57 ntmps57 fun G w hp=>?_
 refine Ye fun q=>?_
 repeat' (first|refine ZC ?_|refine ZH (fun b=>?_)|fail)
 generalize b=bx
 refine Zj (X:={i:Nat // i≤dn.length∧((dn.take i).any fun d=>sndQ d x)=false}) (fun i=>[(0,.pointer (some ⟨bb,0,none⟩)),(3,.pointer (some ⟨bx,0,none⟩)),(5,.int .i64 (i.1:Int))]) (fun _=>[Blk bb (.cells #[.int .i64 rd,.int .i64 si,.slice q.1.1 dn.length q.1.2,.slice q.2.1 op.length q.2.2] moT),SlD q.1 dn]) (fun _=>[Pt bx (.cells (enf x).toArray 50)]) (fun i=>dn.length - i.1) ⟨0,Nat.zero_le _,by simp⟩ ⟨rfl,rfl,rfl,trivial⟩ ?_
 rintro ⟨i,hi,hp⟩
 dsimp only
 by_cases hlt:i<dn.length
 ·obtain ⟨e,he⟩:∃e,dn[i]? = some e:=⟨_,List.getElem?_eq_getElem hlt⟩
  have hO:=eqO5 e.c.new x.o
  have hnx:sndQ e x=false→((dn.take (i+1)).any fun d=>sndQ d x)=false:=fun h=>by rw [ZT he,List.any_append,hp];simp [h]
  have hyx:sndQ e x=true→r=true:=fun h=>by rw [←hr];exact List.any_eq_true.2 ⟨e,List.mem_of_getElem? he,h⟩
  have hsq:sndQ e x=decide (e.a.k=3∧e.c.who=x.who∧e.c.nu=x.nu∧e.c.newAt=x.tk∧e.c.new=x.o):=by
   unfold sndQ wou
   obtain ⟨x1,x2,x3,x4⟩:=x
   simp
  generalize hz:decide (e.c.new=x.o)=z at hO
  generalize sndQ e x=sq at *
  by_cases hwho:e.c.who=x.who
  ·have bw:=beqT hwho
   repeat' (first|refine ZC ?_|refine ZH (fun b=>?_)|rw [bw]|refine ZU (es:=dn) i e he (fun b off=>?_)|refine ZQ ?_|refine l_seq (b:=z) ?_ (he:=hO)|(refine ZG (fun hc=>?_) (fun hc=>?_)<;>(try simp at hc)<;>(try omega))|(refine ZB (fun hc=>?_) (fun hc=>?_)<;>(try simp at hc)<;>(try omega))|fail)
   all_goals first
    | (have h2:sq=true:=(by rw [hsq];simp_all);obtain rfl:=hyx h2;exact Zz (Z5 (Zg () rfl trivial)))
    | (have h2:sq=false:=(by rw [hsq];simp_all);rw [wrapi (z:=(i:Int)+1) (by omega) (by omega)];exact ZJ ⟨i+1,by omega,hnx h2⟩ (by show dn.length - (i+1)<dn.length - i;omega) ⟨rfl,rfl,rfl,trivial⟩)
  ·have bw:=beqF hwho
   have h2:sq=false:=by rw [hsq];simp [hwho]
   repeat' (first|refine ZC ?_|refine ZH (fun b=>?_)|rw [bw]|refine ZU (es:=dn) i e he (fun b off=>?_)|refine ZQ ?_|(refine ZG (fun hc=>?_) (fun hc=>?_)<;>(try simp at hc)<;>(try omega))|(refine ZB (fun hc=>?_) (fun hc=>?_)<;>(try simp at hc)<;>(try omega))|fail)
   all_goals
    rw [wrapi (z:=(i:Int)+1) (by omega) (by omega)]
    exact ZJ ⟨i+1,by omega,hnx h2⟩ (by show dn.length - (i+1)<dn.length - i;omega) ⟨rfl,rfl,rfl,trivial⟩
 ·rw [List.take_of_length_le (by omega)] at hp
  rw [hp] at hr
  subst hr
  repeat' (first|refine ZC ?_|refine ZM ?_|(refine ZB (fun hc=>?_) (fun hc=>?_)<;>(try simp at hc)<;>(try omega))|fail)
  exact ZD () rfl trivial
def cpL {α:Type} (es:List α) (d s n:Nat):List α:=es.take d++((es.drop s).take n++es.drop (d+n))
theorem cpL_len {α:Type} {es:List α} {d s n:Nat} (h1:s+n≤es.length) (h2:d+n≤es.length):(cpL es d s n).length=es.length:=by
 simp [cpL];omega
theorem flat_drop {α:Type} {f:α→List Value} {sz:Nat} (hf:∀e,(f e).length=sz) {es:List α} {r:List Value} {s:Nat} (h:s≤es.length):(es.flatMap f++r).drop (s * sz)=(es.drop s).flatMap f++r:=by
 have e1:es.flatMap f++r=(es.take s).flatMap f++((es.drop s).flatMap f++r):=by rw [←List.append_assoc,←List.flatMap_append,List.take_append_drop]
 have e2:((es.take s).flatMap f).length=s * sz:=by rw [Za hf,List.length_take,Nat.min_eq_left h]
 rw [e1,←e2,List.drop_left]
theorem flat_take {α:Type} {f:α→List Value} {sz:Nat} (hf:∀e,(f e).length=sz) {es:List α} {r:List Value} {s:Nat} (h:s≤es.length):(es.flatMap f++r).take (s * sz)=(es.take s).flatMap f:=by
 have e1:es.flatMap f++r=(es.take s).flatMap f++((es.drop s).flatMap f++r):=by rw [←List.append_assoc,←List.flatMap_append,List.take_append_drop]
 have e2:((es.take s).flatMap f).length=s * sz:=by rw [Za hf,List.length_take,Nat.min_eq_left h]
 rw [e1,←e2,List.take_left]
theorem flat_all {α:Type} {f:α→List Value} (h1:∀e,(f e).all YR=true):∀es:List α,(es.flatMap f).all YR=true
 | []=>rfl
 | e::es=>by rw [List.flatMap_cons,List.all_append,h1,flat_all h1 es];rfl
variable {α:Type}
section
variable {t2:TypeId} {f:α→List Value} {es:List α} {q:List Value×(Nat×Nat)}
theorem run_copyE {T T0 b dd s dl dc sl sc sz m:Nat} {ts tx:TypeId} {rs tr:TRow} {w:World} (hts:lookT tab ts=some rs) (hrs:rs.k = .slice T0) (hT:lookT tab T0=some tr) (hsz:tr.size=sz)
  (hb:w.heap[b]? = some (.cells (es.flatMap f++q.1).toArray T q.2)) (hq:AxOK (es.length * sz) q) (hf:∀e,(f e).length=sz) (h1:∀e,(f e).all YR=true) (hm:min sl dl=m) (hs:s+m≤es.length) (hd:dd+m≤es.length) :
  ∃w',(Builtin.copy_ #[ts,tx] ty0 #[.slice (some ⟨b,dd * sz,none⟩) dl dc,.slice (some ⟨b,s * sz,none⟩) sl sc]).run prog w = .ok (.int .i64 (m:Int)) w'∧w'.heap[b]? = some (.cells ((cpL es dd s m).flatMap f++q.1).toArray T q.2)∧Same w w'∧∀e,e≠b→w'.heap[e]? = w.heap[e]?:=by
 have hs1:=ZR.sizeOf hT w
 rw [hsz] at hs1
 have hlen:((es.drop s).take m).flatMap f=(((es.flatMap f++q.1).drop (s * sz)).take (m * sz)):=by
  rw [flat_drop hf (by omega),flat_take hf (by rw [List.length_drop];omega)]
 have hvl:(((es.drop s).take m).flatMap f).length=m * sz:=by
  rw [Za hf,List.length_take,List.length_drop,Nat.min_eq_left (by omega)]
 have hel:(es.flatMap f).length=es.length * sz:=Za hf es
 have hms:dd * sz+m * sz≤es.length * sz:=by rw [←Nat.add_mul];exact Nat.mul_le_mul_right _ hd
 have hss:s * sz+m * sz≤es.length * sz:=by rw [←Nat.add_mul];exact Nat.mul_le_mul_right _ hs
 have hld:(Go.loadCells ⟨b,s * sz,none⟩ (m * sz)).run prog w = .ok (((es.drop s).take m).flatMap f).toArray w:=by
  unfold Go.loadCells
  have:=Go.Proofs.YtcjfciifhdfjkaaGreatDoor.run_loadCells (P:=prog) hb (s * sz) (m * sz) 0 #[] (by simp [hel];omega)
  rw [this,hlen]
  simp
 obtain ⟨w',g1,g2,g3,g4⟩:=Z0 (P:=prog) (b:=b) (ty:=T) (fz:=q.2) (dd * sz) (((es.drop s).take m).flatMap f) 0 w (es.flatMap f++q.1) hb (by
  rcases hq with h|h
  ·exact .inl h
  ·exact .inr (by rw [List.length_append,hel];exact h)) (flat_all h1 _) (by rw [hvl,List.length_append,hel];omega)
 refine ⟨w',?_,?_,g3,g4⟩
 ·have hmn:Nat.min sl dl=m:=hm
  simp only [Builtin.copy_,List.getElem?_toArray,List.getElem?_cons_zero,List.getElem?_cons_succ,Sem.run_bind,YG hts hrs,Result.andThen,Builtin.lenOf,Sem.run_pure,hs1,Builtin.firstCells,hmn,hld,g1]
  rfl
 ·rw [g2,Nat.add_zero,hvl,cpL,←Nat.add_mul,flat_take hf (by omega),flat_drop hf (by omega)]
  simp
end
section
variable {t2:TypeId} {f:α→List Value} {es:List α} {q:List Value×(Nat×Nat)}
theorem r_copyE {T T0 b o1 o2 dl dc sl sc sz:Nat} {ts tx:TypeId} {rs tr:TRow} (dd s m:Nat) (hq:AxOK (es.length * sz) q) (hm:min sl dl=m) (hsl:s+m≤es.length) (hdl:dd+m≤es.length) (nx:Wr n C ops k Q Tl Fs R L ((d,.int .i64 (m:Int))::E) F (Ax T f b (cpL es dd s m) q::N'))
  (ho:nth ops i=some ⟨some d,.call ⟨.builtin .copy,#[x,y],#[ts,tx]⟩,ty0,pos,aft,gd⟩:=by rfl) (hw:wantL ops E ⟨some d,.call ⟨.builtin .copy,#[x,y],#[ts,tx]⟩,ty0,pos,aft,gd⟩=some true:=by rfl) (hx:ev E x=some (.slice (some ⟨b,o1,none⟩) dl dc):=by rfl) (hy:ev E y=some (.slice (some ⟨b,o2,none⟩) sl sc):=by rfl)
  (hts:lookT tab ts=some rs:=by rfl) (hrs:rs.k = .slice T0:=by rfl) (hT:lookT tab T0=some tr:=by rfl) (hsz:tr.size=sz:=by rfl) (hs:Sel (Ax T f b es q) N N':=by (repeat (first|exact Sel.here|apply Sel.there));first|done|fail) (hf:∀e,(f e).length=sz:=by intro;rfl) (h1:∀e,(f e).all YR=true:=by intro;rfl)
  (ho1:o1=dd * sz:=by first|rfl|omega) (ho2:o2=s * sz:=by first|rfl|omega):Wr n C ops k Q Tl Fs R ((i,4)::L) E F N:=
 Z6 ho fun hp hr w st hz sb=>by
  simp only [ZW hw]
  subst ho1 ho2
  refine ⟨⟨Unit,fun _=>.int .i64 (m:Int),fun _=>True,fun _=>F,fun _=>Ax T f b (cpL es dd s m) q::N'⟩,fun a G w hp' ha hsub hsat=>?_,fun _ _=>nx hp hr w st hz sb⟩
  obtain ⟨w',g1,g2,g3,g4⟩:=run_copyE (ty0:=ty0) (tx:=tx) (dc:=dc) (sc:=sc) hts hrs hT hsz (hsat.pt hs) hq hf h1 hm hsl hdl
  unfold OpRes
  have e1:=ha.ev (x:=x) (by rw [ZF];exact hx)
  have e2:=ha.ev (x:=y) (by rw [ZF];exact hy)
  simp only [execOp,resolve,Sem.run_bind,Sem.run_pure,Result.andThen,invoke,builtin,List.map_toArray,List.map_cons,List.map_nil,e1,e2,g1]
  exact ⟨(),trivial,trivial,(hsat.sel hs).write g3 g2 fun c hc _=>g4 c hc⟩
end
theorem VL (o1 o2:Option Addr) (c1 c2:Nat) (us ws:List En) (hl:us.length≤1000000) (hlb:ws.length≤1000000):Enters 20∧Spec prog 20 #[.slice o1 us.length c1,.slice o2 ws.length c2]
  [SlE (o1,c1) us,SlE (o2,c2) ws] [] (RetV (.bool (decide (us=ws)))):=by
 refine ZE [_,_] func20 ntmps20 fun G w hp=>?_
 by_cases hlen:us.length=ws.length
 ·repeat' (first|refine ZC ?_|(refine ZB (fun hc=>?_) (fun hc=>?_)<;>(try simp at hc)<;>(try omega))|fail)
  refine Zj (X:={i:Nat // i≤us.length∧pre_eP us ws i}) (fun i=>[(0,.slice o1 us.length c1),(1,.slice o2 ws.length c2),(5,.int .i64 (i.1:Int))]) (fun _=>[SlE (o1,c1) us,SlE (o2,c2) ws]) (fun _=>[]) (fun i=>us.length - i.1) ⟨0,by omega,fun j hj=>by omega⟩ ⟨rfl,rfl,rfl,trivial⟩ ?_
  rintro ⟨i,hi,hp⟩
  dsimp only
  by_cases hlt:i<us.length
  ·obtain ⟨x,hx⟩:∃x,us[i]? = some x:=⟨_,List.getElem?_eq_getElem hlt⟩
   obtain ⟨y,hy⟩:∃y,ws[i]? = some y:=⟨_,List.getElem?_eq_getElem (by omega)⟩
   have he:=eqEnD x y
   by_cases hxy:x=y
   ·rw [decide_eq_true hxy] at he
    repeat' (first|refine ZC ?_|refine Zo (es:=us) i x hx (fun b off=>?_)|refine Zo (es:=ws) i y hy (fun b off=>?_)|refine YE ?_|refine VI (b:=true) ?_ (he:=he)|refine ZI 6 [] [(0,0),(1,0),(2,0),(3,0),(4,0),(5,0),(6,0),(7,0),(8,0)] [] ?_|(refine ZB (fun hc=>?_) (fun hc=>?_)<;>(try simp at hc)<;>(try omega))|fail)
    rw [wrapi (z:=(i:Int)+1) (by omega) (by omega)]
    refine ZJ ⟨i+1,by omega,fun j hj=>?_⟩ (by show us.length - (i+1)<us.length - i;omega) ⟨rfl,rfl,rfl,trivial⟩
    by_cases hji:j=i
    ·subst hji;rw [hx,hy,hxy]
    ·exact hp j (by omega)
   ·rw [decide_eq_false hxy] at he
    have hne:decide (us=ws)=false:=decide_eq_false fun e=>hxy (by subst e;exact Option.some.inj (hx.symm.trans hy))
    rw [hne]
    repeat' (first|refine ZC ?_|refine Zo (es:=us) i x hx (fun b off=>?_)|refine Zo (es:=ws) i y hy (fun b off=>?_)|refine YE ?_|refine VI (b:=false) ?_ (he:=he)|refine ZI 6 [] [(0,0),(1,0),(2,0),(3,0),(4,0),(5,0),(6,0),(7,0),(8,0)] [] ?_|(refine ZB (fun hc=>?_) (fun hc=>?_)<;>(try simp at hc)<;>(try omega))|fail)
    exact Zz (Z5 (Zg () rfl trivial))
  ·obtain rfl:i=us.length:=by omega
   rw [decide_eq_true (eq_of_peP hlen hp)]
   repeat' (first|refine ZC ?_|refine ZM ?_|(refine ZB (fun hc=>?_) (fun hc=>?_)<;>(try simp at hc)<;>(try omega))|fail)
   exact ZD () rfl trivial
 ·have hne:decide (us=ws)=false:=decide_eq_false fun e=>hlen (by rw [e])
  rw [hne]
  repeat' (first|refine ZC ?_|(refine ZB (fun hc=>?_) (fun hc=>?_)<;>(try simp at hc)<;>(try omega))|fail)
  exact ZD () rfl trivial
def zEn:En:=⟨⟨#[]⟩,0,0,Ou.z⟩
theorem ins_cpL (P:List En) (at':Nat) (h:at'≤P.length) (x:En):(cpL (P++[zEn]) (at'+1) at' (P.length - at')).set at' x=P.take at'++x::P.drop at':=by
 obtain ⟨y,hy⟩:∃y,(P++[zEn])[at']? = some y:=⟨_,List.getElem?_eq_getElem (by simp;omega)⟩
 have e1:(P++[zEn]).take (at'+1)=P.take at'++[y]:=by
  rw [ZT hy,List.take_append_of_le_length h]
 have e2:((P++[zEn]).drop at').take (P.length - at')=P.drop at':=by
  rw [List.drop_append_of_le_length h,List.take_append_of_le_length (by rw [List.length_drop];exact Nat.le_refl _),List.take_of_length_le (by rw [List.length_drop];exact Nat.le_refl _)]
 have e3:(P++[zEn]).drop (at'+1+(P.length - at'))=[]:=List.drop_eq_nil_of_le (by simp;omega)
 unfold cpL
 rw [e1,e2,e3,List.append_nil,List.append_assoc,List.set_append_right _ _ (by rw [List.length_take];omega),List.length_take,show at' - min at' P.length=0 by omega]
 rfl
set_option maxHeartbeats 8000000 in
theorem mready_ok (b bl bs:Nat) (B:Bk) (ls:List Lf) (es:Al) (hl:ls.length≤1000000) (hn:B.dn.length≤1000000) (hes:es.length≤80):Enters 21∧Spec prog 21 #[.pointer (some ⟨b,0,none⟩),.pointer (some ⟨bl,0,none⟩),.pointer (some ⟨bs,0,none⟩)] [BkF moT b B,LgF bl ls,St (some ⟨bs,0,none⟩) es] []
  ⟨Option Addr×Nat,fun q=>.slice q.1 (rdyF (allE es) ls B).length q.2,fun _=>True,fun _=>[],fun q=>[RowE q (rdyF (allE es) ls B)]⟩:=by
 have nf:=lgFind_ok bl ls
 have na:=UL (some ⟨bs,0,none⟩) es
 have hal:=Xc es
 have nC:=mcomps_ok b B hn
 have nL:=fun x=>mleft_ok bl ls x hl
 have nS:=fun x=>msent_ok b B x hn
 have hcl:(compF B.dn).length≤1000000:=by
  unfold compF
  rw [List.length_mapIdx]
  exact Nat.le_trans (List.length_filter_le ..) hn
 have hrd:rdyF (allE es) ls B=isR cmpT ((allE es).filter fun x=>decide (x ∉ ls.map (·.e)) && (decide (B.si≤x.tk) || decide (x ∈ sndF B.dn)))++(compF B.dn).filter fun x=>!ls.any fun y=>decide (y.e.who=x.who∧y.e.nu=x.nu∧y.e.tk=x.tk):=rfl
 rw [hrd]
 generalize allE es=all at *
 generalize compF B.dn=cm at *
 clear hrd
 generalize b=bb at *
 refine ZE [_,_,_] func21 ntmps21 fun G w hp=>?_
 repeat' (first|refine ZC ?_|refine ZA (na) (fun _ _=>?_)|fail)
 rename_i q3 _
 refine ZO (Lx:=[]) (r:=Row 50 7 none 0 0 []) (fun h _=>Zb _ _ h) ?_
 obtain ⟨p,hp⟩:∃p:En→Bool,p=fun x=>decide (x ∉ ls.map (·.e)) && (decide (B.si≤x.tk) || decide (x ∈ sndF B.dn)):=⟨_,rfl⟩
 rw [←hp]
 refine YD (X:={x:Nat×Option Addr×Nat // x.1≤all.length}) (Y:=Option Addr×Nat)
  (fun x=>[(0,.pointer (some ⟨bb,0,none⟩)),(1,.pointer (some ⟨bl,0,none⟩)),(7,.slice x.1.2.1 (isR cmpT ((all.take x.1.1).filter p)).length x.1.2.2),(8,.slice q3.1 all.length q3.2),(9,.int .i64 (x.1.1:Int))]) (fun _=>[SlE q3 all,BkF moT bb B,LgF bl ls]) (fun x=>[RowE x.1.2 (isR cmpT ((all.take x.1.1).filter p))]) (fun x=>all.length - x.1.1)
  (fun q=>[(0,.pointer (some ⟨bb,0,none⟩)),(1,.pointer (some ⟨bl,0,none⟩)),(7,.slice q.1 (isR cmpT (all.filter p)).length q.2)]) (fun _=>[BkF moT bb B,LgF bl ls]) (fun q=>[RowE q (isR cmpT (all.filter p))])
  ⟨(0,none,0),Nat.zero_le _⟩ ⟨rfl,rfl,rfl,rfl,rfl,trivial⟩ ?_ ?_
 ·rintro ⟨o4,c4⟩
  dsimp only
  have hil:=isE_len (c:=cmpT) (all.filter p)
  have hfl2:=List.length_filter_le p all
  generalize isR cmpT (all.filter p)=A at *
  obtain ⟨g,hg⟩:∃g:En→Bool,g=fun x=>!ls.any fun y=>decide (y.e.who=x.who∧y.e.nu=x.nu∧y.e.tk=x.tk):=⟨_,rfl⟩
  rw [←hg]
  repeat' (first|refine ZC ?_|refine ZA (nC) (fun _ _=>?_)|fail)
  rename_i q5 _
  refine YA (T:=50) (sz:=7) (f:=enf) (o:=q5.1) (cap:=q5.2) cm ?_ rfl rfl
  have e0:A=A++(cm.take 0).filter g:=by simp
  refine Zi (T:=50) (sz:=7) (o:=o4) (cap:=c4) (m:=A.length) (m':=(A++(cm.take 0).filter g).length) (A.flatMap enf) ((A++(cm.take 0).filter g).flatMap enf) (by rw [←e0]) (by rw [←e0]) ?_
  refine Zj (X:={x:Nat×Option Addr×Nat // x.1≤cm.length}) (fun x=>[(1,.pointer (some ⟨bl,0,none⟩)),(7,.slice x.1.2.1 (A++(cm.take x.1.1).filter g).length x.1.2.2),(12,.slice q5.1 cm.length q5.2),(13,.int .i64 (x.1.1:Int))]) (fun _=>[SlE q5 cm,LgF bl ls]) (fun x=>[RowE x.1.2 (A++(cm.take x.1.1).filter g)]) (fun x=>cm.length - x.1.1)
   ⟨(0,o4,c4),Nat.zero_le _⟩ ⟨rfl,by rw [←e0];rfl,rfl,rfl,trivial⟩ ?_
  rintro ⟨⟨i,o,cap⟩,hi⟩
  dsimp only at hi ⊢
  by_cases hlt:i<cm.length
  ·obtain ⟨e,he⟩:∃e,cm[i]? = some e:=⟨_,List.getElem?_eq_getElem hlt⟩
   have htk:=ZT he
   have nfe:=nf e.who e.nu e.tk (by omega)
   have hge:(lfind ls e.who e.nu e.tk ls.length).isSome = !g e:=by rw [lfind_all,hg];simp
   generalize lfind ls e.who e.nu e.tk ls.length=fo at nfe hge
   unfold fndP at nfe
   rw [hge] at nfe
   have hln:(A++(cm.take i).filter g).length≤2000000:=by
    have h4:((cm.take i).filter g).length≤(cm.take i).length:=List.length_filter_le ..
    rw [List.length_append]
    rw [List.length_take] at h4
    omega
   cases hgt:g e with
   | true=>
    have e3:A++(cm.take (i+1)).filter g=A++(cm.take i).filter g++[e]:=by simp [htk,hgt]
    have e1:(A++(cm.take i).filter g).length+1=(A++(cm.take (i+1)).filter g).length:=by rw [e3,List.length_append (bs:=[e])];rfl
    have e2:(A++(cm.take i).filter g).flatMap enf++enf e=(A++(cm.take (i+1)).filter g).flatMap enf:=by rw [e3,List.flatMap_append (ys:=[e])];simp
    rw [hgt] at nfe
    generalize A++(cm.take i).filter g=L1 at *
    repeat' (first|refine ZC ?_|refine ZH (fun b=>?_)|refine ZK (nfe) (fun _ _=>?_)|refine Zo (es:=cm) i e he (fun b off=>?_)|refine YE ?_|refine ZU (es:=cm) i e he (fun b off=>?_)|refine ZQ ?_|refine Zs (fun o' cap'=>?_)|refine ZI 18 [] [(0,0),(1,0),(2,0),(3,0),(4,0),(5,0),(6,0),(7,0),(8,0),(9,0),(10,0),(11,0),(12,0),(13,0),(14,0),(15,0),(16,4),(17,0),(18,0),(19,0),(20,0),(21,0)] [] ?_|(refine ZB (fun hc=>?_) (fun hc=>?_)<;>(try simp at hc)<;>(try omega))|fail)
    rename_i o' cap'
    rw [wrapi (z:=(i:Int)+1) (by omega) (by omega)]
    refine Zi (T:=50) (sz:=7) (o:=o') (cap:=cap') (m:=L1.length+1) _ _ e1 e2 ?_
    rw [e1]
    exact ZJ ⟨(i+1,o',cap'),by show i+1≤_;omega⟩ (by show cm.length - (i+1)<cm.length - i;omega) ⟨rfl,rfl,rfl,rfl,trivial⟩
   | false=>
    have e3:A++(cm.take (i+1)).filter g=A++(cm.take i).filter g:=by simp [htk,hgt]
    rw [hgt] at nfe
    repeat' (first|refine ZC ?_|refine ZK (nfe) (fun _ _=>?_)|refine Zo (es:=cm) i e he (fun b off=>?_)|refine YE ?_|refine ZI 18 [] [(0,0),(1,0),(2,0),(3,0),(4,0),(5,0),(6,0),(7,0),(8,0),(9,0),(10,0),(11,0),(12,0),(13,0),(14,0),(15,0),(16,4),(17,0),(18,0),(19,0),(20,0),(21,0)] [] ?_|(refine ZB (fun hc=>?_) (fun hc=>?_)<;>(try simp at hc)<;>(try omega))|fail)
    rw [wrapi (z:=(i:Int)+1) (by omega) (by omega),←e3]
    exact ZJ ⟨(i+1,o,cap),by show i+1≤_;omega⟩ (by show cm.length - (i+1)<cm.length - i;omega) ⟨rfl,rfl,rfl,rfl,trivial⟩
  ·have e:cm.take i=cm:=List.take_of_length_le (by omega)
   rw [e]
   repeat' (first|refine ZC ?_|refine ZM ?_|(refine ZB (fun hc=>?_) (fun hc=>?_)<;>(try simp at hc)<;>(try omega))|fail)
   exact ZD (o,cap) rfl trivial
 ·rintro hx ⟨⟨i,o,cap⟩,hi⟩
  dsimp only at hi ⊢
  by_cases hlt:i<all.length
  ·obtain ⟨e,he⟩:∃e,all[i]? = some e:=⟨_,List.getElem?_eq_getElem hlt⟩
   have htk:=ZT he
   have n1:=nL e
   have n2:=nS e
   have hpe:p e=(!decide (e ∈ ls.map (·.e)) && (decide (B.si≤e.tk) || decide (e ∈ sndF B.dn))):=by
    rw [hp]
    show (decide (e ∉ ls.map (·.e)) && _)=_
    rw [decide_not]
   generalize decide (e ∈ ls.map (·.e))=z1 at n1 hpe
   generalize decide (e ∈ sndF B.dn)=z2 at n2 hpe
   have hln:(isR cmpT ((all.take i).filter p)).length≤100:=by
    rw [isE_len]
    have h4:((all.take i).filter p).length≤(all.take i).length:=List.length_filter_le ..
    rw [List.length_take] at h4
    omega
   cases hpt:p e with
   | true=>
    have e3:isR cmpT ((all.take (i+1)).filter p)=inR cmpT (isR cmpT ((all.take i).filter p)) e:=by rw [htk,List.filter_append,List.filter_cons_of_pos hpt,List.filter_nil,Vv]
    rw [hpt] at hpe
    generalize isR cmpT ((all.take i).filter p)=P at *
    repeat' (first|refine ZC ?_|refine ZH (fun b=>?_)|refine ZU (es:=all) i e he (fun b off=>?_)|refine ZQ ?_|(refine ZB (fun hc=>?_) (fun hc=>?_)<;>(try simp at hc)<;>(try omega))|fail)
    generalize b=b10
    refine XJ (Y:=Unit) 2 (fun _=>[(0,.pointer (some ⟨bb,0,none⟩)),(1,.pointer (some ⟨bl,0,none⟩)),(7,.slice o P.length cap),(8,.slice q3.1 all.length q3.2),(9,.int .i64 (i:Int)),(10,.pointer (some ⟨b10,0,none⟩)),(11,.int .i64 (P.length:Int))]) (fun _=>[SlE q3 all,BkF moT bb B,LgF bl ls]) (fun _=>[RowE (o,cap) P,Pt b10 (.cells (enf e).toArray 50)]) ?_ ?_
    ·intro _
     refine YD (X:={a:Nat // a≤P.length∧∀s ∈ P.drop a,cmpT e s<0}) (Y:={a:Nat // a≤P.length∧(∀s ∈ P.drop a,cmpT e s<0)∧∀t,(P.take a).getLast? = some t→¬cmpT e t<0})
      (fun a=>[(0,.pointer (some ⟨bb,0,none⟩)),(1,.pointer (some ⟨bl,0,none⟩)),(7,.slice o P.length cap),(8,.slice q3.1 all.length q3.2),(9,.int .i64 (i:Int)),(10,.pointer (some ⟨b10,0,none⟩)),(11,.int .i64 (a.1:Int))]) (fun _=>[SlE q3 all,BkF moT bb B,LgF bl ls]) (fun _=>[RowE (o,cap) P,Pt b10 (.cells (enf e).toArray 50)]) (fun a=>a.1)
      (fun a=>[(0,.pointer (some ⟨bb,0,none⟩)),(1,.pointer (some ⟨bl,0,none⟩)),(7,.slice o P.length cap),(8,.slice q3.1 all.length q3.2),(9,.int .i64 (i:Int)),(10,.pointer (some ⟨b10,0,none⟩)),(11,.int .i64 (a.1:Int))]) (fun _=>[SlE q3 all,BkF moT bb B,LgF bl ls]) (fun _=>[RowE (o,cap) P,Pt b10 (.cells (enf e).toArray 50)])
      ⟨P.length,Nat.le_refl _,by simp⟩ ⟨rfl,rfl,rfl,rfl,rfl,rfl,rfl,trivial⟩ ?_ ?_
     ·rintro ⟨a,ha,h1,h2⟩
      dsimp only
      have hin:inR cmpT P e=P.take a++e::P.drop a:=inR_eq (List.take_append_drop a P) h1 h2
      repeat' (first|refine ZC ?_|refine ZH (fun b=>?_)|refine Zs (fun o' cap'=>?_)|fail)
      rename_i o' cap'
      have hlenP:(P++[zEn]).length=P.length+1:=by simp
      refine Zi (T:=50) (sz:=7) (o:=o') (cap:=cap') (m:=P.length+1) (m':=(P++[zEn]).length) (P.flatMap enf++enf zEn) ((P++[zEn]).flatMap enf) hlenP.symm (by simp) ?_
      refine k_rowA (f:=enf) (sz:=7) (es:=P++[zEn]) (fun _=>rfl) (by omega) (fun q hq=>?_)
      obtain ⟨b2,rest,fz⟩:=q
      obtain ⟨ho,hax,hc,hm⟩:=hq
      dsimp only at ho hax hc hm ⊢
      subst ho
      have hax1:=hax
      rw [hlenP] at hax hc hm
      obtain ⟨dd,hv1,hdd,hcp⟩:∃dd,slVd (some ⟨b2,0,none⟩) 7 (a+1) (P.length+1) cap' = .slice (some ⟨b2,dd * 7,none⟩) (P.length - a) (cap' - (a+1))∧dd+(P.length - a)≤(P++[zEn]).length∧cpL (P++[zEn]) dd a (P.length - a)=cpL (P++[zEn]) (a+1) a (P.length - a):=by
       by_cases hcap:cap'=a+1
       ·subst hcap
        have e5:P.length - a=0:=by omega
        refine ⟨0,by rw [slVd_e,Nat.sub_self,Nat.zero_mul];congr 1;omega,by omega,?_⟩
        rw [e5]
        unfold cpL
        simp
       ·exact ⟨a+1,by rw [slVd_b (by omega),Nat.zero_add];congr 1;omega,by omega,rfl⟩
      have hv2:slVd (some ⟨b2,0,none⟩) 7 a (P.length+1) cap' = .slice (some ⟨b2,a * 7,none⟩) (P.length+1 - a) (cap' - a):=by rw [slVd_b (by omega),Nat.zero_add]
      have w1:IntKind.i64.wrap ((a:Int)+1)=((a+1:Nat):Int):=by rw [wrapi (by omega) (by omega)];omega
      have hcl:(cpL (P++[zEn]) dd a (P.length - a)).length=P.length+1:=by rw [cpL_len (by omega) hdd,hlenP]
      obtain ⟨y,hy⟩:∃y,(cpL (P++[zEn]) dd a (P.length - a))[a]? = some y:=⟨_,List.getElem?_eq_getElem (by omega)⟩
      have hax2:AxOK ((cpL (P++[zEn]) dd a (P.length - a)).length * 7) (rest,fz):=by rw [hcl];exact hax
      repeat' (first|refine ZC ?_|rw [w1]|refine r_sdA (m:=P.length+1) (cap:=cap') (sz:=7) (a+1) (by omega) _ hv1 ?_|refine r_sdA (m:=P.length+1) (cap:=cap') (sz:=7) a (by omega) _ hv2 ?_|refine r_copyE (sz:=7) (sl:=P.length+1 - a) (dl:=P.length - a) (es:=P++[zEn]) dd a (P.length - a) hax1 (by omega) (by omega) hdd ?_|refine l_ixS (m:=P.length+1) a (by omega) ?_|refine l_stE 7 a 0 e hy hax2 ?_|refine ZI 12 [Ax _ _ _ _ _] [(0,0),(1,0),(2,0),(3,0),(4,0),(5,0),(6,0),(7,4)] [] ?_|fail)
      have hfin:(cpL (P++[zEn]) dd a (P.length - a)).set a e=isR cmpT ((all.take (i+1)).filter p):=by rw [e3,hin,hcp];exact ins_cpL P a ha e
      have hfl3:(isR cmpT ((all.take (i+1)).filter p)).length=P.length+1:=by rw [←hfin,List.length_set,hcl]
      rw [hfin,wrapi (z:=(i:Int)+1) (by omega) (by omega)]
      refine k_axR (f:=enf) (sz:=7) (es:=isR cmpT ((all.take (i+1)).filter p)) (q:=(b2,rest,fz)) (o:=some ⟨b2,0,none⟩) (cap:=cap') (m:=P.length+1) (fun _=>rfl) ⟨rfl,hax,hc,hm⟩ hfl3 ?_
      rw [←hfl3]
      exact ZJ ⟨(i+1,some ⟨b2,0,none⟩,cap'),by show i+1≤_;omega⟩ (by show all.length - (i+1)<all.length - i;omega) ⟨rfl,rfl,rfl,rfl,rfl,trivial⟩
     ·rintro hx2 ⟨a,ha,h1⟩
      dsimp only
      cases a with
      | zero=>
       repeat' (first|refine ZC ?_|refine ZI 9 [] [(0,0),(1,0),(2,0),(3,0),(4,0),(5,0),(6,0),(7,0),(8,0),(9,0),(10,0),(11,0),(12,0)] [] ?_|fail)
       exact Z2 hx2 ⟨0,Nat.zero_le _,h1,fun t h=>by simp at h⟩ ⟨rfl,rfl,rfl,rfl,rfl,rfl,rfl,trivial⟩
      | succ a=>
       obtain ⟨s,hs⟩:∃s,P[a]? = some s:=⟨_,List.getElem?_eq_getElem (by omega)⟩
       refine k_rowA (f:=enf) (sz:=7) (es:=P) (fun _=>rfl) (by omega) (fun q hq=>?_)
       have hal2:a<P.length:=by omega
       obtain ⟨b2,rest,fz⟩:=q
       have ho:=hq.o
       dsimp only at ho ⊢
       subst ho
       by_cases hst:e.tk<s.tk
       ·repeat' (first|refine ZC ?_|refine Yc (m:=P.length) a hal2 ?_|refine Y6 7 a 2 hs ?_|(refine ZS (fun hc=>?_) (fun hc=>?_)<;>(try simp at hc)<;>(try omega))|refine ZI 9 [] [(0,0),(1,0),(2,0),(3,0),(4,0),(5,0),(6,0),(7,0),(8,0),(9,0),(10,0),(11,0),(12,0)] [] ?_|(refine ZB (fun hc=>?_) (fun hc=>?_)<;>(try simp at hc)<;>(try omega))|fail)
        refine k_axR (f:=enf) (sz:=7) (es:=P) (q:=(b2,rest,fz)) (o:=some ⟨b2,0,none⟩) (cap:=cap) (fun _=>rfl) hq rfl ?_
        rw [wrapi (z:=((a+1:Nat):Int) - 1) (by omega) (by omega),show ((a+1:Nat):Int) - 1=(a:Int) by omega]
        exact ZJ ⟨a,by omega,fun x hx=>by
         have e5:P.drop a=s::P.drop (a+1):=by
          rw [List.getElem?_eq_getElem hal2] at hs
          rw [←Option.some.inj hs,List.getElem_cons_drop]
         rw [e5] at hx
         rcases List.mem_cons.1 hx with rfl|hx
         ·exact (Vq _ _).2 hst
         ·exact h1 x hx⟩ (by show a<a+1;omega) ⟨rfl,rfl,rfl,rfl,rfl,rfl,rfl,trivial⟩
       ·repeat' (first|refine ZC ?_|refine Yc (m:=P.length) a hal2 ?_|refine Y6 7 a 2 hs ?_|(refine ZS (fun hc=>?_) (fun hc=>?_)<;>(try simp at hc)<;>(try omega))|refine ZI 9 [] [(0,0),(1,0),(2,0),(3,0),(4,0),(5,0),(6,0),(7,0),(8,0),(9,0),(10,0),(11,0),(12,0)] [] ?_|(refine ZB (fun hc=>?_) (fun hc=>?_)<;>(try simp at hc)<;>(try omega))|fail)
        refine k_axR (f:=enf) (sz:=7) (es:=P) (q:=(b2,rest,fz)) (o:=some ⟨b2,0,none⟩) (cap:=cap) (fun _=>rfl) hq rfl ?_
        exact Z2 hx2 ⟨a+1,ha,h1,fun t h=>by
         rw [ZT hs,List.getLast?_concat] at h
         obtain rfl:=Option.some.inj h
         rw [Vq]
         exact hst⟩ ⟨rfl,rfl,rfl,rfl,rfl,rfl,rfl,trivial⟩
    ·intro hx2
     refine Ye fun qb=>?_
     obtain ⟨rfl,hq⟩:=rdy_yes hpe.symm
     rcases hq with hq|⟨hq,rfl⟩
     all_goals
      repeat' (first|refine Wf ?_|refine k_to hx2 () ⟨rfl,rfl,rfl,rfl,rfl,rfl,rfl,trivial⟩|refine ZC ?_|refine ZK (n1) (fun _ _=>?_)|refine ZK (n2) (fun _ _=>?_)|(refine ZS (fun hc=>?_) (fun hc=>?_)<;>(try simp at hc)<;>(try omega))|refine ZI 7 [] [(0,0),(1,0),(2,4),(3,0),(4,0),(5,0),(6,0),(7,0),(8,0),(9,0),(10,0),(11,0),(12,0),(13,0),(14,4),(15,0),(16,0),(17,0)] [] ?_|fail)
   | false=>
    have e3:(all.take (i+1)).filter p=(all.take i).filter p:=by simp [htk,hpt]
    rw [hpt] at hpe
    refine Ye fun qb=>?_
    rcases rdy_no hpe.symm with rfl|⟨rfl,hq,rfl⟩
    all_goals
     repeat' (first|refine ZC ?_|refine ZH (fun b=>?_)|refine ZK (n1) (fun _ _=>?_)|refine ZK (n2) (fun _ _=>?_)|refine ZU (es:=all) i e he (fun b off=>?_)|refine ZQ ?_|(refine ZS (fun hc=>?_) (fun hc=>?_)<;>(try simp at hc)<;>(try omega))|refine ZI 7 [] [(0,0),(1,0),(2,4),(3,0),(4,0),(5,0),(6,0),(7,0),(8,0),(9,0),(10,0),(11,0),(12,0),(13,0),(14,4),(15,0),(16,0),(17,0)] [] ?_|(refine ZB (fun hc=>?_) (fun hc=>?_)<;>(try simp at hc)<;>(try omega))|fail)
     rw [wrapi (z:=(i:Int)+1) (by omega) (by omega),←e3]
     exact ZJ ⟨(i+1,o,cap),by show i+1≤_;omega⟩ (by show all.length - (i+1)<all.length - i;omega) ⟨rfl,rfl,rfl,rfl,rfl,trivial⟩
  ·have e:all.take i=all:=List.take_of_length_le (by omega)
   rw [e]
   repeat' (first|refine ZC ?_|(refine ZB (fun hc=>?_) (fun hc=>?_)<;>(try simp at hc)<;>(try omega))|fail)
   exact Z2 hx (o,cap) ⟨rfl,rfl,rfl,trivial⟩
variable {H:Type} {P:Program}
section
open Go.ChangeShapes Go.WideShapes Go.ChangeAt
structure Kept (W W':World):Prop where
 os:W'.os=W.os
 output:W'.output=W.output
 heap:∀(b:Nat) (o:Obj),W.heap[b]? = some o→W'.heap[b]? = some o
theorem Kept.but {W W':World} (h:Kept W W') (may:MemPlace→Prop):W.keptBut W' may:=by
 refine ⟨h.os,h.output,fun i hi=>?_⟩
 have h1:W.heap[i]? = some W.heap[i]:=Array.getElem?_eq_getElem hi
 have h2:=h.heap i _ h1
 rw [h1,h2]
 split
 ·rename_i c t fr c' t' fr' e1 e2
  rw [e1] at e2
  injection e2 with e2
  injection e2 with a1 a2 a3
  subst a1 a2 a3
  exact ⟨rfl,rfl,rfl,fun _ _=>rfl⟩
 ·rename_i es clock es' clock' e1 e2
  rw [e1] at e2
  injection e2 with e2
  injection e2 with a1 a2
  subst a1 a2
  exact .inr ⟨rfl,rfl⟩
 ·rfl
theorem UQ {f:FuncId} {args:Array Value} {F:List Pf} {v:Value} (h:Spec prog f args F [] (RetV v)) (W:World) (hF:∀x ∈ F,x.p fun b=>W.heap[b]?) :
  Calls prog f args W fun e W'=>e = .returned v∧Kept W W':=by
 have hs:Sat emp W (fun b=>W.heap[b]?) F [] W:=⟨fun b=>W.heap[b]?,emp,fun _ _ e=>e,(fun _ _ e=>by cases e),(fun _ _ e=>by cases e),fun _=>.inr rfl,fun _=>.inr rfl,fun _=>.inr rfl,Sub.refl _,hF,trivial,Same.refl _⟩
 refine (h _ _ _ hs).mono ?_
 rintro e W' ⟨_,rfl,_,hp',hr,st⟩
 exact ⟨rfl,st.same.os,st.same.output,fun b o hb=>st.inp b o (st.sub b o hb)⟩
def contig (P:Program):Nat→List Field→Option Nat
 | o,[]=>some o
 | o,f::fs=>if f.offset=o then contig P (o+P.cellsOf f.type) fs else none
def plainT (P:Program):Nat→TypeId→Bool
 | 0,_=>false
 | k+1,t=>match P.underlying t with
  | some .bool=>true
  | some (.int _)=>true
  | some .string=>true
  | some (.struct fs)=>(fs.toList.all fun f=>plainT P k f.type) && (contig P 0 fs.toList == some (P.cellsOf t))
  | some (.array n e)=>plainT P k e && (P.cellsOf t == n * P.cellsOf e)
  | _=>false
variable {enc:TypeId×Value→H}
theorem YB {α β:Type} {f g:α→Option β}:∀{l:List α} {r:List β},(∀a ∈ l,∀x,f a=some x→g a=some x)→l.mapM f=some r→l.mapM g=some r
 | [],r,_,h=>h
 | a::l,r,hfg,h=>by
  rw [List.mapM_cons] at h ⊢
  simp only [Option.bind_eq_bind,Option.bind_eq_some_iff,Option.pure_def,Option.some.injEq] at h ⊢
  obtain ⟨x,hx,xs,hxs,rfl⟩:=h
  exact ⟨x,hfg a (by simp) x hx,xs,YB (fun b hb=>hfg b (by simp [hb])) hxs,rfl⟩
theorem mapM_all {α β:Type} {f:α→Option β} {p:β→Prop}:∀{l:List α} {r:List β},(∀a ∈ l,∀x,f a=some x→p x)→l.mapM f=some r→∀x ∈ r,p x
 | [],r,_,h=>by simp at h;subst h;simp
 | a::l,r,hfg,h=>by
  rw [List.mapM_cons] at h
  simp only [Option.bind_eq_bind,Option.bind_eq_some_iff,Option.pure_def,Option.some.injEq] at h
  obtain ⟨x,hx,xs,hxs,rfl⟩:=h
  intro y hy
  rcases List.mem_cons.1 hy with rfl|hy
  ·exact hfg a (by simp) y hx
  ·exact mapM_all (fun b hb=>hfg b (by simp [hb])) hxs y hy
theorem Xv {β γ:Type} {f:β→List γ}:∀{l:List β},(∀x ∈ l,f x=[])→l.flatMap f=[]
 | [],_=>rfl
 | a::l,h=>by rw [List.flatMap_cons,h a (by simp),Xv (fun x hx=>h x (by simp [hx]))];rfl
theorem XG:∀(n k:Nat) (t:TypeId) (w:World) (base:Nat) (sp:Nat→Bool) (hd:Bool) (cs:List Value) (x:DataW H×List MemPlace),plainT P k t=true→DataW.trod enc P w base sp hd n t cs=some x→
  x.2=[]∧∀w' base' sp' hd',DataW.trod enc P w' base' sp' hd' n t cs=some x
 | 0,_,_,_,_,_,_,_,_,_,h=>by simp [DataW.trod] at h
 | n+1,0,_,_,_,_,_,_,_,hp,_=>by simp [plainT] at hp
 | n+1,k+1,t,w,base,sp,hd,cs,x,hp,h=>by
  unfold plainT at hp
  split at hp
  ·rename_i hu
   obtain ⟨b,rfl,rfl⟩:=DataW.trod_bool hu h
   exact ⟨rfl,fun _ _ _ _=>by simp [DataW.trod,hu]⟩
  ·rename_i hu
   obtain ⟨z,rfl,rfl,hz⟩:=DataW.trod_int hu h
   exact ⟨rfl,fun _ _ _ _=>by simp [DataW.trod,hu,hz]⟩
  ·rename_i hu
   obtain ⟨s,rfl,rfl,hs⟩:=DataW.trod_string hu h
   exact ⟨rfl,fun _ _ _ _=>by simp [DataW.trod,hu,hs]⟩
  ·rename_i fs hu
   rw [Bool.and_eq_true,List.all_eq_true] at hp
   simp only [DataW.trod,hu] at h ⊢
   split at h
   ·rename_i hl
    simp only [Option.map_eq_some_iff] at h
    obtain ⟨xs,hxs,rfl⟩:=h
    have ih:∀f ∈ fs.toList,∀y,DataW.trod enc P w base sp hd n f.type ((cs.drop f.offset).take (P.cellsOf f.type))=some y→y.2=[]∧∀w' base' sp' hd',DataW.trod enc P w' base' sp' hd' n f.type ((cs.drop f.offset).take (P.cellsOf f.type))=some y:=fun f hf y hy=>
     XG n k f.type w base sp hd _ y (hp.1 f hf) hy
    refine ⟨Xv (mapM_all (fun f hf y hy=>(ih f hf y hy).1) hxs),fun w' base' sp' hd'=>?_⟩
    rw [if_pos hl,YB (fun f hf y hy=>(ih f hf y hy).2 w' base' sp' hd') hxs]
    rfl
   ·cases h
  ·rename_i m e hu
   rw [Bool.and_eq_true] at hp
   simp only [DataW.trod,hu] at h ⊢
   split at h
   ·rename_i hl
    simp only [Option.map_eq_some_iff] at h
    obtain ⟨xs,hxs,rfl⟩:=h
    have ih:∀i ∈ List.range m,∀y,DataW.trod enc P w base sp hd n e ((cs.drop (i * P.cellsOf e)).take (P.cellsOf e))=some y→y.2=[]∧∀w' base' sp' hd',DataW.trod enc P w' base' sp' hd' n e ((cs.drop (i * P.cellsOf e)).take (P.cellsOf e))=some y:=fun i _ y hy=>
     XG n k e w base sp hd _ y hp.1 hy
    refine ⟨Xv (mapM_all (fun i hi y hy=>(ih i hi y hy).1) hxs),fun w' base' sp' hd'=>?_⟩
    rw [if_pos hl,YB (fun i hi y hy=>(ih i hi y hy).2 w' base' sp' hd') hxs]
    rfl
   ·cases h
  ·cases hp
theorem Z1 {α β:Type} {f:α→Option β}:∀{l:List α} {r:List β},l.mapM f=some r→∀(i:Nat) (a:α),l[i]? = some a→∃b,r[i]? = some b∧f a=some b
 | [],r,_,i,a,hi=>by simp at hi
 | c::l,r,h,i,a,hi=>by
  rw [List.mapM_cons] at h
  simp only [Option.bind_eq_bind,Option.bind_eq_some_iff,Option.pure_def,Option.some.injEq] at h
  obtain ⟨x,hx,xs,hxs,rfl⟩:=h
  cases i with
  | zero=>simp at hi;subst hi;exact ⟨x,by simp,hx⟩
  | succ i=>simpa using Z1 hxs i a (by simpa using hi)
theorem cover:∀(fs:List Field) (o total:Nat) (cs cs':List Value),contig P o fs=some total→cs.length=total→cs'.length=total→
  (∀f ∈ fs,(cs.drop f.offset).take (P.cellsOf f.type)=(cs'.drop f.offset).take (P.cellsOf f.type))→cs.drop o=cs'.drop o
 | [],o,total,cs,cs',h,h1,h2,_=>by
  simp only [contig,Option.some.injEq] at h
  rw [List.drop_eq_nil_of_le (by omega),List.drop_eq_nil_of_le (by omega)]
 | f::fs,o,total,cs,cs',h,h1,h2,hp=>by
  unfold contig at h
  split at h
  ·rename_i ho
   have ih:=cover fs (o+P.cellsOf f.type) total cs cs' h h1 h2 fun g hg=>hp g (by simp [hg])
   have h3:=hp f (by simp)
   rw [ho] at h3
   rw [←List.take_append_drop (P.cellsOf f.type) (cs.drop o),←List.take_append_drop (P.cellsOf f.type) (cs'.drop o),List.drop_drop,List.drop_drop,h3,ih]
  ·cases h
theorem VV {H':Type} {enc':TypeId×Value→H'}:∀(n n' k:Nat) (t:TypeId) (w w':World) (base base':Nat) (sp sp':Nat→Bool) (hd hd':Bool) (cs cs':List Value) (x x':DataW H×List MemPlace),plainT P k t=true→
  DataW.trod enc P w base sp hd n t cs=some x→DataW.trod enc P w' base' sp' hd' n' t cs'=some x'→x.1=x'.1→cs=cs'
 | 0,_,_,_,_,_,_,_,_,_,_,_,_,_,_,_,_,h,_,_=>by simp [DataW.trod] at h
 | _+1,0,_,_,_,_,_,_,_,_,_,_,_,_,_,_,_,_,h,_=>by simp [DataW.trod] at h
 | n+1,n'+1,0,_,_,_,_,_,_,_,_,_,_,_,_,_,hp,_,_,_=>by simp [plainT] at hp
 | n+1,n'+1,k+1,t,w,w',base,base',sp,sp',hd,hd',cs,cs',x,x',hp,h,h',he=>by
  unfold plainT at hp
  split at hp
  ·rename_i hu
   obtain ⟨b,rfl,rfl⟩:=DataW.trod_bool hu h
   obtain ⟨b',rfl,rfl⟩:=DataW.trod_bool hu h'
   simp at he;subst he;rfl
  ·rename_i hu
   obtain ⟨z,rfl,rfl,hz⟩:=DataW.trod_int hu h
   obtain ⟨z',rfl,rfl,hz'⟩:=DataW.trod_int hu h'
   simp at he;subst he;rfl
  ·rename_i hu
   obtain ⟨s,rfl,rfl,hs⟩:=DataW.trod_string hu h
   obtain ⟨s',rfl,rfl,hs'⟩:=DataW.trod_string hu h'
   simp at he
   rw [XN (by rw [he]:s.data.toList=s'.data.toList)]
  ·rename_i fs hu
   rw [Bool.and_eq_true,List.all_eq_true,beq_iff_eq] at hp
   simp only [DataW.trod,hu] at h h'
   split at h
   ·rename_i hl
    split at h'
    ·rename_i hl'
     simp only [Option.map_eq_some_iff] at h h'
     obtain ⟨xs,hxs,rfl⟩:=h
     obtain ⟨xs',hxs',rfl⟩:=h'
     simp only [DataW.agg.injEq] at he
     have:=cover fs.toList 0 _ cs cs' hp.2 hl hl' fun f hf=>by
      obtain ⟨i,hi,rfl⟩:=List.mem_iff_getElem.1 hf
      have hi':=List.getElem?_eq_getElem hi
      obtain ⟨y,hy1,hy2⟩:=Z1 hxs i _ hi'
      obtain ⟨y',hy1',hy2'⟩:=Z1 hxs' i _ hi'
      have hyy:y.1=y'.1:=by
       have h1:(xs.map (·.1))[i]? = some y.1:=by simp [hy1]
       have h2:(xs'.map (·.1))[i]? = some y'.1:=by simp [hy1']
       rw [he] at h1
       exact Option.some.inj (h1.symm.trans h2)
      exact VV (enc':=enc') n n' k _ w w' base base' sp sp' hd hd' _ _ y y' (hp.1 _ hf) hy2 hy2' hyy
     simpa using this
    ·cases h'
   ·cases h
  ·rename_i m e hu
   rw [Bool.and_eq_true,beq_iff_eq] at hp
   simp only [DataW.trod,hu] at h h'
   split at h
   ·rename_i hl
    split at h'
    ·rename_i hl'
     simp only [Option.map_eq_some_iff] at h h'
     obtain ⟨xs,hxs,rfl⟩:=h
     obtain ⟨xs',hxs',rfl⟩:=h'
     simp only [DataW.agg.injEq] at he
     have hpart:∀i,i<m→(cs.drop (i * P.cellsOf e)).take (P.cellsOf e)=(cs'.drop (i * P.cellsOf e)).take (P.cellsOf e):=fun i hi=>by
      have hi':(List.range m)[i]? = some i:=by simp [hi]
      obtain ⟨y,hy1,hy2⟩:=Z1 hxs i _ hi'
      obtain ⟨y',hy1',hy2'⟩:=Z1 hxs' i _ hi'
      have hyy:y.1=y'.1:=by
       have h1:(xs.map (·.1))[i]? = some y.1:=by simp [hy1]
       have h2:(xs'.map (·.1))[i]? = some y'.1:=by simp [hy1']
       rw [he] at h1
       exact Option.some.inj (h1.symm.trans h2)
      exact VV (enc':=enc') n n' k _ w w' base base' sp sp' hd hd' _ _ y y' hp.1 hy2 hy2' hyy
     apply List.ext_getElem?
     intro j
     by_cases hj:j<m * P.cellsOf e
     ·have hc:0<P.cellsOf e:=Nat.pos_of_ne_zero fun h0=>by rw [h0] at hj;simp at hj
      have h1:=congrArg (fun l=>l[j % P.cellsOf e]?) (hpart (j / P.cellsOf e) (Nat.div_lt_of_lt_mul (by rw [Nat.mul_comm];exact hj)))
      simp only [List.getElem?_take,List.getElem?_drop,if_pos (Nat.mod_lt j hc)] at h1
      rw [show j / P.cellsOf e * P.cellsOf e+j % P.cellsOf e=j by rw [Nat.mul_comm];exact Nat.div_add_mod j _] at h1
      exact h1
     ·rw [List.getElem?_eq_none (by omega),List.getElem?_eq_none (by omega)]
    ·cases h'
   ·cases h
  ·cases hp
theorem UG {f:Func} {s:ChangeSpec} {apart fresh handsOn again:Bool} {W W':World} {args:Array Value} {v:Value} {ds gs:List (DataW H)} {before pa pv:List MemPlace}
  (hW:DataW.Whole enc P f.params.toList s.vars apart W args.toList ds gs before)
  (hres:∀(b:Nat) (sp:Nat→Bool) (hd:Bool),DataW.TrodAll enc P W' b sp hd f.resultTypes.toList (v.resultList f.resultTypes.size) (s.fn H (ds++gs)).results [])
  (hargs:∀sp:Nat→Bool,(∀b<W.heap.size,sp b=true)→DataW.TrodAll enc P W' 0 sp true f.params.toList args.toList (s.fn H (ds++gs)).args pa)
  (hvars:∀sp:Nat→Bool,(∀b<W.heap.size,sp b=true)→DataW.TrodVars enc P W' sp s.vars (s.fn H (ds++gs)).vars pv)
  (hps:before=pa++pv) (hk:Kept W W')
  (hok:∀(j:Nat) (t:TypeId) (r:Value),f.resultTypes[j]? = some t→(v.resultList f.resultTypes.size)[j]? = some r→Value.okWide P W' .any 0 t r) :
  s.post enc P f apart fresh handsOn again W args v W':=by
 have hlt:=hW.lt
 refine ⟨ds,gs,before,[],pa,pv,hW,hres _ _ _,hargs _ (fun b hb=>by simpa using hb),hvars _ (fun b hb=>by simpa using hb),World.keptBut_mono (fun p hp=>⟨hp,?_⟩) (hk.but (· ∈ before)),fun _=>?_⟩
 ·rw [hps,List.mem_append] at hp
  exact Or.inr hp
 ·obtain ⟨_,_,_,_,_,hz,hn⟩:=hW
  refine ⟨hok,_,_,([]++pa)++pv,⟨[]++pa,pv,trodAll_append (hargs _ (fun _ _=>rfl)) (hres _ _ _),hvars _ (fun _ _=>rfl),rfl,?_,?_⟩,?_⟩
  ·intro b off hp
   have hm:MemPlace.cell b off ∈ before:=by rw [hps];simpa using hp
   have h1:=hz b off hm
   have h2:b<W.heap.size:=hlt _ hm
   have h4:W.heap[b]? = some W.heap[b]:=Array.getElem?_eq_getElem h2
   have h3:=hk.heap b _ h4
   unfold World.frozen? at h1 ⊢
   dsimp only at h1 ⊢
   rw [h4] at h1
   rw [h3]
   exact h1
  ·intro ha
   have:=hn ha
   rw [hps] at this
   simpa using this
  ·intro p hp _
   rw [hps]
   simpa using hp
def laidU : List (String × DataW Unit) := [("replevin/object.usages", Rows.laid_replevin_object_usages)]
theorem gUsg : prog.globalNamed "replevin/object.usages" = some 0 := by kernel_rfl
theorem tUsg:(prog.globals[0]?).map (·.type)=some 197:=by kernel_rfl
theorem plUsg:plainT prog 5 197=true:=by decide +kernel
theorem rdUsg (w:World):DataW.trod (fun _=>()) prog w 0 (fun _=>true) false 8 197 (usages.flatMap uf)=some (Rows.laid_replevin_object_usages,[]):=by kernel_rfl
inductive SK where
 | b
 | i (k:IntKind)
 | s
def sksF (g:TypeId→Option (List SK)):List Field→Option (List SK)
 | []=>some []
 | f::fs=>match g f.type,sksF g fs with
  | some a,some r=>some (a++r)
  | _,_=>none
def sks (P:Program):Nat→TypeId→Option (List SK)
 | 0,_=>none
 | k+1,t=>match P.underlying t with
  | some .bool=>some [.b]
  | some (.int ik)=>some [.i ik]
  | some .string=>some [.s]
  | some (.struct fs)=>sksF (sks P k) fs.toList
  | some (.array n e)=>(sks P k e).map fun l=>(List.replicate n l).flatten
  | _=>none
def CellOK (M:Nat):SK→Value→Prop
 | .b,v=>∃b,v = .bool b
 | .i k,v=>∃z,v = .int k z∧(Lit.int k z).wf=true
 | .s,v=>∃s:ByteArray,v = .string s∧s.size≤M
def CellsOK (M:Nat):List SK→List Value→Prop
 | [],[]=>True
 | k::ks,v::vs=>CellOK M k v∧CellsOK M ks vs
 | _,_=>False
theorem XK {M:Nat}:∀{a b:List SK} {x y:List Value},CellsOK M a x→CellsOK M b y→CellsOK M (a++b) (x++y)
 | [],_,[],_,_,h=>h
 | _::_,_,_::_,_,⟨h1,h2⟩,h=>⟨h1,XK h2 h⟩
theorem Y8 {M M':Nat} (hM:M≤M'):∀{a:List SK} {x:List Value},CellsOK M a x→CellsOK M' a x
 | [],[],_=>trivial
 | k::_,_::_,⟨h1,h2⟩=>⟨by
   cases k with
   | b=>exact h1
   | i k=>exact h1
   | s=>obtain ⟨s,hs,hl⟩:=h1;exact ⟨s,hs,Nat.le_trans hl hM⟩,Y8 hM h2⟩
theorem Xt:∀{l:List (DataW H)} {d:DataW H},d ∈ l→Rows.uptoBulk d≤Rows.uptoBulkAll l
 | c::l,d,h=>by
  rcases List.mem_cons.1 h with rfl|h
  ·simp only [Rows.uptoBulkAll];omega
  ·have:=Xt h
   simp only [Rows.uptoBulkAll];omega
theorem sksF_ok {M:Nat} {g:TypeId→Option (List SK)}:∀(fs:List Field) (o total:Nat) (cs:List Value) (ks:List SK),contig P o fs=some total→cs.length=total→sksF g fs=some ks→
  (∀f ∈ fs,∀k,g f.type=some k→CellsOK M k ((cs.drop f.offset).take (P.cellsOf f.type)))→CellsOK M ks (cs.drop o)
 | [],o,total,cs,ks,h,h1,h2,_=>by
  simp only [contig,Option.some.injEq] at h
  simp only [sksF,Option.some.injEq] at h2
  rw [←h2,List.drop_eq_nil_of_le (by omega)];trivial
 | f::fs,o,total,cs,ks,h,h1,h2,hp=>by
  unfold contig at h
  split at h
  ·rename_i ho
   unfold sksF at h2
   split at h2
   ·rename_i a r ha hr
    obtain rfl:=Option.some.inj h2
    have ih:=sksF_ok fs (o+P.cellsOf f.type) total cs r h h1 hr fun g hg=>hp g (by simp [hg])
    have h3:=hp f (by simp) a ha
    rw [ho] at h3
    rw [←List.take_append_drop (P.cellsOf f.type) (cs.drop o),List.drop_drop]
    exact XK h3 ih
   ·cases h2
  ·cases h
theorem arr_cells {M c:Nat} {l:List SK}:∀(m:Nat) (cs:List Value),cs.length=m * c→(∀i,i<m→CellsOK M l ((cs.drop (i * c)).take c))→CellsOK M (List.replicate m l).flatten cs
 | 0,cs,h,_=>by
  have:cs=[]:=List.length_eq_zero_iff.1 (by omega)
  subst this;trivial
 | m+1,cs,h,hp=>by
  have h0:=hp 0 (by omega)
  rw [Nat.zero_mul,List.drop_zero] at h0
  have hl:cs.length=m * c+c:=by rw [h,Nat.succ_mul]
  have ih:=arr_cells (M:=M) (c:=c) (l:=l) m (cs.drop c) (by rw [List.length_drop];omega) fun i hi=>by
   have:=hp (i+1) (by omega)
   rw [List.drop_drop,show c+i * c=(i+1) * c by rw [Nat.succ_mul];omega]
   exact this
  rw [List.replicate_succ,List.flatten_cons,←List.take_append_drop c cs]
  exact XK h0 ih
theorem WA:∀(n k:Nat) (t:TypeId) (w:World) (base:Nat) (sp:Nat→Bool) (hd:Bool) (cs:List Value) (x:DataW H×List MemPlace) (ks:List SK),plainT P k t=true→sks P k t=some ks→DataW.trod enc P w base sp hd n t cs=some x→CellsOK (Rows.uptoBulk x.1) ks cs
 | 0,_,_,_,_,_,_,_,_,_,_,_,h=>by simp [DataW.trod] at h
 | n+1,0,_,_,_,_,_,_,_,_,hp,_,_=>by simp [plainT] at hp
 | n+1,k+1,t,w,base,sp,hd,cs,x,ks,hp,hk,h=>by
  unfold plainT at hp
  unfold sks at hk
  split at hp
  ·rename_i hu
   rw [hu] at hk
   obtain rfl:=Option.some.inj hk
   obtain ⟨b,rfl,rfl⟩:=DataW.trod_bool hu h
   exact ⟨⟨b,rfl⟩,trivial⟩
  ·rename_i hu
   rw [hu] at hk
   obtain rfl:=Option.some.inj hk
   obtain ⟨z,rfl,rfl,hz⟩:=DataW.trod_int hu h
   exact ⟨⟨z,rfl,hz⟩,trivial⟩
  ·rename_i hu
   rw [hu] at hk
   obtain rfl:=Option.some.inj hk
   obtain ⟨s,rfl,rfl,hs⟩:=DataW.trod_string hu h
   refine ⟨⟨s,rfl,?_⟩,trivial⟩
   have hsz:s.data.toList.length=s.size:=by simp
   simp only [Rows.uptoBulk];omega
  ·rename_i fs hu
   rw [hu] at hk
   rw [Bool.and_eq_true,List.all_eq_true,beq_iff_eq] at hp
   simp only [DataW.trod,hu] at h
   split at h
   ·rename_i hl
    simp only [Option.map_eq_some_iff] at h
    obtain ⟨xs,hxs,rfl⟩:=h
    have:=sksF_ok (M:=Rows.uptoBulk (.agg (xs.map (·.1)))) (g:=sks P k) fs.toList 0 _ cs ks hp.2 hl hk fun f hf k' hk'=>by
     obtain ⟨i,hi,rfl⟩:=List.mem_iff_getElem.1 hf
     obtain ⟨y,hy1,hy2⟩:=Z1 hxs i _ (List.getElem?_eq_getElem hi)
     refine Y8 ?_ (WA n k _ w base sp hd _ y k' (hp.1 _ hf) hk' hy2)
     have hm:y.1 ∈ xs.map (·.1):=List.mem_map.2 ⟨y,List.mem_of_getElem? hy1,rfl⟩
     have:=Xt hm
     simp only [Rows.uptoBulk];omega
    simpa using this
   ·cases h
  ·rename_i m e hu
   rw [hu] at hk
   rw [Bool.and_eq_true,beq_iff_eq] at hp
   simp only [DataW.trod,hu] at h
   split at h
   ·rename_i hl
    simp only [Option.map_eq_some_iff] at h hk
    obtain ⟨xs,hxs,rfl⟩:=h
    obtain ⟨l,hl2,rfl⟩:=hk
    refine arr_cells m cs (by rw [hl,hp.2]) fun i hi=>?_
    have hi':(List.range m)[i]? = some i:=by simp [hi]
    obtain ⟨y,hy1,hy2⟩:=Z1 hxs i _ hi'
    refine Y8 ?_ (WA n k _ w base sp hd _ y l hp.1 hl2 hy2)
    have hm:y.1 ∈ xs.map (·.1):=List.mem_map.2 ⟨y,List.mem_of_getElem? hy1,rfl⟩
    have:=Xt hm
    simp only [Rows.uptoBulk];omega
   ·cases h
  ·cases hp
end
section
open Go.ChangeShapes Go.WideShapes Go.ChangeAt
theorem XI {W:World} {a:Addr} {n:Nat} {cs:List Value} (h:W.cells? 0 a n=some cs) (hn:0<n) :
  a.spot=none∧∃(c:Array Value) (fz:Nat×Nat×Nat),W.heap[a.block]? = some (.cells c fz.1 fz.2)∧cs.length=n∧∀j,j<n→c[a.off+j]? = cs[j]?:=by
 unfold World.cells? at h
 rw [if_pos (Nat.zero_le _)] at h
 have hl:cs.length=n:=by
  have:∀{α β:Type} {f:α→Option β} {l:List α} {r:List β},l.mapM f=some r→r.length=l.length:=fun {α β f} l=>by
   induction l with
   | nil=>intro r h;simp at h;subst h;rfl
   | cons x l ih=>
    intro r h
    rw [List.mapM_cons] at h
    simp only [Option.bind_eq_bind,Option.bind_eq_some_iff,Option.pure_def,Option.some.injEq] at h
    obtain ⟨y,_,ys,hys,rfl⟩:=h
    simp [ih hys]
  simpa using this h
 have hget:∀j,j<n→∃v,cs[j]? = some v∧W.cell? (a.add j)=some v:=fun j hj=>Z1 h j j (by simp [hj])
 obtain ⟨v0,_,h0⟩:=hget 0 hn
 have ha0:a.add 0=a:=by simp [Addr.add]
 rw [ha0] at h0
 unfold World.cell? at h0
 split at h0
 ·rename_i c T fz hb
  split at h0
  ·cases h0
  ·rename_i hsp
   have hsp:a.spot=none:=by simpa using hsp
   refine ⟨hsp,c,(T,fz),hb,hl,fun j hj=>?_⟩
   obtain ⟨v,hv1,hv2⟩:=hget j hj
   rw [hv1]
   obtain ⟨ab,ao,asp⟩:=a
   dsimp only at hsp hb ⊢
   subst hsp
   rw [Yu rfl] at hv2
   unfold World.cell? at hv2
   dsimp only at hv2
   rw [hb] at hv2
   simpa using hv2
 ·cases h0
theorem Kept.cell {W W':World} (h:Kept W W') {a:Addr} {v:Value} (hc:W.cell? a=some v):W'.cell? a=some v:=by
 unfold World.cell? at hc ⊢
 split at hc
 ·rename_i c T fz hb
  rw [h.heap _ _ hb]
  exact hc
 ·cases hc
theorem Kept.cells {W W':World} (h:Kept W W') {a:Addr} {n:Nat} {cs:List Value} (hc:W.cells? 0 a n=some cs):W'.cells? 0 a n=some cs:=by
 unfold World.cells? at hc ⊢
 rw [if_pos (Nat.zero_le _)] at hc ⊢
 exact YB (fun i _ x hx=>h.cell hx) hc
variable {enc:TypeId×Value→H}
theorem We:∀(l:List (DataW H)),l.length≤Rows.uptoBulkAll l
 | []=>by simp [Rows.uptoBulkAll]
 | d::l=>by
  have:=We l
  have h1:1≤Rows.uptoBulk d:=by
   cases d with
   | lit x=>cases x<;>simp only [Rows.uptoBulk]<;>omega
   | _=>simp only [Rows.uptoBulk];omega
  simp only [Rows.uptoBulkAll,List.length_cons];omega
theorem WQ {α:Type} {p:Nat→α→Prop}:∀(n:Nat),(∀i,i<n→∃y,p i y)→∃es:List α,es.length=n∧∀i y,es[i]? = some y→p i y
 | 0,_=>⟨[],rfl,by simp⟩
 | n+1,h=>by
  obtain ⟨es,hl,he⟩:=WQ n fun i hi=>h i (by omega)
  obtain ⟨y,hy⟩:=h n (by omega)
  refine ⟨es++[y],by simp [hl],fun i z hz=>?_⟩
  by_cases hi:i<n
  ·exact he i z (by rwa [List.getElem?_append_left (by omega)] at hz)
  ·rw [List.getElem?_append_right (by omega)] at hz
   have h0:i - es.length=0:=by
    have:=(List.getElem?_eq_some_iff.1 hz).1
    simp at this;omega
   rw [h0] at hz
   simp at hz
   subst hz
   rw [show i=n by omega];exact hy
theorem UJ {α:Type} {fa:α→List Value} {sz:Nat} (hsz:∀e,(fa e).length=sz) (l:List Value):∀(es:List α) (off:Nat),(∀i e,es[i]? = some e→∀j,j<sz→l[off+i * sz+j]? = (fa e)[j]?)→l.drop off=es.flatMap fa++l.drop (off+es.length * sz)
 | [],off,_=>by simp
 | e::es,off,h=>by
  have h1:(l.drop off).take sz=fa e:=by
   apply List.ext_getElem?
   intro j
   rw [List.getElem?_take,List.getElem?_drop]
   split
   ·rename_i hj
    have:=h 0 e rfl j hj
    simpa using this
   ·rename_i hj
    rw [List.getElem?_eq_none (by rw [hsz];omega)]
  have ih:=UJ hsz l es (off+sz) fun i e' he j hj=>by
   have:=h (i+1) e' (by simpa using he) j hj
   rw [←this];congr 1;rw [Nat.add_mul];omega
  rw [←List.take_append_drop sz (l.drop off),h1,List.drop_drop,ih,List.flatMap_cons,List.append_assoc,List.length_cons]
  congr 3;rw [Nat.add_mul];omega
theorem mapM_len {α β:Type} {f:α→Option β} {l:List α}:∀{r:List β},l.mapM f=some r→r.length=l.length:=by
 induction l with
 | nil=>intro r h;simp at h;subst h;rfl
 | cons x l ih=>
  intro r h
  rw [List.mapM_cons] at h
  simp only [Option.bind_eq_bind,Option.bind_eq_some_iff,Option.pure_def,Option.some.injEq] at h
  obtain ⟨y,_,ys,hys,rfl⟩:=h
  simp [ih hys]
theorem open_slC {α:Type} {fa:α→List Value} {Q:α→Nat→Prop} {t e k:Nat} {W:World} {v:Value} {d:DataW H} {p:List MemPlace} (T:Nat) (hu:P.underlying t=some (.slice e)) (hpl:plainT P k e=true) (hc0:0<P.cellsOf e) (hsz:∀y,(fa y).length=P.cellsOf e)
  (hopen:∀(n:Nat) (cs:List Value) (x:DataW H×List MemPlace),DataW.trod enc P W 0 (fun _=>true) true n e cs=some x→∃y,cs=fa y∧Q y (Rows.uptoBulk x.1)) (hmono:∀y M M',Q y M→M≤M'→Q y M')
  (hv:∃a len cap,v = .slice a len cap) (h:DataW.Trod enc P W 0 (fun _=>true) true t v d p) :
  ∃(o:Option Addr) (cap:Nat) (es:List α),v = .slice o es.length cap∧(Sl T fa o cap es).p (fun b=>W.heap[b]?)∧es.length≤Rows.uptoBulk d∧(∀y ∈ es,Q y (Rows.uptoBulk d))∧
   ∀(W':World) (sp:Nat→Bool),Kept W W'→(∀b<W.heap.size,sp b=true)→DataW.Trod enc P W' 0 sp true t v d p:=by
 obtain ⟨a,len,cap,rfl⟩:=hv
 obtain ⟨n,hn⟩:=h
 cases n with
 | zero=>simp [DataW.trod] at hn
 | succ n=>
  have hcl:(Value.slice a len cap).cells.toList=[.slice a len cap]:=rfl
  rw [hcl] at hn
  cases a with
  | none=>
   have h0:len=0∧cap=0:=by
    unfold DataW.trod at hn
    rw [hu] at hn
    split at hn<;>simp_all
   obtain ⟨rfl,rfl⟩:=h0
   have hd:d = .nil∧p=[]:=by
    simp [DataW.trod,hu] at hn
    exact ⟨hn.1.symm,hn.2⟩
   obtain ⟨rfl,rfl⟩:=hd
   exact ⟨none,0,[],rfl,⟨by simp,.inl rfl⟩,by simp,by simp,fun W' sp _ _=>⟨n+1,by rw [hcl];simp [DataW.trod,hu]⟩⟩
  | some a=>
   simp only [DataW.trod,hu] at hn
   split at hn
   ·rename_i hb
    simp only [Option.bind_eq_some_iff,if_true,Option.map_eq_some_iff] at hn
    obtain ⟨elems,he,rest,hr,hx⟩:=hn
    simp only [Prod.mk.injEq] at hx
    obtain ⟨rfl,rfl⟩:=hx
    have hle:=mapM_len he
    rw [List.length_range] at hle
    have hbulk:∀x ∈ elems,Rows.uptoBulk x.1≤Rows.uptoBulk (DataW.slice (elems.map (·.1)) (rest.map (·.1))):=fun x hx=>by
     have:=Xt (List.mem_map.2 ⟨x,hx,rfl⟩:x.1 ∈ elems.map (·.1))
     simp only [Rows.uptoBulk];omega
    obtain ⟨es,hel,hes⟩:=WQ (p:=fun i y=>∃x,x ∈ elems∧W.cells? 0 (a.add (i * P.cellsOf e)) (P.cellsOf e)=some (fa y)∧Q y (Rows.uptoBulk x.1)) len fun i hi=>by
     obtain ⟨x,hx1,hx2⟩:=Z1 he i i (by simp [hi])
     simp only [Option.bind_eq_some_iff] at hx2
     obtain ⟨cs,hcs,htr⟩:=hx2
     obtain ⟨y,rfl,hy⟩:=hopen n cs x htr
     exact ⟨y,x,List.mem_of_getElem? hx1,hcs,hy⟩
    refine ⟨some a,cap,es,by rw [hel],⟨by omega,?_⟩,?_,?_,?_⟩
    ·by_cases hl0:es=[]
     ·exact .inl hl0
     ·right
      have hpos:0<es.length:=List.length_pos_iff.2 hl0
      obtain ⟨x0,_,hc1,_⟩:=hes 0 es[0] (List.getElem?_eq_getElem hpos)
      have ha0:a.add (0 * P.cellsOf e)=a:=by simp [Addr.add]
      rw [ha0] at hc1
      obtain ⟨hsp,c,fz,hblk,_,hcell⟩:=XI hc1 hc0
      obtain ⟨ab,ao,asp⟩:=a
      dsimp only at hsp hblk hcell
      subst hsp
      have hlt:ao<c.size:=by
       have h1:=hcell 0 hc0
       have h2:(fa es[0])[0]?≠none:=by
        rw [List.getElem?_eq_getElem (by rw [hsz];exact hc0)];simp
       rw [←h1] at h2
       exact Nat.lt_of_not_le fun h=>h2 (by simpa using Array.getElem?_eq_none_iff.2 h)
      have hdrop:=UJ hsz c.toList es ao fun i y hy j hj=>by
       obtain ⟨x,_,hci,_⟩:=hes i y hy
       rw [Yu rfl] at hci
       obtain ⟨_,c',fz',hblk',_,hcell'⟩:=XI hci hc0
       dsimp only at hblk' hcell'
       rw [hblk] at hblk'
       injection hblk' with hblk'
       injection hblk' with e1
       subst e1
       rw [←hcell' j hj];simp
      refine ⟨ab,c,fz,c.toList.take ao,c.toList.drop (ao+es.length * P.cellsOf e),?_,hblk,?_⟩
      ·rw [List.length_take,Nat.min_eq_left (by simpa using Nat.le_of_lt hlt)]
      ·rw [←hdrop,List.take_append_drop]
    ·have:=We (elems.map (·.1))
     simp only [List.length_map] at this
     simp only [Rows.uptoBulk];omega
    ·intro y hy
     obtain ⟨i,hi,rfl⟩:=List.mem_iff_getElem.1 hy
     obtain ⟨x,hx,_,hq⟩:=hes i _ (List.getElem?_eq_getElem hi)
     exact hmono _ _ _ hq (hbulk x hx)
    ·intro W' sp hk hsp
     have hel1:∀i x,((W.cells? 0 (a.add (i * P.cellsOf e)) (P.cellsOf e)).bind (DataW.trod enc P W 0 (fun _=>true) true n e))=some x→((W'.cells? 0 (a.add (i * P.cellsOf e)) (P.cellsOf e)).bind (DataW.trod enc P W' 0 sp true n e))=some x:=fun i x hx=>by
      simp only [Option.bind_eq_some_iff] at hx ⊢
      obtain ⟨cs,hcs,htr⟩:=hx
      exact ⟨cs,hk.cells hcs,(XG n _ _ W 0 _ _ _ _ hpl htr).2 W' 0 sp true⟩
     refine ⟨n+1,?_⟩
     rw [hcl]
     simp only [DataW.trod,hu]
     rw [if_pos hb]
     simp only [Option.bind_eq_some_iff,Option.map_eq_some_iff]
     refine ⟨elems,YB (fun i _ x hx=>hel1 i x hx) he,rest,?_,rfl⟩
     by_cases hcap:cap=len
     ·have hrest:rest=[]:=by
       subst hcap
       simp at hr
       exact hr
      subst hrest
      subst hcap
      split<;>simp
     ·have hlt:a.block<W.heap.size:=by
       obtain ⟨x,_,hx2⟩:=Z1 hr 0 0 (by rw [List.getElem?_range (by omega)])
       simp only [Option.bind_eq_some_iff] at hx2
       obtain ⟨cs,hcs,_⟩:=hx2
       obtain ⟨_,c,fz,hblk,_⟩:=XI hcs hc0
       have h1:=(Array.getElem?_eq_some_iff.1 hblk).1
       have h2:(a.add ((len+0) * P.cellsOf e)).block=a.block:=by unfold Addr.add;split<;>rfl
       rwa [h2] at h1
      rw [if_pos (hsp _ hlt)]
      exact YB (fun j _ x hx=>hel1 (len+j) x hx) hr
   ·cases hn
end
section
open Go.ChangeShapes Go.WideShapes Go.ChangeAt
theorem own:ownKnob prog.godebug=none:=by kernel_rfl
noncomputable def laidWorld (os:Os):World:=
 {World.holding prog os ⟨#[],#[],[]⟩ with heap:=(World.holding prog os ⟨#[],#[],[]⟩).heap.modify 0 fun
   | .cells _ t frozen=>.cells (usages.flatMap uf).toArray t frozen
   | o=>o}
theorem W0 {M:Nat} {k:IntKind} {ks:List SK} {cs:List Value} (h:CellsOK M (.i k::ks) cs):∃z cs',cs = .int k z::cs'∧(Lit.int k z).wf=true∧CellsOK M ks cs':=by
 obtain _|⟨v,cs⟩:=cs
 ·exact h.elim
 ·obtain ⟨⟨z,rfl,hz⟩,h⟩:=h
  exact ⟨z,cs,rfl,hz,h⟩
theorem cells_nil {M:Nat} {cs:List Value} (h:CellsOK M [] cs):cs=[]:=by
 cases cs
 ·rfl
 ·exact h.elim
section
variable {enc:TypeId×Value→H} {W:World} {base:Nat} {v:Value} {d:DataW H} {p:List MemPlace}
end
end
section
open Go.ChangeShapes Go.WideShapes Go.ChangeAt
section
variable {enc:TypeId×Value→H} {W:World}
theorem trod_sl_keep {n k t e:Nat} {cs:List Value} {x:DataW H×List MemPlace} (hu:P.underlying t=some (.slice e)) (hpl:plainT P k e=true) (hc0:0<P.cellsOf e) (h:DataW.trod enc P W 0 (fun _=>true) true n t cs=some x) :
  (∃a len cap,cs=[.slice a len cap])∧∀(W':World) (sp:Nat→Bool),Kept W W'→(∀b<W.heap.size,sp b=true)→DataW.trod enc P W' 0 sp true n t cs=some x:=by
 cases n with
 | zero=>simp [DataW.trod] at h
 | succ n=>
  have hsl:∃a len cap,cs=[.slice a len cap]:=by
   rcases cs with _|⟨c,_|⟨c2,cs⟩⟩
   ·simp [DataW.trod,hu] at h
   ·cases c with
    | slice a len cap=>exact ⟨a,len,cap,rfl⟩
    | _=>simp [DataW.trod,hu] at h
   ·simp [DataW.trod,hu] at h
  refine ⟨hsl,fun W' sp hk hsp=>?_⟩
  obtain ⟨a,len,cap,rfl⟩:=hsl
  cases a with
  | none=>
   have h0:len=0∧cap=0:=by
    unfold DataW.trod at h
    rw [hu] at h
    split at h<;>simp_all
   obtain ⟨rfl,rfl⟩:=h0
   simp [DataW.trod,hu] at h ⊢
   exact h
  | some a=>
   simp only [DataW.trod,hu] at h ⊢
   split at h
   ·rename_i hb
    rw [if_pos hb]
    simp only [Option.bind_eq_some_iff,if_true,Option.map_eq_some_iff] at h ⊢
    obtain ⟨elems,he,rest,hr,hx⟩:=h
    have hel1:∀i x,((W.cells? 0 (a.add (i * P.cellsOf e)) (P.cellsOf e)).bind (DataW.trod enc P W 0 (fun _=>true) true n e))=some x→((W'.cells? 0 (a.add (i * P.cellsOf e)) (P.cellsOf e)).bind (DataW.trod enc P W' 0 sp true n e))=some x:=fun i x hx=>by
     simp only [Option.bind_eq_some_iff] at hx ⊢
     obtain ⟨cs,hcs,htr⟩:=hx
     exact ⟨cs,hk.cells hcs,(XG n _ _ W 0 _ _ _ _ hpl htr).2 W' 0 sp true⟩
    refine ⟨elems,YB (fun i _ x hx=>hel1 i x hx) he,rest,?_,hx⟩
    by_cases hcap:cap=len
    ·have hrest:rest=[]:=by
      subst hcap
      simp at hr
      exact hr
     subst hrest
     subst hcap
     split<;>simp
    ·have hlt:a.block<W.heap.size:=by
      obtain ⟨x,_,hx2⟩:=Z1 hr 0 0 (by rw [List.getElem?_range (by omega)])
      simp only [Option.bind_eq_some_iff] at hx2
      obtain ⟨cs,hcs,_⟩:=hx2
      obtain ⟨_,c,fz,hblk,_⟩:=XI hcs hc0
      have h1:=(Array.getElem?_eq_some_iff.1 hblk).1
      have h2:(a.add ((len+0) * P.cellsOf e)).block=a.block:=by unfold Addr.add;split<;>rfl
      rwa [h2] at h1
     rw [if_pos (hsp _ hlt)]
     exact YB (fun j _ x hx=>hel1 (len+j) x hx) hr
   ·cases h
def okT (P:Program):Nat→TypeId→Bool
 | 0,_=>false
 | k+1,t=>plainT P (k+1) t || match P.underlying t with
  | some (.slice e)=>plainT P k e && decide (0<P.cellsOf e)
  | some (.struct fs)=>(fs.toList.all fun f=>okT P k f.type) && (contig P 0 fs.toList == some (P.cellsOf t))
  | _=>false
inductive SL where
 | p (k:SK)
 | l (t:Nat)
def slF (g:TypeId→Option (List SL)):List Field→Option (List SL)
 | []=>some []
 | f::fs=>match g f.type,slF g fs with
  | some a,some r=>some (a++r)
  | _,_=>none
def sls (P:Program):Nat→TypeId→Option (List SL)
 | 0,_=>none
 | k+1,t=>if plainT P (k+1) t then (sks P (k+1) t).map fun l=>l.map .p else match P.underlying t with
  | some (.slice _)=>some [.l t]
  | some (.struct fs)=>slF (sls P k) fs.toList
  | _=>none
def CellL (enc:TypeId×Value→H) (P:Program) (W:World) (M:Nat):SL→Value→Prop
 | .p k,v=>CellOK M k v
 | .l t,v=>(∃a len cap,v = .slice a len cap)∧∃n x,DataW.trod enc P W 0 (fun _=>true) true n t [v]=some x∧Rows.uptoBulk x.1≤M
def CellsL (enc:TypeId×Value→H) (P:Program) (W:World) (M:Nat):List SL→List Value→Prop
 | [],[]=>True
 | k::ks,v::vs=>CellL enc P W M k v∧CellsL enc P W M ks vs
 | _,_=>False
theorem VC {M:Nat}:∀{a b:List SL} {x y:List Value},CellsL enc P W M a x→CellsL enc P W M b y→CellsL enc P W M (a++b) (x++y)
 | [],_,[],_,_,h=>h
 | _::_,_,_::_,_,⟨h1,h2⟩,h=>⟨h1,VC h2 h⟩
theorem UX {M M':Nat} (hM:M≤M'):∀{a:List SL} {x:List Value},CellsL enc P W M a x→CellsL enc P W M' a x
 | [],[],_=>trivial
 | k::_,_::_,⟨h1,h2⟩=>⟨by
   cases k with
   | p k=>exact (Y8 hM (a:=[k]) (x:=[_]) ⟨h1,trivial⟩).1
   | l t=>obtain ⟨ha,n,x,hx,hl⟩:=h1;exact ⟨ha,n,x,hx,Nat.le_trans hl hM⟩,UX hM h2⟩
theorem cellsL_of {M:Nat}:∀{a:List SK} {x:List Value},CellsOK M a x→CellsL enc P W M (a.map .p) x
 | [],[],_=>trivial
 | _::_,_::_,⟨h1,h2⟩=>⟨h1,cellsL_of h2⟩
theorem slF_ok {M:Nat} {g:TypeId→Option (List SL)}:∀(fs:List Field) (o total:Nat) (cs:List Value) (ks:List SL),contig P o fs=some total→cs.length=total→slF g fs=some ks→
  (∀f ∈ fs,∀k,g f.type=some k→CellsL enc P W M k ((cs.drop f.offset).take (P.cellsOf f.type)))→CellsL enc P W M ks (cs.drop o)
 | [],o,total,cs,ks,h,h1,h2,_=>by
  simp only [contig,Option.some.injEq] at h
  simp only [slF,Option.some.injEq] at h2
  rw [←h2,List.drop_eq_nil_of_le (by omega)];trivial
 | f::fs,o,total,cs,ks,h,h1,h2,hp=>by
  unfold contig at h
  split at h
  ·rename_i ho
   unfold slF at h2
   split at h2
   ·rename_i a r ha hr
    obtain rfl:=Option.some.inj h2
    have ih:=slF_ok fs (o+P.cellsOf f.type) total cs r h h1 hr fun g hg=>hp g (by simp [hg])
    have h3:=hp f (by simp) a ha
    rw [ho] at h3
    rw [←List.take_append_drop (P.cellsOf f.type) (cs.drop o),List.drop_drop]
    exact VC h3 ih
   ·cases h2
  ·cases h
theorem W3:∀(n k:Nat) (t:TypeId) (cs:List Value) (x:DataW H×List MemPlace) (ks:List SL),okT P k t=true→sls P k t=some ks→DataW.trod enc P W 0 (fun _=>true) true n t cs=some x→
  CellsL enc P W (Rows.uptoBulk x.1) ks cs∧∀(W':World) (sp:Nat→Bool),Kept W W'→(∀b<W.heap.size,sp b=true)→DataW.trod enc P W' 0 sp true n t cs=some x
 | 0,_,_,_,_,_,_,_,h=>by simp [DataW.trod] at h
 | n+1,0,_,_,_,_,hp,_,_=>by simp [okT] at hp
 | n+1,k+1,t,cs,x,ks,hp,hk,h=>by
  unfold okT at hp
  unfold sls at hk
  by_cases hpl:plainT P (k+1) t=true
  ·rw [if_pos hpl] at hk
   simp only [Option.map_eq_some_iff] at hk
   obtain ⟨l,hl,rfl⟩:=hk
   exact ⟨cellsL_of (WA (n+1) (k+1) t W 0 _ _ cs x l hpl hl h),fun W' sp _ _=>(XG (n+1) (k+1) t W 0 _ _ cs x hpl h).2 W' 0 sp true⟩
  ·rw [if_neg hpl] at hk
   simp only [Bool.not_eq_true] at hpl
   rw [hpl,Bool.false_or] at hp
   split at hp
   ·rename_i e hu
    rw [hu] at hk
    obtain rfl:=Option.some.inj hk
    rw [Bool.and_eq_true,decide_eq_true_eq] at hp
    obtain ⟨⟨a,len,cap,rfl⟩,h2⟩:=trod_sl_keep hu hp.1 hp.2 h
    exact ⟨⟨⟨⟨a,len,cap,rfl⟩,n+1,x,h,Nat.le_refl _⟩,trivial⟩,h2⟩
   ·rename_i fs hu
    rw [hu] at hk
    rw [Bool.and_eq_true,List.all_eq_true,beq_iff_eq] at hp
    simp only [DataW.trod,hu] at h ⊢
    split at h
    ·rename_i hl
     simp only [Option.map_eq_some_iff] at h
     obtain ⟨xs,hxs,rfl⟩:=h
     refine ⟨?_,fun W' sp hkp hsp=>?_⟩
     ·have:=slF_ok (M:=Rows.uptoBulk (.agg (xs.map (·.1)))) (g:=sls P k) (enc:=enc) (W:=W) fs.toList 0 _ cs ks hp.2 hl hk fun f hf k' hk'=>by
       obtain ⟨i,hi,rfl⟩:=List.mem_iff_getElem.1 hf
       obtain ⟨y,hy1,hy2⟩:=Z1 hxs i _ (List.getElem?_eq_getElem hi)
       refine UX ?_ (W3 n k _ _ y k' (hp.1 _ hf) hk' hy2).1
       have hm:y.1 ∈ xs.map (·.1):=List.mem_map.2 ⟨y,List.mem_of_getElem? hy1,rfl⟩
       have:=Xt hm
       simp only [Rows.uptoBulk];omega
      simpa using this
     ·rw [if_pos hl,YB (fun f hf y hy=>?_) hxs]
      ·rfl
      ·have hs:∃k',sls P k f.type=some k':=slF_mem hk hf
       obtain ⟨k',hk'⟩:=hs
       exact (W3 n k _ _ y k' (hp.1 f hf) hk' hy).2 W' sp hkp hsp
    ·cases h
   ·cases hp
where slF_mem {g:TypeId→Option (List SL)}:∀{fs:List Field} {ks:List SL} {f:Field},slF g fs=some ks→f ∈ fs→∃k,g f.type=some k
 | [],_,_,_,h=>by cases h
 | f::fs,ks,f',h,hm=>by
  unfold slF at h
  split at h
  ·rename_i a r ha hr
   rcases List.mem_cons.1 hm with rfl|hm
   ·exact ⟨a,ha⟩
   ·exact slF_mem hr hm
  ·cases h
theorem Wm {M:Nat} {k:SK} {ks:List SL} {cs:List Value} (h:CellsL enc P W M (.p k::ks) cs):∃v cs',cs=v::cs'∧CellOK M k v∧CellsL enc P W M ks cs':=by
 obtain _|⟨v,cs⟩:=cs
 ·exact h.elim
 ·exact ⟨v,cs,rfl,h⟩
theorem cellsL_l {M t:Nat} {ks:List SL} {cs:List Value} (h:CellsL enc P W M (.l t::ks) cs):∃v cs',cs=v::cs'∧CellL enc P W M (.l t) v∧CellsL enc P W M ks cs':=by
 obtain _|⟨v,cs⟩:=cs
 ·exact h.elim
 ·exact ⟨v,cs,rfl,h⟩
theorem cellsL_nil {M:Nat} {cs:List Value} (h:CellsL enc P W M [] cs):cs=[]:=by
 cases cs
 ·rfl
 ·exact h.elim
end
section
variable {enc:TypeId×Value→H}
theorem open_slK {α:Type} {fa:α→List Value} {Q:α→Nat→Prop} {t e:Nat} {W:World} {v:Value} {d:DataW H} {p:List MemPlace} (T:Nat) (hu:P.underlying t=some (.slice e)) (hc0:0<P.cellsOf e) (hsz:∀y,(fa y).length=P.cellsOf e)
  (hopen:∀(n:Nat) (cs:List Value) (x:DataW H×List MemPlace),DataW.trod enc P W 0 (fun _=>true) true n e cs=some x→∃y,cs=fa y∧Q y (Rows.uptoBulk x.1)) (hmono:∀y M M',Q y M→M≤M'→Q y M')
  (hkeepE:∀(n:Nat) (cs:List Value) (x:DataW H×List MemPlace),DataW.trod enc P W 0 (fun _=>true) true n e cs=some x→∀(W':World) (sp:Nat→Bool),Kept W W'→(∀b<W.heap.size,sp b=true)→DataW.trod enc P W' 0 sp true n e cs=some x)
  (hv:∃a len cap,v = .slice a len cap) (h:DataW.Trod enc P W 0 (fun _=>true) true t v d p) :
  ∃(o:Option Addr) (cap:Nat) (es:List α),v = .slice o es.length cap∧(Sl T fa o cap es).p (fun b=>W.heap[b]?)∧es.length≤Rows.uptoBulk d∧(∀y ∈ es,Q y (Rows.uptoBulk d))∧
   ∀(W':World) (sp:Nat→Bool),Kept W W'→(∀b<W.heap.size,sp b=true)→DataW.Trod enc P W' 0 sp true t v d p:=by
 obtain ⟨a,len,cap,rfl⟩:=hv
 obtain ⟨n,hn⟩:=h
 cases n with
 | zero=>simp [DataW.trod] at hn
 | succ n=>
  have hcl:(Value.slice a len cap).cells.toList=[.slice a len cap]:=rfl
  rw [hcl] at hn
  cases a with
  | none=>
   have h0:len=0∧cap=0:=by
    unfold DataW.trod at hn
    rw [hu] at hn
    split at hn<;>simp_all
   obtain ⟨rfl,rfl⟩:=h0
   have hd:d = .nil∧p=[]:=by
    simp [DataW.trod,hu] at hn
    exact ⟨hn.1.symm,hn.2⟩
   obtain ⟨rfl,rfl⟩:=hd
   exact ⟨none,0,[],rfl,⟨by simp,.inl rfl⟩,by simp,by simp,fun W' sp _ _=>⟨n+1,by rw [hcl];simp [DataW.trod,hu]⟩⟩
  | some a=>
   simp only [DataW.trod,hu] at hn
   split at hn
   ·rename_i hb
    simp only [Option.bind_eq_some_iff,if_true,Option.map_eq_some_iff] at hn
    obtain ⟨elems,he,rest,hr,hx⟩:=hn
    simp only [Prod.mk.injEq] at hx
    obtain ⟨rfl,rfl⟩:=hx
    have hle:=mapM_len he
    rw [List.length_range] at hle
    have hbulk:∀x ∈ elems,Rows.uptoBulk x.1≤Rows.uptoBulk (DataW.slice (elems.map (·.1)) (rest.map (·.1))):=fun x hx=>by
     have:=Xt (List.mem_map.2 ⟨x,hx,rfl⟩:x.1 ∈ elems.map (·.1))
     simp only [Rows.uptoBulk];omega
    obtain ⟨es,hel,hes⟩:=WQ (p:=fun i y=>∃x,x ∈ elems∧W.cells? 0 (a.add (i * P.cellsOf e)) (P.cellsOf e)=some (fa y)∧Q y (Rows.uptoBulk x.1)) len fun i hi=>by
     obtain ⟨x,hx1,hx2⟩:=Z1 he i i (by simp [hi])
     simp only [Option.bind_eq_some_iff] at hx2
     obtain ⟨cs,hcs,htr⟩:=hx2
     obtain ⟨y,rfl,hy⟩:=hopen n cs x htr
     exact ⟨y,x,List.mem_of_getElem? hx1,hcs,hy⟩
    refine ⟨some a,cap,es,by rw [hel],⟨by omega,?_⟩,?_,?_,?_⟩
    ·by_cases hl0:es=[]
     ·exact .inl hl0
     ·right
      have hpos:0<es.length:=List.length_pos_iff.2 hl0
      obtain ⟨x0,_,hc1,_⟩:=hes 0 es[0] (List.getElem?_eq_getElem hpos)
      have ha0:a.add (0 * P.cellsOf e)=a:=by simp [Addr.add]
      rw [ha0] at hc1
      obtain ⟨hsp,c,fz,hblk,_,hcell⟩:=XI hc1 hc0
      obtain ⟨ab,ao,asp⟩:=a
      dsimp only at hsp hblk hcell
      subst hsp
      have hlt:ao<c.size:=by
       have h1:=hcell 0 hc0
       have h2:(fa es[0])[0]?≠none:=by
        rw [List.getElem?_eq_getElem (by rw [hsz];exact hc0)];simp
       rw [←h1] at h2
       exact Nat.lt_of_not_le fun h=>h2 (by simpa using Array.getElem?_eq_none_iff.2 h)
      have hdrop:=UJ hsz c.toList es ao fun i y hy j hj=>by
       obtain ⟨x,_,hci,_⟩:=hes i y hy
       rw [Yu rfl] at hci
       obtain ⟨_,c',fz',hblk',_,hcell'⟩:=XI hci hc0
       dsimp only at hblk' hcell'
       rw [hblk] at hblk'
       injection hblk' with hblk'
       injection hblk' with e1
       subst e1
       rw [←hcell' j hj];simp
      refine ⟨ab,c,fz,c.toList.take ao,c.toList.drop (ao+es.length * P.cellsOf e),?_,hblk,?_⟩
      ·rw [List.length_take,Nat.min_eq_left (by simpa using Nat.le_of_lt hlt)]
      ·rw [←hdrop,List.take_append_drop]
    ·have:=We (elems.map (·.1))
     simp only [List.length_map] at this
     simp only [Rows.uptoBulk];omega
    ·intro y hy
     obtain ⟨i,hi,rfl⟩:=List.mem_iff_getElem.1 hy
     obtain ⟨x,hx,_,hq⟩:=hes i _ (List.getElem?_eq_getElem hi)
     exact hmono _ _ _ hq (hbulk x hx)
    ·intro W' sp hk hsp
     have hel1:∀i x,((W.cells? 0 (a.add (i * P.cellsOf e)) (P.cellsOf e)).bind (DataW.trod enc P W 0 (fun _=>true) true n e))=some x→((W'.cells? 0 (a.add (i * P.cellsOf e)) (P.cellsOf e)).bind (DataW.trod enc P W' 0 sp true n e))=some x:=fun i x hx=>by
      simp only [Option.bind_eq_some_iff] at hx ⊢
      obtain ⟨cs,hcs,htr⟩:=hx
      exact ⟨cs,hk.cells hcs,hkeepE n _ _ htr W' sp hk hsp⟩
     refine ⟨n+1,?_⟩
     rw [hcl]
     simp only [DataW.trod,hu]
     rw [if_pos hb]
     simp only [Option.bind_eq_some_iff,Option.map_eq_some_iff]
     refine ⟨elems,YB (fun i _ x hx=>hel1 i x hx) he,rest,?_,rfl⟩
     by_cases hcap:cap=len
     ·have hrest:rest=[]:=by
       subst hcap
       simp at hr
       exact hr
      subst hrest
      subst hcap
      split<;>simp
     ·have hlt:a.block<W.heap.size:=by
       obtain ⟨x,_,hx2⟩:=Z1 hr 0 0 (by rw [List.getElem?_range (by omega)])
       simp only [Option.bind_eq_some_iff] at hx2
       obtain ⟨cs,hcs,_⟩:=hx2
       obtain ⟨_,c,fz,hblk,_⟩:=XI hcs hc0
       have h1:=(Array.getElem?_eq_some_iff.1 hblk).1
       have h2:(a.add ((len+0) * P.cellsOf e)).block=a.block:=by unfold Addr.add;split<;>rfl
       rwa [h2] at h1
      rw [if_pos (hsp _ hlt)]
      exact YB (fun j _ x hx=>hel1 (len+j) x hx) hr
   ·cases hn
end
end
section
open Go.ChangeShapes Go.WideShapes Go.ChangeAt
def i6f (x:It):List Value:=[.int .u8 x.b,.int .u8 x.n,.int .u8 x.t,.int .u8 x.c,.int .u8 x.g,.int .u8 x.x]
structure It8 (x:It):Prop where
 b:x.b<256
 n:x.n<256
 t:x.t<256
 c:x.c<256
 g:x.g<256
 x:x.x<256
def b8f (z:Nat):List Value:=[.int .u8 z]
structure Od where
 k:Nat
 now:List It
 nq:Option Addr×Nat
 ru:List Nat
 rq:Option Addr×Nat
 at':Int
 ix:Int
 a:Ac
def odf (x:Od):List Value:=[.int .u8 x.k,.slice x.nq.1 x.now.length x.nq.2,.slice x.rq.1 x.ru.length x.rq.2,.int .i64 x.at',.int .i64 x.ix,.int .i64 x.a.k,.string x.a.t]
def Od.v (x:Od):Value:=.agg #[.int .u8 x.k,.slice x.nq.1 x.now.length x.nq.2,.slice x.rq.1 x.ru.length x.rq.2,.int .i64 x.at',.int .i64 x.ix,.int .i64 x.a.k,.string x.a.t]
abbrev SlI (q:Option Addr×Nat) (l:List It):Pf:=Sl 114 i6f q.1 q.2 l
abbrev SlB (q:Option Addr×Nat) (l:List Nat):Pf:=Sl 5 b8f q.1 q.2 l
structure Od8 (x:Od):Prop where
 k:x.k<256
 i:∀y ∈ x.now,It8 y
 r:∀z ∈ x.ru,z<256
 t : -9223372036854775808≤x.at'∧x.at'≤9223372036854775807
 j : -9223372036854775808≤x.ix∧x.ix≤9223372036854775807
def OdF (x:Od):Pf:=⟨fun h=>(SlI x.nq x.now).p h∧(SlB x.rq x.ru).p h,fun _ _ s hh=>⟨Pf.m _ _ _ s hh.1,Pf.m _ _ _ s hh.2⟩⟩
def OdsF (l:List Od):Pf:=⟨fun h=>∀x ∈ l,(OdF x).p h,fun _ _ s hh x hx=>(OdF x).m _ _ s (hh x hx)⟩
theorem i64_wf {z:Int} (h:(Lit.int .i64 z).wf=true) : -9223372036854775808≤z∧z≤9223372036854775807:=by
 simp [Lit.wf,IntKind.min,IntKind.max,IntKind.bits,IntKind.signed] at h
 omega
theorem u8_wf {z:Int} (h:(Lit.int .u8 z).wf=true):∃k:Nat,z=(k:Int)∧k<256:=by
 simp [Lit.wf,IntKind.min,IntKind.max,IntKind.bits,IntKind.signed] at h
 exact ⟨z.toNat,by omega,by omega⟩
theorem plIt6:plainT prog 5 114=true:=by decide +kernel
theorem skIt6:sks prog 5 114=some [.i .u8,.i .u8,.i .u8,.i .u8,.i .u8,.i .u8]:=by kernel_rfl
theorem plU8d:plainT prog 5 5=true:=by decide +kernel
theorem okOd:okT prog 6 66=true:=by decide +kernel
theorem slOd:sls prog 6 66=some [.p (.i .u8),.l 22,.l 64,.p (.i .i64),.p (.i .i64),.p (.i .i64),.p .s]:=by kernel_rfl
theorem open_it6 {M:Nat} {cs:List Value} (h:CellsOK M [.i .u8,.i .u8,.i .u8,.i .u8,.i .u8,.i .u8] cs):∃c:It,cs=i6f c∧It8 c:=by
 obtain ⟨z1,cs,rfl,h1,h⟩:=W0 h
 obtain ⟨z2,cs,rfl,h2,h⟩:=W0 h
 obtain ⟨z3,cs,rfl,h3,h⟩:=W0 h
 obtain ⟨z4,cs,rfl,h4,h⟩:=W0 h
 obtain ⟨z5,cs,rfl,h5,h⟩:=W0 h
 obtain ⟨z6,cs,rfl,h6,h⟩:=W0 h
 obtain rfl:=cells_nil h
 obtain ⟨c1,rfl,l1⟩:=u8_wf h1
 obtain ⟨c2,rfl,l2⟩:=u8_wf h2
 obtain ⟨c3,rfl,l3⟩:=u8_wf h3
 obtain ⟨c4,rfl,l4⟩:=u8_wf h4
 obtain ⟨c5,rfl,l5⟩:=u8_wf h5
 obtain ⟨c6,rfl,l6⟩:=u8_wf h6
 exact ⟨⟨c1,c2,c3,c4,c5,c6⟩,rfl,⟨l1,l2,l3,l4,l5,l6⟩⟩
section
variable {enc:TypeId×Value→H} {W:World} {base:Nat} {v:Value} {d:DataW H} {p:List MemPlace}
theorem open_it6s' (hv:∃a len cap,v = .slice a len cap) (h:DataW.Trod enc prog W 0 (fun _=>true) true 22 v d p) :
  ∃(o:Option Addr) (cap:Nat) (es:List It),v = .slice o es.length cap∧(Sl 114 i6f o cap es).p (fun b=>W.heap[b]?)∧es.length≤Rows.uptoBulk d∧(∀y ∈ es,It8 y)∧
   ∀(W':World) (sp:Nat→Bool),Kept W W'→(∀b<W.heap.size,sp b=true)→DataW.Trod enc prog W' 0 sp true 22 v d p:=
 open_slC (fa:=i6f) (Q:=fun y _=>It8 y) _ underlying22 plIt6 (by decide +kernel) (fun _=>show 6=_ by decide +kernel) (fun n cs x hx=>open_it6 (WA n 5 _ W 0 _ _ _ _ _ plIt6 skIt6 hx)) (fun _ _ _ h1 _=>h1) hv h
theorem UB (hv:Value.okWide prog W .any base 22 v) (h:DataW.Trod enc prog W 0 (fun _=>true) true 22 v d p) :
  ∃(o:Option Addr) (cap:Nat) (es:List It),v = .slice o es.length cap∧(Sl 114 i6f o cap es).p (fun b=>W.heap[b]?)∧es.length≤Rows.uptoBulk d∧(∀y ∈ es,It8 y)∧
   ∀(W':World) (sp:Nat→Bool),Kept W W'→(∀b<W.heap.size,sp b=true)→DataW.Trod enc prog W' 0 sp true 22 v d p:=
 open_it6s' (okWide_slice underlying22 hv) h
theorem open_b8s' (hv:∃a len cap,v = .slice a len cap) (h:DataW.Trod enc prog W 0 (fun _=>true) true 64 v d p) :
  ∃(o:Option Addr) (cap:Nat) (es:List Nat),v = .slice o es.length cap∧(Sl 5 b8f o cap es).p (fun b=>W.heap[b]?)∧es.length≤Rows.uptoBulk d∧(∀y ∈ es,y<256)∧
   ∀(W':World) (sp:Nat→Bool),Kept W W'→(∀b<W.heap.size,sp b=true)→DataW.Trod enc prog W' 0 sp true 64 v d p:=
 open_slC (fa:=b8f) (Q:=fun y _=>y<256) _ underlying64 plU8d (by decide +kernel) (fun _=>show 1=_ by decide +kernel) (fun n cs x hx=>by
  cases n with
  | zero=>simp [DataW.trod] at hx
  | succ n=>
   obtain ⟨z,rfl,_,hz⟩:=DataW.trod_int underlying5 hx
   obtain ⟨c,rfl,hc⟩:=u8_wf hz
   exact ⟨c,rfl,hc⟩) (fun _ _ _ h1 _=>h1) hv h
theorem cells_od {M:Nat} {cs:List Value} (hc:CellsL enc prog W M [.p (.i .u8),.l 22,.l 64,.p (.i .i64),.p (.i .i64),.p (.i .i64),.p .s] cs) :
  ∃y:Od,cs=odf y∧(OdF y).p (fun b=>W.heap[b]?)∧Od8 y∧(y.now.length≤M∧y.ru.length≤M∧y.a.t.size≤M):=by
 obtain ⟨w1,c,e1,⟨y1,rfl,i1⟩,k1⟩:=Wm hc
 obtain ⟨w2,c,rfl,⟨⟨a2,len2,cap2,rfl⟩,m2,x2,hx2,hb2⟩,k2⟩:=cellsL_l k1
 obtain ⟨w3,c,rfl,⟨⟨a3,len3,cap3,rfl⟩,m3,x3,hx3,hb3⟩,k3⟩:=cellsL_l k2
 obtain ⟨w4,c,rfl,⟨y4,rfl,i4⟩,k4⟩:=Wm k3
 obtain ⟨w5,c,rfl,⟨y5,rfl,i5⟩,k5⟩:=Wm k4
 obtain ⟨w6,c,rfl,⟨y6,rfl,i6⟩,k6⟩:=Wm k5
 obtain ⟨w7,c,rfl,⟨y7,rfl,i7⟩,k7⟩:=Wm k6
 obtain rfl:=cellsL_nil k7
 obtain ⟨o,cp,es,h1,h2,h3,h4,_⟩:=open_it6s' (d:=x2.1) (p:=x2.2) ⟨a2,len2,cap2,rfl⟩ ⟨m2,hx2⟩
 obtain ⟨o',cp',es',g1,g2,g3,g4,_⟩:=open_b8s' (d:=x3.1) (p:=x3.2) ⟨a3,len3,cap3,rfl⟩ ⟨m3,hx3⟩
 injection h1 with h5 h6 h7
 subst h5 h7
 injection g1 with g5 g6 g7
 subst g5 g7
 obtain ⟨n1,rfl,l1⟩:=u8_wf i1
 have hcs:cs=[.int .u8 (n1:Int),.slice a2 len2 cap2,.slice a3 len3 cap3,.int .i64 y4,.int .i64 y5,.int .i64 y6,.string y7]:=e1
 exact ⟨⟨n1,es,(a2,cap2),es',(a3,cap3),y4,y5,⟨y6,y7⟩⟩,by rw [hcs,h6,g6];rfl,⟨h2,g2⟩,⟨l1,h4,g4,i64_wf i4,i64_wf i5⟩,by show es.length≤_;omega,by show es'.length≤_;omega,i7⟩
theorem open_ods (hv:Value.okWide prog W .any base 23 v) (h:DataW.Trod enc prog W 0 (fun _=>true) true 23 v d p) :
  ∃(o:Option Addr) (cap:Nat) (es:List Od),v = .slice o es.length cap∧((Sl 66 odf o cap es).p (fun b=>W.heap[b]?)∧(OdsF es).p (fun b=>W.heap[b]?))∧es.length≤Rows.uptoBulk d∧(∀y ∈ es,Od8 y∧(y.now.length≤Rows.uptoBulk d∧y.ru.length≤Rows.uptoBulk d∧y.a.t.size≤Rows.uptoBulk d))∧
   ∀(W':World) (sp:Nat→Bool),Kept W W'→(∀b<W.heap.size,sp b=true)→DataW.Trod enc prog W' 0 sp true 23 v d p:=by
 obtain ⟨o,cap,es,h1,h2,h3,h4,h5⟩:=open_slK (fa:=odf) (Q:=fun y M=>(OdF y).p (fun b=>W.heap[b]?)∧Od8 y∧(y.now.length≤M∧y.ru.length≤M∧y.a.t.size≤M)) 66 underlying23 (by decide +kernel) (fun _=>show 7=_ by decide +kernel)
  (fun n cs x hx=>cells_od (W3 n 6 _ _ _ _ okOd slOd hx).1) (fun _ M M' h1 h2=>⟨h1.1,h1.2.1,by obtain ⟨_,_,q1,q2,q3⟩:=h1;exact ⟨by omega,by omega,by omega⟩⟩)
  (fun n cs x hx=>(W3 n 6 _ _ _ _ okOd slOd hx).2) (okWide_slice underlying23 hv) h
 exact ⟨o,cap,es,h1,⟨h2,fun e he=>(h4 e he).1⟩,h3,fun y hy=>(h4 y hy).2,h5⟩
end
end
end Go.Proofs.YtcjfciifhdfjkaaGreatDoor
