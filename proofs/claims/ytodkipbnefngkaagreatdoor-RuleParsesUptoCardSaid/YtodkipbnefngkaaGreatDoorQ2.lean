/-
  Contracts of the package lineage.
  Contracts of the package lineage: Parse, Valid, Ordinals, Compare.
  Search trees of names and values, and the sorted lists that they hold; no program in sight.
  Contracts of cmp.Or and of the package object: Compare, Word, Check.
  The contract of object.Name.Check.
  Contracts of the package state: the search tree.
  Contracts of the package state: with, find.
  More rules for regions that draw their order: what is owned may be set fast, facts may be drawn from facts.
  Contracts of the package state: With.
  Contracts of the package state: the nodes in order, Kind.
  Contracts of the package output: Check, write, Encode, read, Decode.
  Contracts of the package output: ledgers, All.
  The contract of output.All.
  Equality of structs, evaluated; that this is what the model does; rules for it.
  Rules for maps that the program makes.
  Rules for a range over an owned map.
  What a view holds: changes, the last of each name.
  Rules for rows of elements that are owned: made, read and written by index; arrays.
  Rules for owned slices that are changed in place; calls of function values where the order is drawn.
  The contracts of package view: New, Get, Set, Delete.
  Lists that are changed in a window by exchanges: what sorting algorithms do, without a program.
  The contracts of pdqsort at replevin/state.Change, for windows of less than 50 elements.
  A cut behind the first statements of a function: the rest is walked once.
  Numbers that pdqsort reckons with: the length in bits, the next power of two, xorshift.
  Pivots: median of three, choosePivot. (replevin/state.Change)
  Reversal, sifting down. (replevin/state.Change)
  Sorting by a heap. (replevin/state.Change)
  What a partition keeps while it goes on, without a program.
  Partitions. (replevin/state.Change)
  Insertion that gives up. (replevin/state.Change)
  pdqsort, whole. (replevin/state.Change)
  The contract of slices.SortFunc at replevin/state.Change, for at most 200 elements.
  The contracts of package view: Writes.
  The range over a function whose order is open.
  The contracts of package view: Reads.
  A call may read a block that is set aside while the order is drawn.
  The contract of view's Writes, for a view that is only read.
  The contracts of package view: After, for views whose writes fit.
  The counts of a process: EncodeCounts (for counts that fit), DecodeCounts.
  What is written is read again; no program in sight.
  The counts of a process: EncodeCounts, DecodeCounts, Made, SetMade.
  What a reader accepts is what a writer would have written.
  Contracts of the package inode: nodes; Check, Encode, Decode.
  A writer that may have failed; Encode of what does not fit.
  Texts cut as far as they go.
  Arrays of bytes that are owned: parts of them as slices, copy of a text into one, one as a text.
  Contracts of strings.Builder: copyCheck, Write, String.
  Contracts of strings.Builder: WriteString, WriteByte.
  The range over a function, whose rounds leave facts.
  Rules for interface values: calls of their methods, assertions of their types, comparison with nil.
  Rules for parts of texts.
  The language of rules: what the program's scanner and parser compute; no program in sight.
  The contract of consequence.Compare.
  The language of rules: what conditions and templates say of a consequence; no program in sight.
  Templates of the language of rules: the model's reading agrees with the program's; no program in sight.
  Contracts of package rule: the scanner.
  Contracts of package rule: unquote, quote.
  The library's contracts, laid at this program: strings.IndexByte.
  Contracts of package rule: scan.
  Contracts of package rule: the parser's small steps.
  The model's parser of the language of rules, and that it agrees with the program's; no program in sight.
  The program's and the model's parser of the language of rules agree; no program in sight.
  The program's and the model's parser of the language of rules agree: conditions, rules, texts; no program in sight.
  A rule for the literals of maps.
  Package rule: conditions in memory; how tests are read: kinds.
  Rules for texts that are joined.
  Package rule: how tests are read: channels, lineages.
  Package rule: quote.
  Conditions: those that each theorem states.
-/
import Derived.Test.YtodkipbnefngkaaGreatDoorQ1
import Derived.Laws.StructEq
import Derived.ChangeKeysEq
import Derived.Deep.OwnRows
import Derived.Lib.Builder
import Derived.Lib.UnsafeStr
import Derived.Laws.Externs
import Derived.Lib.AtoiAll
import Derived.Lib.ItoaNum
import Derived.Lib.IndexMore
import Derived.Lib.Strings
import Derived.Shelf.Small.Strs
set_option maxRecDepth 10000
namespace Go.Proofs.YtodkipbnefngkaaGreatDoor
open Go.RowKit Go.Proofs.Tryz
variable {n:Nat} {C:Cx} {Q:Exit→Act→World→Prop} {E E':List (Nat×Value)} {F:List Pf} {R:List HP} {k:List Fr} {ops:List Oper} {d:Nat} {t ty0:TypeId} {x y:Operand} {pos:String} {aft:Array Edge} {gd:Option (Nat×Bool)}
section
variable {l:List Oper}
theorem l_sx {s:ByteArray} {z:Int} {rs:TRow} (i:Nat) (hlt:i<s.data.toList.length)
  (nx:Wl n C ops.toArray k Q l ((d,.int .u8 (s.data.toList[i]).toNat)::E) F R)
  (hw:wantL ops E ⟨some d,.index t x y,ty0,pos,aft,gd⟩=some true:=by rfl) (hn:Nat.blt d n=true:=by rfl) (hx:ev E x=some (.string s):=by rfl) (hy:ev E y=some (.int .i64 z):=by rfl)
  (hts:lookT tab t=some rs:=by rfl) (hrs:rs.k = .str:=by rfl) (hz:z=(i:Int):=by first|rfl|omega):Wl n C ops.toArray k Q (⟨some d,.index t x y,ty0,pos,aft,gd⟩::l) E F R:=
 Zh i _ (List.getElem?_eq_getElem hlt) nx hw hn hx hy hts hrs hz
end
theorem VZ {p:UInt8→Bool}:∀(l:List UInt8) (i:Nat),i≤(l.takeWhile p).length→(i<(l.takeWhile p).length↔∃c,l[i]? = some c∧p c=true)
 | [],i,h=>by simp
 | a::l,0,_=>by
  rw [List.takeWhile_cons]
  split
  ·rename_i h;simp [h]
  ·rename_i h;simp [h]
 | a::l,i+1,h=>by
  rw [List.takeWhile_cons] at h ⊢
  split at h
  ·rename_i hp
   simp only [hp,if_true,List.length_cons,List.getElem?_cons_succ] at h ⊢
   have:=VZ (p:=p) l i (by omega)
   rw [←this];omega
  ·simp at h
theorem digs_lt {l:List UInt8} {i:Nat} (h:i≤(digs l).length):i<(digs l).length↔i<7∧∃c,l[i]? = some c∧isDig c=true:=by
 have h1:=VZ (p:=isDig) (l.take 7) i h
 unfold digs
 rw [h1,List.getElem?_take]
 by_cases h7:i<7<;>simp [h7]
theorem digs_get {l:List UInt8} {i:Nat} (h:i<(digs l).length):(digs l)[i]? = l[i]?:=by
 rw [digs_pre l,List.getElem?_take,if_pos h]
theorem dnum_lt:∀(l:List UInt8) (n:Nat),(∀c ∈ l,isDig c=true)→l.foldl (fun n c=>n * 10+(c.toNat - 48)) n<(n+1) * 10 ^ l.length
 | [],n,_=>by simp
 | c::l,n,h=>by
  have h1:=dnum_lt l (n * 10+(c.toNat - 48)) fun d hd=>h d (List.mem_cons_of_mem _ hd)
  have h2:=dig_lt (h c (by simp))
  refine Nat.lt_of_lt_of_le h1 ?_
  rw [List.length_cons,Nat.pow_succ]
  have:(n * 10+(c.toNat - 48)+1)≤(n+1) * 10:=by omega
  calc (n * 10+(c.toNat - 48)+1) * 10 ^ l.length≤((n+1) * 10) * 10 ^ l.length:=Nat.mul_le_mul_right _ this
   _=(n+1) * (10 ^ l.length * 10):=by rw [Nat.mul_assoc,Nat.mul_comm 10]
theorem dnum_take_lt (l:List UInt8) (i:Nat):dnum ((digs l).take i)<10000000:=by
 have h1:=dnum_lt ((digs l).take i) 0 fun c hc=>digs_all l c (List.mem_of_mem_take hc)
 have h2:=(WI l).1
 have h3:((digs l).take i).length≤7:=by simp;omega
 have h4:10 ^ ((digs l).take i).length≤10 ^ 7:=Nat.pow_le_pow_right (by omega) h3
 unfold dnum
 omega
theorem dnum_succ {l:List UInt8} {i:Nat} {c:UInt8} (h:(digs l)[i]? = some c):dnum ((digs l).take (i+1))=dnum ((digs l).take i) * 10+(c.toNat - 48):=by
 rw [List.take_add_one,h]
 exact Vv _ _
def Prt.v (p:Prt):Value:=.agg #[.int .i64 (p.ord:Int),.int .i64 (p.pos:Int),.int .i64 p.e]
def ffirst (l:List UInt8) (pos count:Nat):Prt×Nat:=if ferr l count≠0 then (⟨0,pos,ferr l count⟩,pos) else (⟨dnum (digs l),pos,0⟩,pos+(digs l).length)
theorem wu8 {z:Int} (h:0≤z) (h2:z<256):IntKind.u8.wrap z=z:=by
 simp [IntKind.wrap,IntKind.bits,IntKind.signed];omega
theorem u8eq (c:UInt8):((c.toNat:Int)=48)↔c=48:=by
 constructor
 ·intro h;exact UInt8.toNat_inj.1 (by show c.toNat=48;omega)
 ·intro h;subst h;rfl
theorem first_ok (s:ByteArray) (p count:Nat) (hp:p≤s.size) (hs:s.size≤1099511627776) :
  Enters 158∧Spec prog 158 #[.string s,.int .i64 (p:Int),.int .i64 (count:Int)] [] []
   (RetV (.tuple #[(ffirst (s.data.toList.drop p) p count).1.v,.int .i64 ((ffirst (s.data.toList.drop p) p count).2:Int)])):=by
 have hsz:s.data.toList.length=s.size:=by simp
 generalize hl:s.data.toList.drop p=l
 have hll:l.length=s.size - p:=by rw [←hl];simp
 have hget:∀i,l[i]? = s.data.toList[p+i]?:=fun i=>by rw [←hl,List.getElem?_drop]
 have hd:=WI l
 refine ZR [_,_,_] func158 ntmps158 fun G w hp=>?_
 repeat' (first|refine ZF ?_|refine ZI ?_|refine ZG ?_|refine ZH ?_|refine ZL ?_|refine ZJ ?_|refine ZN ?_|refine ZK (fun b=>?_)|refine ZM (fun b=>?_)|refine ZC ?_|refine ZA ?_|refine ZO ?_|(refine ZB (fun hc=>?_) (fun hc=>?_)<;>(try simp at hc))|(refine ZE (fun hc=>?_) (fun hc=>?_)<;>(try simp at hc)))
 refine k_lpx (X:={i:Nat // i≤(digs l).length}) (Y:=Unit) (fun i=>[(0,.string s),(1,.int .i64 (p:Int)),(2,.int .i64 (count:Int)),(6,.pointer (some ⟨b,0,none⟩)),(8,.int .i64 ((p+i.1:Nat):Int)),(9,.int .i64 (dnum ((digs l).take i.1):Int))]) (fun _=>[]) (fun _=>[Pt b (.cells #[.int .i64 0,.int .i64 0,.int .i64 0] 200)]) (fun i=>(digs l).length - i.1)
  (fun _=>[(0,.string s),(1,.int .i64 (p:Int)),(2,.int .i64 (count:Int)),(6,.pointer (some ⟨b,0,none⟩)),(8,.int .i64 ((p+(digs l).length:Nat):Int)),(9,.int .i64 (dnum (digs l):Int))]) (fun _=>[]) (fun _=>[Pt b (.cells #[.int .i64 0,.int .i64 0,.int .i64 0] 200)])
  ⟨0,by omega⟩ ⟨rfl,rfl,rfl,rfl,rfl,rfl,trivial⟩ ?_ ?_
 ·intro _
  generalize hf:ffirst l p count=r
  unfold ffirst at hf
  have h0:∀h:p<s.data.size,l.head? = some s.data[p]:=fun h=>by
   rw [List.head?_eq_getElem?,hget 0,Nat.add_zero];simp
  have hn:l=[]↔p=s.size:=by rw [←List.length_eq_zero_iff];omega
  have hdn:digs l=[]↔(digs l).length=0:=List.length_eq_zero_iff.symm
  have hss:s.data.size=s.size:=rfl
  repeat' (first|refine ZF ?_|refine ZI ?_|refine ZG ?_|refine ZH ?_|refine ZL ?_|refine ZJ ?_|refine ZN ?_|refine ZK (fun b=>?_)|refine ZM (fun b=>?_)|refine ZC ?_|refine ZA ?_|refine ZO ?_|refine l_sx (s:=s) p (by omega) ?_|rw [wrapi (z:=((p+(digs l).length:Nat):Int) - (p:Int)) (by omega) (by omega)]|(refine ZB (fun hc=>?_) (fun hc=>?_)<;>(try simp at hc))|(refine ZE (fun hc=>?_) (fun hc=>?_)<;>(try simp at hc)))
  ·have e:ferr l count=9:=by rw [ferr,if_pos (by omega)]
   rw [e] at hf;subst hf;exact ZP () rfl trivial
  ·have e:ferr l count=4:=by rw [ferr,if_neg (by omega),if_pos (hn.2 (by omega))]
   rw [e] at hf;subst hf;exact ZP () rfl trivial
  ·have e:ferr l count=6:=by rw [ferr,if_neg (by omega),if_neg (fun e=>by have:=hn.1 e;omega),if_pos (hdn.2 (by omega))]
   rw [e] at hf;subst hf;exact ZP () rfl trivial
  ·have e:ferr l count=3:=by
    rw [ferr,if_neg (by omega),if_neg (fun e=>by have:=hn.1 e;omega),if_neg (fun e=>by have:=hdn.1 e;omega),if_pos]
    rw [h0 (by omega)]
    exact congrArg some ((u8eq _).1 hc)
   rw [e] at hf;subst hf;exact ZP () rfl trivial
  ·have e:ferr l count=2:=by
    rw [ferr,if_neg (by omega),if_neg (fun e=>by have:=hn.1 e;omega),if_neg (fun e=>by have:=hdn.1 e;omega),if_neg,if_pos (by omega)]
    rw [h0 (by omega)]
    intro e
    have:=(u8eq _).2 (Option.some.inj e)
    omega
   rw [e] at hf;subst hf;exact ZP () rfl trivial
  ·have e:ferr l count=0:=by
    rw [ferr,if_neg (by omega),if_neg (fun e=>by have:=hn.1 e;omega),if_neg (fun e=>by have:=hdn.1 e;omega),if_neg,if_neg (by omega)]
    rw [h0 (by omega)]
    intro e
    have:=(u8eq _).2 (Option.some.inj e)
    omega
   rw [e] at hf;subst hf;exact ZP () rfl trivial
 rintro hx ⟨i,hi⟩
 dsimp only
 have hlt:=digs_lt hi
 have hdl:=dnum_take_lt l i
 repeat' (first|refine ZF ?_|refine ZI ?_|refine ZG ?_|refine ZH ?_|refine ZL ?_|refine ZJ ?_|refine ZN ?_|refine ZK (fun b=>?_)|refine ZM (fun b=>?_)|refine ZC ?_|refine ZA ?_|refine ZD (isDigit_ok _) (fun _ _=>?_)|refine l_call0 (isDigit_ok _) (fun _ _=>?_)|refine l_sx (s:=s) (p+i) (by omega) ?_|rw [wrapi (z:=((p+i:Nat):Int) - (p:Int)) (by omega) (by omega)]|(refine ZB (fun hc=>?_) (fun hc=>?_)<;>(try simp at hc))|(refine ZE (fun hc=>?_) (fun hc=>?_)<;>(try simp at hc)))
 ·have hpi:p+i<s.data.size:=by have:s.data.size=s.size:=rfl;omega
  have hcc:l[i]? = some s.data[p+i]:=by rw [hget i];simp
  have hic:isDig s.data[p+i]=true:=by simp [isDig];omega
  have hi2:=hlt.2 ⟨by omega,_,hcc,hic⟩
  have hds:=dnum_succ (i:=i) ((digs_get hi2).trans hcc)
  have e1:s.data.toList[p+i]'(by omega)=s.data[p+i]:=by simp
  have e2:IntKind.i64.wrap (IntKind.i64.wrap ((dnum ((digs l).take i):Int) * 10)+IntKind.i64.wrap (IntKind.u8.wrap ((s.data[p+i].toNat:Int) - 48)))=(dnum ((digs l).take (i+1)):Int):=by
   rw [wu8 (by omega) (by omega),wrapi (z:=(dnum ((digs l).take i):Int) * 10) (by omega) (by omega),wrapi (z:=(s.data[p+i].toNat:Int) - 48) (by omega) (by omega),wrapi (by omega) (by omega),hds]
   omega
  rw [e1,e2,wrapi (z:=((p+i:Nat):Int)+1) (by omega) (by omega)]
  refine ZV ⟨i+1,hi2⟩ (by show (digs l).length - (i+1)<(digs l).length - i;omega) ⟨rfl,rfl,rfl,rfl,rfl,rfl,trivial⟩
 all_goals
  have e:i=(digs l).length:=by
   refine Nat.le_antisymm hi (Nat.le_of_not_lt fun h=>?_)
   obtain ⟨h7,c,hc1,hc2⟩:=hlt.1 h
   rw [hget i] at hc1
   have h8:=(List.getElem?_eq_some_iff.1 hc1).1
   simp [isDig] at hc2
   try (
    have h9:s.data[p+i]? = some c:=by simpa using hc1
    rw [Array.getElem?_eq_getElem (by omega)] at h9
    obtain rfl:=Option.some.inj h9)
   omega
  have e2:dnum ((digs l).take i)=dnum (digs l):=by rw [e,List.take_length]
  exact k_out hx () ⟨rfl,rfl,rfl,rfl,by rw [←e];rfl,by rw [←e2];rfl,trivial⟩
theorem prts_step (s:List UInt8) (p c:Nat) (hp:p≤s.length):p≤(ffirst (s.drop p) p c).2∧(ffirst (s.drop p) p c).2≤s.length∧((ffirst (s.drop p) p c).1.e=0→c≠8)∧
  prts (s.drop p) p c=if (ffirst (s.drop p) p c).1.e≠0 then [(ffirst (s.drop p) p c).1] else match s[(ffirst (s.drop p) p c).2]? with
   | none=>[(ffirst (s.drop p) p c).1]
   | some ch=>if ch≠46 then [(ffirst (s.drop p) p c).1,⟨0,(ffirst (s.drop p) p c).2,6⟩] else (ffirst (s.drop p) p c).1::prts (s.drop ((ffirst (s.drop p) p c).2+1)) ((ffirst (s.drop p) p c).2+1) (c+1):=by
 have hd:=WI (s.drop p)
 have hl:(s.drop p).length=s.length - p:=by simp
 generalize hl':s.drop p=l at *
 unfold ffirst
 by_cases hf:ferr l c=0
 ·rw [if_neg (by simp [hf])]
  refine ⟨by dsimp only;omega,by dsimp only;omega,fun _ h8=>?_,?_⟩
  ·unfold ferr at hf;rw [if_pos h8] at hf;cases hf
  ·conv=>lhs;unfold prts
   rw [if_neg (by simp [hf])]
   dsimp only
   rw [if_neg (by simp)]
   have e1:l.drop (digs l).length=s.drop (p+(digs l).length):=by rw [←hl',List.drop_drop]
   by_cases hlt:p+(digs l).length<s.length
   ·have e2:=List.getElem?_eq_getElem hlt
    have e3:=List.drop_eq_getElem_cons hlt
    rw [e2]
    dsimp only
    split
    ·rename_i h4;rw [e1,e3] at h4;cases h4
    ·rename_i ch rest h4
     rw [e1,e3] at h4
     injection h4 with h5 h6
     rw [h5,h6]
   ·have e2:s[p+(digs l).length]? = none:=List.getElem?_eq_none (by omega)
    rw [e2]
    dsimp only
    split
    ·rfl
    ·rename_i h4
     rw [e1,List.drop_eq_nil_of_le (by omega)] at h4
     cases h4
 ·rw [if_pos hf]
  refine ⟨by dsimp only;omega,by dsimp only;omega,fun h=>absurd h hf,?_⟩
  unfold prts
  rw [if_pos hf]
  simp [hf]
structure PX (s:List UInt8) where
 pre:List Prt
 p:Nat
 c:Nat
 h1:p≤s.length
 h2:c≤8
 h3:lparts s=pre++(if s=[] then [] else prts (s.drop p) p c)
theorem parts1_iter (s:ByteArray) (b:Nat) (hs:s.size≤1099511627776):Iter 157 [.pointer (some ⟨b,0,none⟩)] Prt.v (lparts s.data.toList) [Blk b (.cells #[.string s] 9)] []:=by
 intro v Y I Ix hy
 have hsz:s.data.toList.length=s.size:=by simp
 refine ZR [_,_] func157 ntmps157 fun G w hp=>?_
 repeat' (first|refine ZF ?_|refine ZI ?_|refine ZG ?_|refine ZH ?_|refine ZL ?_|refine ZJ ?_|refine ZN ?_|refine ZK (fun b=>?_)|refine ZM (fun b=>?_)|refine ZC ?_|refine ZA ?_|refine ZO ?_|(refine ZB (fun hc=>?_) (fun hc=>?_)<;>(try simp at hc))|(refine ZE (fun hc=>?_) (fun hc=>?_)<;>(try simp at hc)))
 refine YK (X:=PX s.data.toList) (fun q=>[(0,v),(1,.pointer (some ⟨b,0,none⟩)),(3,.int .i64 (q.p:Int)),(4,.int .i64 (q.c:Int))]) (fun _=>[Y,Blk b (.cells #[.string s] 9)]) (fun q=>[I q.pre]) (fun q=>s.size - q.p) ⟨[],0,0,by omega,by omega,by simp [lparts]⟩ ⟨rfl,rfl,rfl,rfl,trivial⟩ ?_
 rintro ⟨pre,p,c,h1,h2,h3⟩
 dsimp only
 obtain ⟨g1,g2,g3,g4⟩:=prts_step s.data.toList p c h1
 have hf:=first_ok s p c (by omega) hs
 generalize hr:ffirst (s.data.toList.drop p) p c=r at *
 obtain ⟨pt,fe⟩:=r
 dsimp only at *
 have hemp:∀h:(!s.toList == ByteArray.toList ⟨#[]⟩)=false,s.data.toList=[]:=fun h=>by
  simpa [toList_data] using h
 have hne:∀h:(!s.toList == ByteArray.toList ⟨#[]⟩)=true,s.data.toList≠[]:=fun h=>by
  simpa [toList_data] using h
 repeat' (first|refine ZF ?_|refine ZI ?_|refine ZG ?_|refine ZH ?_|refine ZL ?_|refine ZJ ?_|refine ZN ?_|refine ZK (fun b=>?_)|refine ZM (fun b=>?_)|refine ZC ?_|refine ZA ?_|refine ZD (hf) (fun _ _=>?_)|refine l_call0 (hf) (fun _ _=>?_)|refine ZB (fun hc=>?_) (fun hc=>?_)|refine ZE (fun hc=>?_) (fun hc=>?_))
 ·have hne:=hne hc
  rw [if_neg hne,g4] at h3
  have hpre:pre++[pt] <+: lparts s.data.toList:=by
   rw [h3]
   refine (List.prefix_append_right_inj pre).2 ?_
   split
   ·exact List.prefix_refl _
   ·split
    ·exact List.prefix_refl _
    ·split
     ·exact ⟨_,rfl⟩
     ·exact ⟨_,rfl⟩
  refine XE (hy pre pt hpre) (fun bb _=>?_)
  cases bb with
  | false=>
   repeat' (first|refine ZF ?_|refine ZI ?_|refine ZG ?_|refine ZH ?_|refine ZL ?_|refine ZJ ?_|refine ZN ?_|refine ZK (fun b=>?_)|refine ZM (fun b=>?_)|refine ZC ?_|refine ZA ?_|refine ZB (fun hc=>?_) (fun hc=>?_)|refine ZE (fun hc=>?_) (fun hc=>?_))
   exact Zv (Zu (Zi (some (pre++[pt])) rfl (fun q hq=>by cases hq;exact hpre)))
  | true=>
   repeat' (first|refine ZF ?_|refine ZI ?_|refine ZG ?_|refine ZH ?_|refine ZL ?_|refine ZJ ?_|refine ZN ?_|refine ZK (fun b=>?_)|refine ZM (fun b=>?_)|refine ZC ?_|refine ZA ?_|refine ZB (fun hc=>?_) (fun hc=>?_))
   ·have he:pt.e≠0:=by simpa using hc
    rw [if_pos he] at h3
    rw [h3]
    exact Zv (Zu (Zi none rfl (fun q hq=>by cases hq)))
   ·have he:pt.e=0:=by simpa using hc
    rw [if_neg (by simp [he])] at h3
    have g3:=g3 he
    refine ZE (fun hc=>?_) (fun hc=>?_)
    ·have hfe:fe=s.size:=by simp at hc;omega
     have e2:s.data.toList[fe]? = none:=List.getElem?_eq_none (by omega)
     rw [e2] at h3
     dsimp only at h3
     rw [h3]
     exact Zv (Zu (Zi none rfl (fun q hq=>by cases hq)))
    ·have hfe:fe<s.data.toList.length:=by simp at hc;omega
     have e2:=List.getElem?_eq_getElem hfe
     rw [e2] at h3
     dsimp only at h3
     repeat' (first|refine ZF ?_|refine ZI ?_|refine ZG ?_|refine ZH ?_|refine ZL ?_|refine ZJ ?_|refine ZN ?_|refine ZK (fun b=>?_)|refine ZM (fun b=>?_)|refine ZC ?_|refine ZA ?_|refine l_sx (s:=s) fe hfe ?_|refine ZB (fun hc=>?_) (fun hc=>?_)|refine ZE (fun hc=>?_) (fun hc=>?_))
     ·have h46:s.data.toList[fe]≠46:=fun e=>by rw [e] at hc;simp at hc
      rw [if_pos h46] at h3
      refine XE (hy (pre++[pt]) ⟨0,fe,6⟩ (by rw [h3];simp)) (fun bb _=>?_)
      cases bb with
      | false=>
       repeat' (first|refine ZF ?_|refine ZI ?_|refine ZG ?_|refine ZH ?_|refine ZL ?_|refine ZJ ?_|refine ZN ?_|refine ZK (fun b=>?_)|refine ZM (fun b=>?_)|refine ZC ?_|refine ZA ?_|refine ZB (fun hc=>?_) (fun hc=>?_)|refine ZE (fun hc=>?_) (fun hc=>?_))
       exact Zv (Zu (Zi (some (pre++[pt]++[⟨0,fe,6⟩])) rfl (fun q hq=>by cases hq;rw [h3];simp)))
      | true=>
       repeat' (first|refine ZF ?_|refine ZI ?_|refine ZG ?_|refine ZH ?_|refine ZL ?_|refine ZJ ?_|refine ZN ?_|refine ZK (fun b=>?_)|refine ZM (fun b=>?_)|refine ZC ?_|refine ZA ?_|refine ZB (fun hc=>?_) (fun hc=>?_)|refine ZE (fun hc=>?_) (fun hc=>?_))
       have h3:lparts s.data.toList=pre++[pt]++[⟨0,fe,6⟩]:=by rw [h3];simp
       rw [h3]
       exact Zv (Zu (Zi none rfl (fun q hq=>by cases hq)))
     ·have h46:s.data.toList[fe]=46:=UInt8.toNat_inj.1 (by simp at hc;simp;omega)
      rw [if_neg (by simp [h46])] at h3
      rw [wrapi (z:=(fe:Int)+1) (by omega) (by omega),wrapi (z:=(c:Int)+1) (by omega) (by omega)]
      exact ZV ⟨pre++[pt],fe+1,c+1,by omega,by omega,by rw [h3,if_neg hne];simp⟩ (by show s.size - (fe+1)<s.size - p;omega) ⟨rfl,rfl,rfl,rfl,trivial⟩
 ·have hemp:=hemp hc
  rw [if_pos hemp,List.append_nil] at h3
  refine ZO ?_
  rw [h3]
  exact YR none rfl (fun q hq=>by cases hq)
variable {R0:List HP}
section
variable {l:List Oper}
theorem Yo {b:Nat} {o:Obj} (t:Wk n C k Q E (Blk b o::F) R0) (hs:Sel (Pt b o) R R0:=by (repeat (first|exact Sel.here|apply Sel.there));first|done|fail):Wk n C k Q E F R:=
 fun a w ha hsat=>t a w ha (hsat.sel hs).freeze
theorem k_add {f:Pf} (h:∀hp,f.p hp) (t:Wk n C k Q E (f::F) R):Wk n C k Q E F R:=fun a w ha ⟨_,_,st⟩=>t a w ha (add_fact st (h _))
theorem w_open {X:Type} {r:HP} {Lx:X→List HP} {p:X→Prop} (hs:Sel r R R0) (h:∀hh,r hh→∃x,p x∧Sep (Lx x) hh) (t:∀x,p x→Wret n C Q E F (Lx x++R0)):Wret n C Q E F R:=fun a w ha hsat=>by
 obtain ⟨⟨x,hx⟩,h1⟩:=(hsat.sel hs).open' (X:={x // p x}) (L:=fun x=>Lx x.1) fun hh hr=>let ⟨x,h1,h2⟩:=h hh hr;⟨⟨x,h1⟩,h2⟩
 exact t x hx a w ha h1
end
theorem parts_ok (s:ByteArray):Enters 147∧Spec prog 147 #[.string s] [] []
  ⟨Nat,fun b=>.func (.func 157) #[] #[.pointer (some ⟨b,0,none⟩)],fun _=>True,fun b=>[Blk b (.cells #[.string s] 9)],fun _=>[]⟩:=by
 refine ZR [_] func147 ntmps147 fun G w hp=>?_
 repeat' (first|refine ZF ?_|refine ZI ?_|refine ZG ?_|refine ZH ?_|refine ZL ?_|refine ZJ ?_|refine ZN ?_|refine ZK (fun b=>?_)|refine ZM (fun b=>?_)|refine ZC ?_|refine ZA ?_|refine ZO ?_|refine ZB (fun hc=>?_) (fun hc=>?_)|refine ZE (fun hc=>?_) (fun hc=>?_))
 refine Yo ?_
 exact ZP b rfl trivial
def lparse (s:ByteArray):ByteArray×Nat×Int:=
 match (lparts s.data.toList).find? fun p=>p.e != 0 with
 | none=>(s,0,0)
 | some p=>(⟨#[]⟩,p.pos,p.e)
theorem parse_find {pre:List Prt} {e:Prt} {xs:List Prt} (h:pre++[e] <+: xs) (h0:∀x ∈ pre,x.e=0) (he:e.e≠0):xs.find? (fun p=>p.e != 0)=some e:=by
 obtain ⟨t,rfl⟩:=h
 rw [List.append_assoc,List.find?_append]
 have:pre.find? (fun p=>p.e != 0)=none:=List.find?_eq_none.2 fun x hx=>by simp [h0 x hx]
 simp [this,he]
abbrev JL (b2 b3 b4:Nat) (p e:Int):List HP:=[Pt b2 (.cells #[.string ⟨#[]⟩] 22),Pt b3 (.cells #[.int .i64 p] 3),Pt b4 (.cells #[.int .i64 e] 28)]
def JP (b2 b3 b4:Nat) (pre:List Prt):HP:=fun h=>(∀x ∈ pre,x.e=0)∧Sep (JL b2 b3 b4 0 0) h
def JPx (b2 b3 b4:Nat) (pre:List Prt):HP:=fun h=>∃q:List Prt×Prt,(pre=q.1++[q.2]∧(∀x ∈ q.1,x.e=0)∧q.2.e≠0)∧Sep (JL b2 b3 b4 q.2.pos q.2.e) h
theorem parseL_ok (s:ByteArray) (hs:s.size≤1099511627776):Enters 115∧Spec prog 115 #[.string s] [] []
  (RetV (.tuple #[.string (lparse s).1,.int .i64 ((lparse s).2.1:Int),.int .i64 (lparse s).2.2])):=by
 refine ⟨enters_of func115 (by kernel_rfl) rfl,spec_ofM (vs:=[_]) func115 rfl ntmps115 rfl fun G w hp=>?_⟩
 repeat' (first|refine ZF ?_|refine ZI ?_|refine ZG ?_|refine ZH ?_|refine ZL ?_|refine ZJ ?_|refine ZN ?_|refine ZK (fun b=>?_)|refine ZM (fun b=>?_)|refine ZC ?_|refine ZA ?_|refine ZO ?_|refine Zb ?_|refine Zc ?_|refine Zq ?_|refine Zd ?_|refine r_ldN ?_|refine Zr (fun b=>?_)|refine Zo (fun b=>?_)|refine Zp ?_|refine Za ?_|refine ZD (parts_ok _) (fun _ _=>?_)|refine l_call0 (parts_ok _) (fun _ _=>?_)|refine ZQ (parts_ok _) (fun _ _=>?_)|refine ZB (fun hc=>?_) (fun hc=>?_)|refine ZU (fun hc=>?_) (fun hc=>?_)|refine ZT 4 [] [(0,0),(1,0),(2,0),(3,0),(4,4),(5,4)] [6] ?_|refine ZE (fun hc=>?_) (fun hc=>?_))
 rename_i b2 b3 q _
 generalize b=b4
 refine Z1 (r:=JP b2 b3 b4 []) (Lx:=JL b2 b3 b4 0 0) (fun h hh=>⟨fun x hx=>(by cases hx),hh⟩) ?_
 refine k_range (α:=Prt) (enc:=Prt.v) (xs:=lparts s.data.toList) (JP b2 b3 b4) (JPx b2 b3 b4) (parts1_iter s q hs) ?_ ?_ ?_
 ·intro lr l pre e hpre G w0 hp0
  refine Yu (X:=Unit) (Lx:=fun _=>JL b2 b3 b4 0 0) (p:=fun _=>∀x ∈ pre,x.e=0) (r:=JP b2 b3 b4 pre) (.there .here) (fun h hh=>⟨(),hh.1,hh.2⟩) (fun _ hall=>?_)
  repeat' (first|refine ZF ?_|refine ZI ?_|refine ZG ?_|refine ZH ?_|refine ZL ?_|refine ZJ ?_|refine ZN ?_|refine ZK (fun b=>?_)|refine ZM (fun b=>?_)|refine ZC ?_|refine ZA ?_|refine ZO ?_|refine Zb ?_|refine Zc ?_|refine Zq ?_|refine Zd ?_|refine r_ldN ?_|refine Zr (fun b=>?_)|refine Zo (fun b=>?_)|refine Zp ?_|refine Za ?_|refine k_beg ?_|refine ZB (fun hc=>?_) (fun hc=>?_)|refine ZU (fun hc=>?_) (fun hc=>?_)|refine ZT 4 [Pt b2 (.cells _ _ _),Pt b3 (.cells _ _ _),Pt b4 (.cells _ _ _)] [(0,0),(1,0),(2,0),(3,0),(4,4),(5,4),(6,4)] [] ?_|refine ZE (fun hc=>?_) (fun hc=>?_))
  ·have he:e.e≠0:=by simpa using hc
   refine Z1 (Lx:=JL b2 b3 b4 e.pos e.e) (r:=JPx b2 b3 b4 (pre++[e])) (fun h hh=>⟨(pre,e),⟨rfl,hall,he⟩,hh⟩) ?_
   exact k_rr
  ·have he:e.e=0:=by simpa using hc
   refine Z1 (Lx:=JL b2 b3 b4 0 0) (r:=JP b2 b3 b4 (pre++[e])) (fun h hh=>⟨fun x hx=>?_,hh⟩) ?_
   ·rcases List.mem_append.1 hx with hx|hx
    ·exact hall x hx
    ·simp at hx;subst hx;exact he
   exact k_rn
 ·intro D
  refine Yu (X:=Unit) (Lx:=fun _=>JL b2 b3 b4 0 0) (p:=fun _=>∀x ∈ lparts s.data.toList,x.e=0) (r:=JP b2 b3 b4 (lparts s.data.toList)) .here (fun h hh=>⟨(),hh.1,hh.2⟩) (fun _ hall=>?_)
  have hp:lparse s=(s,0,0):=by
   have:(lparts s.data.toList).find? (fun p=>p.e != 0)=none:=List.find?_eq_none.2 fun x hx=>by simp [hall x hx]
   rw [lparse,this]
  rw [hp]
  repeat' (first|refine ZF ?_|refine ZI ?_|refine ZG ?_|refine ZH ?_|refine ZL ?_|refine ZJ ?_|refine ZN ?_|refine ZK (fun b=>?_)|refine ZM (fun b=>?_)|refine ZC ?_|refine ZA ?_|refine ZO ?_|refine Zb ?_|refine Zc ?_|refine Zq ?_|refine Zd ?_|refine r_ldN ?_|refine Zr (fun b=>?_)|refine Zo (fun b=>?_)|refine Zp ?_|refine Za ?_|refine ZB (fun hc=>?_) (fun hc=>?_)|refine ZU (fun hc=>?_) (fun hc=>?_)|refine ZT 4 [] [(0,0),(1,0),(2,0),(3,0),(4,4),(5,4)] [6] ?_|refine ZE (fun hc=>?_) (fun hc=>?_))
  exact k_retM () rfl trivial
 ·intro D pre hpre
  refine w_open (X:=List Prt×Prt) (Lx:=fun q=>JL b2 b3 b4 q.2.pos q.2.e) (r:=JPx b2 b3 b4 pre) .here (fun h hh=>hh) (fun q hq=>?_)
  obtain ⟨rfl,h1,h2⟩:=hq
  rw [lparse,parse_find hpre h1 h2]
  exact w_retM () rfl trivial
theorem lparse_valid (s:ByteArray):((lparse s).2.2 == 0)=lvalid s.data.toList:=by
 unfold lparse lvalid
 cases h:(lparts s.data.toList).find? fun p=>p.e != 0 with
 | none=>
  have h1:=List.find?_eq_none.1 h
  simp at h1
  symm
  simpa using h1
 | some p=>
  have h1:=List.find?_some h
  have h2:=List.mem_of_find?_eq_some h
  simp at h1
  have e1:(p.e == 0)=false:=by simpa using h1
  dsimp only
  rw [e1]
  symm
  rw [List.all_eq_false]
  exact ⟨p,h2,by simpa using h1⟩
theorem Vk (s:ByteArray) (hs:s.size≤1099511627776):Enters 81∧Spec prog 81 #[.string s] [] [] (RetV (.bool (lvalid s.data.toList))):=by
 refine ZR [_] func81 ntmps81 fun G w hp=>?_
 repeat' (first|refine ZF ?_|refine ZI ?_|refine ZG ?_|refine ZH ?_|refine ZL ?_|refine ZJ ?_|refine ZN ?_|refine ZK (fun b=>?_)|refine ZM (fun b=>?_)|refine ZC ?_|refine ZA ?_|refine ZO ?_|refine ZD (parseL_ok s hs) (fun _ _=>?_)|refine l_call0 (parseL_ok s hs) (fun _ _=>?_)|refine ZB (fun hc=>?_) (fun hc=>?_)|refine ZE (fun hc=>?_) (fun hc=>?_))
 refine ZP () ?_ trivial
 rw [←lparse_valid];rfl
def zf (z:Int):List Value:=[.int .i64 z]
def ords (l:List Prt):List Int:=l.map fun p=>(p.ord:Int)
abbrev Al:=List (Nm×ByteArray)
inductive Tr where
 | nil
 | node (l:Tr) (a:Nm) (v:ByteArray) (r:Tr)
namespace Tr
def ht:Tr→Nat
 | nil=>0
 | node l _ _ r=>1+max l.ht r.ht
def sz:Tr→Nat
 | nil=>0
 | node l _ _ r=>1+l.sz+r.sz
def by_:Tr→Nat
 | nil=>0
 | node l _ v r=>v.size+l.by_+r.by_
def els:Tr→Al
 | nil=>[]
 | node l a v r=>l.els++(a,v)::r.els
def bal (l:Tr) (a:Nm) (v:ByteArray) (r:Tr):Tr:=
 if r.ht+1<l.ht then
  match l with
  | nil=>node l a v r
  | node ll la lv lr=>
   if lr.ht≤ll.ht then node ll la lv (node lr a v r)
   else match lr with
    | nil=>node l a v r
    | node il ia iv ir=>node (node ll la lv il) ia iv (node ir a v r)
 else if l.ht+1<r.ht then
  match r with
  | nil=>node l a v r
  | node rl ra rv rr=>
   if rl.ht≤rr.ht then node (node l a v rl) ra rv rr
   else match rl with
    | nil=>node l a v r
    | node il ia iv ir=>node (node l a v il) ia iv (node ir ra rv rr)
 else node l a v r
def put (a:Nm) (v:ByteArray):Tr→Tr
 | nil=>node nil a v nil
 | node l b u r=>if cmpO a b<0 then bal (put a v l) b u r else if 0<cmpO a b then bal l b u (put a v r) else node l a v r
def find (a:Nm):Tr→Option ByteArray
 | nil=>none
 | node l b u r=>if cmpO a b=0 then some u else if cmpO a b<0 then find a l else find a r
def ab (l:Al):Nat:=(l.map fun x=>x.2.size).sum
end Tr
def Srt (l:Al):Prop:=l.Pairwise fun x y=>cmpO x.1 y.1<0
def insO (a:Nm) (v:ByteArray):Al→Al
 | []=>[(a,v)]
 | (b,u)::l=>if cmpO a b<0 then (a,v)::(b,u)::l else if 0<cmpO a b then (b,u)::insO a v l else (a,v)::l
def getO (a:Nm):Al→Option ByteArray
 | []=>none
 | (b,u)::l=>if cmpO a b=0 then some u else getO a l
theorem cmpO_eq (a b:Nm):cmpO a b=0↔a=b:=ord_obj.eq a b
def or0:List Int→Int
 | []=>0
 | x::l=>if x≠0 then x else or0 l
structure Usage where
 word:ByteArray
 owner:Bool
 number:Bool
 index:Bool
 text:Bool
 most:Int
 deriving Inhabited
def uf (u:Usage):List Value:=[.string u.word,.bool u.owner,.bool u.number,.bool u.index,.bool u.text,.int .i64 u.most]
def usages:List Usage:=[
 ⟨⟨#[]⟩,false,false,false,false,0⟩,
 ⟨⟨#[112,114,111,99,101,115,115]⟩,true,false,false,false,0⟩,
 ⟨⟨#[114,101,103,105,115,116,101,114,115]⟩,true,false,false,false,0⟩,
 ⟨⟨#[112,97,103,101]⟩,true,false,true,false,63⟩,
 ⟨⟨#[116,97,98,108,101]⟩,true,false,false,false,0⟩,
 ⟨⟨#[99,111,117,110,116,101,114]⟩,true,false,false,false,0⟩,
 ⟨⟨#[112,101,110,100,105,110,103]⟩,true,false,false,false,0⟩,
 ⟨⟨#[110,111,100,101]⟩,true,true,false,false,0⟩,
 ⟨⟨#[98,108,111,99,107]⟩,true,true,true,false,63⟩,
 ⟨⟨#[101,110,116,114,121]⟩,true,true,false,true,0⟩,
 ⟨⟨#[108,105,115,116,105,110,103]⟩,true,true,false,false,0⟩,
 ⟨⟨#[112,105,112,101]⟩,true,true,false,false,0⟩,
 ⟨⟨#[108,111,99,107]⟩,true,true,false,false,0⟩,
 ⟨⟨#[116,101,114,109,105,110,97,108]⟩,false,true,false,false,0⟩,
 ⟨⟨#[97,99,99,111,117,110,116]⟩,false,false,false,true,0⟩,
 ⟨⟨#[99,108,111,99,107]⟩,false,false,false,false,0⟩,
 ⟨⟨#[112,111,114,116]⟩,false,true,false,false,0⟩,
 ⟨⟨#[98,111,120]⟩,false,false,false,true,0⟩,
 ⟨⟨#[111,117,116]⟩,true,true,true,false,1073741824⟩,
 ⟨⟨#[115,104,101,108,108]⟩,true,false,false,false,0⟩,
 ⟨⟨#[101,112,111,99,104]⟩,false,false,false,false,0⟩]
variable {F0:List Pf}
section
variable {l:List Oper}
end
def isE (s:ByteArray):Bool:=s.toList == ByteArray.toList ⟨#[]⟩
def badc (c:UInt8):Bool:=decide ((c.toNat:Int)<33) || (decide ((126:Int)<c.toNat) || ((c.toNat:Int) == 47))
def oword (s:ByteArray):Bool:=!isE s && decide (s.size≤32) && s.data.toList.all fun c=>!badc c
def within (x m:Int):Bool:=decide (0≤x) && decide (x≤m)
def uchk (u:Usage) (a:Nm):Int:=
 if (!u.owner && !isE a.owner) || (!u.number && a.number != 0) || (!u.index && a.index != 0) || (!u.text && !isE a.text) then 1
 else if u.owner && !lvalid a.owner.data.toList then 12
 else if (u.number && !within a.number 1073741824) || (u.index && !within a.index u.most) then 2
 else if u.text && !oword a.text then 12
 else 0
def nchk (a:Nm):Int:=if 1≤a.kind∧a.kind≤20 then uchk (usages.getD a.kind.toNat default) a else 11
end Go.Proofs.YtodkipbnefngkaaGreatDoor
set_option maxRecDepth 10000
set_option maxHeartbeats 4000000
namespace Go.Proofs.YtodkipbnefngkaaGreatDoor
open Go.Proofs.Tryz
open Go.RowKit
theorem klt {a:Nm} (hk:1≤a.kind∧a.kind≤20):a.kind.toNat<usages.length:=by show a.kind.toNat<21;omega
def okf (u:Usage):Bool:=(u.owner || !u.index) && (u.owner || !(u.number && u.text)) && !(u.index && u.text) && (!(u.owner && u.text) || u.number)
end Go.Proofs.YtodkipbnefngkaaGreatDoor
namespace Go.Proofs.YtodkipbnefngkaaGreatDoor
open Go.RowKit Go.Proofs.Tryz
variable {n:Nat} {C:Cx} {Q:Exit→Act→World→Prop} {E E':List (Nat×Value)} {F F1:List Pf} {R R0:List HP} {k:List Fr} {ops:List Oper}
section
variable {l:List Oper}
theorem Zn {f:Pf} (h:∀hp,(∀x ∈ F1,x.p hp)→f.p hp) (t:Wk n C k Q E (f::F) R) (hF:EntF F F1:=by (repeat (first|exact trivial|exact Sel.here|apply Sel.there|apply EntF.cons));first|done|fail):Wk n C k Q E F R:=
 fun a w ha ⟨hp,_,st⟩=>t a w ha (add_fact st (h hp (hF.all hp st.f)))
end
variable {F0:List Pf}
section
variable {l:List Oper}
end
structure Okt (t:Tr):Prop where
 s:t.sz≤1000000
 b:t.by_≤1000000000000
 o:∀x ∈ t.els,x.1.owner.size≤1099511627770
theorem Okt.l {l r:Tr} {b:Nm} {u:ByteArray} (h:Okt (.node l b u r)):Okt l:=by
 have h1:=h.s
 have h2:=h.b
 simp only [Tr.sz] at h1
 simp only [Tr.by_] at h2
 exact ⟨by omega,by omega,fun x hx=>h.o x (by simp [Tr.els,hx])⟩
theorem Okt.r {l r:Tr} {b:Nm} {u:ByteArray} (h:Okt (.node l b u r)):Okt r:=by
 have h1:=h.s
 have h2:=h.b
 simp only [Tr.sz] at h1
 simp only [Tr.by_] at h2
 exact ⟨by omega,by omega,fun x hx=>h.o x (by simp [Tr.els,hx])⟩
theorem Okt.m {l r:Tr} {b:Nm} {u:ByteArray} (h:Okt (.node l b u r)):b.owner.size≤1099511627770:=h.o (b,u) (by simp [Tr.els])
section
end
structure FX (a:Nm) (t:Tr) where
 q:Option Addr
 s:Tr
 h1:Tr.find a t=Tr.find a s
 h2:Okt s
structure StOK (es:Al):Prop where
 srt:Srt es
 len:es.length≤65536
 own:∀x ∈ es,x.1.owner.size≤1099511627770
 val:∀x ∈ es,x.2.size≤65536
section
end
variable {F' Fs:List Pf} {R' Rs N N' A:List HP} {k':List Fr} {L L':List (Nat×Nat)} {Tl:List Nat}
section
def ImpR (F:List Pf) (N:List HP) (F':List Pf) (N':List HP):Prop:=∀G w hp w',Sat G w hp F N w'→Sat G w hp F' N' w'
theorem ImpR.more {F F':List Pf} {N N':List HP} (h:ImpR F N F' N') (r:HP):ImpR F (r::N) F' (r::N'):=by
 intro G w hp w' hs
 have h0:Sat G w hp F (N++[r]) w':=hs.res fun k hk=>by
  have:=(VO N r []).sep (h:=k) (by simpa using hk)
  simpa using this
 obtain ⟨G',hp',h1,h2⟩:=Wg (F1:=F) (A:=N) (R':=[r]) (hs:=h0) (sel:=by
  have:∀(A B:List HP),Sels A (A++B) B:=fun A B=>by
   induction A with
   | nil=>exact .nil
   | cons x A ih=>exact .cons .here ih
  exact this N [r]) fun _ h=>h
 have h3:=h2 _ _ _ (h _ _ _ _ h1)
 refine (h3.facts (F':=F') fun hp hF x hx=>hF x (List.mem_append_left _ hx)).res fun k hk=>?_
 obtain ⟨k1,k2,d,s1,s2,a1,a2⟩:=Y2 hk
 obtain ⟨j1,j2,d',t1,t2,b1,_⟩:=a2
 exact ⟨j1,k1,(d.symm.sub t1),t1.trans s2,s1,b1,a1⟩
section
variable {P:Program} {T:Tab} {ds:List Deferred} {ops:Array Oper} {End:Env→List Pf→List HP→Prop}
theorem WS.imp (hEnd:∀e F N F' N',ImpR F N F' N'→End e F' N'→End e F N):∀(L:List (Nat×Nat)) (hs:H) (e:Env) (F:List Pf) (N:List HP) (F':List Pf) (N':List HP),(L.all fun y=>y.2 != 5)=true→ImpR F N F' N'→WS P T n ds ops hs End L e F' N'→WS P T n ds ops hs End L e F N
 | [],_,e,F,N,F',N',_,p,h=>hEnd e F N F' N' p h
 | (i,k)::L,hs,e,F,N,F',N',h5,p,h=>by
  rw [List.all_cons,Bool.and_eq_true] at h5
  obtain ⟨h50,h5⟩:=h5
  intro o ho
  have h:=h o ho
  cases hw:wantF ops e o with
  | none=>simp only [hw] at h
  | some b=>
   cases b with
   | false=>
    simp only [hw] at h
    exact WS.imp hEnd L _ _ F N F' N' h5 p h
   | true=>
    simp only [hw] at h
    split at h
    ·obtain ⟨v,h1,h2⟩:=h
     exact ⟨v,h1,WS.imp hEnd L _ _ F N F' N' h5 p h2⟩
    ·obtain ⟨obj,mk,h1,h2⟩:=h
     exact ⟨obj,mk,h1,fun b=>WS.imp hEnd L _ _ F (Pt b obj::N) F' (Pt b obj::N') h5 (p.more _) (h2 b)⟩
    ·obtain ⟨obj,mk,h1,h2⟩:=h
     exact ⟨obj,mk,h1,fun b hb=>WS.imp hEnd L _ _ F N F' N' h5 p (h2 b hb)⟩
    ·obtain ⟨v,h1,h2⟩:=h
     exact ⟨v,fun a G w hp ha hsub hsat=>h1 a G w hp ha hsub (p _ _ _ _ hsat),WS.imp hEnd L _ _ F N F' N' h5 p h2⟩
    ·obtain ⟨post,h1,h2⟩:=h
     exact ⟨post,fun a G w hp ha hsub hsat=>h1 a G w hp ha hsub (p _ _ _ _ hsat),h2⟩
    ·cases h50
    ·exact h.elim
end
variable {l:List Oper}
theorem Spec.imp {P:Program} {f:FuncId} {args:Array Value} {post post':Post} (h:Spec P f args F R post)
  (k:∀G w hp x w',post.pure x→Sat G w hp (post.F x) (post.R x) w'→post'.holds G w hp (.returned (post.val x)) w'):Spec P f args F R post':=fun G w hp hs=>
 (h G w hp hs).mono (by rintro e w' ⟨x,rfl,hx,hs⟩;exact k G w hp x w' hx hs)
end
def withE (es:Al) (a:Nm) (v:ByteArray):Int:=if nchk a≠0 then 12 else if 65536<v.size then 5 else if 65536≤es.length∧getO a es=none then 9 else 0
abbrev El:=Nat×Nm×ByteArray
def elv (e:El):Value:=.pointer (some ⟨e.1,0,none⟩)
inductive AT where
 | nil
 | node (b:Nat) (l:AT) (a:Nm) (v:ByteArray) (r:AT)
namespace AT
def ptr:AT→Option Addr
 | nil=>none
 | node b _ _ _ _=>some ⟨b,0,none⟩
def tr:AT→Tr
 | nil=>.nil
 | node _ l a v r=>.node l.tr a v r.tr
def els:AT→List El
 | nil=>[]
 | node b l a v r=>l.els++(b,a,v)::r.els
end AT
def EPost {α:Type} (I Ix:List α→HP) (ys xs:List α):Post:=⟨Option (List α),fun r=>.bool r.isNone,fun r=>∀q,r=some q→q <+: xs,fun _=>[],fun r=>[match r with|none=>I ys|some q=>Ix q]⟩
def nmf (a:Nm):List Value:=[.int .i64 a.kind,.string a.owner,.int .i64 a.number,.int .i64 a.index,.string a.text]
def kn (es:Al) (k:Int):List Nm:=(es.filter fun x=>x.1.kind == k).map (·.1)
def kne (l:List El) (k:Int):List Nm:=(l.filter fun x=>x.2.1.kind == k).map (·.2.1)
structure Ou where
 ch:Int
 tg:ByteArray
 tx:ByteArray
 us:Int
 deriving DecidableEq
def ouf (o:Ou):List Value:=[.int .i64 o.ch,.string o.tg,.string o.tx,.int .i64 o.us]
def Ou.v (o:Ou):Value:=.agg #[.int .i64 o.ch,.string o.tg,.string o.tx,.int .i64 o.us]
def bad2 (c:UInt8):Bool:=decide ((c.toNat:Int)<33) || decide ((126:Int)<c.toNat)
def ochk (o:Ou):Int:=
 if o.ch<1∨4<o.ch then 11
 else if isE o.tg then 4
 else if 64<o.tg.size then 5
 else if o.tg.data.toList.any bad2 then 6
 else if 4096<o.tx.size then 5
 else if o.us<0∨65535<o.us then 2
 else 0
def oenc (o:Ou):List UInt8:=venc o.ch.toNat++(venc o.tg.size++o.tg.data.toList)++(venc o.tx.size++o.tx.data.toList)++venc o.us.toNat
def oencS (o:Ou):ByteArray:=if ochk o=0 then ⟨(oenc o).toArray⟩ else ⟨#[]⟩
def oread (s:RS):Ou×RS:=
 let (ch,s1):=rnum s 4
 let (tg,s2):=rtext s1 64
 let (tx,s3):=rtext s2 4096
 let (us,s4):=rnum s3 65535
 (⟨ch,tg,tx,us⟩,s4)
def odec (s:ByteArray):Option Ou:=
 let r:=oread ⟨s.data.toList,0,0⟩
 if r.2.err=0∧r.2.rest=[]∧ochk r.1=0 then some r.1 else none
def Ou.z:Ou:=⟨0,⟨#[]⟩,⟨#[]⟩,0⟩
variable {d:Nat} {t ty0:TypeId} {x y:Operand} {pos:String} {aft:Array Edge} {gd:Option (Nat×Bool)} {b:Nat}
section
variable {l:List Oper} {i:Nat} {off:Nat} {cs:Array Value} {ty:TypeId} {fzn:Nat×Nat} {v:Value}
end
structure En where
 who:ByteArray
 nu:Int
 tk:Int
 o:Ou
 deriving DecidableEq
def enf (e:En):List Value:=[.string e.who,.int .i64 e.nu,.int .i64 e.tk,.int .i64 e.o.ch,.string e.o.tg,.string e.o.tx,.int .i64 e.o.us]
structure Lf where
 e:En
 tm:Int
 rd:Int
 deriving DecidableEq
def lff (x:Lf):List Value:=[.string x.e.who,.int .i64 x.e.nu,.int .i64 x.e.tk,.int .i64 x.e.o.ch,.string x.e.o.tg,.string x.e.o.tx,.int .i64 x.e.o.us,.int .i64 x.tm,.int .i64 x.rd]
def Lf.v (x:Lf):Value:=.agg #[.string x.e.who,.int .i64 x.e.nu,.int .i64 x.e.tk,.int .i64 x.e.o.ch,.string x.e.o.tg,.string x.e.o.tx,.int .i64 x.e.o.us,.int .i64 x.tm,.int .i64 x.rd]
def tick (z:Int):Bool:=decide (0≤z) && decide (z≤1073741824)
def lchk (x:Lf):Int:=
 if lvalid x.e.who.data.toList=false then 12
 else if x.e.nu<0∨1048576<x.e.nu∨tick x.e.tk=false∨tick x.tm=false∨x.rd<0∨1048576<x.rd then 2
 else ochk x.e.o
def late (ls:List Lf) (x:Lf):Bool:=match ls.getLast? with|some y=>decide (x.tm<y.tm) || decide (x.rd<y.rd)|none=>false
def leaveE (ls:List Lf) (x:Lf):Int:=if lchk x≠0 then lchk x else if late ls x then 32 else if 100000≤ls.length then 9 else 0
section
structure RowAt (sz m cap:Nat) (xs:List Value) (o:Option Addr) (q:Nat×List Value×(Nat×Nat)):Prop where
 o:o=some ⟨q.1,0,none⟩
 l:xs.length=m * sz
 c:(xs++q.2.1).length=cap * sz
 m:m≤cap
 f:q.2.2=(0,0)∨(xs++q.2.1).length≤q.2.2.1
end
section
end
section
end
section
theorem YD {T sz m m' cap:Nat} {o:Option Addr} (xs xs':List Value) (hm:m=m') (hx:xs=xs') (t:Wk n C k Q E F (Row T sz o m' cap xs'::R0)) (hs:Sel (Row T sz o m cap xs) R R0:=by (repeat (first|exact Sel.here|apply Sel.there));first|done|fail):Wk n C k Q E F R:=by
 subst hm;subst hx
 exact fun a w ha hsat=>t a w ha (hsat.sel hs)
end
def entO (es:Al) (a:Nm):Option En:=(odec ((getO a es).getD ⟨#[]⟩)).map fun o=>⟨a.owner,a.number,a.index,o⟩
def allN (es:Al) (ns:List Nm):List En:=ns.filterMap (entO es)
def allE (es:Al):List En:=allN es (kn es 18)
structure AX (es:Al) where
 i:Nat
 o:Option Addr
 cap:Nat
 hi:i≤(kn es 18).length
def partv (t:Nat) (cs:List Value) (o:Nat):Option Value:=ldv t cs o
theorem Vn {t:Nat} {cs:Array Value} {o:Nat} {v:Value} (h:partv t cs.toList o=some v) (w:World):(part t cs o).run prog w = .ok v w:=by
 unfold partv ldv at h
 have hag:∀r:TRow,lookT tab t=some r→r.k.isAgg=true→r.k≠.other→cutF cs.toList o r.size (fun l=>some (Value.agg l.toArray))=some v→(part t cs o).run prog w = .ok v w:=fun r hr ha ho hc=>by
  obtain ⟨h2,_,h3⟩:=Vc _ _ _ _ _ hc
  have hia:=Zt.isAgg hr ho w
  rw [ha] at hia
  have hsz:=Zt.sizeOf hr w
  unfold part
  simp only [Sem.run_bind,hia,Result.andThen,if_true,hsz,Sem.run_pure]
  rw [←Option.some.inj h2]
  congr 2
  rw [←Array.toList_inj]
  simp [List.extract_eq_take_drop]
 have hno:∀r:TRow,lookT tab t=some r→r.k.isAgg=false→r.k≠.other→nth cs.toList o=some v→(part t cs o).run prog w = .ok v w:=fun r hr ha ho hc=>by
  have hia:=Zt.isAgg hr ho w
  rw [ha] at hia
  rw [Y4] at hc
  have hc:cs[o]? = some v:=by simpa using hc
  unfold part
  simp only [Sem.run_bind,hia,Result.andThen,Bool.false_eq_true,if_false,hc,Sem.run_pure]
 split at h
 ·rename_i hr;exact hag _ hr rfl (by simp) h
 ·rename_i hr;exact hag _ hr rfl (by simp) h
 ·cases h
 ·rename_i r hn1 hn2 hn3 hr
  refine hno _ hr ?_ ?_ h
  ·cases hk2:r.k<;>simp [TK.isAgg]<;>(obtain ⟨k,s1,b1,z1⟩:=r;simp at hk2;subst hk2;first|exact hn1 _ _ _ _ rfl|exact hn2 _ _ _ _ _ rfl)
  ·intro hk2;obtain ⟨k,s1,b1,z1⟩:=r;simp at hk2;subst hk2;exact hn3 _ _ _ rfl
 ·cases h
def memN:List Nat→Nat→Bool
 | [],_=>false
 | s::l,t=>match Nat.beq s t with
  | true=>true
  | false=>memN l t
theorem memN_mem:∀{l:List Nat} {t:Nat},memN l t=true→t ∈ l
 | s::l,t,h=>by
  unfold memN at h
  split at h
  ·rename_i hb
   obtain rfl:=Nat.eq_of_beq_eq_true hb
   simp
  ·exact List.mem_cons_of_mem _ (memN_mem h)
def eqFs (g:Nat→Value→Value→Option Bool):List (Nat×Nat×Nat)→List Value→List Value→Option Bool
 | [],_,_=>some true
 | (o,t,_)::fs,xs,ys=>match partv t xs o,partv t ys o with
  | some a,some b=>match g t a b with
   | some r=>match eqFs g fs xs ys with
    | some r'=>some (r && r')
    | none=>none
   | none=>none
  | _,_=>none
def eqIs (g:Value→Value→Option Bool) (e c:Nat) (xs ys:List Value):List Nat→Option Bool
 | []=>some true
 | i::is=>match partv e xs (i * c),partv e ys (i * c) with
  | some a,some b=>match g a b with
   | some r=>match eqIs g e c xs ys is with
    | some r'=>some (r && r')
    | none=>none
   | none=>none
  | _,_=>none
def eqC (S:List Nat):Nat→Nat→Value→Value→Option Bool
 | 0,_,_,_=>none
 | f+1,t,x,y=>match lookT tab t with
  | some ⟨.int _,_,_,_⟩=>match x,y with
   | .int k a,.int l b=>bif ikEq k l then some (a == b) else none
   | _,_=>none
  | some ⟨.str,_,_,_⟩=>match x,y with
   | .string a,.string b=>some (a.toList == b.toList)
   | _,_=>none
  | some ⟨.bool,_,_,_⟩=>match x,y with
   | .bool a,.bool b=>some (a == b)
   | _,_=>none
  | some ⟨.struct fs,_,_,_⟩=>match x,y with
   | .agg xs,.agg ys=>bif memN S t then eqFs (eqC S f) fs xs.toList ys.toList else none
   | _,_=>none
  | some ⟨.arr n e,_,_,_⟩=>match lookT tab e,x,y with
   | some re,.agg xs,.agg ys=>eqIs (eqC S f e) e re.size xs.toList ys.toList (List.range n)
   | _,_,_=>none
  | _=>none
noncomputable def chkE (t : Nat) : Bool := (match prog.underlying t with | some (.struct fs) => fs.toList.all (fun f => f.name != "_") | some (.array _ _) => true | _ => false) && (prog.stoodInHeld t == false) && (prog.eqGuardType prog.depth t == false)
theorem eqFs_ok {g:Nat→Value→Value→Option Bool} {d:Nat} (hg:∀t x y b w,g t x y=some b→(Op.equalIn d t x y).run prog w = .ok b w):∀(fl:List Field) (fs:List (Nat×Nat×Nat)) (xs ys:Array Value) (b:Bool) (w:World),
  fl.map (fun f => (f.offset, f.type, ((prog.info? f.type).map (·.size)).getD 0)) = fs → fl.all (fun f => f.name != "_") = true → eqFs g fs xs.toList ys.toList = some b → (Op.eqFields d xs ys fl).run prog w = .ok b w
 | [],_,_,_,b,w,h,_,he=>by
  subst h
  obtain rfl:=Option.some.inj he
  rfl
 | f::fl,_,xs,ys,b,w,h,hn,he=>by
  subst h
  simp only [List.map_cons,eqFs] at he
  simp only [List.all_cons,Bool.and_eq_true,bne_iff_ne,ne_eq] at hn
  split at he
  ·rename_i a c ha hc
   split at he
   ·rename_i r hr
    split at he
    ·rename_i r' hr'
     obtain rfl:=Option.some.inj he
     have ih:=eqFs_ok hg fl _ xs ys r' w rfl hn.2 hr'
     unfold Op.eqFields
     rw [if_pos hn.1]
     simp only [Sem.run_bind,Vn ha w,Vn hc w,hg _ _ _ _ w hr,Result.andThen]
     cases r with
     | false=>simp
     | true=>simpa using ih
    ·cases he
   ·cases he
  ·cases he
theorem eqIs_ok {g:Value→Value→Option Bool} {d e c:Nat} (hg:∀x y b w,g x y=some b→(Op.equalIn d e x y).run prog w = .ok b w) (xs ys:Array Value):∀(is:List Nat) (b:Bool) (w:World),eqIs g e c xs.toList ys.toList is=some b→(Op.eqItems d e c xs ys is).run prog w = .ok b w
 | [],b,w,he=>by
  obtain rfl:=Option.some.inj he
  rfl
 | i::is,b,w,he=>by
  simp only [eqIs] at he
  split at he
  ·rename_i a c ha hc
   split at he
   ·rename_i r hr
    split at he
    ·rename_i r' hr'
     obtain rfl:=Option.some.inj he
     have ih:=eqIs_ok hg xs ys is r' w hr'
     unfold Op.eqItems
     simp only [Sem.run_bind,Vn ha w,Vn hc w,hg _ _ _ w hr,Result.andThen]
     cases r with
     | false=>simp
     | true=>simpa using ih
    ·cases he
   ·cases he
  ·cases he
theorem eqC_ok {S:List Nat} (hS:S.all chkE=true):∀(f d t:Nat) (x y:Value) (b:Bool) (w:World),f≤d→eqC S f t x y=some b→(Op.equalIn d t x y).run prog w = .ok b w
 | 0,_,_,_,_,_,_,_,h=>by cases h
 | f+1,0,_,_,_,_,_,hd,_=>by omega
 | f+1,d+1,t,x,y,b,w,hd,h=>by
  unfold eqC at h
  split at h
  ·rename_i k0 _ _ _ hr
   split at h
   ·rename_i k a l c
    cases hk:ikEq k l with
    | false=>simp [hk] at h
    | true=>
     simp only [hk,cond_true] at h
     obtain rfl:=ikEq_eq hk
     obtain rfl:=Option.some.inj h
     obtain ⟨dd,hd1,hk1⟩:=Zt.und hr
     cases dd<;>simp [chkKind] at hk1
     exact run_equalIn_int w d t k _ a c hd1
   ·cases h
  ·rename_i hr
   split at h
   ·rename_i a c
    obtain rfl:=Option.some.inj h
    obtain ⟨dd,hd1,hk1⟩:=Zt.und hr
    cases dd<;>simp [chkKind] at hk1
    exact run_equalIn_string w d t a c hd1
   ·cases h
  ·rename_i hr
   split at h
   ·rename_i a c
    obtain rfl:=Option.some.inj h
    obtain ⟨dd,hd1,hk1⟩:=Zt.und hr
    cases dd<;>simp [chkKind] at hk1
    exact run_equalIn_bool' w d t a c hd1
   ·cases h
  ·rename_i fs _ _ _ hr
   split at h
   ·rename_i xs ys
    cases hm:memN S t with
    | false=>simp [hm] at h
    | true=>
     simp only [hm,cond_true] at h
     have hc:=List.all_eq_true.1 hS t (memN_mem hm)
     simp only [chkE,Bool.and_eq_true,beq_iff_eq] at hc
     obtain ⟨dd,hd1,hk1⟩:=Zt.und hr
     cases dd<;>simp [chkKind] at hk1
     rename_i fl
     have hfo:prog.fieldsOf t=fl:=by simp [Program.fieldsOf,hd1]
     rw [run_equalIn_struct w d t xs ys (by rw [hfo];exact hd1) hc.1.2,hfo]
     have hnm:=hc.1.1
     rw [hd1] at hnm
     refine eqFs_ok (g:=eqC S f) (fun t x y b w hh=>eqC_ok hS f d t x y b w (by omega) hh) fl.toList fs xs ys b w ?_ hnm h
     simpa using hk1.1
   ·cases h
  ·rename_i m e _ _ _ hr
   split at h
   ·rename_i re xs ys hre
    obtain ⟨dd,hd1,hk1⟩:=Zt.und hr
    cases dd<;>simp [chkKind] at hk1
    obtain ⟨rfl,rfl⟩:=hk1
    obtain ⟨inf,_,_,hi,_,hsz,_⟩:=Zt.row hre
    rw [run_equalIn_array w d xs ys hd1 hi]
    have hce:prog.cellsOf e=re.size:=by rw [←hsz];simp [Program.cellsOf,hi]
    rw [hce]
    exact eqIs_ok (g:=eqC S f e) (fun x y b w hh=>eqC_ok hS f d e x y b w (by omega) hh) xs ys _ b w h
   ·cases h
  ·cases h
def eqS:List Nat:=[24,26]
variable {t2:TypeId}
section
variable {l:List Oper} {i:Nat} {xs ys:Array Value}
end
def ckFs (g:Nat→Value→Bool):List (Nat×Nat×Nat)→List Value→Bool
 | [],_=>true
 | (o,t,_)::fs,xs=>match partv t xs o with
  | some a=>g t a && ckFs g fs xs
  | none=>false
def ckC (S:List Nat):Nat→Nat→Value→Bool
 | 0,_,_=>false
 | f+1,t,x=>match lookT tab t with
  | some ⟨.int _,_,_,_⟩=>true
  | some ⟨.str,_,_,_⟩=>true
  | some ⟨.bool,_,_,_⟩=>true
  | some ⟨.struct fs,_,_,_⟩=>match x with
   | .agg xs=>memN S t && ckFs (ckC S f) fs xs.toList
   | _=>false
  | _=>false
structure KeyOK {α:Type} [DecidableEq α] (kt:Nat) (K:α→Value):Prop where
 eq:∀a b w,(Op.equal kt (K a) (K b)).run prog w = .ok (decide (a=b)) w
 chk:∀a em w,(Instr.checkKey em 10000 kt (K a)).run prog w = .ok () w
 bits:∀a,Instr.sameBits 10000 (K a) (K a)=true
 now:∃d,prog.underlying kt=some d∧∀a b,Instr.sameNow d (K a) (K b)=none∨Instr.sameNow d (K a) (K b)=some (decide (a=b))
section
variable {α β:Type} [DecidableEq α]
def mfind (a:α):List (α×β)→Nat→Option (Nat×β)
 | [],_=>none
 | (b,v)::m,i=>if a=b then some (i,v) else mfind a m (i+1)
def mget (a:α):List (α×β)→Option β
 | []=>none
 | (b,v)::m=>if a=b then some v else mget a m
def mset (a:α) (v:β):List (α×β)→List (α×β)
 | []=>[(a,v)]
 | (b,u)::m=>if a=b then (a,v)::m else (b,u)::mset a v m
theorem Xu (a:α):∀(m:List (α×β)) (i:Nat),(mfind a m i).map (·.2)=mget a m
 | [],_=>rfl
 | (b,v)::m,i=>by
  unfold mfind mget
  split
  ·rfl
  ·exact Xu a m (i+1)
variable {kt:Nat} {K:α→Value} {V:β→Value}
theorem Wv (hk:KeyOK kt K) (a:α):∀(es:List MapEntry) (m:List (α×β)) (i:Nat) (w:World),es.map (fun e=>(e.key,e.val))=m.map (fun x=>(K x.1,V x.2))→
  (Instr.findAsking kt (K a) es i).run prog w = .ok ((mfind a m i).map fun p=>(p.1,V p.2)) w
 | [],m,i,w,h=>by
  cases m with
  | nil=>rfl
  | cons=>simp at h
 | e::es,m,i,w,h=>by
  cases m with
  | nil=>simp at h
  | cons x m=>
   obtain ⟨b,v⟩:=x
   simp only [List.map_cons,List.cons.injEq,Prod.mk.injEq] at h
   obtain ⟨⟨h1,h2⟩,h3⟩:=h
   unfold Instr.findAsking mfind
   simp only [Sem.run_bind,h1,hk.eq a b w,Result.andThen]
   by_cases hab:a=b
   ·simp [hab,h2]
   ·simp only [hab,decide_false,Bool.false_eq_true,if_false]
    exact Wv hk a es m (i+1) w h3
theorem findNow_ok {d:TypeDesc} (hd:∀a b,Instr.sameNow d (K a) (K b)=none∨Instr.sameNow d (K a) (K b)=some (decide (a=b))) (a:α):∀(es:List MapEntry) (m:List (α×β)) (i:Nat) (r:Option (Nat×Value)),es.map (fun e=>(e.key,e.val))=m.map (fun x=>(K x.1,V x.2))→
  Instr.findNow d (K a) es i=some r→r=(mfind a m i).map fun p=>(p.1,V p.2)
 | [],m,i,r,h,hr=>by
  cases m with
  | nil=>exact (Option.some.inj hr).symm
  | cons=>simp at h
 | e::es,m,i,r,h,hr=>by
  cases m with
  | nil=>simp at h
  | cons x m=>
   obtain ⟨b,v⟩:=x
   simp only [List.map_cons,List.cons.injEq,Prod.mk.injEq] at h
   obtain ⟨⟨h1,h2⟩,h3⟩:=h
   unfold Instr.findNow at hr
   unfold mfind
   rw [h1] at hr
   rcases hd a b with e1|e1
   ·rw [e1] at hr;cases hr
   ·rw [e1] at hr
    by_cases hab:a=b
    ·simp only [hab,decide_true] at hr
     simp [hab,←Option.some.inj hr,h2]
    ·simp only [hab,decide_false] at hr
     rw [if_neg hab]
     exact findNow_ok hd a es m (i+1) r h3 hr
theorem XM (hk:KeyOK kt K) (a:α) (es:List MapEntry) (m:List (α×β)) (w:World) (h:es.map (fun e=>(e.key,e.val))=m.map (fun x=>(K x.1,V x.2))) :
  (Instr.findKey kt (K a) es).run prog w = .ok ((mfind a m 0).map fun p=>(p.1,V p.2)) w:=by
 obtain ⟨d,hd,hn⟩:=hk.now
 have hu:(underlying kt).run prog w = .ok d w:=by simp [underlying,hd,go_sem]
 unfold Instr.findKey
 simp only [Sem.run_bind,hu,Result.andThen]
 split
 ·rename_i r hr
  rw [findNow_ok hn a es m 0 r h hr];rfl
 ·exact Wv hk a es m 0 w h
def BornOK (es:Array MapEntry) (clock:Nat):Prop:=(es.toList.map (·.born)).Nodup∧∀e ∈ es.toList,e.born<clock
def Mp (K:α→Value) (V:β→Value) (r:Nat) (m:List (α×β)):HP:=fun h=>∃es clock,h r=some (.map es clock)∧es.toList.map (fun e=>(e.key,e.val))=(m.map fun x=>(K x.1,V x.2))∧BornOK es clock
theorem mset_none (a:α) (v:β):∀(m:List (α×β)) (i:Nat),mfind a m i=none→mset a v m=m++[(a,v)]
 | [],_,_=>rfl
 | (b,u)::m,i,h=>by
  unfold mfind at h
  split at h
  ·cases h
  ·rename_i hab
   rw [mset,if_neg hab,mset_none a v m (i+1) h];rfl
theorem mset_some (a:α) (v:β):∀(m:List (α×β)) (i j:Nat) (u:β),mfind a m i=some (j,u)→∃p,j=i+p∧m[p]? = some (a,u)∧mset a v m=m.set p (a,v)
 | [],_,_,_,h=>by cases h
 | (b,u')::m,i,j,u,h=>by
  unfold mfind at h
  split at h
  ·rename_i hab
   subst hab
   simp only [Option.some.injEq,Prod.mk.injEq] at h
   obtain ⟨rfl,rfl⟩:=h
   exact ⟨0,by omega,by simp,by simp [mset]⟩
  ·rename_i hab
   obtain ⟨p,h1,h2,h3⟩:=mset_some a v m (i+1) j u h
   exact ⟨p+1,by omega,by simpa using h2,by simp [mset,hab,h3]⟩
end
theorem Xw {G:H} {w0 w:World} {hp0:H} {F:List Pf} {R:List HP} {b:Nat} {o o':Obj} (hs:Sat G w0 hp0 F (Pt b o::R) w):Sat G w0 hp0 F (Pt b o'::R) {w with heap:=w.heap.setIfInBounds b o'}:=by
 have hb:=hs.pt Sel.here
 have hlt:=(Array.getElem?_eq_some_iff.1 hb).1
 refine hs.write ⟨rfl,rfl,rfl,by simp⟩ ?_ fun c hc _=>?_
 ·simp [hlt]
 ·simp only [Array.getElem?_setIfInBounds];rw [if_neg (fun e=>hc e.symm)]
theorem mp_open {α β:Type} {K:α→Value} {V:β→Value} {r:Nat} {m:List (α×β)} {G:H} {w0 w:World} {hp0:H} {F:List Pf} {R R0:List HP} (hs:Sel (Mp K V r m) R R0) (h:Sat G w0 hp0 F R w) :
  ∃es clock,Sat G w0 hp0 F (Pt r (.map es clock)::R0) w∧es.toList.map (fun e=>(e.key,e.val))=(m.map fun x=>(K x.1,V x.2))∧BornOK es clock:=by
 obtain ⟨⟨⟨es,clock⟩,he,hB⟩,h1⟩:=(h.sel hs).open' (X:={x:Array MapEntry×Nat // x.1.toList.map (fun e=>(e.key,e.val))=(m.map fun x=>(K x.1,V x.2))∧BornOK x.1 x.2}) (L:=fun x=>[Pt r (.map x.1.1 x.1.2)]) fun k hk=>by
  obtain ⟨es,clock,h1,h2,h3⟩:=hk
  exact ⟨⟨(es,clock),h2,h3⟩,k,emp,(fun _=>.inr rfl),Sub.refl _,(fun _ _ e=>by cases e),h1,trivial⟩
 exact ⟨es,clock,h1,he,hB⟩
theorem mp_shut {α β:Type} {K:α→Value} {V:β→Value} {r:Nat} {m:List (α×β)} {G:H} {w0 w:World} {hp0:H} {F:List Pf} {R0:List HP} {es:Array MapEntry} {clock:Nat} (h:Sat G w0 hp0 F (Pt r (.map es clock)::R0) w)
  (he:es.toList.map (fun e=>(e.key,e.val))=m.map fun x=>(K x.1,V x.2)) (hB:BornOK es clock):Sat G w0 hp0 F (Mp K V r m::R0) w:=
 h.shut (L:=[Pt r (.map es clock)]) fun k hk=>by
  obtain ⟨h1,h2,_,s1,_,hx,_⟩:=hk
  exact ⟨es,clock,s1 _ _ hx,he,hB⟩
def zval (r:TRow):Option Value:=bif r.k.isAgg then some (.agg r.zero.toArray) else match r.zero with | [z]=>some z|_=>none
theorem Vh {t:Nat} {r:TRow} {z:Value} (hr:lookT tab t=some r) (hz:zval r=some z) (w:World):(zeroValue t).run prog w = .ok z w:=by
 have h1:=List.all_eq_true.1 Zt _ (lookT_mem hr)
 simp only [chkRow] at h1
 split at h1
 ·rename_i i d hi hd
  simp only [Bool.and_eq_true,beq_iff_eq] at h1
  obtain ⟨_,h5⟩:=h1
  split at h5
  ·rename_i z0 hz0
   rw [Bool.and_eq_true] at h5
   have hc:=zeqs_eq h5.1
   have hzz:z=z0:=by
    unfold zval at hz
    cases z0 with
    | agg cs=>
     simp only at h5
     rw [h5.2] at hz
     simp only [cond_true,Option.some.injEq] at hz
     rw [←hz,←hc];simp [Value.cells]
    | _=>
     simp only [Bool.not_eq_true'] at h5
     rw [h5.2] at hz
     simp only [Value.cells] at hc
     rw [←hc] at hz
     simpa using hz.symm
   subst hzz
   simp [zeroValue,typeInfo,hi,hz0,go_sem]
  ·cases h5
 ·cases h1
section
variable {n:Nat} {C:Cx} {Q:Exit→Act→World→Prop} {E E':List (Nat×Value)} {F F' F1 Fs F0:List Pf} {R R' R0 Rs N N' A:List HP} {k k':List Fr} {ops l:List Oper} {i d:Nat} {t ty0:TypeId} {x y z:Operand} {pos:String} {aft:Array Edge} {gd:Option (Nat×Bool)} {α β:Type} [DecidableEq α] {K:α→Value} {V:β→Value}
theorem WP {kt et:Nat} {w:World} {rs:TRow} (hts:lookT tab t=some rs) (hrs:rs.k = .map kt et):(underlying t).run prog w = .ok (.map kt et) w:=by
 obtain ⟨d1,hd1,hk1⟩:=Zt.und hts
 rw [hrs] at hk1
 cases d1<;>simp [chkKind] at hk1
 obtain ⟨rfl,rfl⟩:=hk1
 simp [underlying,hd1,go_sem]
theorem WC {kt et:Nat} {rs:TRow} (_hk:KeyOK kt K) (V:β→Value) (nx:∀r,Wl n C ops.toArray k Q l ((d,.map (some r))::E) F (Mp K V r []::R)) (hw:wantL ops E ⟨some d,.makeMap t none,ty0,pos,aft,gd⟩=some true:=by rfl) (hn:Nat.blt d n=true:=by rfl) (_hts:lookT tab t=some rs:=by rfl) (_hrs:rs.k = .map kt et:=by rfl) :
  Wl n C ops.toArray k Q (⟨some d,.makeMap t none,ty0,pos,aft,gd⟩::l) E F R:=
 YO (fun t ht=>by cases ht;exact Nat.le_of_ble_eq_true hn) (fun c hc=>by cases hc) hw fun a w ha hsat=>by
  have h1:=hsat.alloc (.map #[] 0)
  exact fun a' ha'=>nx w.heap.size a' _ ha' (mp_shut (K:=K) (V:=V) (m:=[]) h1 rfl ⟨by simp,by simp⟩)
theorem l_mget {kt et r:Nat} {rs te:TRow} {m:List (α×β)} {zv:Value} (hk:KeyOK kt K) (a:α) (nx:Wl n C ops.toArray k Q l ((d,((mget a m).map V).getD zv)::E) F R) (hw:wantL ops E ⟨some d,.lookup t x y false,ty0,pos,aft,gd⟩=some true:=by rfl) (hn:Nat.blt d n=true:=by rfl)
  (hx:ev E x=some (.map (some r)):=by rfl) (hy:ev E y=some (K a):=by rfl) (hts:lookT tab t=some rs:=by rfl) (hrs:rs.k = .map kt et:=by rfl) (hte:lookT tab et=some te:=by rfl) (hzv:zval te=some zv:=by rfl)
  (hs:Sel (Mp K V r m) R R0:=by (repeat (first|exact Sel.here|apply Sel.there));first|done|fail):Wl n C ops.toArray k Q (⟨some d,.lookup t x y false,ty0,pos,aft,gd⟩::l) E F R:=
 YO (fun t ht=>by cases ht;exact Nat.le_of_ble_eq_true hn) (fun c hc=>by cases hc) hw fun ac w ha hsat=>by
  obtain ⟨es,clock,h1,he,hB⟩:=mp_open hs hsat
  have hb:=h1.pt Sel.here
  have hu:=WP (w:=w) hts hrs
  have hg:(getObj r).run prog w = .ok (.map es clock) w:=by simp [getObj,Sem.run,hb]
  have hc:=hk.chk a es.isEmpty w
  have hf:=XM hk a es.toList m w he
  have hz0:=Vh hte hzv w
  have hfg:=Xu a m 0
  unfold OpRes
  simp only [execOp,ha.ev (x:=x) (by rw [ZS];exact hx),ha.ev (x:=y) (by rw [ZS];exact hy),Instr.lookup,Sem.run_bind,hu,Result.andThen,hg,hc,hf,Sem.run_pure]
  cases hm:mfind a m 0 with
  | none=>
   rw [hm] at hfg
   simp only [Option.map_none,Sem.run_bind,hz0,Result.andThen,Sem.run_pure,Bool.false_eq_true,if_false]
   intro a' ha'
   rw [←hfg] at nx
   exact nx a' w ha' hsat
  | some q=>
   rw [hm] at hfg
   simp only [Option.map_some,Bool.false_eq_true,if_false]
   intro a' ha'
   rw [←hfg] at nx
   exact nx a' w ha' hsat
theorem l_mget2 {kt et r:Nat} {rs te:TRow} {m:List (α×β)} {zv:Value} (hk:KeyOK kt K) (a:α) (nx:Wl n C ops.toArray k Q l ((d,.tuple #[((mget a m).map V).getD zv,.bool (mget a m).isSome])::E) F R) (hw:wantL ops E ⟨some d,.lookup t x y true,ty0,pos,aft,gd⟩=some true:=by rfl) (hn:Nat.blt d n=true:=by rfl)
  (hx:ev E x=some (.map (some r)):=by rfl) (hy:ev E y=some (K a):=by rfl) (hts:lookT tab t=some rs:=by rfl) (hrs:rs.k = .map kt et:=by rfl) (hte:lookT tab et=some te:=by rfl) (hzv:zval te=some zv:=by rfl)
  (hs:Sel (Mp K V r m) R R0:=by (repeat (first|exact Sel.here|apply Sel.there));first|done|fail):Wl n C ops.toArray k Q (⟨some d,.lookup t x y true,ty0,pos,aft,gd⟩::l) E F R:=
 YO (fun t ht=>by cases ht;exact Nat.le_of_ble_eq_true hn) (fun c hc=>by cases hc) hw fun ac w ha hsat=>by
  obtain ⟨es,clock,h1,he,hB⟩:=mp_open hs hsat
  have hb:=h1.pt Sel.here
  have hu:=WP (w:=w) hts hrs
  have hg:(getObj r).run prog w = .ok (.map es clock) w:=by simp [getObj,Sem.run,hb]
  have hc:=hk.chk a es.isEmpty w
  have hf:=XM hk a es.toList m w he
  have hz0:=Vh hte hzv w
  have hfg:=Xu a m 0
  unfold OpRes
  simp only [execOp,ha.ev (x:=x) (by rw [ZS];exact hx),ha.ev (x:=y) (by rw [ZS];exact hy),Instr.lookup,Sem.run_bind,hu,Result.andThen,hg,hc,hf,Sem.run_pure]
  cases hm:mfind a m 0 with
  | none=>
   rw [hm] at hfg
   simp only [Option.map_none,Sem.run_bind,hz0,Result.andThen,Sem.run_pure,if_true]
   intro a' ha'
   rw [←hfg] at nx
   exact nx a' w ha' hsat
  | some q=>
   rw [hm] at hfg
   simp only [Option.map_some,if_true]
   intro a' ha'
   rw [←hfg] at nx
   exact nx a' w ha' hsat
end
structure SeenOK {α β:Type} (es:List MapEntry) (m pre:List (α×β)) (seen:List Nat) (js:List Nat):Prop where
 nd:js.Nodup
 lt:∀j ∈ js,j<m.length
 sn:seen.map some=js.map fun j=>(es[j]?).map (·.born)
 pr:pre.map some=js.map fun j=>m[j]?
def MpI {α β:Type} (K:α→Value) (V:β→Value) (r it:Nat) (m pre:List (α×β)):HP:=fun h=>∃es clock seen,(es.toList.map (fun e=>(e.key,e.val))=(m.map fun x=>(K x.1,V x.2))∧BornOK es clock∧∃js,SeenOK es.toList m pre seen.toList js)∧Sep [Pt r (.map es clock),Pt it (.mapIter (some r) clock seen clock)] h
variable {α β:Type}
section
variable {K:α→Value} {V:β→Value} {r it:Nat} {m pre:List (α×β)} {G:H} {w0 w:World} {hp0:H}
end
section
variable {l:List Oper} {i:Nat} {z:Operand} {K:α→Value} {V:β→Value} {m pre:List (α×β)} {r it:Nat}
end
instance decNm:DecidableEq Nm:=fun a b=>decidable_of_iff (cmpO a b=0) (cmpO_eq a b)
structure Ch where
 nm:Nm
 val:ByteArray
 abs:Bool
def chf (c:Ch):List Value:=[.int .i64 c.nm.kind,.string c.nm.owner,.int .i64 c.nm.number,.int .i64 c.nm.index,.string c.nm.text,.string c.val,.bool c.abs]
def Ch.v (c:Ch):Value:=.agg #[.int .i64 c.nm.kind,.string c.nm.owner,.int .i64 c.nm.number,.int .i64 c.nm.index,.string c.nm.text,.string c.val,.bool c.abs]
def iv (i:Nat):Value:=.int .i64 (i:Int)
section
variable {α β:Type} [DecidableEq α]
end
def lastG:List Ch→Nat→List (Nm×Nat)→List (Nm×Nat)
 | [],_,m=>m
 | c::cs,i,m=>lastG cs (i+1) (mset c.nm i m)
def lastL (cs:List Ch):List (Nm×Nat):=lastG cs 0 []
def vcall (cs:List Ch) (n:Nm):Option Ch:=cs.reverse.find? fun c=>decide (c.nm=n)
def vget (es:Al) (cs:List Ch) (n:Nm):ByteArray×Bool:=
 if nchk n≠0 then (⟨#[]⟩,false) else match vcall cs n with
  | some c=>(c.val,!c.abs)
  | none=>((getO n es).getD ⟨#[]⟩,(getO n es).isSome)
def vread (es:Al) (rs:List (Nm×Ch)) (cs:List Ch) (n:Nm):List (Nm×Ch):=
 if nchk n≠0 then rs else match vcall cs n with
  | some _=>rs
  | none=>mset n ⟨n,(getO n es).getD ⟨#[]⟩,!(getO n es).isSome⟩ rs
def vset (cs:List Ch) (n:Nm) (v:ByteArray):Int×List Ch:=if nchk n≠0 then (12,cs) else if 65536<v.size then (5,cs) else (0,cs++[⟨n,v,false⟩])
def vdel (cs:List Ch) (n:Nm):Int×List Ch:=if nchk n≠0 then (12,cs) else (0,cs++[⟨n,⟨#[]⟩,true⟩])
section
variable {l:List Oper} {i:Nat} {off:Nat} {cs:Array Value} {ty:TypeId} {fzn:Nat×Nat} {v:Value}
def Ar {α:Type} (T:Nat) (f:α→List Value) (b:Nat) (es:List α):HP:=Pt b (.cells (es.flatMap f).toArray T (0,0))
end
section
variable {l:List Oper} {i:Nat} {off:Nat} {cs:Array Value} {ty:TypeId} {fzn:Nat×Nat} {v:Value}
def Ax {α:Type} (T:Nat) (f:α→List Value) (b:Nat) (es:List α) (q:List Value×(Nat×Nat)):HP:=Pt b (.cells (es.flatMap f++q.1).toArray T q.2)
def AxOK (len:Nat) (q:List Value×(Nat×Nat)):Prop:=q.2=(0,0)∨len+q.1.length≤q.2.1
def AnyI:Post:=⟨Int,fun z=>.int .i64 z,fun _=>True,fun _=>[],fun _=>[]⟩
def Srd {α:Type} (c:α→α→Int) (l:List α):Prop:=l.Pairwise fun a b=>¬c b a<0
end
section
variable {n:Nat} {C:Cx} {Q:Exit→Act→World→Prop} {E E':List (Nat×Value)} {F F' F1 Fs F0:List Pf} {R R' R0 Rs N N' A:List HP} {k k':List Fr} {ops l:List Oper} {L L':List (Nat×Nat)} {Tl:List Nat} {i d:Nat} {t ty0:TypeId} {x y z:Operand} {pos:String} {aft:Array Edge} {gd:Option (Nat×Bool)} {α β:Type} [DecidableEq α] {K:α→Value} {V:β→Value}
end
section
variable {l:List Oper} {i:Nat} {z:Operand}
end
section
end
section
variable {α:Type} [Inhabited α]
def gt (l:List α) (i:Nat):α:=l.getD i default
theorem Vb {l:List α} {i:Nat} (h:i<l.length):l[i]? = some (gt l i):=by
 unfold gt;rw [List.getD_eq_getElem?_getD,List.getElem?_eq_getElem h];rfl
theorem gt_of {l:List α} {i:Nat} {x:α} (h:l[i]? = some x):gt l i=x:=by
 unfold gt;rw [List.getD_eq_getElem?_getD,h];rfl
theorem gt_set {l:List α} {i k:Nat} {x:α} (h:i<l.length):gt (l.set i x) k=if k=i then x else gt l k:=by
 unfold gt
 rw [List.getD_eq_getElem?_getD,List.getD_eq_getElem?_getD,List.getElem?_set]
 by_cases hk:k=i
 ·subst hk;simp [h]
 ·rw [if_neg (fun h=>hk h.symm),if_neg hk]
def sw (l:List α) (i j:Nat):List α:=(l.set i (gt l j)).set j (gt l i)
theorem sw_len (l:List α) (i j:Nat):(sw l i j).length=l.length:=by simp [sw]
theorem gt_sw {l:List α} {i j k:Nat} (hi:i<l.length) (hj:j<l.length):gt (sw l i j) k=if k=j then gt l i else if k=i then gt l j else gt l k:=by
 unfold sw
 rw [gt_set (by simpa using hj),gt_set hi]
theorem sw_perm {l:List α} {i j:Nat} (hi:i<l.length) (hj:j<l.length):(sw l i j).Perm l:=by
 have h1:gt l j=l[j]:=gt_of (List.getElem?_eq_getElem hj)
 have h2:gt l i=l[i]:=gt_of (List.getElem?_eq_getElem hi)
 unfold sw
 rw [h1,h2]
 exact List.set_set_perm hi hj
structure Win (a b:Nat) (l l':List α):Prop where
 perm:l'.Perm l
 out:∀k,k<a∨b≤k→gt l' k=gt l k
variable {a a' b':Nat} {l l' l'':List α}
theorem Win.len (h:Win a b l l'):l'.length=l.length:=h.perm.length_eq
theorem Win.refl:Win a b l l:=⟨List.Perm.refl _,fun _ _=>rfl⟩
theorem Win.trans (h:Win a b l l') (k:Win a b l' l''):Win a b l l'':=⟨k.perm.trans h.perm,fun i hi=>(k.out i hi).trans (h.out i hi)⟩
theorem Win.mono (h:Win a' b' l l') (h1:a≤a') (h2:b'≤b):Win a b l l':=⟨h.perm,fun k hk=>h.out k (by omega)⟩
theorem Win.sw {i j:Nat} (h1:a≤i) (h2:i<b) (h3:a≤j) (h4:j<b) (hb:b≤l.length):Win a b l (sw l i j):=⟨sw_perm (by omega) (by omega),fun k hk=>by
 rw [gt_sw (by omega) (by omega),if_neg (by omega),if_neg (by omega)]⟩
theorem Win.sub (h:Win a b l l') {U:α→Prop} (hU:∀x ∈ l,U x):∀x ∈ l',U x:=fun x hx=>hU x (h.perm.mem_iff.1 hx)
def wn (l:List α) (a b:Nat):List α:=(l.drop a).take (b - a)
theorem mem_wn {x:α} (hb:b≤l.length):x ∈ wn l a b↔∃k,a≤k∧k<b∧gt l k=x:=by
 unfold wn
 rw [List.mem_iff_getElem?]
 constructor
 ·rintro ⟨i,hi⟩
  rw [List.getElem?_take] at hi
  split at hi
  ·rw [List.getElem?_drop] at hi
   exact ⟨a+i,by omega,by omega,gt_of hi⟩
  ·cases hi
 ·rintro ⟨k,h1,h2,rfl⟩
  refine ⟨k - a,?_⟩
  rw [List.getElem?_take,if_pos (by omega),List.getElem?_drop,show a+(k - a)=k by omega,Vb (by omega)]
omit [Inhabited α] in
theorem wn_split (hab:a≤b):l=l.take a++(wn l a b++l.drop b):=by
 unfold wn
 rw [show l.drop b=(l.drop a).drop (b - a) by rw [List.drop_drop];congr 1;omega,List.take_append_drop,List.take_append_drop]
theorem Win.wn (h:Win a b l l') (hab:a≤b):(wn l' a b).Perm (wn l a b):=by
 have h1:=h.perm
 have e1:l'.take a=l.take a:=by
  apply List.ext_getElem?
  intro i
  rw [List.getElem?_take,List.getElem?_take]
  split
  ·rename_i hi
   by_cases hl:i<l.length
   ·rw [Vb (by rw [h.len];exact hl),Vb hl,h.out i (by omega)]
   ·rw [List.getElem?_eq_none (by rw [h.len];omega),List.getElem?_eq_none (by omega)]
  ·rfl
 have e2:l'.drop b=l.drop b:=by
  apply List.ext_getElem?
  intro i
  rw [List.getElem?_drop,List.getElem?_drop]
  by_cases hl:b+i<l.length
  ·rw [Vb (by rw [h.len];exact hl),Vb hl,h.out (b+i) (by omega)]
  ·rw [List.getElem?_eq_none (by rw [h.len];omega),List.getElem?_eq_none (by omega)]
 rw [wn_split (l:=l') hab,wn_split (l:=l) hab,e1,e2] at h1
 exact (List.perm_append_right_iff _).1 ((List.perm_append_left_iff _).1 h1)
theorem Win.all (h:Win a b l l') (hb:b≤l.length) {P:α→Prop} (hP:∀k,a≤k→k<b→P (gt l k)) (k:Nat) (h1:a≤k) (h2:k<b):P (gt l' k):=by
 have hm:gt l' k ∈ Go.Proofs.YtodkipbnefngkaaGreatDoor.wn l' a b:=(mem_wn (by rw [h.len];exact hb)).2 ⟨k,h1,h2,rfl⟩
 obtain ⟨j,h3,h4,h5⟩:=(mem_wn hb).1 ((h.wn (by omega)).mem_iff.1 hm)
 rw [←h5]
 exact hP j h3 h4
structure Wk0 (c:α→α→Int):Prop where
 a:∀x y,c x y<0→¬c y x<0
 t:∀x y z,¬c y x<0→¬c z y<0→¬c z x<0
variable {c:α→α→Int} (W:Wk0 c)
include W
omit [Inhabited α] in
theorem Wk0.i (x:α):¬c x x<0:=fun h=>W.a x x h h
omit [Inhabited α] in
theorem Wk0.lt_of {x y z:α} (h1:c x y<0) (h2:¬c z y<0):c x z<0:=Classical.byContradiction fun h=>W.t y z x h2 h h1
omit W
def Sw (c:α→α→Int) (a b:Nat) (l:List α):Prop:=∀i j,a≤i→i<j→j<b→¬c (gt l j) (gt l i)<0
theorem Sw.nil (h:b≤a+1):Sw c a b l:=fun i j h1 h2 h3=>by omega
structure Jw (c:α→α→Int) (a b a' b':Nat) (l0 l:List α):Prop where
 w:Win a b l0 l
 h1:a≤a'
 h2:b'≤b
 p:∀i j,a≤i→i<j→j<b→¬(a'≤i∧j<b')→¬c (gt l j) (gt l i)<0
def Lw (c:α→α→Int) (a b:Nat) (l:List α):Prop:=0<a→∀k,a≤k→k<b→¬c (gt l k) (gt l (a - 1))<0
variable {l0 l1 l2:List α} {m:Nat}
theorem Jw.done (h:Jw c a b a' b' l0 l) (hs:Sw c a' b' l):Win a b l0 l∧Sw c a b l:=⟨h.w,fun i j hi hij hj=>by
 by_cases hn:a'≤i∧j<b'
 ·exact hs i j hn.1 hij hn.2
 ·exact h.p i j hi hij hj hn⟩
structure Pt0 (c:α→α→Int) (a b m:Nat) (l:List α):Prop where
 h1:a≤m
 h2:m<b
 lo:∀k,a≤k→k<m→c (gt l k) (gt l m)<0
 hi:∀k,m<k→k<b→¬c (gt l k) (gt l m)<0
include W in
theorem Pt0.left (hp:Pt0 c a' b' m l) (hb:b'≤l.length) (hw:Win a' m l l1) (hs:Sw c a' m l1):∀i j,a'≤i→i<j→j<b'→¬(m+1≤i∧j<b')→¬c (gt l1 j) (gt l1 i)<0:=fun i j hi hij hj hn=>by
 have h1:=hp.h1
 have h2:=hp.h2
 by_cases hjm:j<m
 ·exact hs i j hi hij hjm
 ·rw [hw.out j (by omega)]
  by_cases him:i<m
  ·have h3:c (gt l1 i) (gt l m)<0:=hw.all (by omega) (P:=fun x=>c x (gt l m)<0) (fun k h1 h2=>hp.lo k h1 h2) i hi him
   by_cases hjm':j=m
   ·rw [hjm'];exact W.a _ _ h3
   ·exact W.a _ _ (W.lt_of h3 (hp.hi j (by omega) hj))
  ·obtain rfl:i=m:=by omega
   rw [hw.out i (by omega)]
   exact hp.hi j (by omega) hj
include W in
theorem Pt0.right (hp:Pt0 c a' b' m l) (hb:b'≤l.length) (hw:Win (m+1) b' l l1) (hs:Sw c (m+1) b' l1):∀i j,a'≤i→i<j→j<b'→¬(a'≤i∧j<m)→¬c (gt l1 j) (gt l1 i)<0:=fun i j hi hij hj hn=>by
 have h1:=hp.h1
 have h2:=hp.h2
 by_cases him:m<i
 ·exact hs i j (by omega) hij hj
 ·rw [hw.out i (by omega)]
  by_cases hjm:m<j
  ·have h3:¬c (gt l1 j) (gt l m)<0:=hw.all (by omega) (P:=fun x=>¬c x (gt l m)<0) (fun k h1 h2=>hp.hi k (by omega) h2) j (by omega) hj
   by_cases him':i=m
   ·rw [him'];exact h3
   ·exact W.a _ _ (W.lt_of (hp.lo i hi (by omega)) h3)
  ·obtain rfl:j=m:=by omega
   rw [hw.out j (by omega)]
   exact W.a _ _ (hp.lo i hi (by omega))
theorem Lw.sub (h:Lw c a b l) (hm:m≤b):Lw c a m l:=fun h0 k h1 h2=>h h0 k h1 (by omega)
def Hp (c:α→α→Int) (f lo n x:Nat) (l:List α):Prop:=∀i j,lo≤i→(j=2 * i+1∨j=2 * i+2)→j<n→i≠x→¬c (gt l (f+i)) (gt l (f+j))<0
def Hq (c:α→α→Int) (f lo n x:Nat) (l:List α):Prop:=∀i j,lo≤i→(x=2 * i+1∨x=2 * i+2)→(j=2 * x+1∨j=2 * x+2)→j<n→¬c (gt l (f+i)) (gt l (f+j))<0
variable {f lo x y:Nat}
include W in
theorem Hp.step (h:Hp c f lo n x l) (hq:Hq c f lo n x l) (hx:lo≤x) (hy:y=2 * x+1∨y=2 * x+2) (hyn:y<n) (hn:f+n≤l.length) (hlt:c (gt l (f+x)) (gt l (f+y))<0)
  (hmax:∀z,(z=2 * x+1∨z=2 * x+2)→z<n→¬c (gt l (f+y)) (gt l (f+z))<0):Hp c f lo n y (sw l (f+x) (f+y))∧Hq c f lo n y (sw l (f+x) (f+y)):=by
 have g:=fun k=>gt_sw (l:=l) (i:=f+x) (j:=f+y) (k:=f+k) (by omega) (by omega)
 constructor
 ·intro i j hi hij hj hiy
  rw [g i,g j,if_neg (by omega:¬f+i=f+y)]
  by_cases hix:i=x
  ·subst hix
   rw [if_pos rfl]
   by_cases hjy:j=y
   ·subst hjy;rw [if_pos rfl];exact W.a _ _ hlt
   ·rw [if_neg (by omega),if_neg (by omega)]
    exact hmax j hij hj
  ·rw [if_neg (by omega)]
   have h3:=h i j hi hij hj hix
   by_cases hjy:j=y
   ·omega
   ·rw [if_neg (by omega)]
    by_cases hjx:j=x
    ·subst hjx
     rw [if_pos rfl]
     exact hq i y hi hij hy hyn
    ·rw [if_neg (by omega)];exact h3
 ·intro i j hi hyi hj hjn
  have hix:i=x:=by omega
  subst hix
  rw [g i,g j,if_neg (by omega),if_pos rfl,if_neg (by omega),if_neg (by omega)]
  exact h y j (by omega) hj hjn (by omega)
def He (c:α→α→Int) (f lo n:Nat) (l:List α):Prop:=∀i j,lo≤i→(j=2 * i+1∨j=2 * i+2)→j<n→¬c (gt l (f+i)) (gt l (f+j))<0
include W in
theorem He.top (h:He c f 0 n l):∀j,j<n→¬c (gt l f) (gt l (f+j))<0:=by
 intro j
 induction j using Nat.strongRecOn with
 | ind j ih=>
  intro hj
  by_cases h0:j=0
  ·subst h0;exact W.i _
  ·have h1:=ih ((j - 1) / 2) (by omega) (by omega)
   have h2:=h ((j - 1) / 2) j (by omega) (by omega) hj
   exact W.t _ _ _ h2 h1
structure Hs (c:α→α→Int) (f n N:Nat) (l:List α):Prop where
 he:He c f 0 n l
 so:∀p q,p<q→q<N→n≤q→¬c (gt l (f+q)) (gt l (f+p))<0
include W in
theorem Hs.pop {i N:Nat} (h:Hs c f (i+1) N l) (hi:i<N) (hN:f+N≤l.length) (hw:Win f (f+i) (sw l f (f+i)) l2) (he:He c f 0 i l2):Hs c f i N l2:=by
 refine ⟨he,fun p q hpq hq hiq=>?_⟩
 have g:=fun k=>gt_sw (l:=l) (i:=f) (j:=f+i) (k:=k) (by omega) (by omega)
 have hs:=sw_len l f (f+i)
 have hall:∀P:α→Prop,(∀k,k≤i→P (gt l (f+k)))→∀p,p<i→P (gt l2 (f+p)):=fun P hP p hp=>
  hw.all (by omega) (P:=P) (fun k h1 h2=>by
   rw [g k,if_neg (by omega)]
   by_cases hk:k=f
   ·rw [if_pos hk];exact hP i (Nat.le_refl _)
   ·rw [if_neg hk,show k=f+(k - f) by omega];exact hP (k - f) (by omega)) (f+p) (by omega) (by omega)
 rw [hw.out (f+q) (by omega),g (f+q)]
 by_cases hqi:q=i
 ·subst hqi
  rw [if_pos rfl]
  exact hall (fun x=>¬c (gt l f) x<0) (fun k hk=>h.he.top W k (by omega)) p hpq
 ·rw [if_neg (by omega),if_neg (by omega)]
  by_cases hpi:p<i
  ·exact hall (fun x=>¬c (gt l (f+q)) x<0) (fun k hk=>h.so k q (by omega) hq (by omega)) p hpi
  ·rw [hw.out (f+p) (by omega),g (f+p)]
   by_cases hp':p=i
   ·rw [if_pos (by omega)]
    exact h.so 0 q (by omega) hq (by omega)
   ·rw [if_neg (by omega),if_neg (by omega)]
    exact h.so p q hpq hq (by omega)
theorem Hs.done {N:Nat} (h:Hs c f 0 N l):Sw c f (f+N) l:=fun i j h1 h2 h3=>by
 have:=h.so (i - f) (j - f) (by omega) (by omega) (by omega)
 rwa [show f+(j - f)=j by omega,show f+(i - f)=i by omega] at this
def inR (c:α→α→Int) (P:List α) (x:α):List α:=(P.reverse.dropWhile fun s=>decide (c x s<0)).reverse++x::(P.reverse.takeWhile fun s=>decide (c x s<0)).reverse
def isR (c:α→α→Int) (l:List α):List α:=l.foldl (inR c) []
end
section
variable (b cap:Nat) (q:List Value×(Nat×Nat)) (fv:FuncId) (Fc:Pf) (c:Ch→Ch→Int) (W:Wk0 c) (U:Ch→Prop) (hcmp:∀x y,U x→U y→Enters fv∧Spec prog fv #[x.v,y.v] [Fc] [] (RetV (.int .i64 (c x y))))
include hcmp in
end
def drpS:Nat→List Fr→List Fr
 | m+1,.c (.seq _ b)::k=>drpS m (.c b::k)
 | _,k=>k
section
end
section
variable {l:List Oper}
end
def LenP (u c:Nat):Bool:=Nat.ble c 8 && (Nat.blt u (2 ^ c) && (Nat.ble (2 ^ c) (2 * u) || Nat.beq u 0))
section
variable {l:List Oper} {i:Nat}
end
section
variable (bk cap:Nat) (q:List Value×(Nat×Nat)) (fv:FuncId) (Fc:Pf) (c:Ch→Ch→Int) (W:Wk0 c) (U:Ch→Prop) (hcmp:∀x y,U x→U y→Enters fv∧Spec prog fv #[x.v,y.v] [Fc] [] (RetV (.int .i64 (c x y))))
instance inhC:Inhabited Ch:=⟨⟨⟨0,⟨#[]⟩,0,0,⟨#[]⟩⟩,⟨#[]⟩,false⟩⟩
include hcmp in
include hcmp in
include hcmp in
include hcmp in
end
section
variable (bk cap:Nat) (q:List Value×(Nat×Nat)) (fv:FuncId) (Fc:Pf) (c:Ch→Ch→Int) (W:Wk0 c) (U:Ch→Prop) (hcmp:∀x y,U x→U y→Enters fv∧Spec prog fv #[x.v,y.v] [Fc] [] (RetV (.int .i64 (c x y))))
include hcmp W in
end
section
variable (bk cap:Nat) (q:List Value×(Nat×Nat)) (fv:FuncId) (Fc:Pf) (c:Ch→Ch→Int) (W:Wk0 c) (U:Ch→Prop) (hcmp:∀x y,U x→U y→Enters fv∧Spec prog fv #[x.v,y.v] [Fc] [] (RetV (.int .i64 (c x y))))
include hcmp W in
end
section
variable {α:Type} [Inhabited α] {a b i j:Nat} {P:α} {A:α→Prop} {l m:List α}
structure Pin (A:α→Prop) (a b i j:Nat) (P:α) (l m:List α):Prop where
 w:Win a b l m
 h1:a<i
 h2:i≤j+1
 h3:j<b
 pa:gt m a=P
 lo:∀k,a<k→k<i→A (gt m k)
 hi:∀k,j<k→k<b→¬A (gt m k)
theorem Pin.sw (h:Pin A a b i j P l m) (hb:b≤l.length) (hij:i<j) (hi:¬A (gt m i)) (hj:A (gt m j)):Pin A a b (i+1) (j - 1) P l (sw m i j):=by
 have h1:=h.h1
 have h3:=h.h3
 have hl:=h.w.len
 have g:=fun k=>gt_sw (l:=m) (i:=i) (j:=j) (k:=k) (by omega) (by omega)
 refine ⟨h.w.trans (Win.sw (by omega) (by omega) (by omega) h3 (by omega)),by omega,by omega,by omega,?_,fun k k1 k2=>?_,fun k k1 k2=>?_⟩
 ·rw [g,if_neg (by omega),if_neg (by omega)];exact h.pa
 ·rw [g,if_neg (by omega)]
  by_cases hk:k=i
  ·rw [if_pos hk];exact hj
  ·rw [if_neg hk];exact h.lo k k1 (by omega)
 ·rw [g]
  by_cases hk:k=j
  ·rw [if_pos hk];exact hi
  ·rw [if_neg hk,if_neg (by omega)];exact h.hi k (by omega) k2
theorem Pin.part {c:α→α→Int} (h:Pin (fun x=>c x P<0) a b i j P l m) (hb:b≤l.length) (hij:j<i):Win a b l (Go.Proofs.YtodkipbnefngkaaGreatDoor.sw m j a)∧Pt0 c a b j (Go.Proofs.YtodkipbnefngkaaGreatDoor.sw m j a):=by
 have h1:=h.h1
 have h2:=h.h2
 have h3:=h.h3
 have hl:=h.w.len
 have g:=fun k=>gt_sw (l:=m) (i:=j) (j:=a) (k:=k) (by omega) (by omega)
 have gj:gt (Go.Proofs.YtodkipbnefngkaaGreatDoor.sw m j a) j=P:=by
  rw [g]
  by_cases hja:j=a
  ·rw [if_pos hja,hja];exact h.pa
  ·rw [if_neg hja,if_pos rfl];exact h.pa
 refine ⟨h.w.trans (Win.sw (by omega) h3 (Nat.le_refl _) (by omega) (by omega)),by omega,h3,fun k k1 k2=>?_,fun k k1 k2=>?_⟩
 ·rw [gj,g]
  by_cases hka:k=a
  ·rw [if_pos hka];exact h.lo j (by omega) (by omega)
  ·rw [if_neg hka,if_neg (by omega)];exact h.lo k (by omega) (by omega)
 ·rw [gj,g,if_neg (by omega),if_neg (by omega)];exact h.hi k k1 k2
variable {c:α→α→Int} {l' m1 m2:List α}
def Lsh (c:α→α→Int) (a i j:Nat) (m:List α):Prop:=∀p q,a≤p→p<q→q<i→q≠j→¬c (gt m q) (gt m p)<0
theorem Lsh.step (W:Wk0 c) (h:Lsh c a i j m) (ha:a<j) (hj:j<i) (hi:i≤m.length) (hc:c (gt m j) (gt m (j - 1))<0):Lsh c a i (j - 1) (Go.Proofs.YtodkipbnefngkaaGreatDoor.sw m j (j - 1)):=fun p q h1 h2 h3 h4=>by
 have g:=fun k=>gt_sw (l:=m) (i:=j) (j:=j - 1) (k:=k) (by omega) (by omega)
 rw [g p,g q,if_neg h4]
 by_cases hq:q=j
 ·subst hq
  rw [if_pos rfl]
  by_cases hp:p=q - 1
  ·rw [if_pos hp];exact W.a _ _ hc
  ·rw [if_neg hp,if_neg (by omega)]
   exact h p (q - 1) h1 (by omega) (by omega) (by omega)
 ·rw [if_neg hq]
  by_cases hp:p=j - 1
  ·rw [if_pos hp]
   exact h j q (by omega) (by omega) h3 (by omega)
  ·rw [if_neg hp]
   by_cases hp2:p=j
   ·rw [if_pos hp2]
    exact h (j - 1) q (by omega) (by omega) h3 (by omega)
   ·rw [if_neg hp2]
    exact h p q h1 h2 h3 (by omega)
theorem Sw.out (h:Sw c a i m1) (hw:Win i b m1 m2):Sw c a i m2:=fun p q h1 h2 h3=>by
 rw [hw.out p (by omega),hw.out q (by omega)]
 exact h p q h1 h2 h3
end
section
variable (bk cap:Nat) (q:List Value×(Nat×Nat)) (fv:FuncId) (Fc:Pf) (c:Ch→Ch→Int) (W:Wk0 c) (U:Ch→Prop) (hcmp:∀x y,U x→U y→Enters fv∧Spec prog fv #[x.v,y.v] [Fc] [] (RetV (.int .i64 (c x y))))
include hcmp in
include hcmp W in
end
section
variable (bk cap:Nat) (q:List Value×(Nat×Nat)) (fv:FuncId) (Fc:Pf) (c:Ch→Ch→Int) (W:Wk0 c) (U:Ch→Prop) (hcmp:∀x y,U x→U y→Enters fv∧Spec prog fv #[x.v,y.v] [Fc] [] (RetV (.int .i64 (c x y))))
include hcmp W in
end
section
variable (bk cap:Nat) (q:List Value×(Nat×Nat)) (fv:FuncId) (Fc:Pf) (c:Ch→Ch→Int) (W:Wk0 c) (U:Ch→Prop) (hcmp:∀x y,U x→U y→Enters fv∧Spec prog fv #[x.v,y.v] [Fc] [] (RetV (.int .i64 (c x y))))
include hcmp W in
include hcmp W in
end

def cmpC (a b:Ch):Int:=cmpO a.nm b.nm
theorem Spec.more {P:Program} {f:FuncId} {args:Array Value} {F:List Pf} {R:List HP} {post:Post} (h:Spec P f args [] R post):Spec P f args F R post:=fun G w hp hs=>
 (h G w hp (hs.facts fun _ _ _ hx=>by cases hx))
def Ch.z:Ch:=⟨⟨0,⟨#[]⟩,0,0,⟨#[]⟩⟩,⟨#[]⟩,false⟩
def chAt (cs:List Ch) (p:Nm×Nat):Ch:=(cs[p.2]?).getD Ch.z
def insC (c:Ch):List Ch→List Ch
 | []=>[c]
 | d::l=>if cmpC c d<0 then c::d::l else d::insC c l
def srtC (l:List Ch):List Ch:=l.foldr insC []
def vwr (cs:List Ch):List Ch:=srtC ((lastL cs).map (chAt cs))
section
variable {l:List Oper} {i:Nat}
def IterU {α:Type} (gf:FuncId) (lb:List Value) (enc:α→Value) (Ok All:List α→Prop) (Fg:List Pf) (A A':List HP):Prop:=
 ∀(v:Value) (Y:Pf) (I Ix:List α→HP),(∀pre e,Ok (pre++[e])→SpecV v [enc e] [Y] [I pre] (YPost I Ix pre e))→
  Enters gf∧Spec prog gf (v::lb).toArray (Y::Fg) (I []::A) ⟨Option (List α)×List α,fun _=>.tuple #[],fun r=>match r.1 with|none=>All r.2|some _=>True,fun _=>[],fun r=>(match r.1 with|none=>I r.2|some pre=>Ix pre)::A'⟩
end
abbrev chv (p:Nm×Ch):Value:=p.2.v
def OkP {γ:Type} (m pre:List γ):Prop:=∃rest,(pre++rest).Perm m
theorem entF_app:∀(F1 F0:List Pf),EntF (F0++F1) F1
 | [],_=>trivial
 | f::F1,F0=>⟨by
   induction F0 with
   | nil=>exact ⟨_,.here⟩
   | cons g F0 ih=>obtain ⟨F',s⟩:=ih;exact ⟨_,.there s⟩,by
   have:=entF_app F1 (F0++[f])
   rwa [List.append_assoc,List.singleton_append] at this⟩
theorem entF_self (F:List Pf):EntF F F:=by simpa using entF_app F []
structure RdOK (rs:List (Nm×Ch)):Prop where
 nd:(rs.map (·.1)).Nodup
 nm:∀p ∈ rs,p.2.nm=p.1
 sz:∀p ∈ rs,p.1.owner.size≤1099511627770
def vrd (rs:List (Nm×Ch)):List Ch:=srtC (rs.map (·.2))
section
def less (G:H) (b:Nat):H:=fun c=>if c=b then none else G c
variable {l:List Oper} {i:Nat} {o:Obj}
end

structure FitC (c:Ch):Prop where
 ok:nchk c.nm=0
 val:c.val.size≤65536
 abs:c.abs=false
 own:c.nm.owner.size≤1099511627770
 txt:c.nm.text.size≤1099511627776
def applyE (es:Al) (l:List Ch):Al:=l.foldl (fun es c=>insO c.nm c.val es) es
structure Ct where
 b:Int
 o:Int
 c:Int
 deriving DecidableEq
def Ct.v (c:Ct):Value:=.agg #[.int .i64 c.b,.int .i64 c.o,.int .i64 c.c]
def Ct.z:Ct:=⟨0,0,0⟩
structure CtOK (c:Ct):Prop where
 b0:0≤c.b
 b1:c.b≤1048576
 o0:0≤c.o
 o1:c.o≤1048576
 c0:0≤c.c
 c1:c.c≤1048576
def cenc (c:Ct):List UInt8:=venc c.b.toNat++venc c.o.toNat++venc c.c.toNat
def cchk (c:Ct):Int:=if 0≤c.b∧c.b≤1048576∧0≤c.o∧c.o≤1048576∧0≤c.c∧c.c≤1048576 then 0 else 2

def cread (s:RS):Ct×RS:=
 let (b,s1):=rnum s 1048576
 let (o,s2):=rnum s1 1048576
 let (c,s3):=rnum s2 1048576
 (⟨b,o,c⟩,s3)
def cdec (s:ByteArray):Option Ct:=
 let r:=cread ⟨s.data.toList,0,0⟩
 if r.2.err=0∧r.2.rest=[] then some r.1 else none
def cnm (who:ByteArray):Nm:=⟨5,who,0,0,⟨#[]⟩⟩
def madeE (es:Al) (cs:List Ch) (who:ByteArray):Ct×Int:=
 if lvalid who.data.toList then (if (vget es cs (cnm who)).2 then ((cdec (vget es cs (cnm who)).1).getD Ct.z,if (cdec (vget es cs (cnm who)).1).isSome then 0 else 3) else (Ct.z,0)) else (Ct.z,12)
def madeR (es:Al) (rs:List (Nm×Ch)) (cs:List Ch) (who:ByteArray):List (Nm×Ch):=if lvalid who.data.toList then vread es rs cs (cnm who) else rs

structure Ino where
 kd:Int
 ow:Int
 gr:Int
 md:Int
 sz:Int
 lk:Int
 tg:ByteArray
 deriving DecidableEq
def inf (n:Ino):List Value:=[.int .i64 n.kd,.int .i64 n.ow,.int .i64 n.gr,.int .i64 n.md,.int .i64 n.sz,.int .i64 n.lk,.string n.tg]
def Ino.v (n:Ino):Value:=.agg #[.int .i64 n.kd,.int .i64 n.ow,.int .i64 n.gr,.int .i64 n.md,.int .i64 n.sz,.int .i64 n.lk,.string n.tg]
def Ino.z:Ino:=⟨0,0,0,0,0,0,⟨#[]⟩⟩
def badt (c:UInt8):Bool:=decide ((c.toNat:Int)<32) || ((c.toNat:Int) == 127)
def tchk (s:ByteArray):Int:=if isE s then 4 else if 256<s.size then 5 else if s.data.toList.any badt then 6 else 0
def ifit (n:Ino):Prop:=0≤n.ow∧n.ow≤65535∧0≤n.gr∧n.gr≤65535∧0≤n.md∧n.md≤2047∧0≤n.sz∧n.sz≤4096∧0≤n.lk∧n.lk≤1000
instance (n:Ino):Decidable (ifit n):=by unfold ifit;infer_instance
def ichk (n:Ino):Int:=
 if n.kd<1∨3<n.kd then 11
 else if ¬ifit n then 2
 else if (n.kd≠1∧n.sz≠0)∨(n.kd≠3∧isE n.tg=false) then 3
 else if n.kd≠3 then 0
 else tchk n.tg
def ienc (n:Ino):List UInt8:=([n.kd,n.ow,n.gr,n.md,n.sz,n.lk].flatMap fun z=>venc z.toNat)++venc n.tg.size++n.tg.data.toList
def iencS (n:Ino):ByteArray:=if ichk n=0 then ⟨(ienc n).toArray⟩ else ⟨#[]⟩
def iread (s:RS):Ino×RS:=
 let (a1,s1):=rnum s 3
 let (a2,s2):=rnum s1 65535
 let (a3,s3):=rnum s2 65535
 let (a4,s4):=rnum s3 2047
 let (a5,s5):=rnum s4 4096
 let (a6,s6):=rnum s5 1000
 let (a7,s7):=rtext s6 256
 (⟨a1,a2,a3,a4,a5,a6,a7⟩,s7)
def idec (s:ByteArray):Option Ino:=
 let r:=iread ⟨s.data.toList,0,0⟩
 if r.2.err=0∧r.2.rest=[]∧ichk r.1=0 then some r.1 else none
theorem Spec.ex {P:Program} {f:FuncId} {args:Array Value} {F:List Pf} {R:List HP} {post:Post} {X:Type} {r:HP} {Lx:X→List HP} {p:X→Prop} (h:∀hh,r hh→∃x,p x∧Sep (Lx x) hh) (t:∀x,p x→Spec P f args F (Lx x++R) post):Spec P f args F (r::R) post:=fun G w hp hs=>by
 obtain ⟨⟨x,hx⟩,h1⟩:=hs.open' (X:={x // p x}) (L:=fun x=>Lx x.1) fun hh hr=>let ⟨x,h1,h2⟩:=h hh hr;⟨⟨x,h1⟩,h2⟩
 exact t x hx G w hp h1
section
variable {l:List Oper} {i:Nat}
theorem run_scut {s:ByteArray} {z:Int} {rs:TRow} {w:World} (hi:Nat) (hle:hi≤s.size) (hts:lookT tab t=some rs) (hrs:rs.k = .str) (hz:z=(hi:Int)):(Instr.sliceAt t (.string s) none (some (.int .i64 z)) none).run prog w = .ok (.string (s.extract 0 hi)) w:=by
 subst hz
 have hu:=XU (w:=w) hts hrs
 have hb:(Instr.sliceBound (.int .i64 (hi:Int)) s.size .sliceAlen).run prog w = .ok hi w:=by
  simp only [Instr.sliceBound,asIntOf,Sem.run_bind,Sem.run_pure,Result.andThen]
  rw [if_pos ⟨by omega,by omega⟩]
  simp
 simp [Instr.sliceAt,Instr.slice,Instr.sliceBounds,Sem.run_bind,hu,Result.andThen,hb]
theorem minS (m j:Nat):(if (j:Int)<(m:Int) then (j:Int) else (m:Int))=((min m j:Nat):Int):=by split<;>omega
def cutS (s:ByteArray) (m:Nat):ByteArray:=s.extract 0 (min s.size m)
theorem cutS_size (s:ByteArray) (m:Nat):(cutS s m).size≤m:=by
 unfold cutS;rw [ByteArray.size_extract];omega
theorem l_cutS {s:ByteArray} {z:Int} {rs:TRow} (hi:Nat) (nx:Wl n C ops.toArray k Q l ((d,.string (cutS s hi))::E) F R)
  (hw:wantL ops E ⟨some d,.slice t x none (some y) none,ty0,pos,aft,gd⟩=some true:=by rfl) (hn:Nat.blt d n=true:=by rfl) (hx:ev E x=some (.string s):=by rfl) (hy:ev E y=some (.int .i64 z):=by rfl)
  (hts:lookT tab t=some rs:=by rfl) (hrs:rs.k = .str:=by rfl) (hz:z=(if (hi:Int)<(s.size:Int) then (hi:Int) else (s.size:Int)):=by rfl):Wl n C ops.toArray k Q (⟨some d,.slice t x none (some y) none,ty0,pos,aft,gd⟩::l) E F R:=
 l_q (fun a w ha=>by
  simp only [execOp,Option.map_some,Option.map_none,ha.ev (x:=x) (by rw [ZS];exact hx),ha.ev (x:=y) (by rw [ZS];exact hy),Sem.run_bind,run_scut (w:=w) (min s.size hi) (Nat.min_le_left _ _) hts hrs (hz.trans (minS _ _)),Result.andThen,Sem.run_pure,cutS]) nx (by intro c h;cases h) hw hn
end
def By (T b:Nat) (L:List UInt8):HP:=Pt b (.cells (byt L).toArray T (0,0))
def cpy (L:List UInt8) (off:Nat) (s:ByteArray) (dl:Nat):List UInt8:=L.take off++s.data.toList.take (min s.size dl)++L.drop (off+min s.size dl)
section
variable {l:List Oper} {i:Nat}
theorem run_send {s:ByteArray} {z:Int} {rs:TRow} {w:World} (lo:Nat) (hle:lo≤s.size) (hts:lookT tab t=some rs) (hrs:rs.k = .str) (hz:z=(lo:Int)):(Instr.sliceAt t (.string s) (some (.int .i64 z)) none none).run prog w = .ok (.string (s.extract lo s.size)) w:=by
 subst hz
 have hu:=XU (w:=w) hts hrs
 have hb:(Instr.sliceBound (.int .i64 (lo:Int)) s.size .sliceB).run prog w = .ok lo w:=by
  simp only [Instr.sliceBound,asIntOf,Sem.run_bind,Sem.run_pure,Result.andThen]
  rw [if_pos ⟨by omega,by omega⟩]
  simp
 simp [Instr.sliceAt,Instr.slice,Instr.sliceBounds,Sem.run_bind,hu,Result.andThen,hb]
def arv (Lb:List UInt8):Value:=.agg (byt Lb).toArray
end
theorem bdInfo:∃j,prog.info? 82=some j∧j.size=2:=by
 obtain ⟨j,h1,h2⟩:=Option.map_eq_some_iff.1 (show (prog.info? 82).map (·.size)=some 2 by kernel_rfl)
 exact ⟨j,h1,h2⟩
theorem bdLies:liesAt prog prog.depth 82 (2 / prog.cellsOf 82) 0 82 1=true:=by kernel_rfl
theorem u8Cells:prog.cellsOf 5=1:=by kernel_rfl
section
variable {l:List Oper} {i:Nat} {z:Operand}
theorem l_nepB {a:Addr} (nx:Wl n C ops.toArray k Q l ((d,.bool false)::E) F R) (hw:wantL ops E ⟨some d,.binOp .neq 79 x y t2,ty0,pos,aft,gd⟩=some true:=by rfl) (hn:Nat.blt d n=true:=by rfl)
  (hx:ev E x=some (.pointer (some a)):=by rfl) (hy:ev E y=some (.pointer (some a)):=by rfl):Wl n C ops.toArray k Q (⟨some d,.binOp .neq 79 x y t2,ty0,pos,aft,gd⟩::l) E F R:=
 l_q (fun ac w ha=>by
  obtain ⟨j,h1,h2⟩:=bdInfo
  have hg:(eqGuard .neq 79 x y (.pointer (some a)) (.pointer (some a))).run prog w = .ok () w:=by simp [eqGuard]
  have hb:=Lib.run_neq_ptr_same (P:=prog) w a underlying79 h1
  simp only [execOp,ha.ev (x:=x) (by rw [ZS];exact hx),ha.ev (x:=y) (by rw [ZS];exact hy),Sem.run_bind,hg,Result.andThen,hb,Sem.run_pure]) nx (by intro c h;cases h) hw hn
theorem l_toU {b:Nat} {cs:Array Value} (nx:Wl n C ops.toArray k Q l ((d,.pointer (some ⟨b,0,none⟩))::E) F R) (hw:wantL ops E ⟨some d,.convert 79 161 x,ty0,pos,aft,gd⟩=some true:=by rfl) (hn:Nat.blt d n=true:=by rfl)
  (hx:ev E x=some (.pointer (some ⟨b,0,none⟩)):=by rfl) (hs:Sel (Pt b (.cells cs 82 (0,0))) R R0:=by (repeat (first|exact Sel.here|apply Sel.there));first|done|fail) (hc:cs.size=2:=by rfl):Wl n C ops.toArray k Q (⟨some d,.convert 79 161 x,ty0,pos,aft,gd⟩::l) E F R:=
 YO (fun t ht=>by cases ht;exact Nat.le_of_ble_eq_true hn) (fun c hc=>by cases hc) hw fun a w ha hsat=>by
  obtain ⟨j,h1,h2⟩:=bdInfo
  have hb:=hsat.pt hs
  have hsh:w.shape? b=some (82,2):=by simp [World.shape?,hb,hc]
  have hr:=Lib.run_to_unsafe (P:=prog) w ⟨b,0,none⟩ underlying79 underlying161 h1 (by rw [h2];decide) hsh (show 0<2 by decide)
  unfold OpRes
  simp only [execOp,ha.ev (x:=x) (by rw [ZS];exact hx),Sem.run_bind,Result.andThen,hr,Sem.run_pure]
  exact fun a' ha'=>nx a' w ha' hsat
theorem l_fromU {b:Nat} {cs:Array Value} (nx:Wl n C ops.toArray k Q l ((d,.pointer (some ⟨b,0,none⟩))::E) F R) (hw:wantL ops E ⟨some d,.convert 161 79 x,ty0,pos,aft,gd⟩=some true:=by rfl) (hn:Nat.blt d n=true:=by rfl)
  (hx:ev E x=some (.pointer (some ⟨b,0,none⟩)):=by rfl) (hs:Sel (Pt b (.cells cs 82 (0,0))) R R0:=by (repeat (first|exact Sel.here|apply Sel.there));first|done|fail) (hc:cs.size=2:=by rfl):Wl n C ops.toArray k Q (⟨some d,.convert 161 79 x,ty0,pos,aft,gd⟩::l) E F R:=
 YO (fun t ht=>by cases ht;exact Nat.le_of_ble_eq_true hn) (fun c hc=>by cases hc) hw fun a w ha hsat=>by
  obtain ⟨j,h1,h2⟩:=bdInfo
  have hb:=hsat.pt hs
  have hsh:w.shape? b=some (82,2):=by simp [World.shape?,hb,hc]
  have hr:=Lib.run_from_unsafe (P:=prog) w ⟨b,0,none⟩ underlying161 underlying79 h1 hsh bdLies
  unfold OpRes
  simp only [execOp,ha.ev (x:=x) (by rw [ZS];exact hx),Sem.run_bind,Result.andThen,hr,Sem.run_pure]
  exact fun a' ha'=>nx a' w ha' hsat
theorem run_callX {f:FuncId} {args:Array Operand} {tys:Array TypeId} {vs:List Value} {v:Value} (hf:∀w,(callFunc f vs.toArray).run prog w = .ok (.value v) w) (hargs:evs (ev E) args.toList some=some vs) {a:Act} {ds:List Deferred} (ha:Agree n ds (look E) a) (w:World) (dst:Option Tmp) :
  (execOp a.eval ⟨dst,.call ⟨.value (.func f),args,tys⟩,ty0,pos,aft,gd⟩).run prog w = .ok (.value v) w:=by
 obtain ⟨us,_,h2,h3⟩:=X9 _ _ _ hargs
 obtain rfl:=Option.some.inj h2
 have e1:=h3 a.eval fun x _ u hu=>ha.ev (by rw [ZS];exact hu)
 have e3:args.map a.eval=us.toArray:=by rw [←Array.toList_inj];simpa using e1
 simp only [execOp,resolve,Deferred.ofValue,Act.eval,Sem.run_bind,Sem.run_pure,Result.andThen,invoke]
 have e4:(args.map fun x=>a.eval x)=us.toArray:=e3
 simp only [Act.eval] at e4
 rw [show (#[]:Array Value)++Array.map _ args++#[]=us.toArray by rw [←e3];simp]
 exact hf w
theorem l_noesc {v:Value} {args:Array Operand} {tys:Array TypeId} (nx:Wl n C ops.toArray k Q l ((d,v)::E) F R) (hw:wantL ops E ⟨some d,.call ⟨.value (.func 92),args,tys⟩,ty0,pos,aft,gd⟩=some true:=by rfl) (hn:Nat.blt d n=true:=by rfl)
  (hargs:evs (ev E) args.toList some=some [v]:=by rfl):Wl n C ops.toArray k Q (⟨some d,.call ⟨.value (.func 92),args,tys⟩,ty0,pos,aft,gd⟩::l) E F R:=
 YO (fun t ht=>by cases ht;exact Nat.le_of_ble_eq_true hn) (fun c hc=>by cases hc) hw fun a w ha hsat=>by
  have hc:∀w,(callFunc 92 [v].toArray).run prog w = .ok (.value v) w:=fun w=>by
   rw [run_callFunc_extern func92 (by kernel_rfl) (by kernel_rfl) (by kernel_rfl) (e:=Extern.AbiNoEscape.same) (by kernel_rfl),Lib.run_noEscape]
   rfl
  unfold OpRes
  rw [run_callX hc hargs ha w]
  exact fun a' ha'=>nx a' w ha' hsat
theorem r_usd {o:Option Addr} {m c:Nat} {tys:Array TypeId} (nx:Wr n C ops k Q Tl Fs R L ((d,.pointer o)::E) F N)
  (ho:nth ops i=some ⟨some d,.call ⟨.builtin .unsafeSliceData,#[x],tys⟩,ty0,pos,aft,gd⟩:=by rfl) (hw:wantL ops E ⟨some d,.call ⟨.builtin .unsafeSliceData,#[x],tys⟩,ty0,pos,aft,gd⟩=some true:=by rfl) (hx:ev E x=some (.slice o m c):=by rfl) (hc:o=none∨c≠0):Wr n C ops k Q Tl Fs R ((i,0)::L) E F N:=
 r_q (fun a w ha=>by
  have e1:=ha.ev (x:=x) (by rw [ZS];exact hx)
  have hr:(Builtin.unsafeSliceData_ tys ty0 #[.slice o m c]).run prog w = .ok (.pointer o) w:=by
   rcases hc with rfl|hc
   ·exact Lib.run_unsafeSliceData_nil (P:=prog) w tys ty0 m c
   ·cases o with
    | none=>exact Lib.run_unsafeSliceData_nil (P:=prog) w tys ty0 m c
    | some a=>exact Lib.run_unsafeSliceData_row (P:=prog) w tys ty0 a m c hc
  simp only [execOp,resolve,Sem.run_bind,Sem.run_pure,Result.andThen,invoke,builtin,List.map_toArray,List.map_cons,List.map_nil,e1,hr]) nx ho hw
theorem r_ust0 {o:Option Addr} {pt it:TypeId} (nx:Wr n C ops k Q Tl Fs R L ((d,.string ⟨#[]⟩)::E) F N)
  (ho:nth ops i=some ⟨some d,.call ⟨.builtin .unsafeString,#[x,y],#[pt,it]⟩,ty0,pos,aft,gd⟩:=by rfl) (hw:wantL ops E ⟨some d,.call ⟨.builtin .unsafeString,#[x,y],#[pt,it]⟩,ty0,pos,aft,gd⟩=some true:=by rfl)
  (hx:ev E x=some (.pointer o):=by rfl) (hy:ev E y=some (.int .i64 0):=by rfl):Wr n C ops k Q Tl Fs R ((i,0)::L) E F N:=
 r_q (fun a w ha=>by
  have e1:=ha.ev (x:=x) (by rw [ZS];exact hx)
  have e2:=ha.ev (x:=y) (by rw [ZS];exact hy)
  have hr:=Lib.run_unsafeString_none (P:=prog) w pt it ty0 o
  simp only [execOp,resolve,Sem.run_bind,Sem.run_pure,Result.andThen,invoke,builtin,List.map_toArray,List.map_cons,List.map_nil,e1,e2,hr]
  rfl) nx ho hw
theorem frz_w {w:World} {g m:Nat} {cs:Array Value} {T:TypeId} {fz:Nat×Nat} (hb:w.heap[g]? = some (.cells cs T fz)):∃fz',(w.freeze ⟨g,0,none⟩ m).heap[g]? = some (.cells cs T fz')∧Same w (w.freeze ⟨g,0,none⟩ m)∧∀e,e≠g→(w.freeze ⟨g,0,none⟩ m).heap[e]? = w.heap[e]?:=by
 obtain ⟨lo,hi⟩:=fz
 unfold World.freeze
 split
 ·exact ⟨(lo,hi),hb,Same.refl w,fun _ _=>rfl⟩
 ·refine ⟨if lo == hi then (0,0+m) else (min lo 0,max hi (0+m)),?_,⟨rfl,rfl,rfl,by simp⟩,fun e he=>?_⟩
  ·simp only [Array.getElem?_modify,if_true,hb,Option.map_some]
  ·simp only [Array.getElem?_modify]
   rw [if_neg (fun h=>he h.symm)]
theorem r_ust {g:Nat} {bs:List UInt8} {rest:List Value} {fz:Nat×Nat} {pt it:TypeId} (hne:bs≠[]) (hlt:bs.length≤1099511627776) (hp:prog.underlying pt=some (.pointer 5)) (nx:∀fz',Wr n C ops k Q Tl Fs R L ((d,.string ⟨bs.toArray⟩)::E) F (Pt g (.cells (byt bs++rest).toArray 5 fz')::N'))
  (ho:nth ops i=some ⟨some d,.call ⟨.builtin .unsafeString,#[x,y],#[pt,it]⟩,ty0,pos,aft,gd⟩:=by rfl) (hw:wantL ops E ⟨some d,.call ⟨.builtin .unsafeString,#[x,y],#[pt,it]⟩,ty0,pos,aft,gd⟩=some true:=by rfl)
  (hx:ev E x=some (.pointer (some ⟨g,0,none⟩)):=by rfl) (hy:ev E y=some (.int .i64 (bs.length:Int)):=by rfl) (hs:Sel (Pt g (.cells (byt bs++rest).toArray 5 fz)) N N':=by (repeat (first|exact Sel.here|apply Sel.there));first|done|fail):Wr n C ops k Q Tl Fs R ((i,4)::L) E F N:=
 Yx ho fun hp' hr w st hz sb=>by
  simp only [Z0 hw]
  refine ⟨⟨{_fz:Nat×Nat // True},fun _=>.string ⟨bs.toArray⟩,fun _=>True,fun _=>F,fun fz'=>Pt g (.cells (byt bs++rest).toArray 5 fz'.1)::N'⟩,fun a G w hp'' ha hsub hsat=>?_,fun fz' _=>nx fz'.1 hp' hr w st hz sb⟩
  have hb:=hsat.pt hs
  have hr1:=Lib.run_unsafeString_row (P:=prog) w pt it ty0 5 hp u8Cells g (byt bs++rest).length (by simp [World.shape?,hb]) bs hne (by simp [byt]) (by omega) (fun j u hj=>by
   have hlt2:j<bs.length:=(List.getElem?_eq_some_iff.1 hj).1
   simp only [World.cell?,Addr.add]
   have e:(byt bs++rest)[j]? = some (.int .u8 u.toNat):=by rw [List.getElem?_append_left (by simp [byt];omega)];simp [byt,hj]
   by_cases h0:j=0
   ·subst h0;simp [hb] at e ⊢;exact e
   ·simp [h0,hb] at e ⊢;exact e)
  obtain ⟨fz',g2,g3,g4⟩:=frz_w (m:=bs.length) hb
  unfold OpRes
  have e1:=ha.ev (x:=x) (by rw [ZS];exact hx)
  have e2:=ha.ev (x:=y) (by rw [ZS];exact hy)
  simp only [execOp,resolve,Sem.run_bind,Sem.run_pure,Result.andThen,invoke,builtin,List.map_toArray,List.map_cons,List.map_nil,e1,e2,hr1]
  exact ⟨⟨fz',trivial⟩,trivial,trivial,(show Sat G w hp'' F (Pt g (.cells (byt bs++rest).toArray 5 fz)::N') w from hsat.sel hs).write g3 g2 fun e he _=>g4 e he⟩
end
theorem VT (b:Nat) (p:Option Addr) (v:Value) (hp:p=none∨p=some ⟨b,0,none⟩):Enters 65∧Spec prog 65 #[.pointer (some ⟨b,0,none⟩)] [] [Pt b (.cells #[.pointer p,v] 82)]
  ⟨Unit,fun _=>.tuple #[],fun _=>True,fun _=>[],fun _=>[Pt b (.cells #[.pointer (some ⟨b,0,none⟩),v] 82)]⟩:=by
 rcases hp with rfl|rfl
 ·refine ZR [_] func65 ntmps65 fun G w hp=>?_
  repeat' (first|refine ZF ?_|refine ZI ?_|refine ZG ?_|refine ZH ?_|refine ZL ?_|refine ZJ ?_|refine ZN ?_|refine ZK (fun b=>?_)|refine ZM (fun b=>?_)|refine ZC ?_|refine ZA ?_|refine ZO ?_|refine l_toU ?_|refine l_noesc ?_|refine l_fromU ?_|(refine ZB (fun hc=>?_) (fun hc=>?_)<;>(try simp at hc))|(refine ZE (fun hc=>?_) (fun hc=>?_)<;>(try simp at hc)))
  exact YR () rfl trivial
 ·refine ZR [_] func65 ntmps65 fun G w hp=>?_
  repeat' (first|refine ZF ?_|refine ZI ?_|refine ZG ?_|refine ZH ?_|refine ZL ?_|refine ZJ ?_|refine ZN ?_|refine ZK (fun b=>?_)|refine ZM (fun b=>?_)|refine ZC ?_|refine ZA ?_|refine ZO ?_|refine l_nepB ?_|(refine ZB (fun hc=>?_) (fun hc=>?_)<;>(try simp at hc))|(refine ZE (fun hc=>?_) (fun hc=>?_)<;>(try simp at hc)))
  exact YR () rfl trivial
abbrev BdL (b:Nat) (p o:Option Addr) (cap:Nat) (bs:List UInt8):List HP:=[Pt b (.cells #[.pointer p,.slice o bs.length cap] 82),Row 5 1 o bs.length cap (byt bs)]
def Bdr (b:Nat) (bs:List UInt8):HP:=fun h=>∃q:Option Addr×Option Addr×Nat,((q.1=none∨q.1=some ⟨b,0,none⟩)∧(bs=[]→q.2.1=none))∧Sep (BdL b q.1 q.2.1 q.2.2 bs) h
theorem u8Ptr:prog.underlying 129=some (.pointer 5):=underlying129
set_option maxHeartbeats 1000000 in
theorem Xb (b:Nat) (bs:List UInt8) (hl:bs.length≤1099511627776):Enters 41∧Spec prog 41 #[.pointer (some ⟨b,0,none⟩)] [] [Bdr b bs] (RetV (.string ⟨bs.toArray⟩)):=by
 refine ZR [_] func41 ntmps41 fun G w hp=>?_
 refine Yu (X:=Option Addr×Option Addr×Nat) (Lx:=fun q=>BdL b q.1 q.2.1 q.2.2 bs) (p:=fun q=>(q.1=none∨q.1=some ⟨b,0,none⟩)∧(bs=[]→q.2.1=none)) (r:=Bdr b bs) .here (fun h hh=>hh) (fun q hq=>?_)
 obtain ⟨p,o,cap⟩:=q
 obtain ⟨hp,ho⟩:=hq
 dsimp only at hp ho ⊢
 by_cases hb:bs=[]
 ·subst hb
  obtain rfl:=ho rfl
  repeat' (first|refine ZF ?_|refine ZI ?_|refine ZG ?_|refine ZH ?_|refine ZL ?_|refine ZJ ?_|refine ZN ?_|refine ZK (fun b=>?_)|refine ZM (fun b=>?_)|refine ZC ?_|refine ZA ?_|refine ZO ?_|refine Zb ?_|refine Zc ?_|refine Zq ?_|refine Zd ?_|refine r_ldN ?_|refine Zr (fun b=>?_)|refine Zo (fun b=>?_)|refine Zp ?_|refine Za ?_|refine r_usd ?_ (hc:=.inl rfl)|refine r_ust0 ?_|(refine ZB (fun hc=>?_) (fun hc=>?_)<;>(try simp at hc))|(refine ZU (fun hc=>?_) (fun hc=>?_)<;>(try simp at hc))|refine ZT 1 [] [(0,0),(1,0),(2,0),(3,0),(4,0),(5,0),(6,0),(7,0),(8,0),(9,0),(10,0),(11,0)] [] ?_|(refine ZE (fun hc=>?_) (fun hc=>?_)<;>(try simp at hc)))
  exact ZP () rfl trivial
 ·have hb0:0<bs.length:=List.length_pos_iff.2 hb
  refine Yu (X:=Nat×List Value×(Nat×Nat)) (Lx:=fun q=>[Pt q.1 (.cells (byt bs++q.2.1).toArray 5 q.2.2)]) (p:=fun q=>o=some ⟨q.1,0,none⟩∧cap≠0) (r:=Row 5 1 o bs.length cap (byt bs)) (.there .here) (fun hh' hh=>?_) (fun q hq=>?_)
  ·rcases hh with ⟨_,h0,_⟩|⟨g,rest,fz,h1,h2,h3,h4,h5,h6⟩
   ·omega
   ·exact ⟨(g,rest,fz),⟨h1,by omega⟩,hh',emp,fun _=>.inr rfl,fun _ _ e=>e,fun _ _ e=>(by cases e),h2,trivial⟩
  ·obtain ⟨g,rest,fz⟩:=q
   obtain ⟨rfl,hc⟩:=hq
   dsimp only at hc ⊢
   repeat' (first|refine ZF ?_|refine ZI ?_|refine ZG ?_|refine ZH ?_|refine ZL ?_|refine ZJ ?_|refine ZN ?_|refine ZK (fun b=>?_)|refine ZM (fun b=>?_)|refine ZC ?_|refine ZA ?_|refine ZO ?_|refine Zb ?_|refine Zc ?_|refine Zq ?_|refine Zd ?_|refine r_ldN ?_|refine Zr (fun b=>?_)|refine Zo (fun b=>?_)|refine Zp ?_|refine Za ?_|refine r_usd ?_ (hc:=.inr hc)|refine r_ust hb hl u8Ptr (fun fz'=>?_)|(refine ZB (fun hc=>?_) (fun hc=>?_)<;>(try simp at hc))|(refine ZU (fun hc=>?_) (fun hc=>?_)<;>(try simp at hc))|refine ZT 1 [Pt g (.cells _ 5 _)] [(0,0),(1,0),(2,0),(3,0),(4,0),(5,0),(6,0),(7,0),(8,0),(9,0),(10,4),(11,0)] [] ?_|(refine ZE (fun hc=>?_) (fun hc=>?_)<;>(try simp at hc)))
   exact ZP () rfl trivial
section
variable {l:List Oper} {i:Nat} {z:Operand}
theorem l_appE {T cap:Nat} {s:ByteArray} {ts tx:TypeId} {rs tr rx:TRow} (h0:s.size=0) (nx:Wl n C ops.toArray k Q l ((d,.slice none 0 cap)::E) F R)
  (hw:wantL ops E ⟨some d,.call ⟨.builtin .append,#[x,y],#[ts,tx]⟩,ty0,pos,aft,gd⟩=some true:=by rfl) (hn:Nat.blt d n=true:=by rfl) (hx:ev E x=some (.slice none 0 cap):=by rfl) (hy:ev E y=some (.string s):=by rfl)
  (hts:lookT tab ts=some rs:=by rfl) (hrs:rs.k = .slice T:=by rfl) (hT:lookT tab T=some tr:=by rfl) (htx:lookT tab tx=some rx:=by rfl) (hnx:rx.k = .str:=by rfl):Wl n C ops.toArray k Q (⟨some d,.call ⟨.builtin .append,#[x,y],#[ts,tx]⟩,ty0,pos,aft,gd⟩::l) E F R:=
 l_q (fun a w ha=>by
  obtain ⟨d1,hd1,hk1⟩:=Zt.und hts
  rw [hrs] at hk1
  cases d1<;>simp [chkKind] at hk1
  subst hk1
  obtain ⟨d2,hd2,hk2⟩:=Zt.und htx
  rw [hnx] at hk2
  cases d2<;>simp [chkKind] at hk2
  have hs1:=Zt.sizeOf hT w
  have hu1:(underlying ts).run prog w = .ok (.slice T) w:=by simp [underlying,hd1,go_sem]
  have hu2:(underlying tx).run prog w = .ok .string w:=by simp [underlying,hd2,go_sem]
  have e1:=ha.ev (x:=x) (by rw [ZS];exact hx)
  have e2:=ha.ev (x:=y) (by rw [ZS];exact hy)
  have hr:(Builtin.append_ #[ts,tx] ty0 #[.slice none 0 cap,.string s]).run prog w = .ok (.slice none 0 cap) w:=by
   simp [Builtin.append_,hu1,hu2,hs1,Builtin.lenOf,Builtin.firstCells,h0,go_sem]
  simp only [execOp,resolve,Sem.run_bind,Sem.run_pure,Result.andThen,invoke,builtin,List.map_toArray,List.map_cons,List.map_nil,e1,e2,hr]) nx (by intro c h;cases h) hw hn
end
set_option maxHeartbeats 1000000 in
theorem ZY (b:Nat) (bs:List UInt8) (s:ByteArray) (hl:bs.length≤1000000000) (hl2:s.size≤1000000000):Enters 38∧Spec prog 38 #[.pointer (some ⟨b,0,none⟩),.string s] [] [Bdr b bs]
  ⟨Unit,fun _=>.tuple #[.int .i64 s.size,.nilIface],fun _=>True,fun _=>[],fun _=>[Bdr b (bs++s.data.toList)]⟩:=by
 refine ZR [_,_] func38 ntmps38 fun G w hp=>?_
 refine Yu (X:=Option Addr×Option Addr×Nat) (Lx:=fun q=>BdL b q.1 q.2.1 q.2.2 bs) (p:=fun q=>(q.1=none∨q.1=some ⟨b,0,none⟩)∧(bs=[]→q.2.1=none)) (r:=Bdr b bs) .here (fun h hh=>hh) (fun q hq=>?_)
 obtain ⟨p,o,cap⟩:=q
 obtain ⟨hp,ho⟩:=hq
 dsimp only at hp ho
 have n1:=fun v=>VT b p v hp
 have hsz:s.data.toList.length=s.size:=by show _=s.data.size;simp
 by_cases he:bs++s.data.toList=[]
 ·obtain ⟨rfl,h2⟩:=List.append_eq_nil_iff.1 he
  have h0:s.size=0:=by rw [←hsz,h2];rfl
  obtain rfl:=ho rfl
  repeat' (first|refine l_appE h0 ?_|refine ZF ?_|refine ZI ?_|refine ZG ?_|refine ZH ?_|refine ZL ?_|refine ZJ ?_|refine ZN ?_|refine ZK (fun b=>?_)|refine ZM (fun b=>?_)|refine ZC ?_|refine ZA ?_|refine ZO ?_|refine ZD (n1 _) (fun _ _=>?_)|refine l_call0 (n1 _) (fun _ _=>?_)|(refine ZB (fun hc=>?_) (fun hc=>?_)<;>(try simp at hc))|(refine ZE (fun hc=>?_) (fun hc=>?_)<;>(try simp at hc)))
  rw [h2]
  refine Z1 (r:=Bdr b ([]++[])) (Lx:=BdL b (some ⟨b,0,none⟩) none cap []) (fun h hh=>⟨(some ⟨b,0,none⟩,none,cap),⟨.inr rfl,fun _=>rfl⟩,hh⟩) ?_
  exact ZP () rfl trivial
 ·repeat' (first|refine l_appS (s:=s) (fun o' cap'=>?_) (hroom:=by simp only [Nat.mul_one];omega)|refine ZF ?_|refine ZI ?_|refine ZG ?_|refine ZH ?_|refine ZL ?_|refine ZJ ?_|refine ZN ?_|refine ZK (fun b=>?_)|refine ZM (fun b=>?_)|refine ZC ?_|refine ZA ?_|refine ZO ?_|refine ZD (n1 _) (fun _ _=>?_)|refine l_call0 (n1 _) (fun _ _=>?_)|(refine ZB (fun hc=>?_) (fun hc=>?_)<;>(try simp at hc))|(refine ZE (fun hc=>?_) (fun hc=>?_)<;>(try simp at hc)))
  have hE:byt bs++s.data.toList.map (fun b=>Value.int .u8 b.toNat)=byt (bs++s.data.toList):=by rw [byt_append];rfl
  rw [hE,←hsz,←List.length_append]
  refine Z1 (r:=Bdr b (bs++s.data.toList)) (Lx:=BdL b (some ⟨b,0,none⟩) o' cap' (bs++s.data.toList)) (fun h hh=>⟨(some ⟨b,0,none⟩,o',cap'),⟨.inr rfl,fun h=>absurd h he⟩,hh⟩) ?_
  rw [hsz]
  exact ZP () rfl trivial
set_option maxHeartbeats 1000000 in
theorem Ze (bq:Nat) (bs:List UInt8) (c:UInt8) (hl:bs.length≤1000000000):Enters 59∧Spec prog 59 #[.pointer (some ⟨bq,0,none⟩),.int .u8 c.toNat] [] [Bdr bq bs]
  ⟨Unit,fun _=>.nilIface,fun _=>True,fun _=>[],fun _=>[Bdr bq (bs++[c])]⟩:=by
 refine ZR [_,_] func59 ntmps59 fun G w hp=>?_
 refine Yu (X:=Option Addr×Option Addr×Nat) (Lx:=fun q=>BdL bq q.1 q.2.1 q.2.2 bs) (p:=fun q=>(q.1=none∨q.1=some ⟨bq,0,none⟩)∧(bs=[]→q.2.1=none)) (r:=Bdr bq bs) .here (fun h hh=>hh) (fun q hq=>?_)
 obtain ⟨p,o,cap⟩:=q
 obtain ⟨hp,ho⟩:=hq
 dsimp only at hp ho
 have n1:=fun v=>VT bq p v hp
 repeat' (first|refine YY (fun o' cap'=>?_) (hroom:=by simp only [Nat.mul_one];omega)|refine ZF ?_|refine ZI ?_|refine ZG ?_|refine ZH ?_|refine ZL ?_|refine ZJ ?_|refine ZN ?_|refine ZK (fun b=>?_)|refine ZM (fun b=>?_)|refine ZC ?_|refine ZA ?_|refine ZO ?_|refine ZD (n1 _) (fun _ _=>?_)|refine l_call0 (n1 _) (fun _ _=>?_)|(refine ZB (fun hc=>?_) (fun hc=>?_)<;>(try simp at hc))|(refine ZE (fun hc=>?_) (fun hc=>?_)<;>(try simp at hc)))
 have e1:bs.length+1=(bs++[c]).length:=by simp
 have e2:byt bs++[Value.int .u8 c.toNat]=byt (bs++[c]):=by rw [byt_append];rfl
 refine YD (T:=5) (sz:=1) (o:=o') (cap:=cap') (m:=bs.length+1) _ _ e1 e2 ?_
 rw [e1]
 refine Z1 (r:=Bdr bq (bs++[c])) (Lx:=BdL bq (some ⟨bq,0,none⟩) o' cap' (bs++[c])) (fun h hh=>⟨(some ⟨bq,0,none⟩,o',cap'),⟨.inr rfl,fun h=>by simp at h⟩,hh⟩) ?_
 exact ZP () rfl trivial
theorem bd_new {b:Nat} {h:H} (hh:Sep [Pt b (.cells #[.pointer none,.slice none 0 0] 82)] h):Bdr b [] h:=by
 obtain ⟨h1,_,_,s1,_,hp,_⟩:=hh
 exact ⟨(none,none,0),⟨.inl rfl,fun _=>rfl⟩,h1,emp,fun _=>.inr rfl,s1,fun _ _ e=>(by cases e),hp,emp,emp,fun _=>.inr rfl,fun _ _ e=>(by cases e),fun _ _ e=>(by cases e),XC _ _ _,trivial⟩
theorem V2 {f:FuncId} {vs:Array Value} {F:List Pf} {r:HP} {L:List HP} {post:Post} (hx:∀h,Sep L h→r h) (s:Enters f∧Spec prog f vs F [r] post):Enters f∧Spec prog f vs F L post:=
 ⟨s.1,fun G w hp hs=>s.2 G w hp ((show Sat G w hp F (L++[]) w by simpa using hs).shut hx)⟩
theorem UD (b:Nat) (c:UInt8):Enters 59∧Spec prog 59 #[.pointer (some ⟨b,0,none⟩),.int .u8 c.toNat] [] [Pt b (.cells #[.pointer none,.slice none 0 0] 82)]
  ⟨Unit,fun _=>.nilIface,fun _=>True,fun _=>[],fun _=>[Bdr b [c]]⟩:=V2 (fun _ hh=>bd_new hh) (Ze b [] c (by simp))
section
variable {l:List Oper} {i:Nat}
def RQF (q:LR) (l:Nat) (G:H) (w0:World) (hp0:H) (Ft:Pf) (Jt Jx:HP):Exit→Act→World→Prop:=
 roundPost prog l fun e w'=>∃b,e = .returned (.bool b)∧Sat G w0 hp0 (if b then [Ft] else []) [if b then both (Pt l (.loop (rcd q .ready none))) Jt else both (Pt l (.loop (rcd q .done (some .ret)))) Jx] w'
def YPostF {α:Type} (FI:List α→Pf) (I Ix:List α→HP) (pre:List α) (e:α):Post:=⟨Bool,fun b=>.bool b,fun _=>True,fun b=>if b then [FI (pre++[e])] else [],fun b=>[if b then I (pre++[e]) else Ix (pre++[e])]⟩
def IterF {α:Type} (gf:FuncId) (lb:List Value) (enc:α→Value) (xs:List α) (Fg:List Pf) (A:List HP):Prop:=
 ∀(v:Value) (Y:Pf) (FI:List α→Pf) (I Ix:List α→HP),(∀pre e,pre++[e] <+: xs→SpecV v [enc e] [Y,FI pre] [I pre] (YPostF FI I Ix pre e))→
  Enters gf∧Spec prog gf (v::lb).toArray (Y::FI []::Fg) (I []::A) ⟨Option (List α),fun _=>.tuple #[],fun r=>∀pre,r=some pre→pre <+: xs,fun r=>(match r with|none=>[FI xs]|some _=>[]),fun r=>[match r with|none=>I xs|some pre=>Ix pre]⟩
end
section
variable {l:List Oper} {i:Nat} {z:Operand}
def SpecI (v:Value) (name:String) (vs:List Value) (F:List Pf) (R:List HP) (post:Post):Prop:=
 ∀G w hp,Sat G w hp F R w→OpRes prog (invoke (.fn (.method name) #[]) (#[v]++vs.toArray)) w fun u w'=>∃x,u=post.val x∧post.pure x∧Sat G w hp (post.F x) (post.R x) w'
theorem Y8 {T:TypeId} {u:Value} {name:String} {f:FuncId} {vs:List Value} {post:Post} (hm:∀w,(method (prog.types.size+Made.depth) T u name).run prog w = .ok (f,u) w)
  (spec:Enters f∧Spec prog f (u::vs).toArray F R post):SpecI (.iface T u) name vs F R post:=by
 intro G w hp hsat
 unfold OpRes
 have e1:(invoke (.fn (.method name) #[]) (#[.iface T u]++vs.toArray)).run prog w = .ok (.enter f (u::vs).toArray) w:=by
  have e2:((#[.iface T u]++vs.toArray:Array Value)[0]?)=some (.iface T u):=by simp
  have e3:(#[.iface T u]++vs.toArray:Array Value).extract 1 (#[.iface T u]++vs.toArray:Array Value).size=vs.toArray:=by
   rw [←Array.toList_inj];simp
  have e4:(#[u]++vs.toArray:Array Value)=(u::vs).toArray:=by rw [←Array.toList_inj];simp
  have hp:(program:Sem Program).run prog w = .ok prog w:=rfl
  simp only [invoke,e2,e3,callMethod,Sem.run_bind,hp,Result.andThen,hm]
  rw [e4]
  exact spec.1 _ w
 rw [e1]
 refine Calls.mono (spec.2 G w hp hsat) ?_
 rintro e w' ⟨x,rfl,hx,hs⟩
 exact ⟨x,rfl,hx,hs⟩
theorem Yy {v:Value} {name:String} {args:Array Operand} {tys:Array TypeId} {vs:List Value} {post:Post} (spec:SpecI v name vs F1 A post)
  (nx:∀x,post.pure x→Wl n C ops.toArray k Q l ((d,post.val x)::E) (post.F x++F) (post.R x++R')) (hw:wantL ops E ⟨some d,.call ⟨.invoke x name,args,tys⟩,ty0,pos,aft,gd⟩=some true:=by rfl) (hn:Nat.blt d n=true:=by rfl)
  (hx:ev E x=some v:=by rfl) (hargs:evs (ev E) args.toList some=some vs:=by rfl) (sel:Sels A R R':=by (repeat (first|exact Sels.nil|exact Sel.here|apply Sel.there|apply Sels.cons));first|done|fail)
  (hF:EntF F F1:=by (repeat (first|exact trivial|exact Sel.here|apply Sel.there|apply EntF.cons));first|done|fail) :
  Wl n C ops.toArray k Q (⟨some d,.call ⟨.invoke x name,args,tys⟩,ty0,pos,aft,gd⟩::l) E F R:=
 YO (fun t ht=>by cases ht;exact Nat.le_of_ble_eq_true hn) (fun c hc=>by cases hc) hw fun a w ha hsat=>by
  obtain ⟨G',hp,h1,h2⟩:=Wg hsat sel hF.all
  have h3:=spec G' w hp h1
  obtain ⟨us,_,e2,e3⟩:=X9 _ _ _ hargs
  obtain rfl:=Option.some.inj e2
  have e1:=e3 a.eval fun x _ u hu=>ha.ev (by rw [ZS];exact hu)
  have e4:args.map a.eval=us.toArray:=by rw [←Array.toList_inj];simpa using e1
  have e5:(args.map fun x=>a.eval x)=us.toArray:=e4
  have e0:=ha.ev (x:=x) (by rw [ZS];exact hx)
  have h4:=h3.mono (R':=fun v w'=>∀a',Agree n C.ds (upd (look E) (some d) v) a'→wpListIn (fz C.r) 0 prog ops.toArray (after C.r k Q) l a' w') (by
   rintro v w' ⟨x,rfl,hx,hs⟩ a' ha'
   exact nx x hx a' w' ha' (h2 _ _ _ hs))
  unfold OpRes at h4 ⊢
  have er:(execOp a.eval ⟨some d,.call ⟨.invoke x name,args,tys⟩,ty0,pos,aft,gd⟩).run prog w=(invoke (.fn (.method name) #[]) (#[v]++us.toArray)).run prog w:=by
   simp only [execOp,resolve,e0,Sem.run_bind,Sem.run_pure,Result.andThen]
   rw [e5]
  rw [er]
  exact h4
theorem l_taY {T xT:TypeId} {u:Value} {rs:TRow} {fs:List (Nat×Nat×Nat)} (nx:Wl n C ops.toArray k Q l ((d,.tuple #[u,.bool true])::E) F R) (hw:wantL ops E ⟨some d,.typeAssert x xT T true,ty0,pos,aft,gd⟩=some true:=by rfl) (hn:Nat.blt d n=true:=by rfl)
  (hx:ev E x=some (.iface T u):=by rfl) (hts:lookT tab T=some rs:=by rfl) (hrs:rs.k = .struct fs:=by rfl):Wl n C ops.toArray k Q (⟨some d,.typeAssert x xT T true,ty0,pos,aft,gd⟩::l) E F R:=
 l_q (fun ac w ha=>by
  obtain ⟨d1,hd1,hk1⟩:=Zt.und hts
  rw [hrs] at hk1
  cases d1<;>simp [chkKind] at hk1
  rename_i fields
  have hu:(underlying T).run prog w = .ok (.struct fields) w:=by simp [underlying,hd1,go_sem]
  simp only [execOp,ha.ev (x:=x) (by rw [ZS];exact hx),Instr.typeAssert,Sem.run_bind,hu,Result.andThen,if_true,Sem.run_pure]) nx (by intro c h;cases h) hw hn
theorem l_taN {T xT:TypeId} {u zv:Value} {rs:TRow} {fs:List (Nat×Nat×Nat)} (hne:u = .nilIface∨∃T' v,u = .iface T' v∧T'≠T) (nx:Wl n C ops.toArray k Q l ((d,.tuple #[zv,.bool false])::E) F R) (hw:wantL ops E ⟨some d,.typeAssert x xT T true,ty0,pos,aft,gd⟩=some true:=by rfl) (hn:Nat.blt d n=true:=by rfl)
  (hx:ev E x=some u:=by rfl) (hts:lookT tab T=some rs:=by rfl) (hrs:rs.k = .struct fs:=by rfl) (hzv:zval rs=some zv:=by rfl):Wl n C ops.toArray k Q (⟨some d,.typeAssert x xT T true,ty0,pos,aft,gd⟩::l) E F R:=
 l_q (fun ac w ha=>by
  obtain ⟨d1,hd1,hk1⟩:=Zt.und hts
  rw [hrs] at hk1
  cases d1<;>simp [chkKind] at hk1
  rename_i fields
  have hu:(underlying T).run prog w = .ok (.struct fields) w:=by simp [underlying,hd1,go_sem]
  have hz:=Vh hts hzv w
  rcases hne with rfl|⟨T',v,rfl,hne⟩
  ·simp only [execOp,ha.ev (x:=x) (by rw [ZS];exact hx),Instr.typeAssert,Sem.run_bind,hu,Result.andThen,if_true,hz,Sem.run_pure]
  ·simp only [execOp,ha.ev (x:=x) (by rw [ZS];exact hx),Instr.typeAssert,Sem.run_bind,hu,Result.andThen,if_neg hne,if_true,hz,Sem.run_pure]) nx (by intro c h;cases h) hw hn
theorem l_eqI {T:TypeId} {ms:Array (String×TypeId)} {u:Value} {r:Bool} (ht:prog.underlying T=some (.interface ms)) (hr:(u = .nilIface∧r=true)∨((∃T' v,u = .iface T' v)∧r=false)) (nx:Wl n C ops.toArray k Q l ((d,.bool r)::E) F R) (hw:wantL ops E ⟨some d,.binOp .eql T x (.const .nilIface) t2,ty0,pos,aft,gd⟩=some true:=by rfl) (hn:Nat.blt d n=true:=by rfl)
  (hx:ev E x=some u:=by rfl):Wl n C ops.toArray k Q (⟨some d,.binOp .eql T x (.const .nilIface) t2,ty0,pos,aft,gd⟩::l) E F R:=
 l_q (fun ac w ha=>by
  have hu:(underlying T).run prog w = .ok (.interface ms) w:=by simp [underlying,ht,go_sem]
  have e0:=ha.ev (x:=x) (by rw [ZS];exact hx)
  have e1:ac.eval (.const .nilIface) = .nilIface:=rfl
  rcases hr with ⟨rfl,rfl⟩|⟨⟨T',v,rfl⟩,rfl⟩
  ·have hb:(binOp .eql T .nilIface .nilIface).run prog w = .ok (.bool true) w:=by
    have h:∀d:Nat,(Op.equalIn (d+1) T .nilIface .nilIface).run prog w = .ok true w:=fun d=>by simp [Op.equalIn,hu]
    simp only [binOp]
    simp [Op.equal,Op.maxDepth,h 9999]
   have hg:(eqGuard .eql T x (.const .nilIface) .nilIface .nilIface).run prog w = .ok () w:=by simp [eqGuard,go_sem]
   simp only [execOp,e0,e1,Sem.run_bind,hg,Result.andThen,hb,Sem.run_pure]
  ·have hb:(binOp .eql T (.iface T' v) .nilIface).run prog w = .ok (.bool false) w:=by
    have h:∀d:Nat,(Op.equalIn (d+1) T (.iface T' v) .nilIface).run prog w = .ok false w:=fun d=>by simp [Op.equalIn,hu]
    simp only [binOp]
    simp [Op.equal,Op.maxDepth,h 9999]
   have hg:(eqGuard .eql T x (.const .nilIface) (.iface T' v) .nilIface).run prog w = .ok () w:=by simp [eqGuard,go_sem]
   simp only [execOp,e0,e1,Sem.run_bind,hg,Result.andThen,hb,Sem.run_pure]) nx (by intro c h;cases h) hw hn
theorem Ya {T:TypeId} {ms:Array (String×TypeId)} {u:Value} {r:Bool} (ht:prog.underlying T=some (.interface ms)) (hr:(u = .nilIface∧r=false)∨((∃T' v,u = .iface T' v)∧r=true)) (nx:Wl n C ops.toArray k Q l ((d,.bool r)::E) F R) (hw:wantL ops E ⟨some d,.binOp .neq T x (.const .nilIface) t2,ty0,pos,aft,gd⟩=some true:=by rfl) (hn:Nat.blt d n=true:=by rfl)
  (hx:ev E x=some u:=by rfl):Wl n C ops.toArray k Q (⟨some d,.binOp .neq T x (.const .nilIface) t2,ty0,pos,aft,gd⟩::l) E F R:=
 l_q (fun ac w ha=>by
  have hu:(underlying T).run prog w = .ok (.interface ms) w:=by simp [underlying,ht,go_sem]
  have e0:=ha.ev (x:=x) (by rw [ZS];exact hx)
  have e1:ac.eval (.const .nilIface) = .nilIface:=rfl
  rcases hr with ⟨rfl,rfl⟩|⟨⟨T',v,rfl⟩,rfl⟩
  ·have hb:(binOp .neq T .nilIface .nilIface).run prog w = .ok (.bool false) w:=by
    have h:∀d:Nat,(Op.equalIn (d+1) T .nilIface .nilIface).run prog w = .ok true w:=fun d=>by simp [Op.equalIn,hu]
    simp only [binOp]
    simp [Op.equal,Op.maxDepth,h 9999]
   have hg:(eqGuard .neq T x (.const .nilIface) .nilIface .nilIface).run prog w = .ok () w:=by simp [eqGuard,go_sem]
   simp only [execOp,e0,e1,Sem.run_bind,hg,Result.andThen,hb,Sem.run_pure]
  ·have hb:(binOp .neq T (.iface T' v) .nilIface).run prog w = .ok (.bool true) w:=by
    have h:∀d:Nat,(Op.equalIn (d+1) T (.iface T' v) .nilIface).run prog w = .ok false w:=fun d=>by simp [Op.equalIn,hu]
    simp only [binOp]
    simp [Op.equal,Op.maxDepth,h 9999]
   have hg:(eqGuard .neq T x (.const .nilIface) (.iface T' v) .nilIface).run prog w = .ok () w:=by simp [eqGuard,go_sem]
   simp only [execOp,e0,e1,Sem.run_bind,hg,Result.andThen,hb,Sem.run_pure]) nx (by intro c h;cases h) hw hn
end
theorem ext_take {s u:ByteArray} {hi:Nat} (h:s.data.toList.take hi=u.data.toList):s.extract 0 hi=u:=XA (by
 rw [←h]
 simp [ByteArray.data_extract,Array.toList_extract])
theorem ext_end {s u:ByteArray} {lo:Nat} (h:s.data.toList.drop lo=u.data.toList):s.extract lo s.size=u:=XA (by
 rw [←h]
 have e:s.size=s.data.toList.length:=by show s.data.size=_;simp
 simp only [ByteArray.data_extract,Array.toList_extract,e]
 simp only [List.extract_eq_take_drop]
 rw [List.take_of_length_le (by simp)])
section
variable {l:List Oper} {i:Nat} {z y2:Operand}
theorem YJ {s u:ByteArray} {z:Int} {rs:TRow} (lo:Nat) (hle:lo≤s.size) (hu:s.data.toList.drop lo=u.data.toList) (nx:Wl n C ops.toArray k Q l ((d,.string u)::E) F R)
  (hw:wantL ops E ⟨some d,.slice t x (some y) none none,ty0,pos,aft,gd⟩=some true:=by rfl) (hn:Nat.blt d n=true:=by rfl) (hx:ev E x=some (.string s):=by rfl) (hy:ev E y=some (.int .i64 z):=by rfl)
  (hts:lookT tab t=some rs:=by rfl) (hrs:rs.k = .str:=by rfl) (hz:z=(lo:Int):=by first|rfl|omega):Wl n C ops.toArray k Q (⟨some d,.slice t x (some y) none none,ty0,pos,aft,gd⟩::l) E F R:=
 l_q (fun a w ha=>by
  simp only [execOp,Option.map_some,Option.map_none,ha.ev (x:=x) (by rw [ZS];exact hx),ha.ev (x:=y) (by rw [ZS];exact hy),Sem.run_bind,run_send (w:=w) lo hle hts hrs hz,Result.andThen,Sem.run_pure,ext_end hu]) nx (by intro c h;cases h) hw hn
theorem l_sTo {s u:ByteArray} {z:Int} {rs:TRow} (hi:Nat) (hle:hi≤s.size) (hu:s.data.toList.take hi=u.data.toList) (nx:Wl n C ops.toArray k Q l ((d,.string u)::E) F R)
  (hw:wantL ops E ⟨some d,.slice t x none (some y) none,ty0,pos,aft,gd⟩=some true:=by rfl) (hn:Nat.blt d n=true:=by rfl) (hx:ev E x=some (.string s):=by rfl) (hy:ev E y=some (.int .i64 z):=by rfl)
  (hts:lookT tab t=some rs:=by rfl) (hrs:rs.k = .str:=by rfl) (hz:z=(hi:Int):=by first|rfl|omega):Wl n C ops.toArray k Q (⟨some d,.slice t x none (some y) none,ty0,pos,aft,gd⟩::l) E F R:=
 l_q (fun a w ha=>by
  simp only [execOp,Option.map_some,Option.map_none,ha.ev (x:=x) (by rw [ZS];exact hx),ha.ev (x:=y) (by rw [ZS];exact hy),Sem.run_bind,run_scut (w:=w) hi hle hts hrs hz,Result.andThen,Sem.run_pure,ext_take hu]) nx (by intro c h;cases h) hw hn
theorem r_sTo {s u:ByteArray} {z:Int} {rs:TRow} (hi:Nat) (hle:hi≤s.size) (hu:s.data.toList.take hi=u.data.toList) (nx:Wr n C ops k Q Tl Fs R L ((d,.string u)::E) F N)
  (ho:nth ops i=some ⟨some d,.slice t x none (some y) none,ty0,pos,aft,gd⟩:=by rfl) (hw:wantL ops E ⟨some d,.slice t x none (some y) none,ty0,pos,aft,gd⟩=some true:=by rfl) (hx:ev E x=some (.string s):=by rfl) (hy:ev E y=some (.int .i64 z):=by rfl)
  (hts:lookT tab t=some rs:=by rfl) (hrs:rs.k = .str:=by rfl) (hz:z=(hi:Int):=by first|rfl|omega):Wr n C ops k Q Tl Fs R ((i,0)::L) E F N:=
 r_q (fun a w ha=>by
  simp only [execOp,Option.map_some,Option.map_none,ha.ev (x:=x) (by rw [ZS];exact hx),ha.ev (x:=y) (by rw [ZS];exact hy),Sem.run_bind,run_scut (w:=w) hi hle hts hrs hz,Result.andThen,Sem.run_pure,ext_take hu]) nx ho hw
theorem r_sEnd {s u:ByteArray} {z:Int} {rs:TRow} (lo:Nat) (hle:lo≤s.size) (hu:s.data.toList.drop lo=u.data.toList) (nx:Wr n C ops k Q Tl Fs R L ((d,.string u)::E) F N)
  (ho:nth ops i=some ⟨some d,.slice t x (some y) none none,ty0,pos,aft,gd⟩:=by rfl) (hw:wantL ops E ⟨some d,.slice t x (some y) none none,ty0,pos,aft,gd⟩=some true:=by rfl) (hx:ev E x=some (.string s):=by rfl) (hy:ev E y=some (.int .i64 z):=by rfl)
  (hts:lookT tab t=some rs:=by rfl) (hrs:rs.k = .str:=by rfl) (hz:z=(lo:Int):=by first|rfl|omega):Wr n C ops k Q Tl Fs R ((i,0)::L) E F N:=
 r_q (fun a w ha=>by
  simp only [execOp,Option.map_some,Option.map_none,ha.ev (x:=x) (by rw [ZS];exact hx),ha.ev (x:=y) (by rw [ZS];exact hy),Sem.run_bind,run_send (w:=w) lo hle hts hrs hz,Result.andThen,Sem.run_pure,ext_end hu]) nx ho hw
theorem Xi {s:ByteArray} {z:Int} {rs:TRow} (j:Nat) (c:UInt8) (hc:s.data.toList[j]? = some c) (nx:Wr n C ops k Q Tl Fs R L ((d,.int .u8 c.toNat)::E) F N)
  (ho:nth ops i=some ⟨some d,.index t x y,ty0,pos,aft,gd⟩:=by rfl) (hw:wantL ops E ⟨some d,.index t x y,ty0,pos,aft,gd⟩=some true:=by rfl) (hx:ev E x=some (.string s):=by rfl) (hy:ev E y=some (.int .i64 z):=by rfl)
  (hts:lookT tab t=some rs:=by rfl) (hrs:rs.k = .str:=by rfl) (hz:z=(j:Int):=by first|rfl|omega):Wr n C ops k Q Tl Fs R ((i,0)::L) E F N:=
 r_q (fun a w ha=>by
  subst hz
  have h0:(0:Int)≤(j:Int):=by omega
  have h1:s[j]? = some c:=by
   obtain ⟨hlt,he⟩:=List.getElem?_eq_some_iff.1 hc
   have hlt':j<s.size:=by simpa using hlt
   rw [getElem?_pos s j hlt']
   exact congrArg some he
  simp only [execOp,ha.ev (x:=x) (by rw [ZS];exact hx),ha.ev (x:=y) (by rw [ZS];exact hy),Instr.index,asIntOf,XU hts hrs,Sem.run_bind,Result.andThen,Sem.run_pure,if_pos h0,Int.toNat_natCast,h1]) nx ho hw
end
abbrev ofL (l:List UInt8):ByteArray:=⟨l.toArray⟩
structure Tk where
 kd:Int
 tx:ByteArray
 pl:Int
deriving DecidableEq
def isLet (c:UInt8):Bool:=decide (97≤c.toNat) && decide (c.toNat≤122)
def isDgt (c:UInt8):Bool:=decide (48≤c.toNat) && decide (c.toNat≤57)
def inNum (c:UInt8):Bool:=isDgt c || c == 46
def isSym (c:UInt8):Bool:=c == 40 || c == 41 || c == 58 || c == 61 || c == 60 || c == 62
def spanF (p:UInt8→Bool):List UInt8→Nat
 | []=>0
 | c::l=>if p c then spanF p l+1 else 0
def unqF:List UInt8→Nat→List UInt8→Option (List UInt8×Nat)
 | [],_,_=>none
 | [c],i,acc=>if c == 34 then some (acc,i+1) else none
 | c::d::r,i,acc=>
  if c == 34 then some (acc,i+1)
  else if c == 92 then
   if d == 34 || d == 92 then unqF r (i+2) (acc++[d])
   else if d == 110 then unqF r (i+2) (acc++[10])
   else none
  else unqF (d::r) (i+1) (acc++[c])
def scanF:Nat→List UInt8→Nat→List Tk→List Tk×Nat×Bool
 | 0,_,i,acc=>(acc,i,true)
 | _+1,[],i,acc=>(acc,i,true)
 | n+1,c::r,i,acc=>
  if c == 35 then (acc,i,true)
  else if c == 32 || c == 9 then scanF n r (i+1) acc
  else if isLet c then scanF n ((c::r).drop (spanF isLet (c::r))) (i+spanF isLet (c::r)) (acc++[⟨1,ofL ((c::r).take (spanF isLet (c::r))),i⟩])
  else if isDgt c then scanF n ((c::r).drop (spanF inNum (c::r))) (i+spanF inNum (c::r)) (acc++[⟨2,ofL ((c::r).take (spanF inNum (c::r))),i⟩])
  else if c == 34 then match unqF r 1 [] with
   | some (t,k)=>scanF n ((c::r).drop k) (i+k) (acc++[⟨3,ofL t,i⟩])
   | none=>([],i,false)
  else if isSym c then scanF n r (i+1) (acc++[⟨4,ofL [c],i⟩])
  else ([],i,false)
inductive Cnd
 | any (l:List Cnd)
 | all (l:List Cnd)
 | nt (c:Cnd)
 | nul
 | kd (w:ByteArray) (k:Int)
 | ch (w:ByteArray) (k:Int)
 | tx (w:ByteArray) (f k:Nat) (s:ByteArray)
 | nm (w:ByteArray) (f k:Nat) (n:Int)
 | by_ (w s:ByteArray)
def anyP:Cnd→List Cnd
 | .any l=>l
 | c=>[c]
def allP:Cnd→List Cnd
 | .all l=>l
 | c=>[c]
def eitherF (l:List Cnd):Cnd:=match l.flatMap anyP with
 | [c]=>c
 | r=>.any r
def bothF (l:List Cnd):Cnd:=match l.flatMap allP with
 | [c]=>c
 | r=>.all r
structure Ps where
 tk:List Tk
 en:Int
 op:Int
 pl:Int
 e:Int
namespace Ps
def fail (p:Ps) (i e:Int):Ps:=if p.e=0 then {p with tk:=[],pl:=i,e:=e} else p
def peek (p:Ps):Tk:=match p.tk with
 | []=>⟨0,ofL [],p.en⟩
 | t::_=>t
def pass (p:Ps):Ps:={p with tk:=p.tk.tail}
def is (p:Ps) (k:Int) (s:ByteArray):Bool:=decide (p.peek.kd=k) && decide (p.peek.tx=s)
def need (p:Ps) (k:Int):Ps:=if p.peek.kd=k then p.pass else p.pass.fail p.peek.pl 30
def symb (p:Ps) (s:ByteArray):Ps:=if p.is 4 s then p.pass else p.fail p.peek.pl 30
end Ps
def wIf:ByteArray:=⟨#[105,102]⟩
def wOr:ByteArray:=⟨#[111,114]⟩
def wAnd:ByteArray:=⟨#[97,110,100]⟩
def wNot:ByteArray:=⟨#[110,111,116]⟩
def yOpn:ByteArray:=⟨#[40]⟩
def yCls:ByteArray:=⟨#[41]⟩
def yCol:ByteArray:=⟨#[58]⟩
def wKinds:List ByteArray:=[⟨#[109,105,115,115,105,110,103]⟩,⟨#[99,104,97,110,103,101,100]⟩,⟨#[110,101,119]⟩]
def wChan:ByteArray:=⟨#[99,104,97,110,110,101,108]⟩
def wChs:List ByteArray:=[⟨#[109,97,105,108]⟩,⟨#[112,114,105,110,116]⟩,⟨#[111,114,100,101,114]⟩,⟨#[112,97,99,107,101,116]⟩]
def wTxs:List ByteArray:=[⟨#[116,97,114,103,101,116]⟩,⟨#[98,101,102,111,114,101]⟩,⟨#[97,102,116,101,114]⟩]
def wCts:List ByteArray:=[⟨#[105,115]⟩,⟨#[104,97,115]⟩,⟨#[98,101,103,105,110,115]⟩]
def wNms:List ByteArray:=[⟨#[117,115,101,114]⟩,⟨#[110,117,109,98,101,114]⟩,⟨#[115,105,122,101]⟩,⟨#[116,105,99,107]⟩]
def yCns:List ByteArray:=[⟨#[61]⟩,⟨#[60]⟩,⟨#[62]⟩]
def wBy:ByteArray:=⟨#[98,121]⟩
def wActs:List ByteArray:=[⟨#[107,101,101,112]⟩,⟨#[99,111,109,112,101,110,115,97,116,101]⟩,⟨#[115,101,110,100]⟩,⟨#[104,111,108,100]⟩,⟨#[97,115,107]⟩]
def wSp:ByteArray:=⟨#[32]⟩
def idx (s:ByteArray):List ByteArray→Nat
 | []=>0
 | x::l=>if x=s then 0 else idx s l+1
def atoF (t:ByteArray):Int×Bool:=match Lib.atoiAll t.data.toList with
 | .ok v=>(v,true)
 | .range=>(Lib.atoiSat t.data.toList,false)
 | _=>(0,false)
def quoB (c:UInt8):List UInt8:=if c == 34 || c == 92 then [92,c] else if c == 10 then [92,110] else [c]
def quoF (s:ByteArray):ByteArray:=ofL (34::(s.data.toList.flatMap quoB++[34]))
def wFlds:List ByteArray:=[⟨#[116,97,114,103,101,116]⟩,⟨#[117,115,101,114]⟩,⟨#[116,105,99,107]⟩,⟨#[98,121]⟩,⟨#[110,117,109,98,101,114]⟩,⟨#[111,108,100]⟩,⟨#[110,101,119]⟩]
inductive Seg
 | lit (s:ByteArray)
 | fld (n:ByteArray)
def isBr (c:UInt8):Bool:=c == 123 || c == 125
def divF:Nat→List UInt8→Nat→List Seg→List Seg×Option Nat
 | 0,_,_,acc=>(acc,none)
 | _+1,[],_,acc=>(acc,none)
 | n+1,c::r,i,acc=>
  let k:=spanF (fun x=>!isBr x) (c::r)
  if k=(c::r).length then (acc++[.lit (ofL (c::r))],none)
  else if k≠0 then divF n ((c::r).drop k) (i+k) (acc++[.lit (ofL ((c::r).take k))])
  else if r.head? = some c then divF n (r.drop 1) (i+2) (acc++[.lit (ofL [c])])
  else
   let m:=spanF (fun x=>!(x == 125)) r
   if c=123∧m<r.length∧idx (ofL (r.take m)) wFlds<7 then divF n (r.drop (m+1)) (i+m+2) (acc++[.fld (ofL (r.take m))])
   else (acc,some i)
def tplF (s:ByteArray):List Seg×Option Nat:=divF (s.size+1) s.data.toList 0 []
def badN (s:ByteArray):Bool:=s.data.toList.contains 46 || (decide (1<s.size) && s.data.toList.head? == some 48)
def numF (p:Ps):Int×Ps:=
 let u:=p.peek;let p3:=p.need 2
 let p4:=if badN u.tx then p3.fail u.pl 3 else p3
 let z:=atoF u.tx
 (z.1,if z.2=false∨1073741824<z.1 then p4.fail u.pl 2 else p4)
def testF (w:ByteArray) (p:Ps):Cnd×Ps:=
 if idx w wKinds<3 then (.kd w ((idx w wKinds:Nat)+2),p)
 else if w=wChan then
  let t:=p.peek;let p1:=p.need 1
  let k:=idx t.tx wChs
  (.ch (w++wSp++t.tx) (if k<4 then (k:Int)+1 else 0),if k<4 then p1 else p1.fail t.pl 30)
 else if idx w wTxs<3 then
  let t:=p.peek;let p1:=p.need 1
  let k:=idx t.tx wCts
  let p2:=if k<3 then p1 else p1.fail t.pl 30
  let u:=p2.peek
  (.tx (w++wSp++t.tx++wSp++quoF u.tx) (idx w wTxs) k u.tx,p2.need 3)
 else if idx w wNms<4 then
  let t:=p.peek;let p1:=p.need 4
  let k:=idx t.tx yCns
  let p2:=if k<3 then p1 else p1.fail t.pl 30
  let z:=numF p2
  (.nm (w++wSp++t.tx++wSp++ofL (Lib.itoa z.1)) (idx w wNms) k z.1,z.2)
 else
  let t:=p.peek;let p1:=p.need 2
  (.by_ (w++wSp++t.tx) t.tx,if lvalid t.tx.data.toList then p1 else p1.fail t.pl 12)
def isTst (w:ByteArray):Bool:=decide (idx w wKinds<3) || decide (w=wChan) || decide (idx w wTxs<3) || decide (idx w wNms<4) || decide (w=wBy)
mutual
def factorF:Nat→Ps→Cnd×Ps
 | 0,p=>(.nt .nul,p.fail p.peek.pl 99)
 | n+1,p=>
  let t:=p.peek;let p1:=p.pass
  if t.kd=1∧t.tx=wNot then let r:=factorF n p1;(.nt r.1,r.2)
  else if t.kd=4∧t.tx=yOpn then
   let p2:=if p1.op=32 then p1.fail t.pl 9 else p1
   let r:=condF n {p2 with op:=p2.op+1}
   let p3:=r.2.symb yCls
   (r.1,{p3 with op:=p3.op - 1})
  else if t.kd=1∧isTst t.tx=true then testF t.tx p1
  else (.nt .nul,p1.fail t.pl 30)
def termF:Nat→Ps→Cnd×Ps
 | 0,p=>(.nt .nul,p.fail p.peek.pl 99)
 | n+1,p=>let r:=factorF n p;let q:=termL n [r.1] r.2;(bothF q.1,q.2)
def termL:Nat→List Cnd→Ps→List Cnd×Ps
 | 0,l,p=>(l,p.fail p.peek.pl 99)
 | n+1,l,p=>if p.is 1 wAnd then let r:=factorF n p.pass;termL n (l++[r.1]) r.2 else (l,p)
def condF:Nat→Ps→Cnd×Ps
 | 0,p=>(.nt .nul,p.fail p.peek.pl 99)
 | n+1,p=>let r:=termF n p;let q:=condL n [r.1] r.2;(eitherF q.1,q.2)
def condL:Nat→List Cnd→Ps→List Cnd×Ps
 | 0,l,p=>(l,p.fail p.peek.pl 99)
 | n+1,l,p=>if p.is 1 wOr then let r:=termF n p.pass;condL n (l++[r.1]) r.2 else (l,p)
end
def fuP (p:Ps):Nat:=4 * p.tk.length+8
structure Ac where
 k:Int
 t:ByteArray
deriving DecidableEq
def actF (p:Ps):Ac×Ps:=
 let t:=p.peek;let p1:=p.need 1
 let k:=idx t.tx wActs
 let p2:=if k<5 then p1 else p1.fail t.pl 30
 if k=1 then
  let u:=p2.peek;let p3:=p2.need 3
  (⟨2,u.tx⟩,if (tplF u.tx).2.isSome then p3.fail u.pl 3 else p3)
 else (⟨if k<5 then (k:Int)+1 else 0,ofL []⟩,p2)
structure Ru where
 c:Option Cnd
 a:Ac
def ruleF (p:Ps):Ru×Ps:=
 let x:Option Cnd×Ps:=if p.is 1 wIf then let r:=condF (fuP p.pass) p.pass;(some r.1,r.2.symb yCol) else (none,p)
 let y:=actF x.2
 (⟨x.1,y.1⟩,if y.2.peek.kd≠0 then y.2.fail y.2.peek.pl 30 else y.2)
def lineF (s:List UInt8) (n:Nat):Option Ru×Int×Int:=
 let r:=scanF (s.length+1) s 0 []
 if r.2.2=false then (none,(r.2.1:Int),6) else
 match r.1 with
 | []=>(none,0,0)
 | t::_=>if n=256 then (none,t.pl,9) else
  let q:=ruleF ⟨r.1,(r.2.1:Int),0,0,0⟩
  if q.2.e≠0 then (none,q.2.pl,q.2.e) else (some q.1,0,0)
def linesF:List UInt8→List (List UInt8)
 | []=>[[]]
 | c::r=>if c == 10 then []::linesF r else match linesF r with
  | []=>[[c]]
  | l::m=>(c::l)::m
def rowsF:List (List UInt8)→Nat→List Ru→Except (Int×Int×Int) (List Ru)
 | [],_,acc=>.ok acc
 | s::l,i,acc=>match lineF s acc.length with
  | (some x,_,_)=>rowsF l (i+1) (acc++[x])
  | (none,a,e)=>if e=0 then rowsF l (i+1) acc else .error ((i:Int)+1,a+1,e)
def parF (s:ByteArray):Except (Int×Int×Int) (List Ru):=if 65536<s.size then .error (0,0,5) else rowsF (linesF s.data.toList) 0 []
section
variable {n:Nat} {C:Cx} {Q:Exit→Act→World→Prop} {E E':List (Nat×Value)} {F F' F1 Fs F0:List Pf} {R R' R0 Rs N N' A:List HP} {k k':List Fr} {ops l:List Oper} {i d:Nat} {t ty0:TypeId} {x y z:Operand} {pos:String} {aft:Array Edge} {gd:Option (Nat×Bool)} {α β:Type} [DecidableEq α] {K:α→Value} {V:β→Value}
theorem l_mgetE {kt et r:Nat} {rs te:TRow} {m:List (α×β)} {zv:Value} (hk:KeyOK kt K) (a:α) (o:Option β) (ho:mget a m=o) (nx:Wl n C ops.toArray k Q l ((d,(o.map V).getD zv)::E) F R) (hw:wantL ops E ⟨some d,.lookup t x y false,ty0,pos,aft,gd⟩=some true:=by rfl) (hn:Nat.blt d n=true:=by rfl)
  (hx:ev E x=some (.map (some r)):=by rfl) (hy:ev E y=some (K a):=by rfl) (hts:lookT tab t=some rs:=by rfl) (hrs:rs.k = .map kt et:=by rfl) (hte:lookT tab et=some te:=by rfl) (hzv:zval te=some zv:=by rfl)
  (hs:Sel (Mp K V r m) R R0:=by (repeat (first|exact Sel.here|apply Sel.there));first|done|fail):Wl n C ops.toArray k Q (⟨some d,.lookup t x y false,ty0,pos,aft,gd⟩::l) E F R:=by
 subst ho
 exact l_mget hk a nx hw hn hx hy hts hrs hte hzv hs
theorem Yc {kt et r:Nat} {rs te:TRow} {m:List (α×β)} {zv:Value} (hk:KeyOK kt K) (a:α) (o:Option β) (ho:mget a m=o) (nx:Wl n C ops.toArray k Q l ((d,.tuple #[(o.map V).getD zv,.bool o.isSome])::E) F R) (hw:wantL ops E ⟨some d,.lookup t x y true,ty0,pos,aft,gd⟩=some true:=by rfl) (hn:Nat.blt d n=true:=by rfl)
  (hx:ev E x=some (.map (some r)):=by rfl) (hy:ev E y=some (K a):=by rfl) (hts:lookT tab t=some rs:=by rfl) (hrs:rs.k = .map kt et:=by rfl) (hte:lookT tab et=some te:=by rfl) (hzv:zval te=some zv:=by rfl)
  (hs:Sel (Mp K V r m) R R0:=by (repeat (first|exact Sel.here|apply Sel.there));first|done|fail):Wl n C ops.toArray k Q (⟨some d,.lookup t x y true,ty0,pos,aft,gd⟩::l) E F R:=by
 subst ho
 exact l_mget2 hk a nx hw hn hx hy hts hrs hte hzv hs
end
def En.v (e:En):Value:=.agg #[.string e.who,.int .i64 e.nu,.int .i64 e.tk,.int .i64 e.o.ch,.string e.o.tg,.string e.o.tx,.int .i64 e.o.us]
abbrev Sd:=ByteArray×Int
def sdv (s:Sd):Value:=.agg #[.string s.1,.int .i64 s.2]
def En.sd (e:En):Sd:=(e.who,e.nu)
def bv (b:Bool):Value:=.bool b
structure Cq where
 kind:Int
 who:ByteArray
 nu:Int
 place:Int
 old:Ou
 oldAt:Int
 new:Ou
 newAt:Int
 deriving DecidableEq
def cqf (c:Cq):List Value:=[.int .i64 c.kind,.string c.who,.int .i64 c.nu,.int .i64 c.place,.int .i64 c.old.ch,.string c.old.tg,.string c.old.tx,.int .i64 c.old.us,.int .i64 c.oldAt,.int .i64 c.new.ch,.string c.new.tg,.string c.new.tx,.int .i64 c.new.us,.int .i64 c.newAt]
def con1 (all:List En) (x:Lf) (p:Nat):Cq:=
 if x.e ∈ all then ⟨1,x.e.who,x.e.nu,p,x.e.o,x.e.tk,x.e.o,x.e.tk⟩
 else match all.find? fun y=>y.sd=x.e.sd with
  | some y=>⟨3,x.e.who,x.e.nu,p,x.e.o,x.e.tk,y.o,y.tk⟩
  | none=>⟨2,x.e.who,x.e.nu,p,x.e.o,x.e.tk,Ou.z,0⟩
def knw (all:List En) (x:Lf):List En:=
 (if x.e ∈ all then [] else match all.find? fun y=>y.sd=x.e.sd with|some y=>[y]|none=>[])++[x.e]
def cons1 (all:List En) (ls:List Lf):List Cq:=ls.mapIdx fun p x=>con1 all x p
def con2 (y:En):Cq:=⟨4,y.who,y.nu,-1,Ou.z,0,y.o,y.tk⟩
def cons2 (known:List En) (ys:List En):List Cq:=(ys.filter fun y=>decide (y ∉ known)).map con2
def consE (all:List En) (ls:List Lf):List Cq:=cons1 all ls++cons2 (ls.flatMap (knw all)) all
structure C1 (all:List En) where
 i:Nat
 m1:List (En×Bool)
 m2:List (Sd×En)
 hi:i≤all.length
 h1:∀e,mget e m1=if e ∈ all.take i then some true else none
 h2:∀s,mget s m2=(all.take i).find? fun y=>y.sd=s
structure C2 (all:List En) (ls:List Lf) where
 j:Nat
 o:Option Addr
 cap:Nat
 m3:List (En×Bool)
 hj:j≤ls.length
 h3:∀e,mget e m3=if e ∈ (ls.take j).flatMap (knw all) then some true else none
structure C3 (all:List En) where
 i:Nat
 o:Option Addr
 cap:Nat
 hi:i≤all.length
def subO (c:Cq):Ou:=if c.kind=4 then c.new else c.old
def subT (c:Cq):Int:=if c.kind=4 then c.newAt else c.oldAt
def fldT (f:Nat) (c:Cq):ByteArray:=if f=0 then (subO c).tg else if f=1 then c.old.tx else c.new.tx
def fldN (f:Nat) (c:Cq):Int:=if f=0 then (subO c).us else if f=1 then c.nu else if f=2 then ((subO c).tx.size:Int) else subT c
def cmpB (k:Nat) (s w:ByteArray):Bool:=if k=0 then s.toList == w.toList else if k=1 then Lib.contains s.data.toList w.data.toList else Lib.hasPrefix s.data.toList w.data.toList
def cmpZ (k:Nat) (n w:Int):Bool:=if k=0 then n == w else if k=1 then decide (n<w) else decide (w<n)
def lwith (s a:ByteArray):Bool:=lvalid s.data.toList && lvalid a.data.toList && (s.toList == a.toList || isE a || Lib.hasPrefix s.data.toList (a.data.toList++[46]))
mutual
def holF (c:Cq):Cnd→Bool
 | .any l=>anyH c l
 | .all l=>allH c l
 | .nt x=>!holF c x
 | .nul=>false
 | .kd _ k=>c.kind == k
 | .ch _ k=>(subO c).ch == k
 | .tx _ f k s=>cmpB k (fldT f c) s
 | .nm _ f k n=>cmpZ k (fldN f c) n
 | .by_ _ s=>lwith c.who s
def anyH (c:Cq):List Cnd→Bool
 | []=>false
 | x::l=>holF c x || anyH c l
def allH (c:Cq):List Cnd→Bool
 | []=>true
 | x::l=>holF c x && allH c l
end
def valF (n:ByteArray) (c:Cq):ByteArray:=
 let k:=idx n wFlds
 if k=0 then (subO c).tg else if k=1 then ofL (Lib.itoa (subO c).us) else if k=2 then ofL (Lib.itoa (subT c)) else if k=3 then c.who else if k=4 then ofL (Lib.itoa c.nu) else if k=5 then c.old.tx else if k=6 then c.new.tx else ofL []
def segF (c:Cq):Seg→ByteArray
 | .lit s=>s
 | .fld n=>valF n c
def expF (s:ByteArray) (c:Cq):ByteArray:=ofL ((tplF s).1.flatMap fun x=>(segF c x).data.toList)
def posF (a k:Int):Bool:=
 if a=1∨a=2 then decide (k=2∨k=3) else if a=3 then decide (k=3∨k=4) else if a=4 then decide (k=4) else if a=5 then decide (k=2∨k=3∨k=4) else false
def condH (c:Cq) (x:Ru):Bool:=match x.c with
 | none=>true
 | some d=>holF c d
def decF (c:Cq):List Ru→Nat→Ac×Int
 | [],_=>(⟨5,ofL []⟩,-1)
 | x::l,i=>
  if posF x.a.k c.kind=false∨condH c x=false then decF c l (i+1)
  else if x.a.k≠2 then (x.a,(i:Int))
  else if 4096<(expF x.a.t c).size then (⟨5,ofL []⟩,-1)
  else (⟨2,expF x.a.t c⟩,(i:Int))
def decideF (l:List Ru) (c:Cq):Ac×Int:=if posF 5 c.kind=false then (⟨0,ofL []⟩,-1) else decF c l 0
theorem YB (p:UInt8→Bool):∀l:List UInt8,spanF p l≤l.length
 | []=>by simp [spanF]
 | c::l=>by
  have:=YB p l
  unfold spanF
  split<;>simp<;>omega
theorem X1 (p:UInt8→Bool):∀l:List UInt8,∀x ∈ l.take (spanF p l),p x=true
 | [],x,hx=>by simp at hx
 | c::l,x,hx=>by
  unfold spanF at hx
  split at hx
  ·rename_i hc
   rw [List.take_succ_cons] at hx
   rcases List.mem_cons.1 hx with rfl|hx
   ·exact hc
   ·exact X1 p l x hx
  ·simp at hx
theorem Wz (p:UInt8→Bool):∀l:List UInt8,(h:spanF p l<l.length)→p l[spanF p l]=false
 | [],h=>by simp at h
 | c::l,h=>by
  by_cases hc:p c=true
  ·have e:spanF p (c::l)=spanF p l+1:=by simp [spanF,hc]
   have h':spanF p l<l.length:=by rw [e] at h;simpa using h
   simp only [e,List.getElem_cons_succ]
   exact Wz p l h'
  ·have e:spanF p (c::l)=0:=by simp [spanF,hc]
   simp only [e,List.getElem_cons_zero]
   simpa using hc
theorem spanF_eq (p:UInt8→Bool):∀(w r:List UInt8) (d:UInt8),(∀x ∈ w,p x=true)→p d=false→spanF p (w++d::r)=w.length
 | [],r,d,_,hd=>by simp [spanF,hd]
 | c::w,r,d,hw,hd=>by
  have:=spanF_eq p w r d (fun x hx=>hw x (.tail _ hx)) hd
  simp [spanF,hw c (.head _),this]
def fldAt (r:List UInt8):Nat:=wFlds.foldl (fun n w=>if (w.data.toList++[125]).isPrefixOf r then w.size+1 else n) 0
def tmF:List UInt8→Nat→Nat→Option Nat
 | [],_,_=>none
 | _::r,k+1,i=>tmF r k (i+1)
 | c::r,0,i=>
  if c=125 then if r.head? = some 125 then tmF r 1 (i+1) else some i
  else if c=123 then if r.head? = some 123 then tmF r 1 (i+1) else match fldAt r with
   | 0=>some i
   | k+1=>tmF r (k+1) (i+1)
  else tmF r 0 (i+1)
theorem XN:∀(l:List UInt8) (k i:Nat),tmF l k i=tmF (l.drop k) 0 (i+k)
 | [],k,i=>by simp [tmF]
 | c::l,0,i=>by simp
 | c::l,k+1,i=>by
  rw [tmF,XN l k (i+1),List.drop_succ_cons]
  congr 1;omega
def exF (c:Cq):List UInt8→Nat→List UInt8
 | [],_=>[]
 | _::r,k+1=>exF c r k
 | a::r,0=>
  if isBr a then if r.head? = some a then a::exF c r 1 else (valF (ofL (r.take (spanF (fun x=>!(x == 125)) r))) c).data.toList++exF c r (spanF (fun x=>!(x == 125)) r+1)
  else a::exF c r 0
theorem exF_drop (c:Cq):∀(l:List UInt8) (k:Nat),exF c l k=exF c (l.drop k) 0
 | [],k=>by simp [exF]
 | _::l,0=>by simp
 | a::l,k+1=>by rw [exF,exF_drop c l k,List.drop_succ_cons]
theorem tm_run:∀(k:Nat) (l:List UInt8) (i:Nat),(∀x ∈ l.take k,isBr x=false)→k≤l.length→tmF l 0 i=tmF (l.drop k) 0 (i+k)
 | 0,l,i,_,_=>by simp
 | k+1,[],i,_,h=>by simp at h
 | k+1,c::l,i,ha,h=>by
  have hc:=ha c (by simp)
  simp only [isBr,Bool.or_eq_false_iff,beq_eq_false_iff_ne,ne_eq] at hc
  rw [tmF,if_neg hc.2,if_neg hc.1,List.drop_succ_cons,tm_run k l (i+1) (fun x hx=>ha x (by rw [List.take_succ_cons];exact .tail _ hx)) (by simpa using h)]
  congr 1;omega
theorem ex_run (c:Cq):∀(k:Nat) (l:List UInt8),(∀x ∈ l.take k,isBr x=false)→k≤l.length→exF c l 0=l.take k++exF c (l.drop k) 0
 | 0,l,_,_=>by simp
 | k+1,[],_,h=>by simp at h
 | k+1,a::l,ha,h=>by
  have hc:=ha a (by simp)
  rw [exF,hc,List.drop_succ_cons,List.take_succ_cons,List.cons_append,ex_run c k l (fun x hx=>ha x (by rw [List.take_succ_cons];exact .tail _ hx)) (by simpa using h)]
  simp
theorem fld_pre {w r:List UInt8} (hw:∀x ∈ w,(!(x == 125))=true):(w++[125]).isPrefixOf r=true↔spanF (fun x=>!(x == 125)) r<r.length∧r.take (spanF (fun x=>!(x == 125)) r)=w:=by
 rw [List.isPrefixOf_iff_prefix]
 constructor
 ·rintro ⟨t,rfl⟩
  have e:=spanF_eq (fun x=>!(x == 125)) w t 125 hw (by decide)
  rw [List.append_assoc,List.singleton_append,e]
  simp
 ·rintro ⟨h1,h2⟩
  have h3:=Wz (fun x=>!(x == 125)) r h1
  have h4:r[spanF (fun x=>!(x == 125)) r]=125:=by simpa using h3
  have h5:=List.drop_eq_getElem_cons h1
  rw [h4] at h5
  refine ⟨r.drop (spanF (fun x=>!(x == 125)) r+1),?_⟩
  rw [List.append_assoc,List.singleton_append,←h5,←h2,List.take_append_drop]
theorem ofL_inj {a b:List UInt8}:ofL a=ofL b↔a=b:=by
 constructor
 ·intro h
  have:=congrArg (fun x:ByteArray=>x.data.toList) h
  simpa using this
 ·rintro rfl;rfl
theorem eq_ofL {a:ByteArray} {b:List UInt8}:a=ofL b↔a.data.toList=b:=by
 constructor
 ·rintro rfl;rfl
 ·rintro rfl;rfl
theorem fldAt_eq (r:List UInt8):fldAt r=if spanF (fun x=>!(x == 125)) r<r.length∧idx (ofL (r.take (spanF (fun x=>!(x == 125)) r))) wFlds<7 then spanF (fun x=>!(x == 125)) r+1 else 0:=by
 have hl:=YB (fun x=>!(x == 125)) r
 have key:∀w ∈ wFlds,((w.data.toList++[125]).isPrefixOf r=true↔spanF (fun x=>!(x == 125)) r<r.length∧w=ofL (r.take (spanF (fun x=>!(x == 125)) r))):=by
  intro w hw
  rw [fld_pre (w:=w.data.toList) (by revert w;decide),eq_ofL]
  constructor<;>(rintro ⟨a,b⟩;exact ⟨a,b.symm⟩)
 have hs:∀w ∈ wFlds,w=ofL (r.take (spanF (fun x=>!(x == 125)) r))→w.size=spanF (fun x=>!(x == 125)) r:=by
  rintro w _ rfl
  show (r.take _).toArray.size=_
  simp;omega
 generalize hm:spanF (fun x=>!(x == 125)) r=m at *
 generalize hn:ofL (r.take m)=nm at *
 by_cases h1:m<r.length
 ·simp only [h1,true_and] at key ⊢
  unfold fldAt
  by_cases h2:idx nm wFlds<7
  ·rw [if_pos h2]
   have h3:nm ∈ wFlds:=by
    clear key hs hn
    by_cases h:nm ∈ wFlds
    ·exact h
    ·exfalso
     simp only [wFlds,List.mem_cons,List.not_mem_nil,or_false,not_or] at h
     obtain ⟨a1,a2,a3,a4,a5,a6,a7⟩:=h
     simp only [wFlds,idx,if_neg (Ne.symm a1),if_neg (Ne.symm a2),if_neg (Ne.symm a3),if_neg (Ne.symm a4),if_neg (Ne.symm a5),if_neg (Ne.symm a6),if_neg (Ne.symm a7)] at h2
     omega
   have h4:∀w ∈ wFlds,((w.data.toList++[125]).isPrefixOf r)=decide (w=nm):=fun w hw=>by
    rw [Bool.eq_iff_iff,key w hw,decide_eq_true_iff]
   have h5:=hs nm h3 rfl
   clear key hs hn
   revert h4 h5
   generalize wFlds=fs at h3
   intro h4 h5
   have go:∀(fs:List ByteArray) (k:Nat),(∀w ∈ fs,((w.data.toList++[125]).isPrefixOf r)=decide (w=nm))→(nm ∈ fs∨k=m+1)→fs.foldl (fun n w=>if (w.data.toList++[125]).isPrefixOf r then w.size+1 else n) k=m+1:=by
    intro fs
    induction fs with
    | nil=>intro k _ h;rcases h with h|h;cases h;simpa using h
    | cons w fs ih=>
     intro k hw h
     rw [List.foldl_cons]
     refine ih _ (fun w hx=>hw w (.tail _ hx)) ?_
     rw [hw w (.head _)]
     by_cases e:w=nm
     ·right;subst e;simp [h5]
     ·rcases h with h|h
      ·rcases List.mem_cons.1 h with h|h
       ·exact absurd h.symm e
       ·exact .inl h
      ·right;simpa [e] using h
   exact go fs 0 h4 (.inl h3)
  ·rw [if_neg h2]
   have h3:nm ∉ wFlds:=by
    intro h
    apply h2
    clear key hs hn
    revert h
    simp only [wFlds,List.mem_cons,List.not_mem_nil,or_false]
    rintro (h|h|h|h|h|h|h)<;>rw [h]<;>decide
   have go:∀(fs:List ByteArray),(∀w ∈ fs,((w.data.toList++[125]).isPrefixOf r)=false)→fs.foldl (fun n w=>if (w.data.toList++[125]).isPrefixOf r then w.size+1 else n) 0=0:=by
    intro fs
    induction fs with
    | nil=>intro _;rfl
    | cons w fs ih=>
     intro hw
     rw [List.foldl_cons,hw w (.head _)]
     exact ih fun w hx=>hw w (.tail _ hx)
   refine go _ fun w hw=>?_
   rw [Bool.eq_false_iff,ne_eq,key w hw]
   rintro rfl
   exact h3 hw
 ·simp only [h1,false_and,if_false] at key ⊢
  unfold fldAt
  have go:∀(fs:List ByteArray),(∀w ∈ fs,((w.data.toList++[125]).isPrefixOf r)=false)→fs.foldl (fun n w=>if (w.data.toList++[125]).isPrefixOf r then w.size+1 else n) 0=0:=by
   intro fs
   induction fs with
   | nil=>intro _;rfl
   | cons w fs ih=>
    intro hw
    rw [List.foldl_cons,hw w (.head _)]
    exact ih fun w hx=>hw w (.tail _ hx)
  exact go _ fun w hw=>by rw [Bool.eq_false_iff,ne_eq,key w hw];exact fun h=>h
theorem div_tm (c:Cq):∀(n:Nat) (l:List UInt8) (i:Nat) (acc:List Seg),l.length<n→
  (divF n l i acc).2=tmF l 0 i∧(tmF l 0 i=none→∃sg,(divF n l i acc).1=acc++sg∧(sg.flatMap fun x=>(segF c x).data.toList)=exF c l 0)
 | 0,l,_,_,h=>by omega
 | n+1,[],i,acc,_=>⟨by simp [divF,tmF],fun _=>⟨[],by simp [divF],by simp [exF]⟩⟩
 | n+1,a::r,i,acc,h=>by
  have hle:=YB (fun x=>!isBr x) (a::r)
  have hta:=X1 (fun x=>!isBr x) (a::r)
  have htb:∀x ∈ (a::r).take (spanF (fun x=>!isBr x) (a::r)),isBr x=false:=fun x hx=>by simpa using hta x hx
  have t1:=tm_run _ (a::r) i htb hle
  have t2:=ex_run c _ (a::r) htb hle
  rw [divF]
  by_cases h1:spanF (fun x=>!isBr x) (a::r)=(a::r).length
  ·rw [if_pos h1]
   rw [h1] at t1 t2
   simp only [List.drop_length,List.take_length] at t1 t2
   refine ⟨by rw [t1];simp [tmF],fun _=>⟨[.lit (ofL (a::r))],rfl,?_⟩⟩
   rw [t2];simp [segF,exF]
  ·rw [if_neg h1]
   by_cases h2:spanF (fun x=>!isBr x) (a::r)≠0
   ·rw [if_pos h2]
    obtain ⟨g1,g2⟩:=div_tm c n ((a::r).drop (spanF (fun x=>!isBr x) (a::r))) (i+spanF (fun x=>!isBr x) (a::r)) (acc++[.lit (ofL ((a::r).take (spanF (fun x=>!isBr x) (a::r))))]) (by rw [List.length_drop];simp only [List.length_cons] at h ⊢;omega)
    rw [t1,t2]
    refine ⟨g1,fun hn=>?_⟩
    obtain ⟨sg,e1,e2⟩:=g2 hn
    exact ⟨.lit (ofL ((a::r).take (spanF (fun x=>!isBr x) (a::r))))::sg,by rw [e1];simp,by rw [List.flatMap_cons,e2];rfl⟩
   ·rw [if_neg h2]
    have h2:spanF (fun x=>!isBr x) (a::r)=0:=by simpa using h2
    have hb:isBr a=true:=by
     by_cases hb:isBr a=true
     ·exact hb
     ·exfalso
      rw [spanF,if_pos (by simpa using hb)] at h2
      omega
    have hb2:a=123∨a=125:=by simpa [isBr] using hb
    by_cases h3:r.head? = some a
    ·rw [if_pos h3]
     have hr:0<r.length:=by cases r with
      | nil=>simp at h3
      | cons=>simp
     obtain ⟨g1,g2⟩:=div_tm c n (r.drop 1) (i+2) (acc++[.lit (ofL [a])]) (by rw [List.length_drop];simp only [List.length_cons] at h;omega)
     have e1:tmF (a::r) 0 i=tmF (r.drop 1) 0 (i+2):=by
      rw [tmF]
      rcases hb2 with rfl|rfl
      ·rw [if_neg (by decide),if_pos rfl,if_pos h3,XN]
      ·rw [if_pos rfl,if_pos h3,XN]
     have e2:exF c (a::r) 0=a::exF c (r.drop 1) 0:=by rw [exF,if_pos hb,if_pos h3,exF_drop]
     rw [e1,e2]
     refine ⟨g1,fun hn=>?_⟩
     obtain ⟨sg,e1,e2⟩:=g2 hn
     exact ⟨.lit (ofL [a])::sg,by rw [e1];simp,by rw [List.flatMap_cons,e2];rfl⟩
    ·rw [if_neg h3]
     have hf:=fldAt_eq r
     by_cases h4:a=123∧spanF (fun x=>!(x == 125)) r<r.length∧idx (ofL (r.take (spanF (fun x=>!(x == 125)) r))) wFlds<7
     ·rw [if_pos h4]
      rw [if_pos h4.2] at hf
      obtain ⟨g1,g2⟩:=div_tm c n (r.drop (spanF (fun x=>!(x == 125)) r+1)) (i+spanF (fun x=>!(x == 125)) r+2) (acc++[.fld (ofL (r.take (spanF (fun x=>!(x == 125)) r)))]) (by rw [List.length_drop];simp only [List.length_cons] at h;omega)
      have e1:tmF (a::r) 0 i=tmF (r.drop (spanF (fun x=>!(x == 125)) r+1)) 0 (i+spanF (fun x=>!(x == 125)) r+2):=by
       rw [tmF,h4.1,if_neg (by decide),if_pos rfl,if_neg (by rw [←h4.1];exact h3),hf]
       dsimp only
       rw [XN]
       congr 1;omega
      have e2:exF c (a::r) 0=(valF (ofL (r.take (spanF (fun x=>!(x == 125)) r))) c).data.toList++exF c (r.drop (spanF (fun x=>!(x == 125)) r+1)) 0:=by rw [exF,if_pos hb,if_neg h3,exF_drop]
      rw [e1,e2]
      refine ⟨g1,fun hn=>?_⟩
      obtain ⟨sg,e1,e2⟩:=g2 hn
      exact ⟨.fld (ofL (r.take (spanF (fun x=>!(x == 125)) r)))::sg,by rw [e1];simp,by rw [List.flatMap_cons,e2];rfl⟩
     ·rw [if_neg h4]
      have e1:tmF (a::r) 0 i=some i:=by
       rw [tmF]
       rcases hb2 with rfl|rfl
       ·rw [if_neg (by decide),if_pos rfl,if_neg h3,hf,if_neg (fun h=>h4 ⟨rfl,h⟩)]
       ·rw [if_pos rfl,if_neg h3]
      rw [e1]
      exact ⟨rfl,fun h=>by cases h⟩
theorem tpl_tm (s:ByteArray) (c:Cq):(tplF s).2=tmF s.data.toList 0 0∧(tmF s.data.toList 0 0=none→(expF s c).data.toList=exF c s.data.toList 0):=by
 obtain ⟨h1,h2⟩:=div_tm c (s.size+1) s.data.toList 0 [] (by show s.data.toList.length<s.data.size+1;simp)
 refine ⟨h1,fun h=>?_⟩
 obtain ⟨sg,e1,e2⟩:=h2 h
 unfold expF tplF
 rw [e1,List.nil_append]
 exact e2
theorem UC (c:UInt8):Enters 96∧Spec prog 96 #[.int .u8 c.toNat] [] [] (RetV (.bool (isLet c))):=by
 refine ZR [_] func96 ntmps96 fun G w hp=>?_
 repeat' (first|refine ZF ?_|refine ZI ?_|refine ZG ?_|refine ZH ?_|refine ZL ?_|refine ZJ ?_|refine ZN ?_|refine ZK (fun b=>?_)|refine ZM (fun b=>?_)|refine ZC ?_|refine ZA ?_|refine ZO ?_|(refine ZB (fun hc=>?_) (fun hc=>?_)<;>(try simp at hc))|(refine ZE (fun hc=>?_) (fun hc=>?_)<;>(try simp at hc)))
 ·have e:isLet c=decide ((c.toNat:Int)≤122):=by unfold isLet;rw [Bool.eq_iff_iff];simp;omega
  rw [e];exact ZP () rfl trivial
 ·have e:isLet c=false:=by unfold isLet;simp;omega
  rw [e];exact ZP () rfl trivial
theorem ruDigit_ok (c:UInt8):Enters 98∧Spec prog 98 #[.int .u8 c.toNat] [] [] (RetV (.bool (isDgt c))):=by
 refine ZR [_] func98 ntmps98 fun G w hp=>?_
 repeat' (first|refine ZF ?_|refine ZI ?_|refine ZG ?_|refine ZH ?_|refine ZL ?_|refine ZJ ?_|refine ZN ?_|refine ZK (fun b=>?_)|refine ZM (fun b=>?_)|refine ZC ?_|refine ZA ?_|refine ZO ?_|(refine ZB (fun hc=>?_) (fun hc=>?_)<;>(try simp at hc))|(refine ZE (fun hc=>?_) (fun hc=>?_)<;>(try simp at hc)))
 ·have e:isDgt c=decide ((c.toNat:Int)≤57):=by unfold isDgt;rw [Bool.eq_iff_iff];simp;omega
  rw [e];exact ZP () rfl trivial
 ·have e:isDgt c=false:=by unfold isDgt;simp;omega
  rw [e];exact ZP () rfl trivial
theorem u8_46 {c:UInt8}:(c == 46)=decide ((c.toNat:Int)=46):=by
 rw [Bool.eq_iff_iff];simp [←UInt8.toNat_inj];omega
theorem ruNumeral_ok (c:UInt8):Enters 99∧Spec prog 99 #[.int .u8 c.toNat] [] [] (RetV (.bool (inNum c))):=by
 have n1:=ruDigit_ok c
 refine ZR [_] func99 ntmps99 fun G w hp=>?_
 generalize hd:isDgt c=d at n1
 cases d with
 | true=>
  repeat' (first|refine ZF ?_|refine ZI ?_|refine ZG ?_|refine ZH ?_|refine ZL ?_|refine ZJ ?_|refine ZN ?_|refine ZK (fun b=>?_)|refine ZM (fun b=>?_)|refine ZC ?_|refine ZA ?_|refine ZO ?_|refine ZD (n1) (fun _ _=>?_)|refine l_call0 (n1) (fun _ _=>?_)|(refine ZB (fun hc=>?_) (fun hc=>?_)<;>(try simp at hc))|(refine ZE (fun hc=>?_) (fun hc=>?_)<;>(try simp at hc)))
  rw [show inNum c=true by unfold inNum;rw [hd];rfl]
  exact ZP () rfl trivial
 | false=>
  repeat' (first|refine ZF ?_|refine ZI ?_|refine ZG ?_|refine ZH ?_|refine ZL ?_|refine ZJ ?_|refine ZN ?_|refine ZK (fun b=>?_)|refine ZM (fun b=>?_)|refine ZC ?_|refine ZA ?_|refine ZO ?_|refine ZD (n1) (fun _ _=>?_)|refine l_call0 (n1) (fun _ _=>?_)|(refine ZB (fun hc=>?_) (fun hc=>?_)<;>(try simp at hc))|(refine ZE (fun hc=>?_) (fun hc=>?_)<;>(try simp at hc)))
  rw [show inNum c=decide ((c.toNat:Int)=46) by unfold inNum;rw [hd,u8_46];rfl]
  exact ZP () rfl trivial
theorem Yv {p:UInt8→Bool}:∀(l:List UInt8) (i:Nat),(∀x ∈ l.take i,p x=true)→i≤l.length→(∀h:i<l.length,p l[i]=false)→spanF p l=i
 | [],i,_,h,_=>by simp at h;simp [spanF,h]
 | c::l,0,_,_,h=>by
  have:=h (by simp)
  simp only [List.getElem_cons_zero] at this
  simp [spanF,this]
 | c::l,i+1,ha,h,hs=>by
  have h1:=ha c (by simp)
  have:=Yv l i (fun x hx=>ha x (by rw [List.take_succ_cons];exact .tail _ hx)) (by simpa using h) (fun h=>by have:=hs (by simpa using h);simpa using this)
  simp [spanF,h1,this]
theorem ruSpan_ok {p:UInt8→Bool} {f:FuncId} (hf:∀c:UInt8,Enters f∧Spec prog f #[.int .u8 c.toNat] [] [] (RetV (.bool (p c)))) (s:ByteArray) (hs:s.size≤1099511627776) :
  Enters 97∧Spec prog 97 #[.string s,.func (.func f) #[] #[]] [] [] (RetV (.int .i64 (spanF p s.data.toList:Int))):=by
 have hsz:s.data.toList.length=s.size:=by show _=s.data.size;simp
 refine ZR [_,_] func97 ntmps97 fun G w hp=>?_
 repeat' (first|refine ZF ?_|refine ZI ?_|refine ZG ?_|refine ZH ?_|refine ZL ?_|refine ZJ ?_|refine ZN ?_|refine ZK (fun b=>?_)|refine ZM (fun b=>?_)|refine ZC ?_|refine ZA ?_|(refine ZB (fun hc=>?_) (fun hc=>?_)<;>(try simp at hc))|(refine ZE (fun hc=>?_) (fun hc=>?_)<;>(try simp at hc)))
 refine YK (X:={i:Nat // i≤s.size∧∀x ∈ s.data.toList.take i,p x=true}) (fun i=>[(0,.string s),(1,.func (.func f) #[] #[]),(5,.int .i64 (i.1:Int))]) (fun _=>[]) (fun _=>[]) (fun i=>s.size - i.1) ⟨0,by omega,fun x hx=>by simp at hx⟩ ⟨rfl,rfl,rfl,trivial⟩ ?_
 rintro ⟨i,hi1,hi2⟩
 dsimp only
 by_cases hlt:i<s.data.toList.length
 ·have hcc:=List.getElem?_eq_getElem hlt
  have h5:=hf s.data.toList[i]
  have hw:=wrapi (z:=(i:Int)+1) (by omega) (by omega)
  have hst:p s.data.toList[i]=false→spanF p s.data.toList=i:=fun h=>Yv (p:=p) s.data.toList i hi2 (by omega) (fun _=>h)
  generalize hce:s.data.toList[i]=c at *
  have hlt2:i<s.size:=by omega
  cases hp:p c with
  | true=>
   rw [hp] at h5
   repeat' (first|refine ZF ?_|refine ZI ?_|refine ZG ?_|refine ZH ?_|refine ZL ?_|refine ZJ ?_|refine ZN ?_|refine ZK (fun b=>?_)|refine ZM (fun b=>?_)|refine ZC ?_|refine ZA ?_|refine Zh (s:=s) i c hcc ?_|refine WB h5 (fun _ _=>?_)|rw [hw]|(refine ZB (fun hc=>?_) (fun hc=>?_)<;>(try simp at hc)<;>(try omega))|(refine ZE (fun hc=>?_) (fun hc=>?_)<;>(try simp at hc)<;>(try omega)))
   refine ZV ⟨i+1,by omega,fun x hx=>?_⟩ (by show s.size - (i+1)<s.size - i;omega) ⟨rfl,rfl,rfl,trivial⟩
   rw [List.take_succ_eq_append_getElem hlt] at hx
   rcases List.mem_append.1 hx with hx|hx
   ·exact hi2 x hx
   ·rw [List.mem_singleton.1 hx,hce];exact hp
  | false=>
   rw [hp] at h5
   have e:=hst hp
   rw [e]
   repeat' (first|refine ZF ?_|refine ZI ?_|refine ZG ?_|refine ZH ?_|refine ZL ?_|refine ZJ ?_|refine ZN ?_|refine ZK (fun b=>?_)|refine ZM (fun b=>?_)|refine ZC ?_|refine ZA ?_|refine ZO ?_|refine Zh (s:=s) i c hcc ?_|refine WB h5 (fun _ _=>?_)|(refine ZB (fun hc=>?_) (fun hc=>?_)<;>(try simp at hc)<;>(try omega))|(refine ZE (fun hc=>?_) (fun hc=>?_)<;>(try simp at hc)<;>(try omega)))
   exact ZP () rfl trivial
 ·have e:=Yv (p:=p) s.data.toList i hi2 (by omega) (fun h=>absurd h hlt)
  rw [e]
  have hlt2:¬i<s.size:=by omega
  repeat' (first|refine ZF ?_|refine ZI ?_|refine ZG ?_|refine ZH ?_|refine ZL ?_|refine ZJ ?_|refine ZN ?_|refine ZK (fun b=>?_)|refine ZM (fun b=>?_)|refine ZC ?_|refine ZA ?_|refine ZO ?_|(refine ZB (fun hc=>?_) (fun hc=>?_)<;>(try simp at hc)<;>(try omega))|(refine ZE (fun hc=>?_) (fun hc=>?_)<;>(try simp at hc)<;>(try omega)))
  exact ZP () rfl trivial
theorem unq_34 (r:List UInt8) (i:Nat) (acc:List UInt8):unqF (34::r) i acc=some (acc,i+1):=by
 cases r<;>simp [unqF]
theorem unq_92 (i:Nat) (acc:List UInt8):unqF [92] i acc=none:=by simp [unqF]
theorem unq_92d (d:UInt8) (r:List UInt8) (i:Nat) (acc:List UInt8):unqF (92::d::r) i acc=if d=34∨d=92 then unqF r (i+2) (acc++[d]) else if d=110 then unqF r (i+2) (acc++[10]) else none:=by
 rw [unqF,if_neg (by decide),if_pos (by decide)]
 simp only [Bool.or_eq_true,beq_iff_eq]
theorem unq_c {c:UInt8} (h1:c≠34) (h2:c≠92) (r:List UInt8) (i:Nat) (acc:List UInt8):unqF (c::r) i acc=unqF r (i+1) (acc++[c]):=by
 cases r with
 | nil=>simp [unqF,h1]
 | cons d r=>
  rw [unqF,if_neg (by simpa using h1),if_neg (by simpa using h2)]
theorem u8i {c:UInt8} {k:Nat} (hk:k<256):c=UInt8.ofNat k↔(c.toNat:Int)=k:=by
 constructor
 ·rintro rfl;simp;omega
 ·intro h
  rw [←UInt8.toNat_inj]
  simp;omega
def unqV (x:Option (List UInt8×Nat)):Value:=match x with
 | some (t,k)=>.tuple #[.string (ofL t),.int .i64 (k:Int),.bool true]
 | none=>.tuple #[.string ⟨#[]⟩,.int .i64 0,.bool false]
theorem unqV_some (t:List UInt8) (i:Nat):unqV (some (t,i+1)) = .tuple #[.string ⟨t.toArray⟩,.int .i64 ((i:Int)+1),.bool true]:=by simp [unqV]
set_option maxHeartbeats 1000000 in
theorem ruUnquote_ok (s:ByteArray) (hs:s.size≤1000000) (h0:0<s.size):Enters 100∧Spec prog 100 #[.string s] [] [] (RetV (unqV (unqF (s.data.toList.drop 1) 1 []))):=by
 have hsz:s.data.toList.length=s.size:=by show _=s.data.size;simp
 generalize hr:unqF (s.data.toList.drop 1) 1 []=r
 refine ZR [_] func100 ntmps100 fun G w hp=>?_
 repeat' (first|refine ZF ?_|refine ZI ?_|refine ZG ?_|refine ZH ?_|refine ZL ?_|refine ZJ ?_|refine ZN ?_|refine ZK (fun b=>?_)|refine ZM (fun b=>?_)|refine ZC ?_|refine ZA ?_|(refine ZB (fun hc=>?_) (fun hc=>?_)<;>(try simp at hc))|(refine ZE (fun hc=>?_) (fun hc=>?_)<;>(try simp at hc)))
 refine Z1 (Lx:=[Pt b (.cells #[.pointer none,.slice none 0 0] 82)]) (r:=Bdr b []) (fun h hh=>bd_new hh) ?_
 refine YK (X:={q:Nat×List UInt8 // q.1≤s.size∧q.2.length≤q.1∧unqF (s.data.toList.drop q.1) q.1 q.2=r}) (fun q=>[(0,.string s),(5,.pointer (some ⟨b,0,none⟩)),(6,.int .i64 (q.1.1:Int))]) (fun _=>[]) (fun q=>[Bdr b q.1.2]) (fun q=>s.size - q.1.1) ⟨(1,[]),by show 1≤s.size;omega,by show 0≤1;omega,hr⟩ ⟨rfl,rfl,rfl,trivial⟩ ?_
 rintro ⟨⟨i,acc⟩,hi1,hi2,hi3⟩
 dsimp only at hi1 hi2 hi3 ⊢
 by_cases hlt:i<s.data.toList.length
 ·have hcc:=List.getElem?_eq_getElem hlt
  have hdr:=List.drop_eq_getElem_cons hlt
  generalize hce:s.data.toList[i]=c at *
  have hlt2:i<s.size:=by omega
  rw [hdr] at hi3
  have w1:=wrapi (z:=(i:Int)+1) (by omega) (by omega)
  by_cases c1:c=34
  ·have k1:(c.toNat:Int)=34:=by rw [c1];rfl
   have n1:=Xb b acc (by omega)
   rw [c1,unq_34] at hi3
   subst hi3
   rw [unqV_some]
   repeat' (first|refine ZF ?_|refine ZI ?_|refine ZG ?_|refine ZH ?_|refine ZL ?_|refine ZJ ?_|refine ZN ?_|refine ZK (fun b=>?_)|refine ZM (fun b=>?_)|refine ZC ?_|refine ZA ?_|refine ZO ?_|refine ZD (n1) (fun _ _=>?_)|refine l_call0 (n1) (fun _ _=>?_)|refine Zh (s:=s) i c hcc ?_|rw [w1]|(refine ZB (fun hc=>?_) (fun hc=>?_)<;>(try simp at hc)<;>(try omega))|(refine ZE (fun hc=>?_) (fun hc=>?_)<;>(try simp at hc)<;>(try omega)))
   exact Zv (Zu (Zi () rfl trivial))
  have k1:¬(c.toNat:Int)=34:=fun h=>c1 ((u8i (k:=34) (by decide)).2 h)
  by_cases c2:c=92
  ·have k2:(c.toNat:Int)=92:=by rw [c2];rfl
   rw [c2] at hi3
   by_cases hlt3:i+1<s.data.toList.length
   ·have hcd:=List.getElem?_eq_getElem hlt3
    have hdr3:=List.drop_eq_getElem_cons hlt3
    generalize hde:s.data.toList[i+1]=d at *
    have hlt4:i+1<s.size:=by omega
    rw [hdr3,unq_92d] at hi3
    have w2:=wrapi (z:=(i:Int)+1+1) (by omega) (by omega)
    have w3:=wrapi (z:=(i:Int)+1+1) (by omega) (by omega)
    have hcd':s.data.toList[i+1]? = some d:=hcd
    by_cases d1:d=34∨d=92
    ·rw [if_pos d1] at hi3
     have kd:(d.toNat:Int)=34∨(d.toNat:Int)=92:=by rcases d1 with d1|d1<;>rw [d1]<;>decide
     have n1:=Ze b acc d (by omega)
     repeat' (first|refine Zh (s:=s) (i+1) d hcd' ?_|refine Zh (s:=s) i c hcc ?_|refine ZF ?_|refine ZI ?_|refine ZG ?_|refine ZH ?_|refine ZL ?_|refine ZJ ?_|refine ZN ?_|refine ZK (fun b=>?_)|refine ZM (fun b=>?_)|refine ZC ?_|refine ZA ?_|refine ZD (n1) (fun _ _=>?_)|refine l_call0 (n1) (fun _ _=>?_)|rw [w1]|rw [w2]|(refine ZB (fun hc=>?_) (fun hc=>?_)<;>(try simp at hc)<;>(try omega))|(refine ZE (fun hc=>?_) (fun hc=>?_)<;>(try simp at hc)<;>(try omega)))
     all_goals exact ZV ⟨(i+2,acc++[d]),by show i+2≤s.size;omega,by simp;omega,hi3⟩ (by show s.size - (i+2)<s.size - i;omega) ⟨rfl,rfl,rfl,trivial⟩
    ·rw [if_neg d1] at hi3
     have kd1:¬(d.toNat:Int)=34:=fun h=>d1 (.inl ((u8i (k:=34) (by decide)).2 h))
     have kd2:¬(d.toNat:Int)=92:=fun h=>d1 (.inr ((u8i (k:=92) (by decide)).2 h))
     by_cases d2:d=110
     ·rw [if_pos d2] at hi3
      have kd3:(d.toNat:Int)=110:=by rw [d2];rfl
      have n1:=Ze b acc 10 (by omega)
      repeat' (first|refine Zh (s:=s) (i+1) d hcd' ?_|refine Zh (s:=s) i c hcc ?_|refine ZF ?_|refine ZI ?_|refine ZG ?_|refine ZH ?_|refine ZL ?_|refine ZJ ?_|refine ZN ?_|refine ZK (fun b=>?_)|refine ZM (fun b=>?_)|refine ZC ?_|refine ZA ?_|refine ZD (n1) (fun _ _=>?_)|refine l_call0 (n1) (fun _ _=>?_)|rw [w1]|rw [w2]|(refine ZB (fun hc=>?_) (fun hc=>?_)<;>(try simp at hc)<;>(try omega))|(refine ZE (fun hc=>?_) (fun hc=>?_)<;>(try simp at hc)<;>(try omega)))
      all_goals exact ZV ⟨(i+2,acc++[10]),by show i+2≤s.size;omega,by simp;omega,hi3⟩ (by show s.size - (i+2)<s.size - i;omega) ⟨rfl,rfl,rfl,trivial⟩
     ·rw [if_neg d2] at hi3
      subst hi3
      have kd3:¬(d.toNat:Int)=110:=fun h=>d2 ((u8i (k:=110) (by decide)).2 h)
      repeat' (first|refine Zh (s:=s) (i+1) d hcd' ?_|refine Zh (s:=s) i c hcc ?_|refine ZF ?_|refine ZI ?_|refine ZG ?_|refine ZH ?_|refine ZL ?_|refine ZJ ?_|refine ZN ?_|refine ZK (fun b=>?_)|refine ZM (fun b=>?_)|refine ZC ?_|refine ZA ?_|refine ZO ?_|rw [w1]|rw [w2]|(refine ZB (fun hc=>?_) (fun hc=>?_)<;>(try simp at hc)<;>(try omega))|(refine ZE (fun hc=>?_) (fun hc=>?_)<;>(try simp at hc)<;>(try omega)))
      exact Zv (Zu (Zi () rfl trivial))
   ·have hd:s.data.toList.drop (i+1)=[]:=List.drop_eq_nil_of_le (by omega)
    rw [hd,unq_92] at hi3
    subst hi3
    have hlt4:¬i+1<s.size:=by omega
    repeat' (first|refine ZF ?_|refine ZI ?_|refine ZG ?_|refine ZH ?_|refine ZL ?_|refine ZJ ?_|refine ZN ?_|refine ZK (fun b=>?_)|refine ZM (fun b=>?_)|refine ZC ?_|refine ZA ?_|refine ZO ?_|refine Zh (s:=s) i c hcc ?_|rw [w1]|(refine ZB (fun hc=>?_) (fun hc=>?_)<;>(try simp at hc)<;>(try omega))|(refine ZE (fun hc=>?_) (fun hc=>?_)<;>(try simp at hc)<;>(try omega)))
    exact Zv (Zu (Zi () rfl trivial))
  ·have k2:¬(c.toNat:Int)=92:=fun h=>c2 ((u8i (k:=92) (by decide)).2 h)
   rw [unq_c c1 c2] at hi3
   have n1:=Ze b acc c (by omega)
   repeat' (first|refine ZF ?_|refine ZI ?_|refine ZG ?_|refine ZH ?_|refine ZL ?_|refine ZJ ?_|refine ZN ?_|refine ZK (fun b=>?_)|refine ZM (fun b=>?_)|refine ZC ?_|refine ZA ?_|refine ZD (n1) (fun _ _=>?_)|refine l_call0 (n1) (fun _ _=>?_)|refine Zh (s:=s) i c hcc ?_|rw [w1]|(refine ZB (fun hc=>?_) (fun hc=>?_)<;>(try simp at hc)<;>(try omega))|(refine ZE (fun hc=>?_) (fun hc=>?_)<;>(try simp at hc)<;>(try omega)))
   exact ZV ⟨(i+1,acc++[c]),by show i+1≤s.size;omega,by simp;omega,hi3⟩ (by show s.size - (i+1)<s.size - i;omega) ⟨rfl,rfl,rfl,trivial⟩
 ·have hd:s.data.toList.drop i=[]:=List.drop_eq_nil_of_le (by omega)
  rw [hd] at hi3
  have hi3:none=r:=hi3
  subst hi3
  have hlt2:¬i<s.size:=by omega
  repeat' (first|refine ZF ?_|refine ZI ?_|refine ZG ?_|refine ZH ?_|refine ZL ?_|refine ZJ ?_|refine ZN ?_|refine ZK (fun b=>?_)|refine ZM (fun b=>?_)|refine ZC ?_|refine ZA ?_|refine ZO ?_|(refine ZB (fun hc=>?_) (fun hc=>?_)<;>(try simp at hc)<;>(try omega))|(refine ZE (fun hc=>?_) (fun hc=>?_)<;>(try simp at hc)<;>(try omega)))
  exact ZP () rfl trivial
end Go.Proofs.YtodkipbnefngkaaGreatDoor
set_option maxRecDepth 10000
namespace Go.Proofs
open Go.Shelf
def Tryz.lays137_ren:Go.Shelf.Ren:=⟨fun|137=>24|217=>48|266=>74|n=>n,fun|9=>9|5=>5|3=>3|n=>n,fun|n=>n⟩
theorem Tryz.lays137:Go.Proofs.Lays.n137 Tryz.prog Tryz.lays137_ren:={
 mixed:=by kernel_rfl
 f137:=Tryz.func24.trans (congrArg some (by kernel_rfl))
 f217:=Tryz.func48.trans (congrArg some (by kernel_rfl))
 f266:=Tryz.func74.trans (congrArg some (by kernel_rfl))
 t3:=Tryz.underlying3
 a3:=Tryz.isAgg3
 z3:=Tryz.sizeOf3
 v3:=Tryz.zeroValue3
 t5:=Tryz.underlying5
 a5:=Tryz.isAgg5
 z5:=Tryz.sizeOf5
 v5:=Tryz.zeroValue5
 t9:=Tryz.underlying9
 a9:=Tryz.isAgg9
 z9:=Tryz.sizeOf9
 v9:=Tryz.zeroValue9}
end Go.Proofs
namespace Go.Proofs.YtodkipbnefngkaaGreatDoor
open Go.Proofs.Tryz
open Go.RowKit
theorem toUInt8_nat (c:UInt8):(((c.toNat:Nat):Int)).toNat.toUInt8=c:=by simp
theorem Ys (s:ByteArray) (c:UInt8):Enters 24∧Spec prog 24 #[.string s,.int .u8 c.toNat] [] [] (RetV (.int .i64 (Lib.indexByte s.data.toList c))):=by
 refine ⟨enters_of func24 (by kernel_rfl) rfl,fun G w hp hs=>?_⟩
 refine (Any.strings_IndexByte Tryz.lays137 s c.toNat w).mono ?_
 rintro e w' ⟨rfl,rfl⟩
 rw [toUInt8_nat]
 exact ⟨(),rfl,trivial,hs⟩
end Go.Proofs.YtodkipbnefngkaaGreatDoor
namespace Go.Proofs.YtodkipbnefngkaaGreatDoor
open Go.RowKit Go.Proofs.Tryz
abbrev tkf (t:Tk):List Value:=[.int .i64 t.kd,.string t.tx,.int .i64 t.pl]
def symS:ByteArray:=⟨#[40,41,58,61,60,62]⟩
theorem sym_ix (c:UInt8):decide (0≤Lib.indexByte symS.data.toList c)=isSym c:=by
 have e:symS.data.toList=[40,41,58,61,60,62]:=rfl
 rw [e]
 unfold isSym
 by_cases h1:c=40
 ·subst h1;decide
 by_cases h2:c=41
 ·subst h2;decide
 by_cases h3:c=58
 ·subst h3;decide
 by_cases h4:c=61
 ·subst h4;decide
 by_cases h5:c=60
 ·subst h5;decide
 by_cases h6:c=62
 ·subst h6;decide
 simp [Lib.indexByte,h1,h2,h3,h4,h5,h6,Ne.symm h1,Ne.symm h2,Ne.symm h3,Ne.symm h4,Ne.symm h5,Ne.symm h6]
theorem WK:∀(l:List UInt8) (i:Nat) (acc t:List UInt8) (k:Nat),unqF l i acc=some (t,k)→i+1≤k∧k≤i+l.length
 | [],_,_,_,_,h=>by simp [unqF] at h
 | [c],i,acc,t,k,h=>by
  rw [unqF] at h
  split at h
  ·cases h;simp
  ·cases h
 | c::d::r,i,acc,t,k,h=>by
  rw [unqF] at h
  simp only [List.length_cons]
  split at h
  ·cases h;omega
  ·split at h
   ·split at h
    ·have:=WK r _ _ _ _ h;omega
    ·split at h
     ·have:=WK r _ _ _ _ h;omega
     ·cases h
   ·have:=WK (d::r) _ _ _ _ h
    simp only [List.length_cons] at this;omega
set_option maxHeartbeats 4000000 in
theorem ruScan_ok (s:ByteArray) (hs:s.size≤70000):Enters 69∧Spec prog 69 #[.string s] [] []
  ⟨Option Addr×Nat,fun q=>.tuple #[.slice q.1 (scanF (s.data.toList.length+1) s.data.toList 0 []).1.length q.2,.int .i64 ((scanF (s.data.toList.length+1) s.data.toList 0 []).2.1:Int),.bool (scanF (s.data.toList.length+1) s.data.toList 0 []).2.2],fun _=>True,fun q=>[Sl 135 tkf q.1 q.2 (scanF (s.data.toList.length+1) s.data.toList 0 []).1],fun _=>[]⟩:=by
 have hsz:s.data.toList.length=s.size:=by show _=s.data.size;simp
 generalize hr:scanF (s.data.toList.length+1) s.data.toList 0 []=r
 refine ZR [_] func69 ntmps69 fun G w hp=>?_
 repeat' (first|refine ZF ?_|refine ZI ?_|refine ZG ?_|refine ZH ?_|refine ZL ?_|refine ZJ ?_|refine ZN ?_|refine ZK (fun b=>?_)|refine ZM (fun b=>?_)|refine ZC ?_|refine ZA ?_|refine Zb ?_|refine Zc ?_|refine Zq ?_|refine Zd ?_|refine r_ldN ?_|refine Zr (fun b=>?_)|refine Zo (fun b=>?_)|refine Zp ?_|refine Za ?_|(refine ZB (fun hc=>?_) (fun hc=>?_)<;>(try simp at hc))|(refine ZU (fun hc=>?_) (fun hc=>?_)<;>(try simp at hc))|refine ZT 11 [] [(0,0),(1,0),(2,0),(3,0),(4,4),(5,0)] [6] ?_|refine ZT 14 [] [(0,0),(1,0),(2,0),(3,0),(4,4),(5,0)] [6] ?_|refine ZT 21 [] [(0,0),(1,0),(2,0),(3,4),(4,0)] [5] ?_|(refine ZE (fun hc=>?_) (fun hc=>?_)<;>(try simp at hc)))
 refine Z1 (Lx:=[]) (r:=Row 135 3 none 0 0 []) (fun h _=>XC _ _ h) ?_
 refine YK (X:={q:Nat×List Tk×Option Addr×Nat // q.1≤s.size∧q.2.1.length≤q.1∧∃n,(s.data.toList.drop q.1).length<n∧scanF n (s.data.toList.drop q.1) q.1 q.2.1=r}) (fun q=>[(0,.string s),(2,.slice q.1.2.2.1 q.1.2.1.length q.1.2.2.2),(3,.int .i64 (q.1.1:Int))]) (fun _=>[]) (fun q=>[Row 135 3 q.1.2.2.1 q.1.2.1.length q.1.2.2.2 (q.1.2.1.flatMap tkf)]) (fun q=>s.size - q.1.1) ⟨(0,[],none,0),by show 0≤_;omega,by show 0≤0;omega,s.data.toList.length+1,by simp,hr⟩ ⟨rfl,rfl,rfl,trivial⟩ ?_
 rintro ⟨⟨i,acc,o,cap⟩,hi1,hi2,nn,hn,hi3⟩
 dsimp only at hi1 hi2 hi3 hn ⊢
 obtain ⟨nn,rfl⟩:∃m,nn=m+1:=⟨nn - 1,by omega⟩
 by_cases hlt:i<s.data.toList.length
 ·have hcc:=List.getElem?_eq_getElem hlt
  have hdr:=List.drop_eq_getElem_cons hlt
  have hlt2:i<s.size:=by omega
  generalize hce:s.data.toList[i]=c at *
  rw [hdr] at hi3 hn
  have w1:=wrapi (z:=(i:Int)+1) (by omega) (by omega)
  have hdl:(s.data.toList.drop (i+1)).length<nn:=by simpa using hn
  have hrest:(ofL (c::s.data.toList.drop (i+1))).data.toList=c::s.data.toList.drop (i+1):=rfl
  have hroom:(2 * (acc.length+1)+200) * 32≤281474976710656:=by omega
  have k35:(c.toNat:Int)=35↔c=35:=(u8i (k:=35) (by decide)).symm
  have k32:(c.toNat:Int)=32↔c=32:=(u8i (k:=32) (by decide)).symm
  have k9:(c.toNat:Int)=9↔c=9:=(u8i (k:=9) (by decide)).symm
  have k34:(c.toNat:Int)=34↔c=34:=(u8i (k:=34) (by decide)).symm
  unfold scanF at hi3
  by_cases c35:c=35
  ·rw [if_pos (by simpa using c35)] at hi3
   subst hi3
   have q35:=k35.2 c35
   repeat' (first|refine ZF ?_|refine ZI ?_|refine ZG ?_|refine ZH ?_|refine ZL ?_|refine ZJ ?_|refine ZN ?_|refine ZK (fun b=>?_)|refine ZM (fun b=>?_)|refine ZC ?_|refine ZA ?_|refine ZO ?_|refine Zb ?_|refine Zc ?_|refine Zq ?_|refine Zd ?_|refine r_ldN ?_|refine Zr (fun b=>?_)|refine Zo (fun b=>?_)|refine Zp ?_|refine Za ?_|refine Zh (s:=s) i c hcc ?_|(refine ZB (fun hc=>?_) (fun hc=>?_)<;>(try simp at hc)<;>(try omega))|(refine ZU (fun hc=>?_) (fun hc=>?_)<;>(try simp at hc)<;>(try omega))|refine ZT 11 [] [(0,0),(1,0),(2,0),(3,0),(4,4),(5,0)] [6] ?_|refine ZT 14 [] [(0,0),(1,0),(2,0),(3,0),(4,4),(5,0)] [6] ?_|refine ZT 21 [] [(0,0),(1,0),(2,0),(3,4),(4,0)] [5] ?_|(refine ZE (fun hc=>?_) (fun hc=>?_)<;>(try simp at hc)<;>(try omega)))
   refine Xc (T:=135) (sz:=3) (f:=tkf) (o:=o) (cap:=cap) acc ?_ rfl rfl
   exact ZP (o,cap) rfl trivial
  rw [if_neg (by simpa using c35)] at hi3
  have q35:¬(c.toNat:Int)=35:=fun h=>c35 (k35.1 h)
  by_cases csp:c=32∨c=9
  ·rw [if_pos (by simpa using csp)] at hi3
   have qsp:(c.toNat:Int)=32∨(c.toNat:Int)=9:=csp.imp k32.2 k9.2
   repeat' (first|refine Zh (s:=s) i c hcc ?_|refine ZF ?_|refine ZI ?_|refine ZG ?_|refine ZH ?_|refine ZL ?_|refine ZJ ?_|refine ZN ?_|refine ZK (fun b=>?_)|refine ZM (fun b=>?_)|refine ZC ?_|refine ZA ?_|refine Zb ?_|refine Zc ?_|refine Zq ?_|refine Zd ?_|refine r_ldN ?_|refine Zr (fun b=>?_)|refine Zo (fun b=>?_)|refine Zp ?_|refine Za ?_|refine YJ (s:=s) (u:=ofL (c::s.data.toList.drop (i+1))) i (by omega) hdr ?_|rw [w1]|(refine ZB (fun hc=>?_) (fun hc=>?_)<;>(try simp at hc)<;>(try omega))|(refine ZU (fun hc=>?_) (fun hc=>?_)<;>(try simp at hc)<;>(try omega))|refine ZT 11 [] [(0,0),(1,0),(2,0),(3,0),(4,4),(5,0)] [6] ?_|refine ZT 14 [] [(0,0),(1,0),(2,0),(3,0),(4,4),(5,0)] [6] ?_|refine ZT 21 [] [(0,0),(1,0),(2,0),(3,4),(4,0)] [5] ?_|(refine ZE (fun hc=>?_) (fun hc=>?_)<;>(try simp at hc)<;>(try omega)))
   all_goals exact ZV ⟨(i+1,acc,o,cap),by show i+1≤s.size;omega,by show acc.length≤i+1;omega,nn,hdl,hi3⟩ (by show s.size - (i+1)<s.size - i;omega) ⟨rfl,rfl,rfl,trivial⟩
  rw [if_neg (by simpa using csp)] at hi3
  have q32:¬(c.toNat:Int)=32:=fun h=>csp (.inl (k32.1 h))
  have q9:¬(c.toNat:Int)=9:=fun h=>csp (.inr (k9.1 h))
  have hrs:(ofL (c::s.data.toList.drop (i+1))).size=s.size - i:=by
   show (c::s.data.toList.drop (i+1)).toArray.size=_
   simp;omega
  have h1s:=YB isLet (c::s.data.toList.drop (i+1))
  have h2s:=YB inNum (c::s.data.toList.drop (i+1))
  simp only [List.length_cons,List.length_drop] at h1s h2s
  have n4:=UC c
  have n5:=ruDigit_ok c
  have n6:=ruSpan_ok UC (ofL (c::s.data.toList.drop (i+1))) (by omega)
  have n7:=ruSpan_ok ruNumeral_ok (ofL (c::s.data.toList.drop (i+1))) (by omega)
  rw [hrest] at n6 n7
  by_cases cl:isLet c=true
  ·rw [if_pos cl] at hi3
   have hp:0<spanF isLet (c::s.data.toList.drop (i+1)):=by simp [spanF,cl]
   rw [cl] at n4
   generalize hk:spanF isLet (c::s.data.toList.drop (i+1))=kk at *
   have w2:=wrapi (z:=(i:Int)+(kk:Int)) (by omega) (by omega)
   repeat' (first|refine YY (m:=acc.length) (m2:=1) (fun o' cap'=>?_) (hroom:=hroom)|refine Zh (s:=s) i c hcc ?_|refine ZF ?_|refine ZI ?_|refine ZG ?_|refine ZH ?_|refine ZL ?_|refine ZJ ?_|refine ZN ?_|refine ZK (fun b=>?_)|refine ZM (fun b=>?_)|refine ZC ?_|refine ZA ?_|refine Zb ?_|refine Zc ?_|refine Zq ?_|refine Zd ?_|refine r_ldN ?_|refine Zr (fun b=>?_)|refine Zo (fun b=>?_)|refine Zp ?_|refine Za ?_|refine ZD (n4) (fun _ _=>?_)|refine l_call0 (n4) (fun _ _=>?_)|refine ZQ (n4) (fun _ _=>?_)|refine ZD (n6) (fun _ _=>?_)|refine l_call0 (n6) (fun _ _=>?_)|refine ZQ (n6) (fun _ _=>?_)|refine YJ (s:=s) (u:=ofL (c::s.data.toList.drop (i+1))) i (by omega) hdr ?_|refine r_sTo (s:=ofL (c::s.data.toList.drop (i+1))) (u:=ofL ((c::s.data.toList.drop (i+1)).take kk)) kk (by omega) rfl ?_|rw [w2]|(refine ZB (fun hc=>?_) (fun hc=>?_)<;>(try simp at hc)<;>(try omega))|(refine ZU (fun hc=>?_) (fun hc=>?_)<;>(try simp at hc)<;>(try omega))|refine ZT 11 [Pt _ (.cells _ 135 _)] [(0,0),(1,0),(2,0),(3,0),(4,4),(5,0),(6,4)] [] ?_|refine ZT 14 [] [(0,0),(1,0),(2,0),(3,0),(4,4),(5,0)] [6] ?_|refine ZT 21 [] [(0,0),(1,0),(2,0),(3,4),(4,0)] [5] ?_|(refine ZE (fun hc=>?_) (fun hc=>?_)<;>(try simp at hc)<;>(try omega)))
   have hd2:(c::s.data.toList.drop (i+1)).drop kk=s.data.toList.drop (i+kk):=by rw [←hdr,List.drop_drop]
   rw [hd2] at hi3
   have e1:acc.length+1=(acc++[(⟨1,ofL ((c::s.data.toList.drop (i+1)).take kk),i⟩:Tk)]).length:=by simp
   have e2:acc.flatMap tkf++[.int .i64 1,.string (ofL ((c::s.data.toList.drop (i+1)).take kk)),.int .i64 i]=(acc++[(⟨1,ofL ((c::s.data.toList.drop (i+1)).take kk),i⟩:Tk)]).flatMap tkf:=by simp
   refine YD (T:=135) (sz:=3) (o:=o') (cap:=cap') (m:=acc.length+1) _ _ e1 e2 ?_
   rw [e1]
   exact ZV ⟨(i+kk,acc++[⟨1,ofL ((c::s.data.toList.drop (i+1)).take kk),i⟩],o',cap'),by show i+kk≤s.size;omega,by show (acc++[_]).length≤i+kk;simp;omega,nn,by show (s.data.toList.drop (i+kk)).length<nn;simp only [List.length_drop,List.length_cons] at hn ⊢;omega,hi3⟩ (by show s.size - (i+kk)<s.size - i;omega) ⟨rfl,rfl,rfl,trivial⟩
  rw [if_neg cl] at hi3
  have cl:isLet c=false:=by simpa using cl
  rw [cl] at n4
  by_cases cd:isDgt c=true
  ·rw [if_pos cd] at hi3
   have hp:0<spanF inNum (c::s.data.toList.drop (i+1)):=by simp [spanF,inNum,cd]
   rw [cd] at n5
   generalize hk:spanF inNum (c::s.data.toList.drop (i+1))=kk at *
   have w2:=wrapi (z:=(i:Int)+(kk:Int)) (by omega) (by omega)
   repeat' (first|refine YY (m:=acc.length) (m2:=1) (fun o' cap'=>?_) (hroom:=hroom)|refine Zh (s:=s) i c hcc ?_|refine ZF ?_|refine ZI ?_|refine ZG ?_|refine ZH ?_|refine ZL ?_|refine ZJ ?_|refine ZN ?_|refine ZK (fun b=>?_)|refine ZM (fun b=>?_)|refine ZC ?_|refine ZA ?_|refine Zb ?_|refine Zc ?_|refine Zq ?_|refine Zd ?_|refine r_ldN ?_|refine Zr (fun b=>?_)|refine Zo (fun b=>?_)|refine Zp ?_|refine Za ?_|refine ZD (n4) (fun _ _=>?_)|refine l_call0 (n4) (fun _ _=>?_)|refine ZQ (n4) (fun _ _=>?_)|refine ZD (n5) (fun _ _=>?_)|refine l_call0 (n5) (fun _ _=>?_)|refine ZQ (n5) (fun _ _=>?_)|refine ZD (n7) (fun _ _=>?_)|refine l_call0 (n7) (fun _ _=>?_)|refine ZQ (n7) (fun _ _=>?_)|refine YJ (s:=s) (u:=ofL (c::s.data.toList.drop (i+1))) i (by omega) hdr ?_|refine r_sTo (s:=ofL (c::s.data.toList.drop (i+1))) (u:=ofL ((c::s.data.toList.drop (i+1)).take kk)) kk (by omega) rfl ?_|rw [w2]|(refine ZB (fun hc=>?_) (fun hc=>?_)<;>(try simp at hc)<;>(try omega))|(refine ZU (fun hc=>?_) (fun hc=>?_)<;>(try simp at hc)<;>(try omega))|refine ZT 11 [] [(0,0),(1,0),(2,0),(3,0),(4,4),(5,0)] [6] ?_|refine ZT 14 [Pt _ (.cells _ 135 _)] [(0,0),(1,0),(2,0),(3,0),(4,4),(5,0),(6,4)] [] ?_|refine ZT 21 [] [(0,0),(1,0),(2,0),(3,4),(4,0)] [5] ?_|(refine ZE (fun hc=>?_) (fun hc=>?_)<;>(try simp at hc)<;>(try omega)))
   have hd2:(c::s.data.toList.drop (i+1)).drop kk=s.data.toList.drop (i+kk):=by rw [←hdr,List.drop_drop]
   rw [hd2] at hi3
   have e1:acc.length+1=(acc++[(⟨2,ofL ((c::s.data.toList.drop (i+1)).take kk),i⟩:Tk)]).length:=by simp
   have e2:acc.flatMap tkf++[.int .i64 2,.string (ofL ((c::s.data.toList.drop (i+1)).take kk)),.int .i64 i]=(acc++[(⟨2,ofL ((c::s.data.toList.drop (i+1)).take kk),i⟩:Tk)]).flatMap tkf:=by simp
   refine YD (T:=135) (sz:=3) (o:=o') (cap:=cap') (m:=acc.length+1) _ _ e1 e2 ?_
   rw [e1]
   exact ZV ⟨(i+kk,acc++[⟨2,ofL ((c::s.data.toList.drop (i+1)).take kk),i⟩],o',cap'),by show i+kk≤s.size;omega,by show (acc++[_]).length≤i+kk;simp;omega,nn,by show (s.data.toList.drop (i+kk)).length<nn;simp only [List.length_drop,List.length_cons] at hn ⊢;omega,hi3⟩ (by show s.size - (i+kk)<s.size - i;omega) ⟨rfl,rfl,rfl,trivial⟩
  rw [if_neg cd] at hi3
  have cd:isDgt c=false:=by simpa using cd
  rw [cd] at n5
  by_cases c34:c=34
  ·rw [if_pos (by simpa using c34)] at hi3
   have q34:=k34.2 c34
   have n8:=ruUnquote_ok (ofL (c::s.data.toList.drop (i+1))) (by omega) (by omega)
   rw [hrest,List.drop_succ_cons,List.drop_zero] at n8
   cases hu:unqF (s.data.toList.drop (i+1)) 1 [] with
   | none=>
    rw [hu] at hi3 n8
    have hi3:([],i,false)=r:=hi3
    subst hi3
    repeat' (first|refine Zh (s:=s) i c hcc ?_|refine ZF ?_|refine ZI ?_|refine ZG ?_|refine ZH ?_|refine ZL ?_|refine ZJ ?_|refine ZN ?_|refine ZK (fun b=>?_)|refine ZM (fun b=>?_)|refine ZC ?_|refine ZA ?_|refine ZO ?_|refine Zb ?_|refine Zc ?_|refine Zq ?_|refine Zd ?_|refine r_ldN ?_|refine Zr (fun b=>?_)|refine Zo (fun b=>?_)|refine Zp ?_|refine Za ?_|refine ZD (n4) (fun _ _=>?_)|refine l_call0 (n4) (fun _ _=>?_)|refine ZQ (n4) (fun _ _=>?_)|refine ZD (n5) (fun _ _=>?_)|refine l_call0 (n5) (fun _ _=>?_)|refine ZQ (n5) (fun _ _=>?_)|refine ZD (n8) (fun _ _=>?_)|refine l_call0 (n8) (fun _ _=>?_)|refine ZQ (n8) (fun _ _=>?_)|refine YJ (s:=s) (u:=ofL (c::s.data.toList.drop (i+1))) i (by omega) hdr ?_|(refine ZB (fun hc=>?_) (fun hc=>?_)<;>(try simp at hc)<;>(try omega))|(refine ZU (fun hc=>?_) (fun hc=>?_)<;>(try simp at hc)<;>(try omega))|refine ZT 11 [] [(0,0),(1,0),(2,0),(3,0),(4,4),(5,0)] [6] ?_|refine ZT 14 [] [(0,0),(1,0),(2,0),(3,0),(4,4),(5,0)] [6] ?_|refine ZT 21 [] [(0,0),(1,0),(2,0),(3,4),(4,0)] [5] ?_|(refine ZE (fun hc=>?_) (fun hc=>?_)<;>(try simp at hc)<;>(try omega)))
    refine Zn (F1:=[]) (f:=Sl 135 tkf none 0 []) (fun hp _=>⟨Nat.le_refl _,.inl rfl⟩) ?_
    exact Zv (Zu (Zi (none,0) rfl trivial))
   | some q=>
    obtain ⟨tx,kk⟩:=q
    rw [hu] at hi3 n8
    obtain ⟨u1,u2⟩:=WK _ _ _ _ _ hu
    simp only [List.length_drop] at u2
    have w2:=wrapi (z:=(i:Int)+(kk:Int)) (by omega) (by omega)
    have hd2:(c::s.data.toList.drop (i+1)).drop kk=s.data.toList.drop (i+kk):=by rw [←hdr,List.drop_drop]
    have hi3:scanF nn ((c::s.data.toList.drop (i+1)).drop kk) (i+kk) (acc++[⟨3,ofL tx,i⟩])=r:=hi3
    rw [hd2] at hi3
    repeat' (first|refine YY (m:=acc.length) (m2:=1) (fun o' cap'=>?_) (hroom:=hroom)|refine Zh (s:=s) i c hcc ?_|refine ZF ?_|refine ZI ?_|refine ZG ?_|refine ZH ?_|refine ZL ?_|refine ZJ ?_|refine ZN ?_|refine ZK (fun b=>?_)|refine ZM (fun b=>?_)|refine ZC ?_|refine ZA ?_|refine Zb ?_|refine Zc ?_|refine Zq ?_|refine Zd ?_|refine r_ldN ?_|refine Zr (fun b=>?_)|refine Zo (fun b=>?_)|refine Zp ?_|refine Za ?_|refine ZD (n4) (fun _ _=>?_)|refine l_call0 (n4) (fun _ _=>?_)|refine ZQ (n4) (fun _ _=>?_)|refine ZD (n5) (fun _ _=>?_)|refine l_call0 (n5) (fun _ _=>?_)|refine ZQ (n5) (fun _ _=>?_)|refine ZD (n8) (fun _ _=>?_)|refine l_call0 (n8) (fun _ _=>?_)|refine ZQ (n8) (fun _ _=>?_)|refine YJ (s:=s) (u:=ofL (c::s.data.toList.drop (i+1))) i (by omega) hdr ?_|rw [w2]|(refine ZB (fun hc=>?_) (fun hc=>?_)<;>(try simp at hc)<;>(try omega))|(refine ZU (fun hc=>?_) (fun hc=>?_)<;>(try simp at hc)<;>(try omega))|refine ZT 11 [] [(0,0),(1,0),(2,0),(3,0),(4,4),(5,0)] [6] ?_|refine ZT 14 [] [(0,0),(1,0),(2,0),(3,0),(4,4),(5,0)] [6] ?_|refine ZT 21 [] [(0,0),(1,0),(2,0),(3,4),(4,0)] [5] ?_|(refine ZE (fun hc=>?_) (fun hc=>?_)<;>(try simp at hc)<;>(try omega)))
    have e1:acc.length+1=(acc++[(⟨3,ofL tx,i⟩:Tk)]).length:=by simp
    have e2:acc.flatMap tkf++[.int .i64 3,.string (ofL tx),.int .i64 i]=(acc++[(⟨3,ofL tx,i⟩:Tk)]).flatMap tkf:=by simp
    refine YD (T:=135) (sz:=3) (o:=o') (cap:=cap') (m:=acc.length+1) _ _ e1 e2 ?_
    rw [e1]
    exact ZV ⟨(i+kk,acc++[⟨3,ofL tx,i⟩],o',cap'),by show i+kk≤s.size;omega,by show (acc++[_]).length≤i+kk;simp;omega,nn,by show (s.data.toList.drop (i+kk)).length<nn;simp only [List.length_drop,List.length_cons] at hn ⊢;omega,hi3⟩ (by show s.size - (i+kk)<s.size - i;omega) ⟨rfl,rfl,rfl,trivial⟩
  rw [if_neg (by simpa using c34)] at hi3
  have q34:¬(c.toNat:Int)=34:=fun h=>c34 (k34.1 h)
  have n8:=Ys symS c
  by_cases cs:isSym c=true
  ·rw [if_pos cs] at hi3
   have hx:0≤Lib.indexByte symS.data.toList c:=by have:=sym_ix c;rw [cs] at this;simpa using this
   repeat' (first|refine YY (m:=acc.length) (m2:=1) (fun o' cap'=>?_) (hroom:=hroom)|refine Zh (s:=s) i c hcc ?_|refine ZF ?_|refine ZI ?_|refine ZG ?_|refine ZH ?_|refine ZL ?_|refine ZJ ?_|refine ZN ?_|refine ZK (fun b=>?_)|refine ZM (fun b=>?_)|refine ZC ?_|refine ZA ?_|refine Zb ?_|refine Zc ?_|refine Zq ?_|refine Zd ?_|refine r_ldN ?_|refine Zr (fun b=>?_)|refine Zo (fun b=>?_)|refine Zp ?_|refine Za ?_|refine ZD (n4) (fun _ _=>?_)|refine l_call0 (n4) (fun _ _=>?_)|refine ZQ (n4) (fun _ _=>?_)|refine ZD (n5) (fun _ _=>?_)|refine l_call0 (n5) (fun _ _=>?_)|refine ZQ (n5) (fun _ _=>?_)|refine ZD (n8) (fun _ _=>?_)|refine l_call0 (n8) (fun _ _=>?_)|refine ZQ (n8) (fun _ _=>?_)|refine YJ (s:=s) (u:=ofL (c::s.data.toList.drop (i+1))) i (by omega) hdr ?_|refine r_sTo (s:=ofL (c::s.data.toList.drop (i+1))) (u:=ofL [c]) 1 (by omega) rfl ?_|rw [w1]|(refine ZB (fun hc=>?_) (fun hc=>?_)<;>(try simp at hc)<;>(try omega))|(refine ZU (fun hc=>?_) (fun hc=>?_)<;>(try simp at hc)<;>(try omega))|refine ZT 11 [] [(0,0),(1,0),(2,0),(3,0),(4,4),(5,0)] [6] ?_|refine ZT 14 [] [(0,0),(1,0),(2,0),(3,0),(4,4),(5,0)] [6] ?_|refine ZT 21 [Pt _ (.cells _ 135 _)] [(0,0),(1,0),(2,0),(3,4),(4,0),(5,4)] [] ?_|(refine ZE (fun hc=>?_) (fun hc=>?_)<;>(try simp at hc)<;>(try omega)))
   have e1:acc.length+1=(acc++[(⟨4,ofL [c],i⟩:Tk)]).length:=by simp
   have e2:acc.flatMap tkf++[.int .i64 4,.string (ofL [c]),.int .i64 i]=(acc++[(⟨4,ofL [c],i⟩:Tk)]).flatMap tkf:=by simp
   refine YD (T:=135) (sz:=3) (o:=o') (cap:=cap') (m:=acc.length+1) _ _ e1 e2 ?_
   rw [e1]
   exact ZV ⟨(i+1,acc++[⟨4,ofL [c],i⟩],o',cap'),by show i+1≤s.size;omega,by show (acc++[_]).length≤i+1;simp;omega,nn,by show (s.data.toList.drop (i+1)).length<nn;simp only [List.length_drop,List.length_cons] at hn ⊢;omega,hi3⟩ (by show s.size - (i+1)<s.size - i;omega) ⟨rfl,rfl,rfl,trivial⟩
  ·rw [if_neg cs] at hi3
   subst hi3
   have cs:isSym c=false:=by simpa using cs
   have hx:¬0≤Lib.indexByte symS.data.toList c:=by have:=sym_ix c;rw [cs] at this;simpa using this
   repeat' (first|refine Zh (s:=s) i c hcc ?_|refine ZF ?_|refine ZI ?_|refine ZG ?_|refine ZH ?_|refine ZL ?_|refine ZJ ?_|refine ZN ?_|refine ZK (fun b=>?_)|refine ZM (fun b=>?_)|refine ZC ?_|refine ZA ?_|refine ZO ?_|refine Zb ?_|refine Zc ?_|refine Zq ?_|refine Zd ?_|refine r_ldN ?_|refine Zr (fun b=>?_)|refine Zo (fun b=>?_)|refine Zp ?_|refine Za ?_|refine ZD (n4) (fun _ _=>?_)|refine l_call0 (n4) (fun _ _=>?_)|refine ZQ (n4) (fun _ _=>?_)|refine ZD (n5) (fun _ _=>?_)|refine l_call0 (n5) (fun _ _=>?_)|refine ZQ (n5) (fun _ _=>?_)|refine ZD (n8) (fun _ _=>?_)|refine l_call0 (n8) (fun _ _=>?_)|refine ZQ (n8) (fun _ _=>?_)|refine YJ (s:=s) (u:=ofL (c::s.data.toList.drop (i+1))) i (by omega) hdr ?_|(refine ZB (fun hc=>?_) (fun hc=>?_)<;>(try simp at hc)<;>(try omega))|(refine ZU (fun hc=>?_) (fun hc=>?_)<;>(try simp at hc)<;>(try omega))|refine ZT 11 [] [(0,0),(1,0),(2,0),(3,0),(4,4),(5,0)] [6] ?_|refine ZT 14 [] [(0,0),(1,0),(2,0),(3,0),(4,4),(5,0)] [6] ?_|refine ZT 21 [] [(0,0),(1,0),(2,0),(3,4),(4,0)] [5] ?_|(refine ZE (fun hc=>?_) (fun hc=>?_)<;>(try simp at hc)<;>(try omega)))
   refine Zn (F1:=[]) (f:=Sl 135 tkf none 0 []) (fun hp _=>⟨Nat.le_refl _,.inl rfl⟩) ?_
   exact Zv (Zu (Zi (none,0) rfl trivial))
 ·have hd:s.data.toList.drop i=[]:=List.drop_eq_nil_of_le (by omega)
  rw [hd] at hi3
  have hi3:(acc,i,true)=r:=hi3
  subst hi3
  have hlt2:¬i<s.size:=by omega
  repeat' (first|refine ZF ?_|refine ZI ?_|refine ZG ?_|refine ZH ?_|refine ZL ?_|refine ZJ ?_|refine ZN ?_|refine ZK (fun b=>?_)|refine ZM (fun b=>?_)|refine ZC ?_|refine ZA ?_|refine ZO ?_|refine Zb ?_|refine Zc ?_|refine Zq ?_|refine Zd ?_|refine r_ldN ?_|refine Zr (fun b=>?_)|refine Zo (fun b=>?_)|refine Zp ?_|refine Za ?_|(refine ZB (fun hc=>?_) (fun hc=>?_)<;>(try simp at hc)<;>(try omega))|(refine ZU (fun hc=>?_) (fun hc=>?_)<;>(try simp at hc)<;>(try omega))|refine ZT 11 [] [(0,0),(1,0),(2,0),(3,0),(4,4),(5,0)] [6] ?_|refine ZT 14 [] [(0,0),(1,0),(2,0),(3,0),(4,4),(5,0)] [6] ?_|refine ZT 21 [] [(0,0),(1,0),(2,0),(3,4),(4,0)] [5] ?_|(refine ZE (fun hc=>?_) (fun hc=>?_)<;>(try simp at hc)<;>(try omega)))
  refine Xc (T:=135) (sz:=3) (f:=tkf) (o:=o) (cap:=cap) acc ?_ rfl rfl
  exact ZP (o,cap) rfl trivial
abbrev psC (x:Ps) (o:Option Addr) (cap r:Nat):Obj:=.cells #[.slice o x.tk.length cap,.int .i64 x.en,.int .i64 x.op,.map (some r),.int .i64 x.pl,.int .i64 x.e] 140
abbrev TkS (q:Option Addr×Nat) (l:List Tk):Pf:=Sl 135 tkf q.1 q.2 l
abbrev PsP (v:Value) (b r:Nat) (x:Ps):Post:=⟨Option Addr×Nat,fun _=>v,fun _=>True,fun q=>[TkS q x.tk],fun q=>[Pt b (psC x q.1 q.2 r)]⟩
def tkv (t:Tk):Value:=.agg #[.int .i64 t.kd,.string t.tx,.int .i64 t.pl]
def KdOK (x:Ps):Prop:=∀t ∈ x.tk,t.kd≠0∧t.tx.size≤100000
theorem KdOK.peek {x:Ps} (h:KdOK x):x.peek.tx.size≤100000:=by
 unfold Ps.peek
 split
 ·show (#[]:Array UInt8).size≤_;decide
 ·rename_i t l ht;exact (h t (by rw [ht];exact .head _)).2
theorem KdOK.pass {x:Ps} (h:KdOK x):KdOK x.pass:=fun t ht=>h t (List.mem_of_mem_tail ht)
theorem KdOK.fail {x:Ps} (h:KdOK x) (i e:Int):KdOK (x.fail i e):=by
 unfold Ps.fail
 split
 ·intro t ht;cases ht
 ·exact h
theorem KdOK.need {x:Ps} (h:KdOK x) (k:Int):KdOK (x.need k):=by
 unfold Ps.need
 split
 ·exact h.pass
 ·exact h.pass.fail _ _
theorem KdOK.symb {x:Ps} (h:KdOK x) (s:ByteArray):KdOK (x.symb s):=by
 unfold Ps.symb
 split
 ·exact h.pass
 ·exact h.fail _ _
theorem XI {a b:ByteArray}:a.toList=b.toList↔a=b:=by
 rw [Lib.toList_data,Lib.toList_data]
 exact ⟨fun h=>XA h,fun h=>by rw [h]⟩
section
variable (b r:Nat) (x:Ps) (o:Option Addr) (cap:Nat)
theorem Z8 (i e:Int):Enters 111∧Spec prog 111 #[.pointer (some ⟨b,0,none⟩),.int .i64 i,.int .i64 e] [TkS (o,cap) x.tk] [Pt b (psC x o cap r)] (PsP (.tuple #[]) b r (x.fail i e)):=by
 generalize hy:x.fail i e=y
 unfold Ps.fail at hy
 generalize b=bp
 refine ZR [_,_,_] func111 ntmps111 fun G w hp=>?_
 by_cases h:x.e=0
 ·rw [if_pos h] at hy
  subst hy
  repeat' (first|refine ZF ?_|refine ZI ?_|refine ZG ?_|refine ZH ?_|refine ZL ?_|refine ZJ ?_|refine ZN ?_|refine ZK (fun b=>?_)|refine ZM (fun b=>?_)|refine ZC ?_|refine ZA ?_|refine ZO ?_|(refine ZB (fun hc=>?_) (fun hc=>?_)<;>(try simp at hc)<;>(try omega))|(refine ZE (fun hc=>?_) (fun hc=>?_)<;>(try simp at hc)<;>(try omega)))
  refine Zn (F1:=[]) (f:=TkS (none,0) []) (fun hp _=>⟨Nat.le_refl _,.inl rfl⟩) ?_
  exact YR (none,0) rfl trivial
 ·rw [if_neg h] at hy
  subst hy
  repeat' (first|refine ZF ?_|refine ZI ?_|refine ZG ?_|refine ZH ?_|refine ZL ?_|refine ZJ ?_|refine ZN ?_|refine ZK (fun b=>?_)|refine ZM (fun b=>?_)|refine ZC ?_|refine ZA ?_|refine ZO ?_|(refine ZB (fun hc=>?_) (fun hc=>?_)<;>(try simp at hc)<;>(try omega))|(refine ZE (fun hc=>?_) (fun hc=>?_)<;>(try simp at hc)<;>(try omega)))
  exact YR (o,cap) rfl trivial
theorem Xo:Enters 110∧Spec prog 110 #[.pointer (some ⟨b,0,none⟩)] [TkS (o,cap) x.tk] [Pt b (psC x o cap r)] ⟨Unit,fun _=>tkv x.peek,fun _=>True,fun _=>[],fun _=>[Pt b (psC x o cap r)]⟩:=by
 obtain ⟨tk,en,op,pl,e⟩:=x
 generalize b=bp
 refine ZR [_] func110 ntmps110 fun G w hp=>?_
 cases tk with
 | nil=>
  repeat' (first|refine ZF ?_|refine ZI ?_|refine ZG ?_|refine ZH ?_|refine ZL ?_|refine ZJ ?_|refine ZN ?_|refine ZK (fun b=>?_)|refine ZM (fun b=>?_)|refine ZC ?_|refine ZA ?_|refine ZO ?_|(refine ZB (fun hc=>?_) (fun hc=>?_)<;>(try simp at hc)<;>(try omega))|(refine ZE (fun hc=>?_) (fun hc=>?_)<;>(try simp at hc)<;>(try omega)))
  exact ZP () rfl trivial
 | cons t tk=>
  have hx0:(t::tk)[0]? = some t:=rfl
  repeat' (first|refine ZF ?_|refine ZI ?_|refine ZG ?_|refine ZH ?_|refine ZL ?_|refine ZJ ?_|refine ZN ?_|refine ZK (fun b=>?_)|refine ZM (fun b=>?_)|refine ZC ?_|refine ZA ?_|refine ZO ?_|refine ZW (es:=t::tk) (f:=tkf) 0 t hx0 (fun b off=>?_)|refine ZX ?_|(refine ZB (fun hc=>?_) (fun hc=>?_)<;>(try simp at hc)<;>(try omega))|(refine ZE (fun hc=>?_) (fun hc=>?_)<;>(try simp at hc)<;>(try omega)))
  exact ZP () rfl trivial
theorem XG (hk:KdOK x):Enters 141∧Spec prog 141 #[.pointer (some ⟨b,0,none⟩)] [TkS (o,cap) x.tk] [Pt b (psC x o cap r)] (PsP (tkv x.peek) b r x.pass):=by
 have n1:=Xo b r x o cap
 obtain ⟨tk,en,op,pl,e⟩:=x
 generalize b=bp at *
 refine ZR [_] func141 ntmps141 fun G w hp=>?_
 cases tk with
 | nil=>
  repeat' (first|refine ZF ?_|refine ZI ?_|refine ZG ?_|refine ZH ?_|refine ZL ?_|refine ZJ ?_|refine ZN ?_|refine ZK (fun b=>?_)|refine ZM (fun b=>?_)|refine ZC ?_|refine ZA ?_|refine ZO ?_|refine ZD (n1) (fun _ _=>?_)|refine l_call0 (n1) (fun _ _=>?_)|(refine ZB (fun hc=>?_) (fun hc=>?_)<;>(try simp at hc)<;>(try omega))|(refine ZE (fun hc=>?_) (fun hc=>?_)<;>(try simp at hc)<;>(try omega)))
  exact ZP (o,cap) rfl trivial
 | cons t tk=>
  have h0:=(hk t (.head _)).1
  have n1':Enters 110∧Spec prog 110 #[.pointer (some ⟨bp,0,none⟩)] [TkS (o,cap) (t::tk)] [Pt bp (psC ⟨t::tk,en,op,pl,e⟩ o cap r)] ⟨Unit,fun _=>tkv t,fun _=>True,fun _=>[],fun _=>[Pt bp (psC ⟨t::tk,en,op,pl,e⟩ o cap r)]⟩:=n1
  repeat' (first|refine ZF ?_|refine ZI ?_|refine ZG ?_|refine ZH ?_|refine ZL ?_|refine ZJ ?_|refine ZN ?_|refine ZK (fun b=>?_)|refine ZM (fun b=>?_)|refine ZC ?_|refine ZA ?_|refine ZO ?_|refine ZD (n1') (fun _ _=>?_)|refine l_call0 (n1') (fun _ _=>?_)|refine l_slL (es:=t::tk) (f:=tkf) 1 (by simp) (fun o'=>?_)|(refine ZB (fun hc=>?_) (fun hc=>?_)<;>(try simp at hc)<;>(try omega))|(refine ZE (fun hc=>?_) (fun hc=>?_)<;>(try simp at hc)<;>(try omega)))
  exact ZP (o',cap - 1) rfl trivial
theorem Xe (hk:KdOK x) (k:Int) (s:ByteArray):Enters 106∧Spec prog 106 #[.pointer (some ⟨b,0,none⟩),.int .i64 k,.string s] [TkS (o,cap) x.tk] [Pt b (psC x o cap r)] (PsP (.bool (x.is k s)) b r (if x.is k s then x.pass else x)):=by
 have n1:=Xo b r x o cap
 have n2:=XG b r x o cap hk
 generalize hy:(if x.is k s then x.pass else x)=y
 generalize hz:x.is k s=z at *
 unfold Ps.is at hz
 generalize hp:x.peek=t at *
 obtain ⟨kd,tx,pl⟩:=t
 generalize b=bp at *
 by_cases h1:kd=k
 ·by_cases h2:tx=s
  ·have:z=true:=by rw [←hz];simp [h1,h2]
   subst this
   subst h1;subst h2
   subst hy
   refine ZR [_,_,_] func106 ntmps106 fun G w hp=>?_
   repeat' (first|refine ZF ?_|refine ZI ?_|refine ZG ?_|refine ZH ?_|refine ZL ?_|refine ZJ ?_|refine ZN ?_|refine ZK (fun b=>?_)|refine ZM (fun b=>?_)|refine ZC ?_|refine ZA ?_|refine ZO ?_|refine ZD (n1) (fun _ _=>?_)|refine l_call0 (n1) (fun _ _=>?_)|refine ZD (n2) (fun _ _=>?_)|refine l_call0 (n2) (fun _ _=>?_)|(refine ZB (fun hc=>?_) (fun hc=>?_)<;>(try simp at hc)<;>(try omega))|(refine ZE (fun hc=>?_) (fun hc=>?_)<;>(try simp at hc)<;>(try omega)))
   rename_i q _
   exact ZP q rfl trivial
  ·have:z=false:=by rw [←hz];simp [h2]
   subst this
   subst hy
   have h2':¬tx.toList=s.toList:=fun h=>h2 (XI.1 h)
   refine ZR [_,_,_] func106 ntmps106 fun G w hp=>?_
   repeat' (first|refine ZF ?_|refine ZI ?_|refine ZG ?_|refine ZH ?_|refine ZL ?_|refine ZJ ?_|refine ZN ?_|refine ZK (fun b=>?_)|refine ZM (fun b=>?_)|refine ZC ?_|refine ZA ?_|refine ZO ?_|refine ZD (n1) (fun _ _=>?_)|refine l_call0 (n1) (fun _ _=>?_)|refine ZD (n2) (fun _ _=>?_)|refine l_call0 (n2) (fun _ _=>?_)|(refine ZB (fun hc=>?_) (fun hc=>?_)<;>(try simp at hc)<;>(try omega))|(refine ZE (fun hc=>?_) (fun hc=>?_)<;>(try simp at hc)<;>(try omega)))
   all_goals first|exact absurd ‹_› h2'|exact ZP (o,cap) rfl trivial
 ·have:z=false:=by rw [←hz];simp [h1]
  subst this
  subst hy
  refine ZR [_,_,_] func106 ntmps106 fun G w hp=>?_
  repeat' (first|refine ZF ?_|refine ZI ?_|refine ZG ?_|refine ZH ?_|refine ZL ?_|refine ZJ ?_|refine ZN ?_|refine ZK (fun b=>?_)|refine ZM (fun b=>?_)|refine ZC ?_|refine ZA ?_|refine ZO ?_|refine ZD (n1) (fun _ _=>?_)|refine l_call0 (n1) (fun _ _=>?_)|refine ZD (n2) (fun _ _=>?_)|refine l_call0 (n2) (fun _ _=>?_)|(refine ZB (fun hc=>?_) (fun hc=>?_)<;>(try simp at hc)<;>(try omega))|(refine ZE (fun hc=>?_) (fun hc=>?_)<;>(try simp at hc)<;>(try omega)))
  exact ZP (o,cap) rfl trivial
theorem Yg (hk:KdOK x) (k:Int):Enters 124∧Spec prog 124 #[.pointer (some ⟨b,0,none⟩),.int .i64 k] [TkS (o,cap) x.tk] [Pt b (psC x o cap r)] (PsP (tkv x.peek) b r (x.need k)):=by
 have n1:=XG b r x o cap hk
 have n2:=fun (q:Option Addr×Nat)=>Z8 b r x.pass q.1 q.2 x.peek.pl 30
 generalize hy:x.need k=y
 unfold Ps.need at hy
 generalize hp:x.peek=t at *
 obtain ⟨kd,tx,pl⟩:=t
 generalize b=bp at *
 by_cases h1:kd=k
 ·rw [if_pos h1] at hy
  subst hy
  refine ZR [_,_] func124 ntmps124 fun G w hp=>?_
  repeat' (first|refine ZF ?_|refine ZI ?_|refine ZG ?_|refine ZH ?_|refine ZL ?_|refine ZJ ?_|refine ZN ?_|refine ZK (fun b=>?_)|refine ZM (fun b=>?_)|refine ZC ?_|refine ZA ?_|refine ZO ?_|refine ZD (n1) (fun _ _=>?_)|refine l_call0 (n1) (fun _ _=>?_)|(refine ZB (fun hc=>?_) (fun hc=>?_)<;>(try simp at hc)<;>(try omega))|(refine ZE (fun hc=>?_) (fun hc=>?_)<;>(try simp at hc)<;>(try omega)))
  rename_i q _
  exact ZP q rfl trivial
 ·rw [if_neg h1] at hy
  subst hy
  refine ZR [_,_] func124 ntmps124 fun G w hp=>?_
  repeat' (first|refine ZF ?_|refine ZI ?_|refine ZG ?_|refine ZH ?_|refine ZL ?_|refine ZJ ?_|refine ZN ?_|refine ZK (fun b=>?_)|refine ZM (fun b=>?_)|refine ZC ?_|refine ZA ?_|refine ZO ?_|refine ZD (n1) (fun _ _=>?_)|refine l_call0 (n1) (fun _ _=>?_)|refine ZD (n2 _) (fun _ _=>?_)|refine l_call0 (n2 _) (fun _ _=>?_)|(refine ZB (fun hc=>?_) (fun hc=>?_)<;>(try simp at hc)<;>(try omega))|(refine ZE (fun hc=>?_) (fun hc=>?_)<;>(try simp at hc)<;>(try omega)))
  rename_i q _
  exact ZP q rfl trivial
theorem WZ (hk:KdOK x) (s:ByteArray):Enters 108∧Spec prog 108 #[.pointer (some ⟨b,0,none⟩),.string s] [TkS (o,cap) x.tk] [Pt b (psC x o cap r)] (PsP (.tuple #[]) b r (x.symb s)):=by
 have n1:=Xe b r x o cap hk 4 s
 have n2:=fun (q:Option Addr×Nat)=>Xo b r x q.1 q.2
 have n3:=fun (q:Option Addr×Nat)=>Z8 b r x q.1 q.2 x.peek.pl 30
 generalize hy:x.symb s=y
 unfold Ps.symb at hy
 cases hi:x.is 4 s with
 | true=>
  rw [hi] at n1 hy
  rw [if_pos rfl] at n1 hy
  subst hy
  refine ZR [_,_] func108 ntmps108 fun G w hp=>?_
  repeat' (first|refine ZF ?_|refine ZI ?_|refine ZG ?_|refine ZH ?_|refine ZL ?_|refine ZJ ?_|refine ZN ?_|refine ZK (fun b=>?_)|refine ZM (fun b=>?_)|refine ZC ?_|refine ZA ?_|refine ZO ?_|refine ZD (n1) (fun _ _=>?_)|refine l_call0 (n1) (fun _ _=>?_)|(refine ZB (fun hc=>?_) (fun hc=>?_)<;>(try simp at hc)<;>(try omega))|(refine ZE (fun hc=>?_) (fun hc=>?_)<;>(try simp at hc)<;>(try omega)))
  rename_i q _
  exact YR q rfl trivial
 | false=>
  rw [hi] at n1 hy
  rw [if_neg (by decide)] at n1 hy
  subst hy
  refine ZR [_,_] func108 ntmps108 fun G w hp=>?_
  repeat' (first|refine ZF ?_|refine ZI ?_|refine ZG ?_|refine ZH ?_|refine ZL ?_|refine ZJ ?_|refine ZN ?_|refine ZK (fun b=>?_)|refine ZM (fun b=>?_)|refine ZC ?_|refine ZA ?_|refine ZO ?_|refine ZD (n1) (fun _ _=>?_)|refine l_call0 (n1) (fun _ _=>?_)|refine ZD (n2 _) (fun _ _=>?_)|refine l_call0 (n2 _) (fun _ _=>?_)|refine ZD (n3 _) (fun _ _=>?_)|refine l_call0 (n3 _) (fun _ _=>?_)|(refine ZB (fun hc=>?_) (fun hc=>?_)<;>(try simp at hc)<;>(try omega))|(refine ZE (fun hc=>?_) (fun hc=>?_)<;>(try simp at hc)<;>(try omega)))
  rename_i q _
  exact YR q rfl trivial
end
section
inductive Tr5
 | mk (op:ByteArray) (args:List Tr5) (rel text:ByteArray) (n:Int)
def eB:ByteArray:=ofL []
def wByL:List ByteArray:=[wBy]
def t0:Tr5:=.mk eB [] eB eB 0
structure Mq where
 tk:List Tk
 en:Int
 op:Int
 e:Int
 cl:Int
namespace Mq
def col (m:Mq):Int:=match m.tk with
 | []=>m.en
 | t::_=>t.pl+1
def fail (m:Mq) (e:Int):Mq:=if m.e=0 then {m with e:=e,cl:=m.col} else m
def pass (m:Mq):Mq:={m with tk:=m.tk.tail}
def has (m:Mq) (q:Tk→Bool):Bool:=match m.tk with
 | []=>false
 | t::_=>q t
def isW (w:ByteArray) (t:Tk):Bool:=decide (t.kd=1) && decide (t.tx=w)
def isS (s:ByteArray) (t:Tk):Bool:=decide (t.kd=4) && decide (t.tx=s)
def word (m:Mq) (w:ByteArray):Bool:=decide (m.e=0) && m.has (isW w)
def hd (m:Mq):ByteArray:=match m.tk with
 | []=>eB
 | t::_=>t.tx
def take (m:Mq) (q:Tk→Bool):ByteArray×Mq:=if m.e≠0∨m.has q=false then (eB,m.fail 30) else (m.hd,m.pass)
end Mq
def numL:List UInt8→Int→Int
 | [],n=>n
 | c::l,n=>if n≤1073741824 then numL l (10 * n+c.toNat - 48) else n
def numM (m:Mq):Int×Mq:=
 if m.e≠0∨m.has (fun t=>decide (t.kd=2))=false then (0,m.fail 30)
 else if badN m.hd then (0,m.fail 3)
 else if 1073741824<numL m.hd.data.toList 0 then (0,m.fail 2)
 else (numL m.hd.data.toList 0,m.pass)
def tstM (w:ByteArray) (m:Mq):Tr5×Mq:=
 if idx w wKinds<3 then (.mk w [] eB eB 0,m)
 else if w=wChan then
  if m.has (fun t=>decide (t.kd=1) && decide (idx t.tx wChs<4)) then (.mk w [] m.hd eB ((idx m.hd wChs:Nat)+1),m.pass) else (.mk w [] eB eB 0,m.fail 30)
 else if idx w wTxs<3 then
  if m.has (fun t=>decide (t.kd=1) && decide (idx t.tx wCts<3)) then let r:=m.pass.take (fun t=>decide (t.kd=3));(.mk w [] m.hd r.1 0,r.2) else (.mk w [] eB eB 0,m.fail 30)
 else if idx w wNms<4 then
  if m.has (fun t=>decide (t.kd=4) && decide (idx t.tx yCns<3)) then let r:=numM m.pass;(.mk w [] m.hd eB r.1,r.2) else (.mk w [] eB eB 0,m.fail 30)
 else
  let m1:=if m.has (fun t=>decide (t.kd=2) && !lvalid t.tx.data.toList) then m.fail 12 else m
  let r:=m1.take (fun t=>decide (t.kd=2))
  (.mk w [] eB r.1 0,r.2)
mutual
def factorM:Nat→Mq→Tr5×Mq
 | 0,m=>(t0,m.fail 99)
 | n+1,m=>
  if m.word wNot then let r:=factorM n m.pass;(.mk wNot [r.1] eB eB 0,r.2)
  else if m.e=0∧m.has (Mq.isS yOpn)=true then
   if m.op=32 then (t0,m.fail 9)
   else
    let r:=condM n {m.pass with op:=m.op+1}
    let m3:=(r.2.take (Mq.isS yCls)).2
    (r.1,{m3 with op:=m3.op - 1})
  else if m.e=0∧m.has (fun t=>decide (t.kd=1) && isTst t.tx)=true then tstM m.hd m.pass
  else (t0,m.fail 30)
def termM:Nat→Mq→Tr5×Mq
 | 0,m=>(t0,m.fail 99)
 | n+1,m=>let r:=factorM n m;let q:=termN n [r.1] r.2;(.mk wAnd q.1 eB eB 0,q.2)
def termN:Nat→List Tr5→Mq→List Tr5×Mq
 | 0,l,m=>(l,m.fail 99)
 | n+1,l,m=>if m.word wAnd then let r:=factorM n m.pass;termN n (l++[r.1]) r.2 else (l,m)
def condM:Nat→Mq→Tr5×Mq
 | 0,m=>(t0,m.fail 99)
 | n+1,m=>let r:=termM n m;let q:=condN n [r.1] r.2;(.mk wOr q.1 eB eB 0,q.2)
def condN:Nat→List Tr5→Mq→List Tr5×Mq
 | 0,l,m=>(l,m.fail 99)
 | n+1,l,m=>if m.word wOr then let r:=termM n m.pass;condN n (l++[r.1]) r.2 else (l,m)
end
def fuM (m:Mq):Nat:=4 * m.tk.length+8
structure RuM where
 c:Option Tr5
 a:Ac
def ruleM (m:Mq):RuM×Mq:=
 let x:Option Tr5×Mq:=if m.word wIf then let r:=condM (fuM m.pass) m.pass;(some r.1,(r.2.take (Mq.isS yCol)).2) else (none,m)
 let m1:=x.2
 if m1.e=0∧m1.has (fun t=>decide (t.kd=1) && decide (idx t.tx wActs<5))=true then
  let k:=idx m1.hd wActs
  let m2:=m1.pass
  let y:ByteArray×Mq:=if k=1 then (let m3:=if m2.has (fun t=>decide (t.kd=3) && (tplF t.tx).2.isSome) then m2.fail 3 else m2;m3.take (fun t=>decide (t.kd=3))) else (eB,m2)
  (⟨x.1,⟨(k:Int)+1,y.1⟩⟩,if y.2.tk≠[] then y.2.fail 30 else y.2)
 else (⟨x.1,⟨0,eB⟩⟩,m1.fail 30)
def lineM (s:List UInt8) (n:Nat):Option RuM×Int×Int:=
 let r:=scanF (s.length+1) s 0 []
 if r.2.2=false then (none,(r.2.1:Int)+1,6) else
 match r.1 with
 | []=>(none,0,0)
 | t::_=>if n=256 then (none,t.pl+1,9) else
  let q:=ruleM ⟨r.1,(r.2.1:Int)+1,0,0,0⟩
  if q.2.e≠0 then (none,q.2.cl,q.2.e) else (some q.1,0,0)
def rowsM:List (List UInt8)→Nat→List RuM→Except (Int×Int×Int) (List RuM)
 | [],_,acc=>.ok acc
 | s::l,i,acc=>match lineM s acc.length with
  | (some x,_,_)=>rowsM l (i+1) (acc++[x])
  | (none,a,e)=>if e=0 then rowsM l (i+1) acc else .error ((i:Int)+1,a,e)
def parM (s:ByteArray):Except (Int×Int×Int) (List RuM):=if 65536<s.size then .error (0,0,5) else rowsM (linesF s.data.toList) 0 []
mutual
def toC:Tr5→Cnd
 | .mk op args rel tx n=>
  if op=wOr then eitherF (toCs args) else if op=wAnd then bothF (toCs args) else if op=wNot then .nt (match toCs args with | [c]=>c|_=>.nul)
  else if idx op wKinds<3 then .kd op ((idx op wKinds:Nat)+2)
  else if op=wChan then .ch (op++wSp++rel) n
  else if idx op wTxs<3 then .tx (op++wSp++rel++wSp++quoF tx) (idx op wTxs) (idx rel wCts) tx
  else if idx op wNms<4 then .nm (op++wSp++rel++wSp++ofL (Lib.itoa n)) (idx op wNms) (idx rel yCns) n
  else .by_ (op++wSp++tx) tx
def toCs:List Tr5→List Cnd
 | []=>[]
 | t::l=>toC t::toCs l
end
theorem toCs_app:∀l m:List Tr5,toCs (l++m)=toCs l++toCs m
 | [],_=>rfl
 | t::l,m=>by simp [toCs,toCs_app l m]
mutual
def WfT:Tr5→Prop
 | .mk op args rel _ _=>
  if op=wOr∨op=wAnd then args≠[]∧WfTs args else if op=wNot then (∃t,args=[t])∧WfTs args
  else args=[]∧isTst op=true∧(idx op wTxs<3→idx rel wCts<3)∧(idx op wNms<4→idx rel yCns<3)
def WfTs:List Tr5→Prop
 | []=>True
 | t::l=>WfT t∧WfTs l
end
theorem WfTs_app:∀l m:List Tr5,WfTs (l++m)↔WfTs l∧WfTs m
 | [],m=>by simp [WfTs]
 | t::l,m=>by simp [WfTs,WfTs_app l m,and_assoc]
def TkOK (t:Tk):Prop:=(t.kd=1∨t.kd=2∨t.kd=3∨t.kd=4)∧(t.kd=2→t.tx.data.toList≠[]∧∀x ∈ t.tx.data.toList,inNum x=true)
def Sim (p:Ps) (m:Mq):Prop:=(∀t ∈ p.tk,TkOK t)∧p.en+1=m.en∧((p.e=0∧m.e=0∧p.tk=m.tk∧p.op=m.op)∨(p.e≠0∧p.e=m.e∧p.pl+1=m.cl∧p.tk=[]))
namespace Sim
variable {p:Ps} {m:Mq}
theorem err (h:Sim p m) (he:p.e≠0):p.e=m.e∧p.pl+1=m.cl∧p.tk=[]:=by
 rcases h.2.2 with h1|h1
 ·exact absurd h1.1 he
 ·exact h1.2
theorem ok (h:Sim p m) (he:p.e=0):m.e=0∧p.tk=m.tk∧p.op=m.op:=by
 rcases h.2.2 with h1|h1
 ·exact h1.2
 ·exact absurd he h1.1
theorem e0 (h:Sim p m):p.e=m.e:=by
 by_cases he:p.e=0
 ·rw [he,(h.ok he).1]
 ·exact (h.err he).1
theorem pl (h:Sim p m) (he:p.e=0):p.peek.pl+1=m.col:=by
 have h1:=(h.ok he).2.1
 unfold Ps.peek Mq.col
 rw [←h1]
 cases p.tk with
 | nil=>exact h.2.1
 | cons t l=>rfl
end Sim
end
section err
variable {p:Ps} (he:p.e≠0) (ht:p.tk=[])
include he in
theorem Zx (i e:Int):p.fail i e=p:=by simp [Ps.fail,he]
include ht in
theorem Yh:p.peek=⟨0,ofL [],p.en⟩:=by simp [Ps.peek,ht]
include ht in
theorem Vt:p.pass=p:=by cases p;simp only [Ps.pass] at *;subst ht;rfl
include he ht in
theorem Y3 (k:Int):p.need k=p:=by
 unfold Ps.need
 split
 ·exact Vt ht
 ·rw [Vt ht,Zx he]
include ht in
theorem pis_err {k:Int} (hk:k≠0) (s:ByteArray):p.is k s=false:=by
 simp [Ps.is,Yh ht,Ne.symm hk]
include he ht in
theorem We (s:ByteArray):p.symb s=p:=by
 unfold Ps.symb
 rw [pis_err ht (by decide),if_neg (by decide),Zx he]
include he ht in
theorem WX:∀n,(factorF n p).2=p
 | 0=>Zx he _ _
 | n+1=>by
  unfold factorF
  simp only [Yh ht]
  rw [if_neg (by decide),if_neg (by decide),if_neg (by decide)]
  simp only [Vt ht,Zx he]
include he ht in
theorem termL_err (n:Nat) (l:List Cnd):termL n l p=(l,p):=by
 cases n with
 | zero=>unfold termL;rw [Zx he]
 | succ n=>unfold termL;rw [pis_err ht (by decide)];rfl
include he ht in
theorem termF_err (n:Nat):(termF n p).2=p:=by
 cases n with
 | zero=>exact Zx he _ _
 | succ n=>
  unfold termF
  have h1:=WX he ht n
  generalize factorF n p=r at *
  obtain ⟨c,q⟩:=r
  subst h1
  simp only [termL_err he ht]
include he ht in
theorem condL_err (n:Nat) (l:List Cnd):condL n l p=(l,p):=by
 cases n with
 | zero=>unfold condL;rw [Zx he]
 | succ n=>unfold condL;rw [pis_err ht (by decide)];rfl
include he ht in
theorem condF_err (n:Nat):(condF n p).2=p:=by
 cases n with
 | zero=>exact Zx he _ _
 | succ n=>
  unfold condF
  have h1:=termF_err he ht n
  generalize termF n p=r at *
  obtain ⟨c,q⟩:=r
  subst h1
  simp only [condL_err he ht]
end err
section errM
variable {m:Mq} (he:m.e≠0)
include he
theorem Yk (e:Int):m.fail e=m:=by simp [Mq.fail,he]
theorem XF (w:ByteArray):m.word w=false:=by simp [Mq.word,he]
theorem Wp (q:Tk→Bool):m.take q=(eB,m):=by simp [Mq.take,he,Yk he]
theorem V6:∀n,(factorM n m).2=m
 | 0=>Yk he _
 | n+1=>by
  unfold factorM
  rw [XF he,if_neg (by decide),if_neg (fun h=>he h.1),if_neg (fun h=>he h.1),Yk he]
theorem Vx (n:Nat) (l:List Tr5):termN n l m=(l,m):=by
 cases n with
 | zero=>unfold termN;rw [Yk he]
 | succ n=>unfold termN;rw [XF he];rfl
theorem Vz (n:Nat) (l:List Tr5):condN n l m=(l,m):=by
 cases n with
 | zero=>unfold condN;rw [Yk he]
 | succ n=>unfold condN;rw [XF he];rfl
end errM
theorem Zk {p:Ps} {m:Mq} {i e:Int} (he:p.e=0) (hm:m.e=0) (hn:p.en+1=m.en) (hi:i+1=m.col) (h0:e≠0):Sim (p.fail i e) (m.fail e):=by
 unfold Ps.fail Mq.fail
 rw [if_pos he,if_pos hm]
 exact ⟨fun t ht=>(by cases ht),hn,.inr ⟨h0,rfl,hi,rfl⟩⟩
theorem Xy {ts:List Tk} {en op pl cl:Int} (h:∀t ∈ ts,TkOK t):Sim ⟨ts,en,op,pl,0⟩ ⟨ts,en+1,op,0,cl⟩:=⟨h,rfl,.inl ⟨rfl,rfl,rfl,rfl⟩⟩
theorem Zg {s:ByteArray}:∀{l:List ByteArray},idx s l<l.length↔s ∈ l
 | []=>by simp [idx]
 | x::l=>by
  unfold idx
  by_cases h:x=s
  ·simp [h]
  ·rw [if_neg h]
   have:=Zg (s:=s) (l:=l)
   simp only [List.length_cons,List.mem_cons]
   constructor
   ·intro h1;exact .inr (this.1 (by omega))
   ·rintro (h1|h1)
    ·exact absurd h1.symm h
    ·have:=this.2 h1;omega
theorem numL_big:∀(l:List UInt8) (n:Int),1073741824<n→numL l n=n
 | [],_,_=>rfl
 | c::l,n,h=>by rw [numL,if_neg (by omega)]
theorem par_ge:∀(l:List UInt8) (a:Nat),(∀x ∈ l,isDgt x=true)→Lib.parseUint10 a l = .range∨∃u,a≤u∧Lib.parseUint10 a l = .ok u
 | [],a,_=>.inr ⟨a,Nat.le_refl _,rfl⟩
 | c::l,a,h=>by
  have hc:48≤c.toNat∧c.toNat≤57:=by simpa [isDgt] using h c (.head _)
  rw [Lib.parseUint10,if_pos hc]
  split
  ·exact .inl rfl
  ·split
   ·exact .inl rfl
   ·rcases par_ge l (a * 10+(c.toNat - 48)) (fun x hx=>h x (.tail _ hx)) with h1|⟨u,h1,h2⟩
    ·exact .inl h1
    ·exact .inr ⟨u,by omega,h2⟩
theorem num_par:∀(l:List UInt8) (a:Nat),(∀x ∈ l,isDgt x=true)→(a:Int)≤1073741824→
  (numL l a≤1073741824∧0≤numL l a∧Lib.parseUint10 a l = .ok (numL l a).toNat)∨(1073741824<numL l a∧(Lib.parseUint10 a l = .range∨∃u,1073741824<u∧Lib.parseUint10 a l = .ok u))
 | [],a,_,ha=>.inl ⟨ha,by simp [numL],by simp [numL,Lib.parseUint10]⟩
 | c::l,a,h,ha=>by
  have hc:48≤c.toNat∧c.toNat≤57:=by simpa [isDgt] using h c (.head _)
  have hl:∀x ∈ l,isDgt x=true:=fun x hx=>h x (.tail _ hx)
  rw [Lib.parseUint10,if_pos hc,if_neg (by omega),if_neg (by omega),numL,if_pos ha]
  have e:(10 * (a:Int)+c.toNat - 48)=((a * 10+(c.toNat - 48):Nat):Int):=by omega
  rw [e]
  by_cases h2:a * 10+(c.toNat - 48)≤1073741824
  ·exact num_par l _ hl (by omega)
  ·have hb:=numL_big l ((a * 10+(c.toNat - 48):Nat):Int) (by omega)
   refine Or.inr (And.intro (by omega) ?_)
   rcases par_ge l (a * 10+(c.toNat - 48)) hl with h1|⟨u,h1,h3⟩
   ·exact .inl h1
   ·exact .inr ⟨u,by omega,h3⟩
theorem ato_num {s:ByteArray} (h0:s.data.toList≠[]) (h:∀x ∈ s.data.toList,isDgt x=true) :
  ((atoF s).2=false∨1073741824<(atoF s).1)↔1073741824<numL s.data.toList 0:=by
 have:=num_par s.data.toList 0 h (by decide)
 unfold atoF Lib.atoiAll
 generalize s.data.toList=l at *
 cases l with
 | nil=>exact absurd rfl h0
 | cons c r=>
  have hc:48≤c.toNat∧c.toNat≤57:=by simpa [isDgt] using h c (.head _)
  have e1:¬(c.toNat=43):=by omega
  have e2:¬(c.toNat=45):=by omega
  simp only [e1,e2,or_self,if_false,Lib.parseMag,List.cons_ne_nil,not_false_eq_true,true_and,false_and]
  rcases this with ⟨h1,h2,h3⟩|⟨h1,h3|⟨u,h2,h3⟩⟩
  ·have h3':Lib.parseUint10 0 (c::r) = .ok (numL (c::r) 0).toNat:=h3
   have h1':numL (c::r) 0≤1073741824:=h1
   have h2':0≤numL (c::r) 0:=h2
   rw [h3']
   dsimp only
   rw [if_neg (by omega)]
   dsimp only
   constructor
   ·rintro (h|h)
    ·cases h
    ·omega
   ·intro h;omega
  ·have h3':Lib.parseUint10 0 (c::r) = .range:=h3
   have h1':1073741824<numL (c::r) 0:=h1
   rw [h3']
   simp [h1']
  ·have h3':Lib.parseUint10 0 (c::r) = .ok u:=h3
   have h1':1073741824<numL (c::r) 0:=h1
   rw [h3']
   dsimp only
   by_cases h5:9223372036854775808≤u
   ·rw [if_pos h5];simp [h1']
   ·rw [if_neg h5]
    dsimp only
    constructor
    ·intro _;exact h1'
    ·intro _;right;omega
theorem ato_val {s:ByteArray} (h0:s.data.toList≠[]) (h:∀x ∈ s.data.toList,isDgt x=true) (hn:¬1073741824<numL s.data.toList 0):(atoF s).1=numL s.data.toList 0:=by
 have:=num_par s.data.toList 0 h (by decide)
 unfold atoF Lib.atoiAll
 generalize s.data.toList=l at *
 cases l with
 | nil=>exact absurd rfl h0
 | cons c r=>
  have hc:48≤c.toNat∧c.toNat≤57:=by simpa [isDgt] using h c (.head _)
  have e1:¬(c.toNat=43):=by omega
  have e2:¬(c.toNat=45):=by omega
  simp only [e1,e2,or_self,if_false,Lib.parseMag,List.cons_ne_nil,not_false_eq_true,true_and,false_and]
  rcases this with ⟨h1,h2,h3⟩|⟨h1,_⟩
  ·have h3':Lib.parseUint10 0 (c::r) = .ok (numL (c::r) 0).toNat:=h3
   have h1':numL (c::r) 0≤1073741824:=h1
   have h2':0≤numL (c::r) 0:=h2
   rw [h3']
   dsimp only
   rw [if_neg (by omega)]
   dsimp only
   omega
  ·exact absurd h1 hn
theorem sim_num {ts:List Tk} {en op pl cl:Int} (h:∀t ∈ ts,TkOK t) :
  Sim (numF ⟨ts,en,op,pl,0⟩).2 (numM ⟨ts,en+1,op,0,cl⟩).2∧((numF ⟨ts,en,op,pl,0⟩).2.e=0→(numF ⟨ts,en,op,pl,0⟩).1=(numM ⟨ts,en+1,op,0,cl⟩).1):=by
 cases ts with
 | nil=>
  have e1:numF ⟨[],en,op,pl,0⟩=((atoF (ofL [])).1,(⟨[],en,op,pl,0⟩:Ps).fail en 30):=by
   unfold numF
   have hp:(⟨[],en,op,pl,0⟩:Ps).need 2=(⟨[],en,op,pl,0⟩:Ps).fail en 30:=by simp [Ps.need,Ps.peek,Ps.pass]
   simp only [hp]
   have h0:(Ps.fail ⟨[],en,op,pl,0⟩ en 30).e≠0:=by simp [Ps.fail]
   simp only [Zx h0,ite_self]
   rfl
  have e2:numM ⟨[],en+1,op,0,cl⟩=(0,(⟨[],en+1,op,0,cl⟩:Mq).fail 30):=by
   unfold numM
   rw [if_pos (.inr rfl)]
  rw [e1,e2]
  exact ⟨Zk rfl rfl rfl rfl (by decide),fun h=>by simp [Ps.fail] at h⟩
 | cons t ts=>
  by_cases hk:t.kd=2
  ·have hok:=(h t (.head _)).2 hk
   have hp:(⟨t::ts,en,op,pl,0⟩:Ps).need 2=⟨ts,en,op,pl,0⟩:=by
    simp [Ps.need,Ps.peek,hk,Ps.pass]
   have hm:(⟨t::ts,en+1,op,0,cl⟩:Mq).has (fun t=>decide (t.kd=2))=true:=by simp [Mq.has,hk]
   unfold numF numM
   simp only [hp,hm]
   simp only [Ps.peek,Mq.hd,ne_eq,not_true_eq_false,false_or,Bool.true_eq_false,if_false]
   by_cases hb:badN t.tx=true
   ·simp only [hb,if_true]
    have h0:(Ps.fail ⟨ts,en,op,pl,0⟩ t.pl 3).e≠0:=by simp [Ps.fail]
    simp only [Zx h0,ite_self]
    exact ⟨Zk rfl rfl rfl rfl (by decide),fun h=>absurd h h0⟩
   ·have hb':badN t.tx=false:=by simpa using hb
    simp only [hb',Bool.false_eq_true,if_false]
    have hd:∀x ∈ t.tx.data.toList,isDgt x=true:=by
     intro x hx
     have h1:=hok.2 x hx
     simp only [inNum,Bool.or_eq_true,beq_iff_eq] at h1
     rcases h1 with h1|h1
     ·exact h1
     ·exfalso;apply hb
      unfold badN
      rw [Bool.or_eq_true];left
      rw [List.contains_iff_mem]
      rw [←h1];exact hx
    have ha:=ato_num hok.1 hd
    by_cases hr:1073741824<numL t.tx.data.toList 0
    ·have hq:=ha.2 hr
     simp only [hq,hr,if_true]
     exact ⟨Zk rfl rfl rfl rfl (by decide),fun h=>by simp [Ps.fail] at h⟩
    ·have hn:¬((atoF t.tx).2=false∨1073741824<(atoF t.tx).1):=fun h=>hr (ha.1 h)
     simp only [hn,hr,if_false]
     exact ⟨Xy fun t ht=>h t (.tail _ ht),fun _=>ato_val hok.1 hd hr⟩
  ·have e2:numM ⟨t::ts,en+1,op,0,cl⟩=(0,(⟨t::ts,en+1,op,0,cl⟩:Mq).fail 30):=by
    unfold numM
    rw [if_pos (.inr (by simp [Mq.has,hk]))]
   have e1:numF ⟨t::ts,en,op,pl,0⟩=((atoF t.tx).1,(⟨ts,en,op,pl,0⟩:Ps).fail t.pl 30):=by
    unfold numF
    have hp:(⟨t::ts,en,op,pl,0⟩:Ps).need 2=(⟨ts,en,op,pl,0⟩:Ps).fail t.pl 30:=by simp [Ps.need,Ps.peek,hk,Ps.pass]
    simp only [hp]
    have h0:(Ps.fail ⟨ts,en,op,pl,0⟩ t.pl 30).e≠0:=by simp [Ps.fail]
    simp only [Zx h0,ite_self]
    rfl
   rw [e1,e2]
   exact ⟨Zk rfl rfl rfl rfl (by decide),fun h=>by simp [Ps.fail] at h⟩
theorem tst_ne {w:ByteArray} (h:isTst w=true):w≠wOr∧w≠wAnd∧w≠wNot:=by
 refine ⟨?_,?_,?_⟩<;>(rintro rfl;exact absurd h (by decide))
theorem VV:∀w ∈ wKinds,w≠wChan∧¬idx w wTxs<3∧¬idx w wNms<4:=by decide
theorem txs_x:∀w ∈ wTxs,¬idx w wNms<4:=by decide
theorem chan_x:¬idx wChan wTxs<3∧¬idx wChan wNms<4:=by decide
theorem YF {w:ByteArray} (h:isTst w=true) (l:List Tr5) (rel tx:ByteArray) (n:Int):toC (.mk w l rel tx n) =
  if idx w wKinds<3 then .kd w ((idx w wKinds:Nat)+2)
  else if w=wChan then .ch (w++wSp++rel) n
  else if idx w wTxs<3 then .tx (w++wSp++rel++wSp++quoF tx) (idx w wTxs) (idx rel wCts) tx
  else if idx w wNms<4 then .nm (w++wSp++rel++wSp++ofL (Lib.itoa n)) (idx w wNms) (idx rel yCns) n
  else .by_ (w++wSp++tx) tx:=by
 obtain ⟨h1,h2,h3⟩:=tst_ne h
 rw [toC,if_neg h1,if_neg h2,if_neg h3]
theorem wf_tst {w:ByteArray} (h:isTst w=true) {rel tx:ByteArray} {n:Int} (h1:idx w wTxs<3→idx rel wCts<3) (h2:idx w wNms<4→idx rel yCns<3):WfT (.mk w [] rel tx n):=by
 obtain ⟨a,b,c⟩:=tst_ne h
 rw [WfT,if_neg (by rintro (h|h);exact a h;exact b h),if_neg c]
 exact ⟨rfl,h,h1,h2⟩
section
variable {ts:List Tk} {t:Tk} {en op pl cl:Int}
theorem XO {k:Int} (hk:k≠0):(⟨[],en,op,pl,0⟩:Ps).need k=(⟨[],en,op,pl,0⟩:Ps).fail en 30:=by simp [Ps.need,Ps.peek,Ps.pass,Ne.symm hk]
theorem Xd {k:Int} (hk:t.kd=k):(⟨t::ts,en,op,pl,0⟩:Ps).need k=⟨ts,en,op,pl,0⟩:=by simp [Ps.need,Ps.peek,hk,Ps.pass]
theorem X5 {k:Int} (hk:t.kd≠k):(⟨t::ts,en,op,pl,0⟩:Ps).need k=(⟨ts,en,op,pl,0⟩:Ps).fail t.pl 30:=by simp [Ps.need,Ps.peek,hk,Ps.pass]
theorem Z3 {p:Ps} {i e:Int} (h0:e≠0):(p.fail i e).e≠0:=by
 unfold Ps.fail;split
 ·exact h0
 ·assumption
theorem Wq {p:Ps} {i e:Int} (h:p.e=0):(p.fail i e).tk=[]:=by simp [Ps.fail,h]
theorem XY:(⟨[],en,op,pl,0⟩:Ps).peek=⟨0,ofL [],en⟩:=rfl
theorem Yi:(⟨t::ts,en,op,pl,0⟩:Ps).peek=t:=rfl
end
theorem ff {i j e f:Int} {p:Ps} (h0:e≠0):(p.fail i e).fail j f=p.fail i e:=Zx (Z3 h0) _ _
theorem sim_test {w:ByteArray} (hw:isTst w=true) {ts:List Tk} {en op pl cl:Int} (h:∀t ∈ ts,TkOK t) :
  Sim (testF w ⟨ts,en,op,pl,0⟩).2 (tstM w ⟨ts,en+1,op,0,cl⟩).2∧((testF w ⟨ts,en,op,pl,0⟩).2.e=0→(testF w ⟨ts,en,op,pl,0⟩).1=toC (tstM w ⟨ts,en+1,op,0,cl⟩).1∧WfT (tstM w ⟨ts,en+1,op,0,cl⟩).1):=by
 unfold testF tstM
 by_cases h1:idx w wKinds<3
 ·rw [if_pos h1,if_pos h1]
  obtain ⟨x1,x2,x3⟩:=VV w (Zg.1 h1)
  refine ⟨Xy h,fun _=>⟨?_,wf_tst hw (fun h=>absurd h x2) (fun h=>absurd h x3)⟩⟩
  rw [YF hw,if_pos h1]
 rw [if_neg h1,if_neg h1]
 by_cases h2:w=wChan
 ·rw [if_pos h2,if_pos h2]
  have x2:¬idx w wTxs<3:=by rw [h2];exact chan_x.1
  have x3:¬idx w wNms<4:=by rw [h2];exact chan_x.2
  cases ts with
  | nil=>
   simp only [XY,XO (show (1:Int)≠0 by decide),ff (show (30:Int)≠0 by decide),ite_self]
   exact ⟨Zk rfl rfl rfl rfl (by decide),fun h=>absurd h (Z3 (by decide))⟩
  | cons t ts=>
   simp only [Yi]
   by_cases hk:t.kd=1
   ·rw [Xd hk]
    by_cases hi:idx t.tx wChs<4
    ·have e:(⟨t::ts,en+1,op,0,cl⟩:Mq).has (fun t=>decide (t.kd=1) && decide (idx t.tx wChs<4))=true:=by simp [Mq.has,hk,hi]
     rw [if_pos e]
     simp only [hi,if_true]
     refine ⟨Xy fun t ht=>h t (.tail _ ht),fun _=>⟨?_,wf_tst hw (fun h=>absurd h x2) (fun h=>absurd h x3)⟩⟩
     rw [YF hw,if_neg h1,if_pos h2];rfl
    ·have e:¬(⟨t::ts,en+1,op,0,cl⟩:Mq).has (fun t=>decide (t.kd=1) && decide (idx t.tx wChs<4))=true:=by simp [Mq.has,hi]
     rw [if_neg e]
     simp only [hi,if_false]
     exact ⟨Zk rfl rfl rfl rfl (by decide),fun h=>absurd h (Z3 (by decide))⟩
   ·rw [X5 hk]
    have e:¬(⟨t::ts,en+1,op,0,cl⟩:Mq).has (fun t=>decide (t.kd=1) && decide (idx t.tx wChs<4))=true:=by simp [Mq.has,hk]
    rw [if_neg e]
    simp only [ff (show (30:Int)≠0 by decide),ite_self]
    exact ⟨Zk rfl rfl rfl rfl (by decide),fun h=>absurd h (Z3 (by decide))⟩
 rw [if_neg h2,if_neg h2]
 by_cases h3:idx w wTxs<3
 ·rw [if_pos h3,if_pos h3]
  have x3:=txs_x w (Zg.1 h3)
  cases ts with
  | nil=>
   have he:((⟨[],en,op,pl,0⟩:Ps).fail en 30).e≠0:=Z3 (by decide)
   have ht:((⟨[],en,op,pl,0⟩:Ps).fail en 30).tk=[]:=Wq rfl
   simp only [XY,XO (show (1:Int)≠0 by decide),ff (show (30:Int)≠0 by decide),ite_self,Y3 he ht]
   exact ⟨Zk rfl rfl rfl rfl (by decide),fun h=>absurd h he⟩
  | cons t ts=>
   have he:((⟨ts,en,op,pl,0⟩:Ps).fail t.pl 30).e≠0:=Z3 (by decide)
   have ht:((⟨ts,en,op,pl,0⟩:Ps).fail t.pl 30).tk=[]:=Wq rfl
   simp only [Yi]
   by_cases hk:t.kd=1
   ·rw [Xd hk]
    by_cases hi:idx t.tx wCts<3
    ·have e:(⟨t::ts,en+1,op,0,cl⟩:Mq).has (fun t=>decide (t.kd=1) && decide (idx t.tx wCts<3))=true:=by simp [Mq.has,hk,hi]
     rw [if_pos e]
     simp only [hi,if_true]
     have e2:(⟨t::ts,en+1,op,0,cl⟩:Mq).pass=⟨ts,en+1,op,0,cl⟩:=rfl
     have e3:(⟨t::ts,en+1,op,0,cl⟩:Mq).hd=t.tx:=rfl
     rw [e2,e3]
     have wf:∀tx n,WfT (.mk w [] t.tx tx n):=fun tx n=>wf_tst hw (fun _=>hi) (fun h=>absurd h x3)
     cases ts with
     | nil=>
      rw [XO (by decide)]
      have e4:(⟨[],en+1,op,0,cl⟩:Mq).take (fun t=>decide (t.kd=3))=(eB,(⟨[],en+1,op,0,cl⟩:Mq).fail 30):=by simp [Mq.take,Mq.has]
      rw [e4]
      exact ⟨Zk rfl rfl rfl rfl (by decide),fun h=>absurd h (Z3 (by decide))⟩
     | cons u ts=>
      by_cases hu:u.kd=3
      ·rw [Xd hu]
       have e4:(⟨u::ts,en+1,op,0,cl⟩:Mq).take (fun t=>decide (t.kd=3))=(u.tx,⟨ts,en+1,op,0,cl⟩):=by simp [Mq.take,Mq.has,hu,Mq.hd,Mq.pass]
       rw [e4]
       refine ⟨Xy fun t ht=>h t (.tail _ (.tail _ ht)),fun _=>⟨?_,wf _ _⟩⟩
       rw [YF hw,if_neg h1,if_neg h2,if_pos h3];rfl
      ·rw [X5 hu]
       have e4:(⟨u::ts,en+1,op,0,cl⟩:Mq).take (fun t=>decide (t.kd=3))=(eB,(⟨u::ts,en+1,op,0,cl⟩:Mq).fail 30):=by simp [Mq.take,Mq.has,hu]
       rw [e4]
       exact ⟨Zk rfl rfl rfl rfl (by decide),fun h=>absurd h (Z3 (by decide))⟩
    ·have e:¬(⟨t::ts,en+1,op,0,cl⟩:Mq).has (fun t=>decide (t.kd=1) && decide (idx t.tx wCts<3))=true:=by simp [Mq.has,hi]
     rw [if_neg e]
     simp only [hi,if_false,Y3 he ht]
     exact ⟨Zk rfl rfl rfl rfl (by decide),fun h=>absurd h he⟩
   ·rw [X5 hk]
    have e:¬(⟨t::ts,en+1,op,0,cl⟩:Mq).has (fun t=>decide (t.kd=1) && decide (idx t.tx wCts<3))=true:=by simp [Mq.has,hk]
    rw [if_neg e]
    simp only [ff (show (30:Int)≠0 by decide),ite_self,Y3 he ht]
    exact ⟨Zk rfl rfl rfl rfl (by decide),fun h=>absurd h he⟩
 rw [if_neg h3,if_neg h3]
 by_cases h4:idx w wNms<4
 ·rw [if_pos h4,if_pos h4]
  have nerr:∀{p:Ps},p.e≠0→p.tk=[]→(numF p).2=p:=fun {p} he ht=>by
   unfold numF
   simp only [Y3 he ht,Zx he,ite_self]
  cases ts with
  | nil=>
   have he:((⟨[],en,op,pl,0⟩:Ps).fail en 30).e≠0:=Z3 (by decide)
   have ht:((⟨[],en,op,pl,0⟩:Ps).fail en 30).tk=[]:=Wq rfl
   simp only [XY,XO (show (4:Int)≠0 by decide),ff (show (30:Int)≠0 by decide),ite_self,nerr he ht]
   exact ⟨Zk rfl rfl rfl rfl (by decide),fun h=>absurd h he⟩
  | cons t ts=>
   have he:((⟨ts,en,op,pl,0⟩:Ps).fail t.pl 30).e≠0:=Z3 (by decide)
   have ht:((⟨ts,en,op,pl,0⟩:Ps).fail t.pl 30).tk=[]:=Wq rfl
   simp only [Yi]
   by_cases hk:t.kd=4
   ·rw [Xd hk]
    by_cases hi:idx t.tx yCns<3
    ·have e:(⟨t::ts,en+1,op,0,cl⟩:Mq).has (fun t=>decide (t.kd=4) && decide (idx t.tx yCns<3))=true:=by simp [Mq.has,hk,hi]
     rw [if_pos e]
     simp only [hi,if_true]
     have e2:(⟨t::ts,en+1,op,0,cl⟩:Mq).pass=⟨ts,en+1,op,0,cl⟩:=rfl
     have e3:(⟨t::ts,en+1,op,0,cl⟩:Mq).hd=t.tx:=rfl
     rw [e2,e3]
     obtain ⟨s1,s2⟩:=sim_num (ts:=ts) (en:=en) (op:=op) (pl:=pl) (cl:=cl) fun t ht=>h t (.tail _ ht)
     refine ⟨s1,fun hz=>⟨?_,wf_tst hw (fun h=>absurd h h3) (fun _=>hi)⟩⟩
     rw [YF hw,if_neg h1,if_neg h2,if_neg h3,if_pos h4,s2 hz]
    ·have e:¬(⟨t::ts,en+1,op,0,cl⟩:Mq).has (fun t=>decide (t.kd=4) && decide (idx t.tx yCns<3))=true:=by simp [Mq.has,hi]
     rw [if_neg e]
     simp only [hi,if_false,nerr he ht]
     exact ⟨Zk rfl rfl rfl rfl (by decide),fun h=>absurd h he⟩
   ·rw [X5 hk]
    have e:¬(⟨t::ts,en+1,op,0,cl⟩:Mq).has (fun t=>decide (t.kd=4) && decide (idx t.tx yCns<3))=true:=by simp [Mq.has,hk]
    rw [if_neg e]
    simp only [ff (show (30:Int)≠0 by decide),ite_self,nerr he ht]
    exact ⟨Zk rfl rfl rfl rfl (by decide),fun h=>absurd h he⟩
 rw [if_neg h4,if_neg h4]
 have wf:∀tx n,WfT (.mk w [] eB tx n):=fun tx n=>wf_tst hw (fun h=>absurd h h3) (fun h=>absurd h h4)
 cases ts with
 | nil=>
  have e:¬(⟨[],en+1,op,0,cl⟩:Mq).has (fun t=>decide (t.kd=2) && !lvalid t.tx.data.toList)=true:=by simp [Mq.has]
  have e4:(⟨[],en+1,op,0,cl⟩:Mq).take (fun t=>decide (t.kd=2))=(eB,(⟨[],en+1,op,0,cl⟩:Mq).fail 30):=by simp [Mq.take,Mq.has]
  simp only [XY,XO (show (2:Int)≠0 by decide),ff (show (30:Int)≠0 by decide),ite_self,if_neg e,e4]
  exact ⟨Zk rfl rfl rfl rfl (by decide),fun h=>absurd h (Z3 (by decide))⟩
 | cons t ts=>
  simp only [Yi]
  by_cases hk:t.kd=2
  ·rw [Xd hk]
   by_cases hv:lvalid t.tx.data.toList=true
   ·have e:¬(⟨t::ts,en+1,op,0,cl⟩:Mq).has (fun t=>decide (t.kd=2) && !lvalid t.tx.data.toList)=true:=by simp [Mq.has,hv]
    have e4:(⟨t::ts,en+1,op,0,cl⟩:Mq).take (fun t=>decide (t.kd=2))=(t.tx,⟨ts,en+1,op,0,cl⟩):=by simp [Mq.take,Mq.has,hk,Mq.hd,Mq.pass]
    rw [if_neg e,e4]
    simp only [hv,if_true]
    refine ⟨Xy fun t ht=>h t (.tail _ ht),fun _=>⟨?_,wf _ _⟩⟩
    rw [YF hw,if_neg h1,if_neg h2,if_neg h3,if_neg h4]
   ·have e:(⟨t::ts,en+1,op,0,cl⟩:Mq).has (fun t=>decide (t.kd=2) && !lvalid t.tx.data.toList)=true:=by simp [Mq.has,hk,hv]
    have e5:((⟨t::ts,en+1,op,0,cl⟩:Mq).fail 12).e≠0:=by simp [Mq.fail]
    rw [if_pos e,Wp e5]
    simp only [hv,Bool.false_eq_true,if_false]
    exact ⟨Zk rfl rfl rfl rfl (by decide),fun h=>absurd h (Z3 (by decide))⟩
  ·rw [X5 hk]
   have e:¬(⟨t::ts,en+1,op,0,cl⟩:Mq).has (fun t=>decide (t.kd=2) && !lvalid t.tx.data.toList)=true:=by simp [Mq.has,hk]
   have e4:(⟨t::ts,en+1,op,0,cl⟩:Mq).take (fun t=>decide (t.kd=2))=(eB,(⟨t::ts,en+1,op,0,cl⟩:Mq).fail 30):=by simp [Mq.take,Mq.has,hk]
   rw [if_neg e,e4]
   simp only [ff (show (30:Int)≠0 by decide),ite_self]
   exact ⟨Zk rfl rfl rfl rfl (by decide),fun h=>absurd h (Z3 (by decide))⟩
def SimT (r:Cnd×Ps) (q:Tr5×Mq):Prop:=Sim r.2 q.2∧(r.2.e=0→r.1=toC q.1∧WfT q.1)
def SimL (r:List Cnd×Ps) (q:List Tr5×Mq):Prop:=Sim r.2 q.2∧(r.2.e=0→r.1=toCs q.1∧WfTs q.1∧q.1≠[])
theorem sim_word {p:Ps} {m:Mq} (h:Sim p m) (w:ByteArray):p.is 1 w=m.word w:=by
 by_cases he:p.e=0
 ·obtain ⟨h1,h2,h3⟩:=h.ok he
  unfold Ps.is Mq.word Mq.has Mq.isW Ps.peek
  rw [h1,←h2]
  cases p.tk with
  | nil=>simp
  | cons t l=>simp
 ·obtain ⟨h1,h2,h3⟩:=h.err he
  rw [pis_err h3 (by decide),XF (by rw [←h1];exact he)]
theorem VG {p:Ps} {m:Mq} (h:Sim p m):Sim p.pass m.pass:=by
 refine ⟨fun t ht=>h.1 t (List.mem_of_mem_tail ht),h.2.1,?_⟩
 rcases h.2.2 with ⟨h1,h2,h3,h4⟩|⟨h1,h2,h3,h4⟩
 ·exact .inl ⟨h1,h2,by simp [Ps.pass,Mq.pass,h3],h4⟩
 ·exact .inr ⟨h1,h2,h3,by simp [Ps.pass,h4]⟩
theorem sim_symb {p:Ps} {m:Mq} (h:Sim p m) (s:ByteArray):Sim (p.symb s) (m.take (Mq.isS s)).2:=by
 by_cases he:p.e=0
 ·obtain ⟨h1,h2,h3⟩:=h.ok he
  have e:p.is 4 s=m.has (Mq.isS s):=by
   unfold Ps.is Mq.has Mq.isS Ps.peek
   rw [←h2]
   cases p.tk<;>simp
  unfold Ps.symb Mq.take
  by_cases hs:m.has (Mq.isS s)=true
  ·rw [if_pos (by rw [e];exact hs),if_neg (by rw [h1,hs];simp)]
   exact VG h
  ·have hs':m.has (Mq.isS s)=false:=by simpa using hs
   rw [if_neg (by rw [e];exact hs),if_pos (.inr hs')]
   exact Zk he h1 h.2.1 (h.pl he) (by decide)
 ·obtain ⟨h1,h2,h3⟩:=h.err he
  rw [We he h3,Wp (by rw [←h1];exact he)]
  exact h
theorem sim_op {p:Ps} {m:Mq} (h:Sim p m) (d:Int):Sim {p with op:=p.op+d} {m with op:=m.op+d}:=by
 refine ⟨h.1,h.2.1,?_⟩
 rcases h.2.2 with ⟨h1,h2,h3,h4⟩|⟨h1,h2,h3,h4⟩
 ·exact .inl ⟨h1,h2,h3,by show p.op+d=m.op+d;rw [h4]⟩
 ·exact .inr ⟨h1,h2,h3,h4⟩
theorem toC_or (l:List Tr5) (a b:ByteArray) (n:Int):toC (.mk wOr l a b n)=eitherF (toCs l):=by rw [toC,if_pos rfl]
theorem Wm (l:List Tr5) (a b:ByteArray) (n:Int):toC (.mk wAnd l a b n)=bothF (toCs l):=by rw [toC,if_neg (by decide),if_pos rfl]
theorem Wc (t:Tr5) (a b:ByteArray) (n:Int):toC (.mk wNot [t] a b n) = .nt (toC t):=by rw [toC,if_neg (by decide),if_neg (by decide),if_pos rfl];rfl
theorem sim_all:∀n:Nat,
  (∀p m,Sim p m→SimT (factorF n p) (factorM n m))∧
  (∀p m,Sim p m→SimT (termF n p) (termM n m))∧
  (∀p m l k,Sim p m→(p.e=0→l=toCs k∧WfTs k∧k≠[])→SimL (termL n l p) (termN n k m))∧
  (∀p m,Sim p m→SimT (condF n p) (condM n m))∧
  (∀p m l k,Sim p m→(p.e=0→l=toCs k∧WfTs k∧k≠[])→SimL (condL n l p) (condN n k m))
 | 0=>by
  have key:∀p m,Sim p m→Sim (p.fail p.peek.pl 99) (m.fail 99)∧(p.fail p.peek.pl 99).e≠0:=fun p m h=>by
   refine ⟨?_,Z3 (by decide)⟩
   by_cases he:p.e=0
   ·exact Zk he (h.ok he).1 h.2.1 (h.pl he) (by decide)
   ·rw [Zx he,Yk (by rw [←h.e0];exact he)];exact h
  exact ⟨fun p m h=>⟨(key p m h).1,fun hz=>absurd hz (key p m h).2⟩,fun p m h=>⟨(key p m h).1,fun hz=>absurd hz (key p m h).2⟩,fun p m _ _ h _=>⟨(key p m h).1,fun hz=>absurd hz (key p m h).2⟩,fun p m h=>⟨(key p m h).1,fun hz=>absurd hz (key p m h).2⟩,fun p m _ _ h _=>⟨(key p m h).1,fun hz=>absurd hz (key p m h).2⟩⟩
 | n+1=>by
  obtain ⟨ihf,iht,ihl,ihc,ihd⟩:=sim_all n
  refine ⟨fun p m h=>?_,fun p m h=>?_,fun p m l k h hk=>?_,fun p m h=>?_,fun p m l k h hk=>?_⟩
  ·-- factor
   by_cases he:p.e≠0
   ·obtain ⟨h1,h2,h3⟩:=h.err he
    have hm:m.e≠0:=by rw [←h1];exact he
    refine ⟨by rw [WX he h3,V6 hm];exact h,fun hz=>absurd hz (by rw [WX he h3];exact he)⟩
   have he:p.e=0:=by omega
   obtain ⟨h1,h2,h3⟩:=h.ok he
   obtain ⟨ts,en,op,pl,e⟩:=p
   obtain ⟨tk,en2,op2,e2,cl⟩:=m
   have h4:=h.2.1
   have h0:=h.1
   dsimp only at he h1 h2 h3 h4 h0
   subst he;subst h1;subst h2;subst h3;subst h4
   cases ts with
   | nil=>
    unfold factorF factorM
    have e1:(⟨[],en+1,op,0,cl⟩:Mq).word wNot=false:=by simp [Mq.word,Mq.has]
    have e2:∀q,(⟨[],en+1,op,0,cl⟩:Mq).has q=false:=fun q=>rfl
    simp only [XY,e1,e2,Bool.false_eq_true,and_false,if_false]
    have a1:((0:Int)=1∧ofL []=wNot)=False:=eq_false (by decide)
    have a2:((0:Int)=4∧ofL []=yOpn)=False:=eq_false (by decide)
    have a3:((0:Int)=1∧isTst (ofL [])=true)=False:=eq_false (by decide)
    simp only [a1,a2,a3,if_false]
    exact ⟨Zk rfl rfl rfl rfl (by decide),fun h=>absurd h (Z3 (by decide))⟩
   | cons t ts=>
    have h0':∀t ∈ ts,TkOK t:=fun t ht=>h0 t (.tail _ ht)
    have ep:(⟨t::ts,en,op,pl,0⟩:Ps).pass=⟨ts,en,op,pl,0⟩:=rfl
    have em:(⟨t::ts,en+1,op,0,cl⟩:Mq).pass=⟨ts,en+1,op,0,cl⟩:=rfl
    have sp:Sim (⟨ts,en,op,pl,0⟩:Ps) (⟨ts,en+1,op,0,cl⟩:Mq):=Xy h0'
    unfold factorF factorM
    simp only [Yi,ep,em]
    by_cases c1:t.kd=1∧t.tx=wNot
    ·have e1:(⟨t::ts,en+1,op,0,cl⟩:Mq).word wNot=true:=by simp [Mq.word,Mq.has,Mq.isW,c1]
     simp only [eq_true c1,eq_true e1,if_true]
     have ih:=ihf _ _ sp
     refine ⟨ih.1,fun hz=>?_⟩
     obtain ⟨i1,i2⟩:=ih.2 hz
     refine ⟨by show Cnd.nt _=_;rw [Wc,i1],?_⟩
     show WfT (.mk wNot [_] eB eB 0)
     rw [WfT,if_neg (by decide),if_pos rfl]
     exact ⟨⟨_,rfl⟩,i2,trivial⟩
    ·have e1:¬(⟨t::ts,en+1,op,0,cl⟩:Mq).word wNot=true:=by simpa [Mq.word,Mq.has,Mq.isW] using c1
     simp only [eq_false c1,eq_false e1,if_false]
     by_cases c2:t.kd=4∧t.tx=yOpn
     ·have e2:(⟨t::ts,en+1,op,0,cl⟩:Mq).has (Mq.isS yOpn)=true:=by simp [Mq.has,Mq.isS,c2]
      simp only [eq_true c2,e2,and_self,if_true]
      by_cases c3:op=32
      ·simp only [eq_true c3,if_true]
       have he:((⟨ts,en,op,pl,0⟩:Ps).fail t.pl 9).e≠0:=Z3 (by decide)
       have ht:((⟨ts,en,op,pl,0⟩:Ps).fail t.pl 9).tk=[]:=Wq rfl
       generalize hq:(⟨ts,en,op,pl,0⟩:Ps).fail t.pl 9=q at he ht
       have s:Sim q ((⟨t::ts,en+1,op,0,cl⟩:Mq).fail 9):=by rw [←hq];exact Zk rfl rfl rfl rfl (by decide)
       have he':({q with op:=q.op+1}:Ps).e≠0:=he
       have ht':({q with op:=q.op+1}:Ps).tk=[]:=ht
       have g:=condF_err he' ht' n
       simp only [g,We he' ht']
       refine ⟨⟨s.1,s.2.1,?_⟩,fun hz=>absurd hz he⟩
       rcases s.2.2 with s3|s3
       ·exact absurd s3.1 he
       ·exact .inr s3
      ·simp only [eq_false c3,if_false]
       have s1:Sim (⟨ts,en,op+1,pl,0⟩:Ps) (⟨ts,en+1,op+1,0,cl⟩:Mq):=Xy h0'
       have ih:=ihc _ _ s1
       have s2:=sim_symb ih.1 yCls
       refine ⟨sim_op s2 (-1),fun hz=>ih.2 ?_⟩
       have hz':((condF n ⟨ts,en,op+1,pl,0⟩).2.symb yCls).e=0:=hz
       by_cases hc:(condF n ⟨ts,en,op+1,pl,0⟩).2.e=0
       ·exact hc
       ·rw [We hc (ih.1.err hc).2.2] at hz'
        exact absurd hz' hc
     ·have e2:(⟨t::ts,en+1,op,0,cl⟩:Mq).has (Mq.isS yOpn)=false:=by simpa [Mq.has,Mq.isS] using c2
      simp only [eq_false c2,e2,Bool.false_eq_true,and_false,if_false]
      by_cases c3:t.kd=1∧isTst t.tx=true
      ·have e3:(⟨t::ts,en+1,op,0,cl⟩:Mq).has (fun t=>decide (t.kd=1) && isTst t.tx)=true:=by simp [Mq.has,c3]
       simp only [eq_true c3,e3,and_self,if_true]
       exact sim_test c3.2 h0'
      ·have e3:(⟨t::ts,en+1,op,0,cl⟩:Mq).has (fun t=>decide (t.kd=1) && isTst t.tx)=false:=by simpa [Mq.has] using c3
       simp only [eq_false c3,e3,Bool.false_eq_true,and_false,if_false]
       exact ⟨Zk rfl rfl rfl rfl (by decide),fun h=>absurd h (Z3 (by decide))⟩
  ·-- term
   have ih:=ihf p m h
   have ih2:=ihl _ _ [(factorF n p).1] [(factorM n m).1] ih.1 (fun hz=>by
    obtain ⟨i1,i2⟩:=ih.2 hz
    exact ⟨by rw [i1];rfl,⟨i2,trivial⟩,by simp⟩)
   refine ⟨ih2.1,fun hz=>?_⟩
   obtain ⟨i1,i2,i3⟩:=ih2.2 hz
   refine ⟨by show bothF _=toC (.mk wAnd _ eB eB 0);rw [Wm,i1],?_⟩
   show WfT (.mk wAnd _ eB eB 0)
   rw [WfT,if_pos (.inr rfl)]
   exact ⟨i3,i2⟩
  ·-- more terms
   unfold termL termN
   rw [sim_word h]
   by_cases hw:m.word wAnd=true
   ·rw [if_pos hw,if_pos hw]
    have ih:=ihf _ _ (VG h)
    refine ihl _ _ _ _ ih.1 fun hz=>?_
    obtain ⟨i1,i2⟩:=ih.2 hz
    have hz0:p.e=0:=by
     by_cases he:p.e=0
     ·exact he
     ·rw [XF (by rw [←h.e0];exact he)] at hw;cases hw
    obtain ⟨k1,k2,k3⟩:=hk hz0
    exact ⟨by rw [toCs_app,k1,i1];rfl,by rw [WfTs_app];exact ⟨k2,i2,trivial⟩,by simp⟩
   ·rw [if_neg hw,if_neg hw]
    exact ⟨h,hk⟩
  ·-- cond
   have ih:=iht p m h
   have ih2:=ihd _ _ [(termF n p).1] [(termM n m).1] ih.1 (fun hz=>by
    obtain ⟨i1,i2⟩:=ih.2 hz
    exact ⟨by rw [i1];rfl,⟨i2,trivial⟩,by simp⟩)
   refine ⟨ih2.1,fun hz=>?_⟩
   obtain ⟨i1,i2,i3⟩:=ih2.2 hz
   refine ⟨by show eitherF _=toC (.mk wOr _ eB eB 0);rw [toC_or,i1],?_⟩
   show WfT (.mk wOr _ eB eB 0)
   rw [WfT,if_pos (.inl rfl)]
   exact ⟨i3,i2⟩
  ·unfold condL condN
   rw [sim_word h]
   by_cases hw:m.word wOr=true
   ·rw [if_pos hw,if_pos hw]
    have ih:=iht _ _ (VG h)
    refine ihd _ _ _ _ ih.1 fun hz=>?_
    obtain ⟨i1,i2⟩:=ih.2 hz
    have hz0:p.e=0:=by
     by_cases he:p.e=0
     ·exact he
     ·rw [XF (by rw [←h.e0];exact he)] at hw;cases hw
    obtain ⟨k1,k2,k3⟩:=hk hz0
    exact ⟨by rw [toCs_app,k1,i1];rfl,by rw [WfTs_app];exact ⟨k2,i2,trivial⟩,by simp⟩
   ·rw [if_neg hw,if_neg hw]
    exact ⟨h,hk⟩
section
variable {n:Nat} {C:Cx} {Q:Exit→Act→World→Prop} {E E':List (Nat×Value)} {F F' F1 Fs F0:List Pf} {R R' R0 Rs N N' A:List HP} {k k':List Fr} {ops l:List Oper} {i d:Nat} {t ty0:TypeId} {x y z:Operand} {pos:String} {aft:Array Edge} {gd:Option (Nat×Bool)} {α β:Type} [DecidableEq α] {K:α→Value} {V:β→Value}
theorem Y9 {kt et r:Nat} {rs:TRow} {m:List (α×β)} (hk:KeyOK kt K) (a:α) (v:β) (nx:Wl n C ops.toArray k Q l E F (Mp K V r (mset a v m)::R0)) (hw:wantL ops E ⟨none,.insert t x y z,ty0,pos,aft,gd⟩=some true:=by rfl)
  (hx:ev E x=some (.map (some r)):=by rfl) (hy:ev E y=some (K a):=by rfl) (hz:ev E z=some (V v):=by rfl) (hts:lookT tab t=some rs:=by rfl) (hrs:rs.k = .map kt et:=by rfl)
  (hs:Sel (Mp K V r m) R R0:=by (repeat (first|exact Sel.here|apply Sel.there));first|done|fail):Wl n C ops.toArray k Q (⟨none,.insert t x y z,ty0,pos,aft,gd⟩::l) E F R:=
 YO (fun t ht=>by cases ht) (fun c hc=>by cases hc) hw fun ac w ha hsat=>by
  obtain ⟨es,clock,h1,he,hB⟩:=mp_open hs hsat
  have hb:=h1.pt Sel.here
  have hu:=WP (w:=w) hts hrs
  have hg:(getObj r).run prog w = .ok (.map es clock) w:=by simp [getObj,Sem.run,hb]
  have hc:=hk.chk a false w
  have hf:=XM hk a es.toList m w he
  unfold OpRes
  simp only [execOp,ha.ev (x:=x) (by rw [ZS];exact hx),ha.ev (x:=y) (by rw [ZS];exact hy),ha.ev (x:=z) (by rw [ZS];exact hz),Instr.mapUpdate,Sem.run_bind,hu,Result.andThen,hg,hc,hf]
  cases hm:mfind a m 0 with
  | none=>
   simp only [Option.map_none]
   have hset:(setObj r (.map (es.push {key:=K a,val:=V v,born:=clock}) (clock+1))).run prog w = .ok () {w with heap:=w.heap.setIfInBounds r (.map (es.push {key:=K a,val:=V v,born:=clock}) (clock+1))}:=by simp [setObj,Sem.run,hb]
   simp only [hset,Sem.run_pure]
   refine fun a' ha'=>nx a' _ ha' (mp_shut (Xw h1) ?_ ?_)
   ·rw [mset_none a v m 0 hm]
    simp [he]
   ·refine ⟨?_,fun e hem=>?_⟩
    ·rw [Array.toList_push,List.map_append]
     refine List.nodup_append.2 ⟨hB.1,by simp,fun b hb c hc=>?_⟩
     obtain ⟨e,hem,rfl⟩:=List.mem_map.1 hb
     have:=hB.2 e hem
     simp at hc
     omega
    ·rw [Array.toList_push] at hem
     rcases List.mem_append.1 hem with hem|hem
     ·have:=hB.2 e hem;omega
     ·obtain rfl:=List.mem_singleton.1 hem
      exact Nat.lt_succ_self _
  | some q=>
   obtain ⟨j,u⟩:=q
   obtain ⟨p,hj,hp,hms⟩:=mset_some a v m 0 j u hm
   obtain rfl:j=p:=by omega
   have hkey:(es.toList.map (fun e=>(e.key,e.val)))[j]? = some (K a,V u):=by rw [he];simp [hp]
   have hold:((es[j]?).map (·.key)).getD (K a)=K a:=by
    simp only [List.getElem?_map,Array.getElem?_toList,Option.map_eq_some_iff] at hkey
    obtain ⟨e,he1,he2⟩:=hkey
    rw [he1]
    simp only [Prod.mk.injEq] at he2
    simp [he2.1]
   simp only [Option.map_some]
   have hkt:(Instr.keyThatStays (((es[j]?).map (·.key)).getD (K a)) (K a)).run prog w = .ok (K a) w:=by
    rw [hold];simp [Instr.keyThatStays,hk.bits a]
   have hset:(setObj r (.map (es.modify j fun e=>{e with key:=K a,val:=V v}) clock)).run prog w = .ok () {w with heap:=w.heap.setIfInBounds r (.map (es.modify j fun e=>{e with key:=K a,val:=V v}) clock)}:=by simp [setObj,Sem.run,hb]
   simp only [hkt,Sem.run_bind,Result.andThen,hset,Sem.run_pure]
   have hborn:(es.modify j fun e=>{e with key:=K a,val:=V v}).toList.map (·.born)=es.toList.map (·.born):=by
    apply List.ext_getElem?
    intro i
    simp only [List.getElem?_map,Array.getElem?_toList,Array.getElem?_modify]
    split
    ·cases es[i]?<;>rfl
    ·rfl
   refine fun a' ha'=>nx a' _ ha' (mp_shut (Xw h1) ?_ ⟨by rw [hborn];exact hB.1,fun e hem=>?_⟩)
   rotate_left
   ·have h3:e.born ∈ es.toList.map (·.born):=by rw [←hborn];exact List.mem_map_of_mem hem
    obtain ⟨e',hem',he'⟩:=List.mem_map.1 h3
    rw [←he'];exact hB.2 e' hem'
   rw [hms]
   apply List.ext_getElem?
   intro i
   have hei:(es.toList.map (fun e=>(e.key,e.val)))[i]? = (m.map fun x=>(K x.1,V x.2))[i]?:=by rw [he]
   simp only [List.getElem?_map,Array.getElem?_toList,Array.getElem?_modify,List.getElem?_set] at hei ⊢
   by_cases hij:j=i
   ·subst hij
    simp only [if_true]
    have hlt:=(List.getElem?_eq_some_iff.1 hp).1
    rw [if_pos hlt]
    rw [hp] at hei
    simp only [Option.map_some,Option.map_eq_some_iff] at hei
    obtain ⟨e,he1,_⟩:=hei
    simp [he1]
   ·simp only [if_neg hij]
    exact hei
end
def skv (s:ByteArray):Value:=.string s
theorem beqSt (a b:ByteArray):(a == b)=decide (a=b):=by
 have h:(a == b)=(a.toList == b.toList):=by simp [beq_toListBytes]
 rw [h,Bool.eq_iff_iff]
 simp [XI]
theorem Zl:KeyOK 9 skv where
 eq a b w:=by
  show (Op.equalIn (9999+1) _ (.string a) (.string b)).run prog w = .ok (decide (a=b)) w
  rw [Op.equalIn]
  simp [run_underlying underlying9,beqSt]
 chk a em w:=by
  show (Instr.checkKey em (9999+1) _ (.string a)).run prog w=_
  rw [Instr.checkKey]
  simp [run_underlying underlying9]
 bits a:=by simp [skv,Instr.sameBits,beqSt]
 now:=⟨_,underlying9,fun a b=>by simp [skv,Instr.sameNow,beqSt]⟩
abbrev fnv (f:FuncId):Value:=.func (.func f) #[] #[]
def cmT (k:Nat):Value:=if k=0 then fnv 129 else if k=1 then fnv 53 else if k=2 then fnv 55 else .nilFunc
def fdT (k:Nat):Value:=if k=0 then fnv 126 else if k=1 then fnv 127 else fnv 128
def cmN (k:Nat):Value:=if k=0 then fnv 135 else if k=1 then fnv 136 else if k=2 then fnv 137 else .nilFunc
def fdN (k:Nat):Value:=if k=0 then fnv 131 else if k=1 then fnv 132 else if k=2 then fnv 133 else fnv 134
def pv0 (b:Nat):Value:=.pointer (some ⟨b,0,none⟩)
def tsv (w:ByteArray) (f:FuncId) (cs:Array Value):Value:=.iface 184 (.agg #[.string w,.func (.func f) #[] cs])
abbrev IV:=TypeId×Value
def ivOf (x:IV):Value:=.iface x.1 x.2
abbrev ivl:IV→List Value:=fun x=>[ivOf x]
theorem iv_one (x:IV):(ivl x).all one1=true:=rfl
def tsi (w:ByteArray) (f:FuncId) (cs:Array Value):IV:=(184,.agg #[.string w,.func (.func f) #[] cs])
mutual
def CdP (h:H):Cnd→Value→Prop
 | .any l,v=>∃(o:Option Addr) (cap:Nat) (vs:List IV),v = .iface 211 (.agg #[.slice o vs.length cap])∧(Sl 100 ivl o cap vs).p h∧CdsP h l (vs.map ivOf)
 | .all l,v=>∃(o:Option Addr) (cap:Nat) (vs:List IV),v = .iface 225 (.agg #[.slice o vs.length cap])∧(Sl 100 ivl o cap vs).p h∧CdsP h l (vs.map ivOf)
 | .nt c,v=>∃u,v = .iface 223 (.agg #[u])∧CdP h c u
 | .nul,v=>v = .nilIface
 | .kd w k,v=>∃b,v=tsv w 123 #[pv0 b]∧h b=some (.cells #[.int .i64 k] 3)
 | .ch w k,v=>∃b,v=tsv w 125 #[pv0 b]∧h b=some (.cells #[.int .i64 k] 3)
 | .tx w f k s,v=>∃b1 b2 b3,v=tsv w 130 #[pv0 b1,pv0 b2,pv0 b3]∧h b1=some (.cells #[cmT k] 116)∧h b2=some (.cells #[fdT f] 187)∧h b3=some (.cells #[.string s] 9)
 | .nm w f k n,v=>∃b1 b2 b3,v=tsv w 139 #[pv0 b1,pv0 b2,pv0 b3]∧h b1=some (.cells #[cmN k] 37)∧h b2=some (.cells #[fdN f] 191)∧h b3=some (.cells #[.int .i64 n] 3)
 | .by_ w s,v=>∃b,v=tsv w 140 #[pv0 b]∧h b=some (.cells #[.string s] 22)
def CdsP (h:H):List Cnd→List Value→Prop
 | [],vs=>vs=[]
 | c::l,vs=>∃v ws,vs=v::ws∧CdP h c v∧CdsP h l ws
end
mutual
theorem VM {h k:H} (s:Sub h k):∀(c:Cnd) (v:Value),CdP h c v→CdP k c v
 | .any l,v,hh=>by
  rw [CdP] at hh ⊢
  obtain ⟨o,cap,vs,h1,h2,h3⟩:=hh
  exact ⟨o,cap,vs,h1,(Sl _ _ o cap vs).m h k s h2,Wi s l _ h3⟩
 | .all l,v,hh=>by
  rw [CdP] at hh ⊢
  obtain ⟨o,cap,vs,h1,h2,h3⟩:=hh
  exact ⟨o,cap,vs,h1,(Sl _ _ o cap vs).m h k s h2,Wi s l _ h3⟩
 | .nt c,v,hh=>by
  rw [CdP] at hh ⊢
  obtain ⟨u,h1,h2⟩:=hh
  exact ⟨u,h1,VM s c u h2⟩
 | .nul,v,hh=>by rw [CdP] at hh ⊢;exact hh
 | .kd w z,v,hh=>by
  rw [CdP] at hh ⊢
  obtain ⟨b,h1,h2⟩:=hh
  exact ⟨b,h1,s _ _ h2⟩
 | .ch w z,v,hh=>by
  rw [CdP] at hh ⊢
  obtain ⟨b,h1,h2⟩:=hh
  exact ⟨b,h1,s _ _ h2⟩
 | .tx w f z t,v,hh=>by
  rw [CdP] at hh ⊢
  obtain ⟨b1,b2,b3,h1,h2,h3,h4⟩:=hh
  exact ⟨b1,b2,b3,h1,s _ _ h2,s _ _ h3,s _ _ h4⟩
 | .nm w f z t,v,hh=>by
  rw [CdP] at hh ⊢
  obtain ⟨b1,b2,b3,h1,h2,h3,h4⟩:=hh
  exact ⟨b1,b2,b3,h1,s _ _ h2,s _ _ h3,s _ _ h4⟩
 | .by_ w t,v,hh=>by
  rw [CdP] at hh ⊢
  obtain ⟨b,h1,h2⟩:=hh
  exact ⟨b,h1,s _ _ h2⟩
theorem Wi {h k:H} (s:Sub h k):∀(l:List Cnd) (vs:List Value),CdsP h l vs→CdsP k l vs
 | [],vs,hh=>by rw [CdsP] at hh ⊢;exact hh
 | c::l,vs,hh=>by
  rw [CdsP] at hh ⊢
  obtain ⟨v,ws,h1,h2,h3⟩:=hh
  exact ⟨v,ws,h1,VM s c v h2,Wi s l ws h3⟩
end
def CdF (c:Cnd) (v:Value):Pf:=⟨fun h=>CdP h c v,fun _ _ s hh=>VM s c v hh⟩
def CdsF (l:List Cnd) (vs:List Value):Pf:=⟨fun h=>CdsP h l vs,fun _ _ s hh=>Wi s l vs hh⟩
theorem XZ {h:H}:∀{l:List Cnd} {vs:List Value},CdsP h l vs→vs.length=l.length
 | [],vs,hh=>by rw [CdsP] at hh;rw [hh];rfl
 | c::l,vs,hh=>by
  rw [CdsP] at hh
  obtain ⟨v,ws,rfl,_,h3⟩:=hh
  simp [XZ h3]
theorem XQ {h:H}:∀{l m:List Cnd} {vs ws:List Value},CdsP h l vs→CdsP h m ws→CdsP h (l++m) (vs++ws)
 | [],m,vs,ws,h1,h2=>by rw [CdsP] at h1;subst h1;exact h2
 | c::l,m,vs,ws,h1,h2=>by
  rw [CdsP] at h1
  obtain ⟨v,us,rfl,h3,h4⟩:=h1
  rw [List.cons_append,CdsP]
  exact ⟨v,us++ws,rfl,h3,XQ h4 h2⟩
theorem Y7 {h:H} {c:Cnd} {v:Value}:CdsP h [c] [v]↔CdP h c v:=by
 rw [CdsP]
 constructor
 ·rintro ⟨v',ws,h1,h2,_⟩
  obtain ⟨rfl,_⟩:=List.cons.inj h1
  exact h2
 ·intro hh
  exact ⟨v,[],rfl,hh,by rw [CdsP]⟩
abbrev RdP (b r:Nat) (y:Cnd×Ps):Post:=⟨IV×Option Addr×Nat,fun q=>ivOf q.1,fun _=>True,fun q=>[CdF y.1 (ivOf q.1),TkS q.2 y.2.tk],fun q=>[Pt b (psC y.2 q.2.1 q.2.2 r)]⟩
def ivv (z:Int):Value:=.int .i64 z
theorem mget_kind (w:ByteArray):(mget w (mset (⟨#[110,101,119]⟩:ByteArray) (4:Int) (mset (⟨#[99,104,97,110,103,101,100]⟩:ByteArray) 3 (mset (⟨#[109,105,115,115,105,110,103]⟩:ByteArray) 2 []))))=if idx w wKinds<3 then some ((idx w wKinds:Nat)+2:Int) else none:=by
 have e:(mset (⟨#[110,101,119]⟩:ByteArray) (4:Int) (mset (⟨#[99,104,97,110,103,101,100]⟩:ByteArray) 3 (mset (⟨#[109,105,115,115,105,110,103]⟩:ByteArray) 2 [])))=[(⟨#[109,105,115,115,105,110,103]⟩,2),(⟨#[99,104,97,110,103,101,100]⟩,3),(⟨#[110,101,119]⟩,4)]:=by decide
 rw [e]
 by_cases h1:w=⟨#[109,105,115,115,105,110,103]⟩
 ·subst h1;decide
 by_cases h2:w=⟨#[99,104,97,110,103,101,100]⟩
 ·subst h2;decide
 by_cases h3:w=⟨#[110,101,119]⟩
 ·subst h3;decide
 have e2:idx w wKinds=3:=by simp [wKinds,idx,Ne.symm h1,Ne.symm h2,Ne.symm h3]
 rw [e2]
 simp [mget,h1,h2,h3]
set_option maxHeartbeats 1000000 in
theorem ruKind_ok (b:Nat) (wd:ByteArray) (hw:idx wd wKinds<3):Enters 101∧Spec prog 101 #[.pointer (some ⟨b,0,none⟩),.string wd] [] []
  ⟨IV,fun v=>ivOf v,fun _=>True,fun v=>[CdF (.kd wd ((idx wd wKinds:Nat)+2)) (ivOf v)],fun _=>[]⟩:=by
 have hg:=mget_kind wd
 rw [if_pos hw] at hg
 generalize ((idx wd wKinds:Nat)+2:Int)=z at hg ⊢
 generalize b=bp
 refine ZR [_,_] func101 ntmps101 fun G w hp=>?_
 repeat' (first|refine l_mgetE (V:=ivv) Zl wd (some z) hg ?_|refine Y9 Zl _ _ ?_|refine WC Zl ivv (fun r=>?_)|refine ZF ?_|refine ZI ?_|refine ZG ?_|refine ZH ?_|refine ZL ?_|refine ZJ ?_|refine ZN ?_|refine ZK (fun b=>?_)|refine ZM (fun b=>?_)|refine ZC ?_|refine ZA ?_|refine ZO ?_|(refine ZB (fun hc=>?_) (fun hc=>?_)<;>(try simp at hc))|(refine ZE (fun hc=>?_) (fun hc=>?_)<;>(try simp at hc)))
 refine Yo ?_
 refine Zn (F1:=[Blk b (.cells #[.int .i64 z] 3)]) (f:=CdF (.kd wd z) (tsv wd 123 #[pv0 b])) (fun hp hF=>?_) ?_
 ·show CdP hp _ _
  rw [CdP]
  exact ⟨b,rfl,hF _ (.head _)⟩
 exact ZP (tsi wd 123 #[pv0 b]) rfl trivial
theorem bsz (a:Array UInt8):(ByteArray.mk a).size=a.size:=rfl
variable {n:Nat} {C:Cx} {Q:Exit→Act→World→Prop} {E E':List (Nat×Value)} {F F' F1 Fs F0:List Pf} {R R' R0 Rs N N' A:List HP} {k k':List Fr} {ops:List Oper} {L L':List (Nat×Nat)} {Tl:List Nat} {d:Nat} {t t2 ty0:TypeId} {x y:Operand} {pos:String} {aft:Array Edge} {gd:Option (Nat×Bool)}
section
variable {l:List Oper} {i:Nat}
theorem run_cat {a b:ByteArray} {ac:Act} {w:World} (h:a.size+b.size≤9223372036854775807) (ha:Agree n C.ds (look E) ac) (hx:ev E x=some (.string a)) (hy:ev E y=some (.string b)) :
  (execOp ac.eval ⟨some d,.binOp .add t x y t2,ty0,pos,aft,gd⟩).run prog w = .ok (.value (.string (a++b))) w:=by
 have h1:¬(((a.size+b.size:Nat):Int) > IntKind.i64.max):=by
  have:IntKind.i64.max=9223372036854775807:=by decide
  omega
 have hg:(eqGuard .add t x y (.string a) (.string b)).run prog w = .ok () w:=by simp [eqGuard]
 have hb:(binOp .add t (.string a) (.string b)).run prog w = .ok (.string (a++b)) w:=by
  simp only [binOp,Op.stringOp]
  rw [if_neg h1];rfl
 simp only [execOp,ha.ev (x:=x) (by rw [ZS];exact hx),ha.ev (x:=y) (by rw [ZS];exact hy),Sem.run_bind,hg,Result.andThen,hb,Sem.run_pure]
theorem Zj {a b:ByteArray} (nx:Wl n C ops.toArray k Q l ((d,.string (a++b))::E) F R) (hw:wantL ops E ⟨some d,.binOp .add t x y t2,ty0,pos,aft,gd⟩=some true:=by rfl) (hn:Nat.blt d n=true:=by rfl)
  (hx:ev E x=some (.string a):=by rfl) (hy:ev E y=some (.string b):=by rfl) (h:a.size+b.size≤9223372036854775807:=by simp only [ByteArray.size_append,bsz,List.size_toArray,List.length_cons,List.length_nil,List.length_append]<;>omega) :
  Wl n C ops.toArray k Q (⟨some d,.binOp .add t x y t2,ty0,pos,aft,gd⟩::l) E F R:=
 l_q (fun _ _ ha=>run_cat h ha hx hy) nx (by intro c h;cases h) hw hn
theorem Z7 {a b:ByteArray} (nx:Wr n C ops k Q Tl Fs R L ((d,.string (a++b))::E) F N) (ho:nth ops i=some ⟨some d,.binOp .add t x y t2,ty0,pos,aft,gd⟩:=by rfl) (hw:wantL ops E ⟨some d,.binOp .add t x y t2,ty0,pos,aft,gd⟩=some true:=by rfl)
  (hx:ev E x=some (.string a):=by rfl) (hy:ev E y=some (.string b):=by rfl) (h:a.size+b.size≤9223372036854775807:=by simp only [ByteArray.size_append,bsz,List.size_toArray,List.length_cons,List.length_nil,List.length_append]<;>omega) :
  Wr n C ops k Q Tl Fs R ((i,0)::L) E F N:=
 r_q (fun _ _ ha=>run_cat h ha hx hy) nx ho hw
end
theorem W9 (a b:ByteArray):(a++b).data.toList=a.data.toList++b.data.toList:=by simp
theorem mget_chan (w:ByteArray):(mget w (mset (⟨#[112,97,99,107,101,116]⟩:ByteArray) (4:Int) (mset (⟨#[111,114,100,101,114]⟩:ByteArray) 3 (mset (⟨#[112,114,105,110,116]⟩:ByteArray) 2 (mset (⟨#[109,97,105,108]⟩:ByteArray) 1 [])))))=if idx w wChs<4 then some ((idx w wChs:Nat)+1:Int) else none:=by
 have e:(mset (⟨#[112,97,99,107,101,116]⟩:ByteArray) (4:Int) (mset (⟨#[111,114,100,101,114]⟩:ByteArray) 3 (mset (⟨#[112,114,105,110,116]⟩:ByteArray) 2 (mset (⟨#[109,97,105,108]⟩:ByteArray) 1 []))))=[(⟨#[109,97,105,108]⟩,1),(⟨#[112,114,105,110,116]⟩,2),(⟨#[111,114,100,101,114]⟩,3),(⟨#[112,97,99,107,101,116]⟩,4)]:=by decide
 rw [e]
 by_cases h1:w=⟨#[109,97,105,108]⟩
 ·subst h1;decide
 by_cases h2:w=⟨#[112,114,105,110,116]⟩
 ·subst h2;decide
 by_cases h3:w=⟨#[111,114,100,101,114]⟩
 ·subst h3;decide
 by_cases h4:w=⟨#[112,97,99,107,101,116]⟩
 ·subst h4;decide
 have e2:idx w wChs=4:=by simp [wChs,idx,Ne.symm h1,Ne.symm h2,Ne.symm h3,Ne.symm h4]
 rw [e2]
 simp [mget,h1,h2,h3,h4]
theorem testF_chan (p:Ps):testF wChan p=(.ch (wChan++wSp++p.peek.tx) (if idx p.peek.tx wChs<4 then ((idx p.peek.tx wChs:Nat):Int)+1 else 0),if idx p.peek.tx wChs<4 then p.need 1 else (p.need 1).fail p.peek.pl 30):=by
 unfold testF
 rw [if_neg (show ¬idx wChan wKinds<3 by decide),if_pos rfl]
set_option maxHeartbeats 2000000 in
theorem ruChannel_ok (b r:Nat) (x:Ps) (o:Option Addr) (cap:Nat) (hk:KdOK x):Enters 102∧Spec prog 102 #[.pointer (some ⟨b,0,none⟩),.string wChan] [TkS (o,cap) x.tk] [Pt b (psC x o cap r)] (RdP b r (testF wChan x)):=by
 have n1:=Yg b r x o cap hk 1
 have n2:=fun (q:Option Addr×Nat)=>Z8 b r (x.need 1) q.1 q.2 x.peek.pl 30
 have hg:=mget_chan x.peek.tx
 rw [testF_chan]
 generalize hp:x.peek=t at *
 obtain ⟨kd,tx,pl⟩:=t
 dsimp only at hg ⊢
 generalize b=bp at *
 have hz:=hk.peek
 rw [hp] at hz
 have q1:wChan.size+wSp.size≤9223372036854775807:=by decide
 have q2:(wChan++wSp).size+tx.size≤9223372036854775807:=by
  have:(wChan++wSp).size=8:=by decide
  dsimp only at hz;omega
 by_cases hi:idx tx wChs<4
 ·rw [if_pos hi] at hg
  rw [if_pos hi,if_pos hi]
  generalize ((idx tx wChs:Nat)+1:Int)=z at hg ⊢
  refine ZR [_,_] func102 ntmps102 fun G w hp=>?_
  repeat' (first|refine Yc (V:=ivv) Zl tx (some z) hg ?_|refine Y9 Zl _ _ ?_|refine WC Zl ivv (fun r=>?_)|refine ZF ?_|refine ZI ?_|refine ZG ?_|refine ZH ?_|refine ZL ?_|refine ZJ ?_|refine ZN ?_|refine ZK (fun b=>?_)|refine ZM (fun b=>?_)|refine ZC ?_|refine ZA ?_|refine ZO ?_|refine ZD (n1) (fun _ _=>?_)|refine l_call0 (n1) (fun _ _=>?_)|refine Zj (a:=wChan) (b:=wSp) ?_ (h:=q1)|refine Zj (a:=wChan++wSp) (b:=tx) ?_ (h:=q2)|(refine ZB (fun hc=>?_) (fun hc=>?_)<;>(try simp at hc)<;>(try omega))|(refine ZE (fun hc=>?_) (fun hc=>?_)<;>(try simp at hc)<;>(try omega)))
  rename_i q _ _
  refine Yo (b:=b) ?_
  refine Zn (F1:=[Blk b (.cells #[.int .i64 z] 3)]) (f:=CdF (.ch (wChan++wSp++tx) z) (tsv (wChan++wSp++tx) 125 #[pv0 b])) (fun hp hF=>?_) ?_
  ·show CdP hp _ _
   rw [CdP]
   exact ⟨b,rfl,hF _ (.head _)⟩
  exact ZP (tsi (wChan++wSp++tx) 125 #[pv0 b],q) rfl trivial
 ·rw [if_neg hi] at hg
  rw [if_neg hi,if_neg hi]
  refine ZR [_,_] func102 ntmps102 fun G w hp=>?_
  repeat' (first|refine Yc (V:=ivv) Zl tx none hg ?_|refine Y9 Zl _ _ ?_|refine WC Zl ivv (fun r=>?_)|refine ZF ?_|refine ZI ?_|refine ZG ?_|refine ZH ?_|refine ZL ?_|refine ZJ ?_|refine ZN ?_|refine ZK (fun b=>?_)|refine ZM (fun b=>?_)|refine ZC ?_|refine ZA ?_|refine ZO ?_|refine ZD (n1) (fun _ _=>?_)|refine l_call0 (n1) (fun _ _=>?_)|refine ZD (n2 _) (fun _ _=>?_)|refine l_call0 (n2 _) (fun _ _=>?_)|refine Zj (a:=wChan) (b:=wSp) ?_ (h:=q1)|refine Zj (a:=wChan++wSp) (b:=tx) ?_ (h:=q2)|(refine ZB (fun hc=>?_) (fun hc=>?_)<;>(try simp at hc)<;>(try omega))|(refine ZE (fun hc=>?_) (fun hc=>?_)<;>(try simp at hc)<;>(try omega)))
  rename_i q _
  refine Yo (b:=b) ?_
  refine Zn (F1:=[Blk b (.cells #[.int .i64 0] 3)]) (f:=CdF (.ch (wChan++wSp++tx) 0) (tsv (wChan++wSp++tx) 125 #[pv0 b])) (fun hp hF=>?_) ?_
  ·show CdP hp _ _
   rw [CdP]
   exact ⟨b,rfl,hF _ (.head _)⟩
  exact ZP (tsi (wChan++wSp++tx) 125 #[pv0 b],q) rfl trivial
theorem testF_by (p:Ps):testF wBy p=(.by_ (wBy++wSp++p.peek.tx) p.peek.tx,if lvalid p.peek.tx.data.toList then p.need 2 else (p.need 2).fail p.peek.pl 12):=by
 unfold testF
 rw [if_neg (show ¬idx wBy wKinds<3 by decide),if_neg (show ¬wBy=wChan by decide),if_neg (show ¬idx wBy wTxs<3 by decide),if_neg (show ¬idx wBy wNms<4 by decide)]
set_option maxHeartbeats 2000000 in
theorem ruBy_ok (b r:Nat) (x:Ps) (o:Option Addr) (cap:Nat) (hk:KdOK x):Enters 105∧Spec prog 105 #[.pointer (some ⟨b,0,none⟩),.string wBy] [TkS (o,cap) x.tk] [Pt b (psC x o cap r)] (RdP b r (testF wBy x)):=by
 have n1:=Yg b r x o cap hk 2
 have n2:=fun (q:Option Addr×Nat)=>Z8 b r (x.need 2) q.1 q.2 x.peek.pl 12
 have hz:=hk.peek
 rw [testF_by]
 generalize hp:x.peek=t at *
 obtain ⟨kd,tx,pl⟩:=t
 dsimp only at hz ⊢
 have n3:=Vk tx (by omega)
 generalize b=bp at *
 have q1:wBy.size+wSp.size≤9223372036854775807:=by decide
 have q2:(wBy++wSp).size+tx.size≤9223372036854775807:=by
  have:(wBy++wSp).size=3:=by decide
  omega
 cases hv:lvalid tx.data.toList with
 | true=>
  rw [hv] at n3
  rw [if_pos rfl]
  refine ZR [_,_] func105 ntmps105 fun G w hp=>?_
  repeat' (first|refine ZF ?_|refine ZI ?_|refine ZG ?_|refine ZH ?_|refine ZL ?_|refine ZJ ?_|refine ZN ?_|refine ZK (fun b=>?_)|refine ZM (fun b=>?_)|refine ZC ?_|refine ZA ?_|refine ZO ?_|refine ZD (n1) (fun _ _=>?_)|refine l_call0 (n1) (fun _ _=>?_)|refine ZD (n3) (fun _ _=>?_)|refine l_call0 (n3) (fun _ _=>?_)|refine Zj (a:=wBy) (b:=wSp) ?_ (h:=q1)|refine Zj (a:=wBy++wSp) (b:=tx) ?_ (h:=q2)|(refine ZB (fun hc=>?_) (fun hc=>?_)<;>(try simp at hc)<;>(try omega))|(refine ZE (fun hc=>?_) (fun hc=>?_)<;>(try simp at hc)<;>(try omega)))
  rename_i q _ _ _ _
  refine Yo (b:=b) ?_
  refine Zn (F1:=[Blk b (.cells #[.string tx] 22)]) (f:=CdF (.by_ (wBy++wSp++tx) tx) (tsv (wBy++wSp++tx) 140 #[pv0 b])) (fun hp hF=>?_) ?_
  ·show CdP hp _ _
   rw [CdP]
   exact ⟨b,rfl,hF _ (.head _)⟩
  exact ZP (tsi (wBy++wSp++tx) 140 #[pv0 b],q) rfl trivial
 | false=>
  rw [hv] at n3
  rw [if_neg (by decide)]
  refine ZR [_,_] func105 ntmps105 fun G w hp=>?_
  repeat' (first|refine ZF ?_|refine ZI ?_|refine ZG ?_|refine ZH ?_|refine ZL ?_|refine ZJ ?_|refine ZN ?_|refine ZK (fun b=>?_)|refine ZM (fun b=>?_)|refine ZC ?_|refine ZA ?_|refine ZO ?_|refine ZD (n1) (fun _ _=>?_)|refine l_call0 (n1) (fun _ _=>?_)|refine ZD (n3) (fun _ _=>?_)|refine l_call0 (n3) (fun _ _=>?_)|refine ZD (n2 _) (fun _ _=>?_)|refine l_call0 (n2 _) (fun _ _=>?_)|refine Zj (a:=wBy) (b:=wSp) ?_ (h:=q1)|refine Zj (a:=wBy++wSp) (b:=tx) ?_ (h:=q2)|(refine ZB (fun hc=>?_) (fun hc=>?_)<;>(try simp at hc)<;>(try omega))|(refine ZE (fun hc=>?_) (fun hc=>?_)<;>(try simp at hc)<;>(try omega)))
  rename_i q _
  refine Yo (b:=b) ?_
  refine Zn (F1:=[Blk b (.cells #[.string tx] 22)]) (f:=CdF (.by_ (wBy++wSp++tx) tx) (tsv (wBy++wSp++tx) 140 #[pv0 b])) (fun hp hF=>?_) ?_
  ·show CdP hp _ _
   rw [CdP]
   exact ⟨b,rfl,hF _ (.head _)⟩
  exact ZP (tsi (wBy++wSp++tx) 140 #[pv0 b],q) rfl trivial
theorem quoB_len (c:UInt8):(quoB c).length≤2:=by
 unfold quoB
 split
 ·simp
 ·split<;>simp
theorem VK:∀l:List UInt8,(l.flatMap quoB).length≤2 * l.length
 | []=>by simp
 | c::l=>by
  have h1:=quoB_len c
  have h2:=VK l
  rw [List.flatMap_cons,List.length_append,List.length_cons];omega
theorem Xp (s:ByteArray):(quoF s).size≤2 * s.size+2:=by
 have h:=VK s.data.toList
 have e:s.data.toList.length=s.size:=by show _=s.data.size;simp
 show (34::(s.data.toList.flatMap quoB++[34])).toArray.size≤_
 simp only [List.size_toArray,List.length_cons,List.length_append,List.length_nil]
 omega
set_option maxHeartbeats 2000000 in
theorem W6 (s:ByteArray) (hs:s.size≤1000000):Enters 58∧Spec prog 58 #[.string s] [] [] (RetV (.string (quoF s))):=by
 have hsz:s.data.toList.length=s.size:=by show _=s.data.size;simp
 refine ZR [_] func58 ntmps58 fun G w hp=>?_
 have m0:=fun b=>UD b 34
 repeat' (first|refine ZF ?_|refine ZI ?_|refine ZG ?_|refine ZH ?_|refine ZL ?_|refine ZJ ?_|refine ZN ?_|refine ZK (fun b=>?_)|refine ZM (fun b=>?_)|refine ZC ?_|refine ZA ?_|refine ZD (m0 _) (fun _ _=>?_)|refine l_call0 (m0 _) (fun _ _=>?_)|(refine ZB (fun hc=>?_) (fun hc=>?_)<;>(try simp at hc))|(refine ZE (fun hc=>?_) (fun hc=>?_)<;>(try simp at hc)))
 refine YK (X:={i:Nat // i≤s.size}) (fun i=>[(0,.string s),(3,.pointer (some ⟨b,0,none⟩)),(7,.int .i64 (s.size:Int)),(8,.int .i64 (i.1:Int))]) (fun _=>[]) (fun i=>[Bdr b (34::(s.data.toList.take i.1).flatMap quoB)]) (fun i=>s.size - i.1) ⟨0,Nat.zero_le _⟩ ⟨rfl,rfl,rfl,rfl,trivial⟩ ?_
 rintro ⟨i,hi⟩
 dsimp only
 have hql:=VK (s.data.toList.take i)
 have htl:(s.data.toList.take i).length≤i:=by simp;omega
 by_cases hlt:i<s.data.toList.length
 ·have hcc:=List.getElem?_eq_getElem hlt
  have htk:=List.take_succ_eq_append_getElem hlt
  have hlt2:i<s.size:=by omega
  generalize hce:s.data.toList[i]=c at *
  have w1:=wrapi (z:=(i:Int)+1) (by omega) (by omega)
  have hfin:∀acc:List UInt8,acc=34::(s.data.toList.take i).flatMap quoB++quoB c→acc=34::(s.data.toList.take (i+1)).flatMap quoB:=fun acc h=>by rw [h,htk];simp
  by_cases c1:c=34∨c=92
  ·have k1:(c.toNat:Int)=34∨(c.toNat:Int)=92:=by rcases c1 with h|h<;>rw [h]<;>decide
   have hq:quoB c=[92,c]:=by unfold quoB;rw [if_pos (by simpa using c1)]
   rw [hq] at hfin
   have hf:=hfin _ rfl
   have n1:=Ze b (34::(s.data.toList.take i).flatMap quoB) 92 (by simp only [List.length_cons];omega)
   have n2:=Ze b (34::(s.data.toList.take i).flatMap quoB++[92]) c (by simp only [List.length_cons,List.length_append,List.length_nil];omega)
   rw [List.append_assoc,List.singleton_append,hf] at n2
   repeat' (first|refine Zh (s:=s) i c hcc ?_|refine ZF ?_|refine ZI ?_|refine ZG ?_|refine ZH ?_|refine ZL ?_|refine ZJ ?_|refine ZN ?_|refine ZK (fun b=>?_)|refine ZM (fun b=>?_)|refine ZC ?_|refine ZA ?_|refine ZD (n1) (fun _ _=>?_)|refine l_call0 (n1) (fun _ _=>?_)|refine ZD (n2) (fun _ _=>?_)|refine l_call0 (n2) (fun _ _=>?_)|rw [w1]|(refine ZB (fun hc=>?_) (fun hc=>?_)<;>(try simp at hc)<;>(try omega))|(refine ZE (fun hc=>?_) (fun hc=>?_)<;>(try simp at hc)<;>(try omega)))
   all_goals exact ZV ⟨i+1,by omega⟩ (by show s.size - (i+1)<s.size - i;omega) ⟨rfl,rfl,rfl,rfl,trivial⟩
  have k1:¬(c.toNat:Int)=34:=fun h=>c1 (.inl ((u8i (k:=34) (by decide)).2 h))
  have k2:¬(c.toNat:Int)=92:=fun h=>c1 (.inr ((u8i (k:=92) (by decide)).2 h))
  by_cases c2:c=10
  ·have k3:(c.toNat:Int)=10:=by rw [c2];rfl
   have hq:quoB c=[92,110]:=by rw [c2];rfl
   rw [hq] at hfin
   have hf:=hfin _ rfl
   have n1:=ZY b (34::(s.data.toList.take i).flatMap quoB) ⟨#[92,110]⟩ (by simp only [List.length_cons];omega) (by decide)
   rw [show (⟨#[92,110]⟩:ByteArray).data.toList=[92,110] from rfl,hf] at n1
   repeat' (first|refine Zh (s:=s) i c hcc ?_|refine ZF ?_|refine ZI ?_|refine ZG ?_|refine ZH ?_|refine ZL ?_|refine ZJ ?_|refine ZN ?_|refine ZK (fun b=>?_)|refine ZM (fun b=>?_)|refine ZC ?_|refine ZA ?_|refine ZD (n1) (fun _ _=>?_)|refine l_call0 (n1) (fun _ _=>?_)|rw [w1]|(refine ZB (fun hc=>?_) (fun hc=>?_)<;>(try simp at hc)<;>(try omega))|(refine ZE (fun hc=>?_) (fun hc=>?_)<;>(try simp at hc)<;>(try omega)))
   all_goals exact ZV ⟨i+1,by omega⟩ (by show s.size - (i+1)<s.size - i;omega) ⟨rfl,rfl,rfl,rfl,trivial⟩
  ·have k3:¬(c.toNat:Int)=10:=fun h=>c2 ((u8i (k:=10) (by decide)).2 h)
   have hq:quoB c=[c]:=by unfold quoB;rw [if_neg (by simpa using c1),if_neg (by simpa using c2)]
   rw [hq] at hfin
   have hf:=hfin _ rfl
   have n1:=Ze b (34::(s.data.toList.take i).flatMap quoB) c (by simp only [List.length_cons];omega)
   rw [hf] at n1
   repeat' (first|refine Zh (s:=s) i c hcc ?_|refine ZF ?_|refine ZI ?_|refine ZG ?_|refine ZH ?_|refine ZL ?_|refine ZJ ?_|refine ZN ?_|refine ZK (fun b=>?_)|refine ZM (fun b=>?_)|refine ZC ?_|refine ZA ?_|refine ZD (n1) (fun _ _=>?_)|refine l_call0 (n1) (fun _ _=>?_)|rw [w1]|(refine ZB (fun hc=>?_) (fun hc=>?_)<;>(try simp at hc)<;>(try omega))|(refine ZE (fun hc=>?_) (fun hc=>?_)<;>(try simp at hc)<;>(try omega)))
   all_goals exact ZV ⟨i+1,by omega⟩ (by show s.size - (i+1)<s.size - i;omega) ⟨rfl,rfl,rfl,rfl,trivial⟩
 ·have hie:i=s.size:=by omega
  have ht:s.data.toList.take i=s.data.toList:=List.take_of_length_le (by omega)
  rw [ht] at hql ⊢
  have hlt2:¬i<s.size:=by omega
  have n1:=Ze b (34::s.data.toList.flatMap quoB) 34 (by simp only [List.length_cons];omega)
  have n2:=Xb b (34::s.data.toList.flatMap quoB++[34]) (by simp only [List.length_cons,List.length_append,List.length_nil];omega)
  have e:quoF s=⟨(34::s.data.toList.flatMap quoB++[34]).toArray⟩:=rfl
  rw [e]
  repeat' (first|refine ZF ?_|refine ZI ?_|refine ZG ?_|refine ZH ?_|refine ZL ?_|refine ZJ ?_|refine ZN ?_|refine ZK (fun b=>?_)|refine ZM (fun b=>?_)|refine ZC ?_|refine ZA ?_|refine ZO ?_|refine ZD (n1) (fun _ _=>?_)|refine l_call0 (n1) (fun _ _=>?_)|refine ZD (n2) (fun _ _=>?_)|refine l_call0 (n2) (fun _ _=>?_)|(refine ZB (fun hc=>?_) (fun hc=>?_)<;>(try simp at hc)<;>(try omega))|(refine ZE (fun hc=>?_) (fun hc=>?_)<;>(try simp at hc)<;>(try omega)))
  exact ZP () rfl trivial
end Go.Proofs.YtodkipbnefngkaaGreatDoor
