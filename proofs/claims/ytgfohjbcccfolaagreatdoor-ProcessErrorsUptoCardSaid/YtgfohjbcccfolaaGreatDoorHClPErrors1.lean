/-
  Contracts of cpu.Decode, and of a process's registers over a view.
  Entries as values, and their identities.
  The law InodeBirths, walked.
  Contracts of processes compared, and cut: slices.Equal, process.Equal, and the statements' own equal and short.
  Contracts of the package process where the view is nil; an operation of the statements' model in it.
  Processes compared by the statements' own equal.
  The law ProcessErrors, walked.
  The law ProcessErrors, walked.
  The law ProcessErrors, walked.
  The law ProcessErrors, walked.
  Structures that hold slices of plain data, as arguments.
  An operation of the statements of layer 35, as an argument.
  Conditions: those that each theorem states.
-/
import Derived.Test.YtgfohjbcccfolaaGreatDoorW3
import Derived.Test.YtgfohjbcccfolaaGreatDoorW2
set_option maxRecDepth 10000
namespace Go.Proofs.YtgfohjbcccfolaaGreatDoor
open Go.RowKit Go.Proofs.Tryz
section
variable {n:Nat} {C:Cx} {Q:Exit→Act→World→Prop} {E E':List (Nat×Value)} {F F' F1 Fs F0:List Pf} {R R' R0 Rs N N' A:List HP} {k k':List Fr} {ops l:List Oper} {L L':List (Nat×Nat)} {Tl:List Nat} {i d:Nat} {t t2 ty0:TypeId} {x y:Operand} {pos:String} {aft:Array Edge} {gd:Option (Nat×Bool)}
theorem l_send {s:ByteArray} {z:Int} {rs:TRow} (lo:Nat) (hle:lo≤s.size) (nx:Wl n C ops.toArray k Q l ((d,.string (s.extract lo s.size))::E) F R)
  (hw:wantL ops E ⟨some d,.slice t x (some y) none none,ty0,pos,aft,gd⟩=some true:=by rfl) (hn:Nat.blt d n=true:=by rfl) (hx:ev E x=some (.string s):=by rfl) (hy:ev E y=some (.int .i64 z):=by rfl)
  (hts:lookT tab t=some rs:=by rfl) (hrs:rs.k = .str:=by rfl) (hz:z=(lo:Int):=by first|rfl|omega):Wl n C ops.toArray k Q (⟨some d,.slice t x (some y) none none,ty0,pos,aft,gd⟩::l) E F R:=
 l_q (fun a w ha=>by
  simp only [execOp,Option.map_some,Option.map_none,ha.ev (x:=x) (by rw [ZK];exact hx),ha.ev (x:=y) (by rw [ZK];exact hy),Sem.run_bind,run_send (w:=w) lo hle hts hrs hz,Result.andThen,Sem.run_pure]) nx (by intro c h;cases h) hw hn
theorem r_six {s:ByteArray} {z:Int} {rs:TRow} (j:Nat) (c:UInt8) (hc:s.data.toList[j]? = some c) (nx:Wr n C ops k Q Tl Fs R L ((d,.int .u8 c.toNat)::E) F N)
  (ho:nth ops i=some ⟨some d,.index t x y,ty0,pos,aft,gd⟩:=by rfl) (hw:wantL ops E ⟨some d,.index t x y,ty0,pos,aft,gd⟩=some true:=by rfl) (hx:ev E x=some (.string s):=by rfl) (hy:ev E y=some (.int .i64 z):=by rfl)
  (hts:lookT tab t=some rs:=by rfl) (hrs:rs.k = .str:=by rfl) (hz:z=(j:Int):=by first|rfl|omega):Wr n C ops k Q Tl Fs R ((i,0)::L) E F N:=
 r_q (fun a w ha=>by
  subst hz
  have h0:(0:Int)≤(j:Int):=by omega
  have h1:s[j]? = some c:=by
   obtain ⟨hlt,he⟩:=List.getElem?_eq_some_iff.1 hc
   have hlt':j<s.size:=by simpa using hlt
   rw [getElem?_pos s j hlt']
   exact congrArg some he
  simp only [execOp,ha.ev (x:=x) (by rw [ZK];exact hx),ha.ev (x:=y) (by rw [ZK];exact hy),Instr.index,asIntOf,Yw hts hrs,Sem.run_bind,Result.andThen,Sem.run_pure,if_pos h0,Int.toNat_natCast,h1]) nx ho hw
end
def orW (a b:Int):Int:=IntKind.u32.wrap (BitVec.ofInt IntKind.u32.bits a ||| BitVec.ofInt IntKind.u32.bits b).toNat
def shW (a b:Int):Int:=IntKind.u32.wrap (a * 2 ^ (min b.toNat IntKind.u32.bits))
def wb (c:UInt8):Int:=IntKind.u32.wrap (c.toNat:Int)
def wv (c0 c1 c2 c3:UInt8):Int:=orW (orW (orW (wb c0) (shW (wb c1) 8)) (shW (wb c2) 16)) (shW (wb c3) 24)
def wd (s:ByteArray) (i:Nat):Int:=wv (s.data.toList.getD (4 * i) 0) (s.data.toList.getD (4 * i+1) 0) (s.data.toList.getD (4 * i+2) 0) (s.data.toList.getD (4 * i+3) 0)
abbrev u32f:Int→List Value:=fun z=>[.int .u32 z]
def rgV (g:List Int):Value:=.agg (g.flatMap u32f).toArray
def rgs (s:ByteArray):List Int:=[wd s 0,wd s 1,wd s 2,wd s 3,wd s 4,wd s 5,wd s 6,wd s 7,wd s 8]
def rg0:List Int:=[0,0,0,0,0,0,0,0,0]
theorem cpuWord_ok (s:ByteArray) (b i:Nat) (hi:i≤8) (hs:s.size=36):Enters 99∧Spec prog 99 #[.int .i64 (i:Int),.pointer (some ⟨b,0,none⟩)] [] [Pt b (.cells #[.string s] 9)]
  ⟨Unit,fun _=>.int .u32 (wd s i),fun _=>True,fun _=>[],fun _=>[Pt b (.cells #[.string s] 9)]⟩:=by
 have w1:IntKind.i64.wrap ((i:Int) * 4)=((4 * i:Nat):Int):=by rw [wrapi (by omega) (by omega)];omega
 have hl:s.data.toList.length=36:=by simpa using hs
 have g:∀j,j<4→(s.extract (4 * i) s.size).data.toList[j]? = some (s.data.toList.getD (4 * i+j) 0):=fun j hj=>by
  have e:(s.extract (4 * i) s.size).data.toList=s.data.toList.drop (4 * i):=by
   rw [ByteArray.data_extract,Array.toList_extract,List.extract_eq_drop_take',List.take_of_length_le (by simp)]
  rw [e,List.getElem?_drop,List.getD_eq_getElem?_getD,List.getElem?_eq_getElem (by omega)]
  rfl
 have g0:=g 0 (by decide)
 have g1:=g 1 (by decide)
 have g2:=g 2 (by decide)
 have g3:=g 3 (by decide)
 rw [Nat.add_zero] at g0
 have hle:4 * i≤s.size:=by omega
 unfold wd
 generalize s.data.toList.getD (4 * i) 0=a0 at *
 generalize s.data.toList.getD (4 * i+1) 0=a1 at *
 generalize s.data.toList.getD (4 * i+2) 0=a2 at *
 generalize s.data.toList.getD (4 * i+3) 0=a3 at *
 refine ZI [_,_] func99 ntmps99 fun G w hp=>?_
 repeat' (first|refine ZC ?_|refine ZB ?_|refine ZD ?_|refine ZR ?_|refine Zv ?_|refine Zw ?_|rw [w1]|refine l_send (4 * i) hle ?_|refine r_six 0 a0 g0 ?_|refine r_six 1 a1 g1 ?_|refine r_six 2 a2 g2 ?_|refine r_six 3 a3 g3 ?_|refine Zb 2 [] [(0,0),(1,0),(2,0),(3,0),(4,0),(5,0),(6,0),(7,0),(8,0),(9,0),(10,0),(11,0),(12,0),(13,0),(14,0),(15,0),(16,0),(17,0),(18,0)] [] ?_|fail)
 exact ZF () rfl trivial
set_option maxHeartbeats 1000000 in
theorem YW (s:ByteArray):Enters 45∧Spec prog 45 #[.string s] [] [] (RetV (.tuple #[rgV (if s.size=36 then rgs s else rg0),.int .i64 (if s.size<36 then 4 else if 36<s.size then 5 else 0)])):=by
 by_cases h1:s.size<36
 ·rw [if_neg (by omega),if_pos h1]
  refine ZI [_] func45 ntmps45 fun G w hp=>?_
  repeat' (first|refine ZC ?_|refine ZB ?_|refine ZD ?_|refine ZR ?_|refine ZV ?_|refine ZO (fun b=>?_)|(refine ZJ (fun hc=>?_) (fun hc=>?_)<;>(try simp at hc)<;>(try omega))|fail)
  exact ZF () rfl trivial
 by_cases h2:36<s.size
 ·rw [if_neg (by omega),if_neg h1,if_pos h2]
  refine ZI [_] func45 ntmps45 fun G w hp=>?_
  repeat' (first|refine ZC ?_|refine ZB ?_|refine ZD ?_|refine ZR ?_|refine ZV ?_|refine ZO (fun b=>?_)|(refine ZJ (fun hc=>?_) (fun hc=>?_)<;>(try simp at hc)<;>(try omega))|fail)
  exact ZF () rfl trivial
 have hs:s.size=36:=by omega
 rw [if_pos hs,if_neg h1,if_neg h2]
 have n1:=fun b i hi=>cpuWord_ok s b i hi hs
 have n8:=fun b=>n1 b 8 (by decide)
 unfold rgs
 generalize wd s=ww at *
 refine ZI [_] func45 ntmps45 fun G w hp=>?_
 repeat' (first|refine ZC ?_|refine ZB ?_|refine ZD ?_|refine ZR ?_|refine ZO (fun b=>?_)|(refine ZJ (fun hc=>?_) (fun hc=>?_)<;>(try simp at hc)<;>(try omega))|fail)
 rename_i b1 b2 _
 refine k_ptc (b:=b) (.cells (((List.range 9).map fun j=>if j<0 then ww j else 0).flatMap u32f).toArray 58 (0,0)) rfl ?_
 refine k_lp (X:={i:Nat // i≤8}) (fun i=>[(2,.pointer (some ⟨b2,0,none⟩)),(4,.func (.func 99) #[] #[.pointer (some ⟨b1,0,none⟩)]),(5,.pointer (some ⟨b,0,none⟩)),(16,.int .i64 (i.1:Int))]) (fun _=>[])
  (fun i=>[Pt b1 (.cells #[.string s] 9),Pt b2 (.cells #[.int .u32 0,.int .u32 0,.int .u32 0,.int .u32 0,.int .u32 0,.int .u32 0,.int .u32 0,.int .u32 0,.int .u32 0] 58),Ar 58 u32f b ((List.range 9).map fun j=>if j<i.1 then ww j else 0)]) (fun i=>8 - i.1) ⟨0,by omega⟩ ⟨rfl,rfl,rfl,rfl,trivial⟩ ?_
 rintro ⟨i,hi⟩
 dsimp only
 by_cases hlt:i<8
 ·have n2:=fun b=>n1 b i hi
  have hg:((List.range 9).map fun j=>if j<i then ww j else 0)[i]? = some 0:=by
   rw [List.getElem?_map,List.getElem?_range (by omega)];simp
  have hset:((List.range 9).map fun j=>if j<i then ww j else 0).set i (ww i)=(List.range 9).map fun j=>if j<i+1 then ww j else 0:=by
   apply List.ext_getElem?
   intro k
   rw [List.getElem?_set]
   by_cases hk:k<9
   ·by_cases hik:i=k
    ·subst hik
     rw [if_pos rfl,if_pos (by simp;omega),List.getElem?_map,List.getElem?_range hk];simp
    ·rw [if_neg hik,List.getElem?_map,List.getElem?_map,List.getElem?_range hk]
     have:k<i↔k<i+1:=by omega
     simp [this]
   ·rw [if_neg (by omega),List.getElem?_eq_none (by simp;omega),List.getElem?_eq_none (by simp;omega)]
  repeat' (first|refine ZC ?_|refine ZB ?_|refine ZD ?_|refine Xw (n2 _) (fun _ _=>?_)|refine l_ixA (m:=8) i hlt ?_|refine l_stA 1 i 0 (ww i) hg ?_ (ho:=by show 0+i * 1=i * 1+0;omega)|(refine ZJ (fun hc=>?_) (fun hc=>?_)<;>(try simp at hc)<;>(try omega))|fail)
  rw [hset,wrapi (z:=(i:Int)+1) (by omega) (by omega)]
  exact Zi ⟨i+1,by omega⟩ (by show 8 - (i+1)<8 - i;omega) ⟨rfl,rfl,rfl,rfl,trivial⟩
 ·obtain rfl:i=8:=by omega
  refine k_ptc (b:=b) (o:=.cells (((List.range 9).map fun j=>if j<8 then ww j else 0).flatMap u32f).toArray 58 (0,0)) (.cells #[.int .u32 (ww 0),.int .u32 (ww 1),.int .u32 (ww 2),.int .u32 (ww 3),.int .u32 (ww 4),.int .u32 (ww 5),.int .u32 (ww 6),.int .u32 (ww 7),.int .u32 0] 58) rfl ?_
  repeat' (first|refine ZC ?_|refine ZB ?_|refine ZD ?_|refine ZR ?_|refine ZV ?_|refine ZG ?_|refine Zj ?_|refine Xw (n8 _) (fun _ _=>?_)|fail)
  exact ZF () rfl trivial
section
variable (b:Nat) (ps:Option Addr) (es:Al) (rs:List (Nm×Ch)) (cs:List Ch) (who:ByteArray)
theorem XX {who:ByteArray} (h:lvalid who.data.toList=true):nchk (rnm who)=0:=by
 have h2:isE ⟨#[]⟩=true:=by simp [isE]
 rw [nchk,if_pos (by simp [rnm])]
 show uchk ⟨_,true,false,false,false,0⟩ (rnm who)=0
 simp [uchk,rnm,h,h2]
abbrev rgZ:Value:=.agg #[.int .u32 0,.int .u32 0,.int .u32 0,.int .u32 0,.int .u32 0,.int .u32 0,.int .u32 0,.int .u32 0,.int .u32 0]
theorem regsBad_ok (hw:who.size≤1000) (hv:lvalid who.data.toList=false):Enters 27∧Spec prog 27 #[.pointer (some ⟨b,0,none⟩),.string who] [] [] (RetV (.tuple #[rgZ,.int .i64 12])):=by
 have n1:=ZY who (by omega)
 rw [hv] at n1
 refine ZI [_,_] func27 ntmps27 fun G w hp=>?_
 repeat' (first|refine ZC ?_|refine ZB ?_|refine ZD ?_|refine ZV ?_|refine ZO (fun b=>?_)|refine ZL ?_|refine ZG ?_|refine ZA (n1) (fun _ _=>?_)|fail)
 exact ZF () rfl trivial
theorem setRegsBad_ok (hw:who.size≤1000) (hv:lvalid who.data.toList=false) (a1 a2 a3 a4 a5 a6 a7 a8 a9:Int):Enters 23∧Spec prog 23 #[.pointer (some ⟨b,0,none⟩),.string who,.agg #[.int .u32 a1,.int .u32 a2,.int .u32 a3,.int .u32 a4,.int .u32 a5,.int .u32 a6,.int .u32 a7,.int .u32 a8,.int .u32 a9]] [] [] (RetV (.int .i64 12)):=by
 have n1:=ZY who (by omega)
 rw [hv] at n1
 refine ZI [_,_,_] func23 ntmps23 fun G w hp=>?_
 repeat' (first|refine ZC ?_|refine ZB ?_|refine ZD ?_|refine ZO (fun b=>?_)|refine ZL ?_|refine ZG ?_|refine ZA (n1) (fun _ _=>?_)|fail)
 exact ZF () rfl trivial
theorem regs_ok (hw:who.size≤1000) (hv:lvalid who.data.toList=true) (s:ByteArray) (hg:vget es cs (rnm who)=(s,true)):Enters 27∧Spec prog 27 #[.pointer (some ⟨b,0,none⟩),.string who] [St ps es,Usg] [Vw b ps rs cs]
  ⟨Unit,fun _=>.tuple #[rgV (if s.size=36 then rgs s else rg0),.int .i64 (if s.size=36 then 0 else 3)],fun _=>True,fun _=>[],fun _=>[Vw b ps (vread es rs cs (rnm who)) cs]⟩:=by
 have n1:=ZY who (by omega)
 rw [hv] at n1
 have n2:=Zx who
 have n3:=YZ b ps es rs cs (rnm who) (by show who.size≤_;omega) (Nat.zero_le _)
 rw [hg] at n3
 have n4:=YW s
 generalize b=bv at *
 by_cases h:s.size=36
 ·rw [if_pos h,if_neg (by omega),if_neg (by omega)] at n4
  rw [if_pos h,if_pos h]
  generalize wd s=ww at *
  simp only [rgs,rgV] at n4 ⊢
  refine ZI [_,_] func27 ntmps27 fun G w hp=>?_
  repeat' (first|refine ZC ?_|refine ZB ?_|refine ZD ?_|refine ZR ?_|refine ZV ?_|refine ZO (fun b=>?_)|refine ZG ?_|refine ZA (n1) (fun _ _=>?_)|refine ZA (n2) (fun _ _=>?_)|refine ZA (n3) (fun _ _=>?_)|refine ZA (n4) (fun _ _=>?_)|fail)
  exact ZF () rfl trivial
 ·have he:(if s.size<36 then (4:Int) else if 36<s.size then 5 else 0)≠0:=by
   by_cases h1:s.size<36
   ·rw [if_pos h1];decide
   ·rw [if_neg h1,if_pos (by omega)];decide
  generalize (if s.size<36 then (4:Int) else if 36<s.size then 5 else 0)=e at *
  rw [if_neg h] at n4
  rw [if_neg h,if_neg h]
  refine ZI [_,_] func27 ntmps27 fun G w hp=>?_
  repeat' (first|refine ZC ?_|refine ZB ?_|refine ZD ?_|refine ZV ?_|refine ZO (fun b=>?_)|refine ZG ?_|refine ZA (n1) (fun _ _=>?_)|refine ZA (n2) (fun _ _=>?_)|refine ZA (n3) (fun _ _=>?_)|refine ZA (n4) (fun _ _=>?_)|(refine ZJ (fun hc=>?_) (fun hc=>?_)<;>(try simp at hc)<;>(try omega))|fail)
  exact ZF () rfl trivial
theorem getBad_ok (hw:who.size≤1000) (hv:lvalid who.data.toList=false):Enters 39∧Spec prog 39 #[.pointer (some ⟨b,0,none⟩),.string who] [] [] (RetV (.tuple #[Pr.z.v none 0,.int .i64 12])):=by
 have n1:=ZY who (by omega)
 rw [hv] at n1
 refine ZI [_,_] func39 ntmps39 fun G w hp=>?_
 repeat' (first|refine ZC ?_|refine ZB ?_|refine ZD ?_|refine ZV ?_|refine ZO (fun b=>?_)|refine ZL ?_|refine ZG ?_|refine ZA (n1) (fun _ _=>?_)|fail)
 exact ZF () rfl trivial
theorem Yq (p:Pr) (o:Option Addr) (c:Nat) (hw:who.size≤1000) (hv:lvalid who.data.toList=false∨isE who=true):Enters 40∧Spec prog 40 #[.pointer (some ⟨b,0,none⟩),.string who,p.v o c] [] [] (RetV (.int .i64 12)):=by
 have n1:=ZY who (by omega)
 obtain ⟨x1,x2,x3,x4,x5,xs,x7,x8,⟨x9,x10⟩,x11⟩:=p
 simp only [Pr.v]
 cases hE:isE who with
 | true=>
  have hE':(who.toList == (⟨#[]⟩:ByteArray).toList)=true:=hE
  refine ZI [_,_,_] func40 ntmps40 fun G w hp=>?_
  repeat' (first|refine ZC ?_|refine ZB ?_|refine ZS ?_|refine ZD ?_|refine ZO (fun b=>?_)|refine ZL ?_|refine ZG ?_|rw [hE']|fail)
  exact ZF () rfl trivial
 | false=>
  have hE':(who.toList == (⟨#[]⟩:ByteArray).toList)=false:=hE
  rw [hE] at hv
  simp at hv
  rw [hv] at n1
  refine ZI [_,_,_] func40 ntmps40 fun G w hp=>?_
  repeat' (first|refine ZC ?_|refine ZB ?_|refine ZS ?_|refine ZD ?_|refine ZO (fun b=>?_)|refine ZL ?_|refine ZG ?_|refine ZA (n1) (fun _ _=>?_)|rw [hE']|fail)
  exact ZF () rfl trivial
theorem WN (hw:who.size≤1000) (hv:lvalid who.data.toList=true) (s:ByteArray) (hs:s.size≤1000000) (hg:vget es cs (pnm who)=(s,true)) (hn:vget es cs enm=(⟨#[]⟩,false)) :
  Enters 39∧Spec prog 39 #[.pointer (some ⟨b,0,none⟩),.string who] [St ps es,Usg] [Vw b ps rs cs]
  (match pdec s with
   | none=>⟨List (Nm×Ch),fun _=>.tuple #[Pr.z.v none 0,.int .i64 3],fun _=>True,fun _=>[],fun r=>[Vw b ps r cs]⟩
   | some q=>if q.ep=0 then ⟨(Option Addr×Nat)×List (Nm×Ch),fun r=>.tuple #[q.v r.1.1 r.1.2,.int .i64 0],fun _=>True,fun r=>[Sl 3 zf r.1.1 r.1.2 q.gs],fun r=>[Vw b ps r.2 cs]⟩
    else ⟨List (Nm×Ch),fun _=>.tuple #[Pr.z.v none 0,.int .i64 8],fun _=>True,fun _=>[],fun r=>[Vw b ps r cs]⟩):=by
 have n0:=ZY who (by omega)
 rw [hv] at n0
 have n1:=YZ b ps es rs cs (pnm who) (by show who.size≤_;omega) (Nat.zero_le _)
 rw [hg] at n1
 have n2:=Zt who
 have n3:=Zu s (by omega)
 have n5:=WK b ps es (vread es rs cs (pnm who)) cs hn
 generalize vread es (vread es rs cs (pnm who)) cs enm=rs3 at *
 generalize vread es rs cs (pnm who)=rs2 at *
 generalize b=bv at *
 cases hd:pdec s with
 | none=>
  simp only [hd,Option.getD_none,Option.isSome_none,Bool.false_eq_true,if_false] at n3
  have n4:Enters 95∧Spec prog 95 #[.pointer (some ⟨bv,0,none⟩),.string who] [St ps es,Usg] [Vw bv ps rs cs] ⟨Option Addr×Nat,fun r=>.tuple #[Pr.z.v r.1 r.2,.int .i64 3],fun _=>True,fun _=>[],fun _=>[Vw bv ps rs2 cs]⟩:=by
   refine ZI [_,_] func95 ntmps95 fun G w hp=>?_
   repeat' (first|refine ZC ?_|refine ZB ?_|refine ZD ?_|refine ZV ?_|refine ZO (fun b=>?_)|refine ZG ?_|refine ZA (n1) (fun _ _=>?_)|refine ZA (n2) (fun _ _=>?_)|refine ZA (n3) (fun _ _=>?_)|fail)
   rename_i r _
   exact ZF r rfl trivial
  dsimp only
  refine ZI [_,_] func39 ntmps39 fun G w hp=>?_
  repeat' (first|refine ZC ?_|refine ZB ?_|refine ZD ?_|refine ZV ?_|refine ZO (fun b=>?_)|refine ZL ?_|refine ZG ?_|refine ZA (n0) (fun _ _=>?_)|refine ZA (n4) (fun _ _=>?_)|fail)
  exact ZF (post:=⟨List (Nm×Ch),fun _=>.tuple #[Pr.z.v none 0,.int .i64 3],fun _=>True,fun _=>[],fun r=>[Vw bv ps r cs]⟩) rs2 rfl trivial
 | some q=>
  simp only [hd,Option.getD_some,Option.isSome_some,if_true] at n3
  have n4:Enters 95∧Spec prog 95 #[.pointer (some ⟨bv,0,none⟩),.string who] [St ps es,Usg] [Vw bv ps rs cs] ⟨Option Addr×Nat,fun r=>.tuple #[q.v r.1 r.2,.int .i64 0],fun _=>True,fun r=>[Sl 3 zf r.1 r.2 q.gs],fun _=>[Vw bv ps rs2 cs]⟩:=by
   refine ZI [_,_] func95 ntmps95 fun G w hp=>?_
   repeat' (first|refine ZC ?_|refine ZB ?_|refine ZD ?_|refine ZV ?_|refine ZO (fun b=>?_)|refine ZG ?_|refine ZA (n1) (fun _ _=>?_)|refine ZA (n2) (fun _ _=>?_)|refine ZA (n3) (fun _ _=>?_)|fail)
   rename_i r _
   exact ZF (post:=⟨Option Addr×Nat,fun r=>.tuple #[q.v r.1 r.2,.int .i64 0],fun _=>True,fun r=>[Sl 3 zf r.1 r.2 q.gs],fun _=>[Vw bv ps rs2 cs]⟩) r rfl trivial
  obtain ⟨u1,u2,u3,u4,u5,us,u7,u8,⟨u9,u10⟩,u11⟩:=q
  dsimp only
  simp only [Pr.v] at n4 ⊢
  by_cases he:u4=0
  ·subst he
   rw [if_pos rfl]
   refine ZI [_,_] func39 ntmps39 fun G w hp=>?_
   repeat' (first|refine ZC ?_|refine ZB ?_|refine ZD ?_|refine ZR ?_|refine ZV ?_|refine ZO (fun b=>?_)|refine ZG ?_|refine ZA (n0) (fun _ _=>?_)|refine ZA (n4) (fun _ _=>?_)|refine ZA (n5) (fun _ _=>?_)|fail)
   rename_i r _ _ _
   exact ZF (r,rs3) rfl trivial
  ·rw [if_neg he]
   refine ZI [_,_] func39 ntmps39 fun G w hp=>?_
   repeat' (first|refine ZC ?_|refine ZB ?_|refine ZD ?_|refine ZR ?_|refine ZV ?_|refine ZO (fun b=>?_)|refine ZG ?_|refine ZA (n0) (fun _ _=>?_)|refine ZA (n4) (fun _ _=>?_)|refine ZA (n5) (fun _ _=>?_)|(refine ZJ (fun hc=>?_) (fun hc=>?_)<;>(try simp at hc)<;>(try omega))|fail)
   exact ZF rs3 rfl trivial
theorem XM:Enters 26∧Spec prog 26 #[.pointer (some ⟨b,0,none⟩),.string who,.pointer none] [] [] (RetV (.int .i64 1)):=by
 refine ZI [_,_,_] func26 ntmps26 fun G w hp=>?_
 repeat' (first|refine ZC ?_|refine ZB ?_|refine ZS ?_|refine ZD ?_|refine ZL ?_|fail)
 exact ZF () rfl trivial
end
def En.w (e:En):Value:=.agg #[.string e.who,.int .i64 e.nu,.int .i64 e.tk,.int .i64 e.o.ch,.string e.o.tg,.string e.o.tx,.int .i64 e.o.us]
structure Idn where
 who:ByteArray
 nu:Int
 tk:Int
 deriving DecidableEq
def Idn.v (i:Idn):Value:=.agg #[.string i.who,.int .i64 i.nu,.int .i64 i.tk]
def En.id (e:En):Idn:=⟨e.who,e.nu,e.tk⟩
theorem beqSw (a b:ByteArray):(a.toList == b.toList)=decide (a=b):=by
 rw [Zg,Zg,Bool.eq_iff_iff]
 simp only [beq_iff_eq,decide_eq_true_eq]
 exact ⟨fun h=>Xg h,fun h=>by rw [h]⟩
theorem beqIw (a b:Int):(a == b)=decide (a=b):=by rw [Bool.eq_iff_iff];simp
def cmpT (a b:En):Int:=cmpI a.tk b.tk
section
variable {n:Nat} {C:Cx} {Q:Exit→Act→World→Prop} {E E':List (Nat×Value)} {F F' F1 Fs F0:List Pf} {R R' R0 Rs N N' A:List HP} {k k':List Fr} {ops l:List Oper} {L L':List (Nat×Nat)} {Tl:List Nat} {i d:Nat} {t ty0:TypeId} {x y z:Operand} {pos:String} {aft:Array Edge} {gd:Option (Nat×Bool)} {α β:Type} [DecidableEq α] {K:α→Value} {V:β→Value}
end
theorem eqBi2 (a b:Bi):eqC eqS 20 42 a.v b.v=some (decide (a=b)):=by
 rw [show eqC eqS 20 42 a.v b.v=some ((a.mkr.toList == b.mkr.toList) && ((a.nu == b.nu) && true)) from rfl]
 congr 1
 obtain ⟨a1,a2⟩:=a
 obtain ⟨b1,b2⟩:=b
 simp only [beqSw,beqIw,Bi.mk.injEq]
 rw [Bool.eq_iff_iff];simp
def blv (u:Bool):Value:=.bool u
def svf (s:ByteArray):List Value:=[.string s]
def shP (p:Pr):Pr:={p with sp:=cutS p.sp 80,gs:=p.gs.take 20,dr:={p.dr with mkr:=cutS p.dr.mkr 80}}
theorem Ya (p:Pr) (o:Option Addr) (c:Nat) (hl:p.gs.length≤1099511627776):Enters 15∧Spec prog 15 #[p.v o c] [Sl 3 zf o c p.gs] []
  ⟨Option Addr,fun o'=>(shP p).v o' c,fun _=>True,fun o'=>[Sl 3 zf o' c (shP p).gs],fun _=>[]⟩:=by
 have hm:(if (20:Int)<(p.gs.length:Int) then (20:Int) else (p.gs.length:Int))=((min p.gs.length 20:Nat):Int):=by split<;>omega
 obtain ⟨a1,a2,a3,a4,a5,gs,a7,a8,a9,a10⟩:=p
 obtain ⟨b1,b2⟩:=a9
 dsimp only at hl hm
 have ht:gs.take (min gs.length 20)=gs.take 20:=by
  by_cases h:gs.length≤20
  ·rw [Nat.min_eq_left h,List.take_length,List.take_of_length_le h]
  ·rw [Nat.min_eq_right (by omega)]
 refine ZI [_] func15 ntmps15 fun G w hp=>?_
 repeat' (first|refine ZC ?_|refine ZB ?_|refine ZD ?_|refine ZR ?_|refine ZV ?_|refine ZO (fun b=>?_)|refine l_cutS 80 ?_|rw [hm]|refine l_slH (es:=gs) (min gs.length 20) (by omega) (fun o'=>?_)|fail)
 rw [ht]
 exact ZF o' rfl trivial
set_option maxHeartbeats 1000000 in
theorem slEqual_ok (o1 o2:Option Addr) (c1 c2:Nat) (xs ys:List Int) (hx:xs.length≤1099511627776) (hy:ys.length≤1099511627776):Enters 68∧Spec prog 68 #[.slice o1 xs.length c1,.slice o2 ys.length c2] [Sl 3 zf o1 c1 xs,Sl 3 zf o2 c2 ys] [] (RetV (.bool (decide (xs=ys)))):=by
 refine ZI [_,_] func68 ntmps68 fun G w hp=>?_
 by_cases hlen:xs.length=ys.length
 ·repeat' (first|refine ZC ?_|refine ZB ?_|refine ZD ?_|(refine ZJ (fun hc=>?_) (fun hc=>?_)<;>(try simp at hc)<;>(try omega))|fail)
  refine k_lp (X:={i:Nat // i≤xs.length∧xs.take i=ys.take i}) (fun i=>[(0,.slice o1 xs.length c1),(1,.slice o2 ys.length c2),(12,.int .i64 (xs.length:Int)),(13,.int .i64 (i.1:Int))]) (fun _=>[Sl 3 zf o1 c1 xs,Sl 3 zf o2 c2 ys]) (fun _=>[]) (fun i=>xs.length - i.1) ⟨0,by omega,rfl⟩ ⟨rfl,rfl,rfl,rfl,trivial⟩ ?_
  rintro ⟨i,hi1,hi2⟩
  dsimp only
  by_cases hlt:i<xs.length
  ·obtain ⟨a,ha⟩:∃a,xs[i]? = some a:=⟨_,List.getElem?_eq_getElem hlt⟩
   obtain ⟨u,hb⟩:∃u,ys[i]? = some u:=⟨_,List.getElem?_eq_getElem (by omega)⟩
   by_cases hab:a=u
   ·repeat' (first|refine ZC ?_|refine ZB ?_|refine ZD ?_|refine Zv ?_|refine Zw ?_|refine Y9 (es:=xs) i a ha (fun b off=>?_)|refine Y9 (es:=ys) i u hb (fun b off=>?_)|refine r_ldC ?_|refine Zb 6 [] [(0,0),(1,0),(2,0),(3,0),(4,0),(5,0),(6,0),(7,0),(8,0)] [] ?_|(refine ZJ (fun hc=>?_) (fun hc=>?_)<;>(try simp at hc)<;>(try omega))|fail)
    rw [wrapi (z:=(i:Int)+1) (by omega) (by omega)]
    refine Zi ⟨i+1,by omega,?_⟩ (by show xs.length - (i+1)<xs.length - i;omega) ⟨rfl,rfl,rfl,rfl,trivial⟩
    rw [List.take_add_one,List.take_add_one,hi2,ha,hb,hab]
   ·have e:decide (xs=ys)=false:=decide_eq_false fun h=>by
     subst h
     exact hab (Option.some.inj (ha.symm.trans hb))
    repeat' (first|refine ZC ?_|refine ZB ?_|refine ZD ?_|refine Zv ?_|refine Zw ?_|refine Y9 (es:=xs) i a ha (fun b off=>?_)|refine Y9 (es:=ys) i u hb (fun b off=>?_)|refine r_ldC ?_|refine Zb 6 [] [(0,0),(1,0),(2,0),(3,0),(4,0),(5,0),(6,0),(7,0),(8,0)] [] ?_|(refine ZJ (fun hc=>?_) (fun hc=>?_)<;>(try simp at hc)<;>(try omega))|fail)
    exact k_rt (w_lq (w_rv (congrArg Value.bool e) (YO () rfl trivial)))
  ·have e:decide (xs=ys)=true:=decide_eq_true (by
    rw [List.take_of_length_le (by omega),List.take_of_length_le (by omega)] at hi2
    exact hi2)
   rw [e]
   repeat' (first|refine ZC ?_|refine ZB ?_|refine ZD ?_|refine Zj ?_|(refine ZJ (fun hc=>?_) (fun hc=>?_)<;>(try simp at hc)<;>(try omega))|fail)
   exact ZF () rfl trivial
 ·have e:decide (xs=ys)=false:=decide_eq_false fun h=>hlen (by rw [h])
  rw [e]
  repeat' (first|refine ZC ?_|refine ZB ?_|refine ZD ?_|(refine ZJ (fun hc=>?_) (fun hc=>?_)<;>(try simp at hc)<;>(try omega))|fail)
  exact ZF () rfl trivial
theorem pr_eq (p q:Pr):p=q↔((((((((p.kd=q.kd∧p.st=q.st)∧p.cd=q.cd)∧p.ep=q.ep)∧p.us=q.us)∧p.gs=q.gs)∧p.sp=q.sp)∧p.pg=q.pg)∧p.dr=q.dr)∧p.tm=q.tm:=by
 obtain ⟨a1,a2,a3,a4,a5,a6,a7,a8,a9,a10⟩:=p
 obtain ⟨b1,b2,b3,b4,b5,b6,b7,b8,b9,b10⟩:=q
 simp only [Pr.mk.injEq]
 constructor
 ·rintro ⟨h1,h2,h3,h4,h5,h6,h7,h8,h9,h10⟩;exact ⟨⟨⟨⟨⟨⟨⟨⟨⟨h1,h2⟩,h3⟩,h4⟩,h5⟩,h6⟩,h7⟩,h8⟩,h9⟩,h10⟩
 ·rintro ⟨⟨⟨⟨⟨⟨⟨⟨⟨h1,h2⟩,h3⟩,h4⟩,h5⟩,h6⟩,h7⟩,h8⟩,h9⟩,h10⟩;exact ⟨h1,h2,h3,h4,h5,h6,h7,h8,h9,h10⟩
set_option maxHeartbeats 4000000 in
theorem Yl (p q:Pr) (o1 o2:Option Addr) (c1 c2:Nat) (h1:p.gs.length≤1099511627776) (h2:q.gs.length≤1099511627776):Enters 19∧Spec prog 19 #[p.v o1 c1,q.v o2 c2] [Sl 3 zf o1 c1 p.gs,Sl 3 zf o2 c2 q.gs] [] (RetV (.bool (decide (p=q)))):=by
 have n1:=slEqual_ok o1 o2 c1 c2 p.gs q.gs h1 h2
 have he:=pr_eq p q
 have hsp:(p.sp.toList == q.sp.toList)=decide (p.sp=q.sp):=beqSv _ _
 have hdr:=eqBi2 p.dr q.dr
 generalize hr:decide (p=q)=r
 obtain ⟨a1,a2,a3,a4,a5,gs,a7,a8,a9,a10⟩:=p
 obtain ⟨b1,b2,b3,b4,b5,gs',b7,b8,b9,b10⟩:=q
 dsimp only at *
 obtain ⟨d1,d2⟩:=a9
 obtain ⟨e1,e2⟩:=b9
 simp only [Bi.v] at hdr
 refine ZI [_,_] func19 ntmps19 fun G w hp=>?_
 repeat' (first|refine l_seq ?_ (he:=hdr)|refine ZC ?_|refine ZB ?_|refine ZS ?_|refine ZD ?_|refine ZR ?_|refine ZO (fun b=>?_)|refine ZA (n1) (fun _ _=>?_)|rw [hsp]|(refine ZN (fun hc=>?_) (fun hc=>?_)<;>(try simp at hc)<;>(try omega))|fail)
 all_goals (
  refine ZF () ?_ trivial
  clear n1 hsp hdr
  refine congrArg Value.bool ?_
  rw [←hr,Bool.eq_iff_iff,decide_eq_true_iff,he]
  simp_all)
abbrev nilW:Value:=.pointer none
abbrev zPr:Value:=.agg #[.int .i64 0,.int .i64 0,.int .i64 0,.int .i64 0,.int .i64 0,.slice none 0 0,.string ⟨#[]⟩,.int .i64 0,.string ⟨#[]⟩,.int .i64 0,.int .i64 0]
theorem wGet_ok (s:ByteArray):Enters 39∧Spec prog 39 #[nilW,.string s] [] [] (RetV (.tuple #[zPr,.int .i64 1])):=by
 refine ZI [_,_] func39 ntmps39 fun G w hp=>?_
 repeat' (first|refine ZC ?_|refine ZB ?_|refine ZD ?_|refine ZV ?_|refine ZO (fun b=>?_)|refine ZL ?_|fail)
 exact ZF () rfl trivial
theorem XH (s:ByteArray):Enters 92∧Spec prog 92 #[nilW,.string s] [] [] (RetV (.tuple #[zPr,.int .i64 1])):=by
 have n1:=wGet_ok s
 refine ZI [_,_] func92 ntmps92 fun G w hp=>?_
 repeat' (first|refine ZC ?_|refine ZB ?_|refine ZD ?_|refine ZV ?_|refine ZO (fun b=>?_)|refine ZL ?_|refine ZA (n1) (fun _ _=>?_)|fail)
 exact ZF () rfl trivial
theorem X5 (s:ByteArray):Enters 34∧Spec prog 34 #[nilW,.string s] [] [] (RetV (.bool false)):=by
 have n1:=XH s
 refine ZI [_,_] func34 ntmps34 fun G w hp=>?_
 repeat' (first|refine ZC ?_|refine ZB ?_|refine ZD ?_|refine ZV ?_|refine ZO (fun b=>?_)|refine ZA (n1) (fun _ _=>?_)|fail)
 exact ZF () rfl trivial
theorem Yy:Enters 35∧Spec prog 35 #[nilW] [] [] (RetV (.tuple #[.int .i64 0,.int .i64 1])):=by
 refine ZI [_] func35 ntmps35 fun G w hp=>?_
 repeat' (first|refine ZC ?_|refine ZB ?_|refine ZD ?_|refine ZL ?_|fail)
 exact ZF () rfl trivial
theorem wBoot_ok:Enters 90∧Spec prog 90 #[nilW] [] [] (RetV (.tuple #[.int .i64 0,.int .i64 1])):=by
 have n1:=Yy
 refine ZI [_] func90 ntmps90 fun G w hp=>?_
 repeat' (first|refine ZC ?_|refine ZB ?_|refine ZD ?_|refine ZL ?_|refine ZA (n1) (fun _ _=>?_)|fail)
 exact ZF () rfl trivial
theorem wSpawn_ok (s:ByteArray) (sh:Bool):Enters 52∧Spec prog 52 #[nilW,.string s,.bool sh] [] [] (RetV (.tuple #[.string ⟨#[]⟩,.int .i64 1])):=by
 have n1:=XH s
 refine ZI [_,_,_] func52 ntmps52 fun G w hp=>?_
 repeat' (first|refine ZC ?_|refine ZB ?_|refine ZD ?_|refine ZV ?_|refine ZO (fun b=>?_)|refine ZL ?_|refine ZA (n1) (fun _ _=>?_)|fail)
 exact ZF () rfl trivial
theorem wFork_ok (s:ByteArray):Enters 11∧Spec prog 11 #[nilW,.string s] [] [] (RetV (.tuple #[.string ⟨#[]⟩,.int .i64 1])):=by
 have n1:=fun sh=>wSpawn_ok s sh
 refine ZI [_,_] func11 ntmps11 fun G w hp=>?_
 repeat' (first|refine ZC ?_|refine ZB ?_|refine ZD ?_|refine ZA (n1 _) (fun _ _=>?_)|fail)
 exact ZF () rfl trivial
theorem wThread_ok (s:ByteArray):Enters 29∧Spec prog 29 #[nilW,.string s] [] [] (RetV (.tuple #[.string ⟨#[]⟩,.int .i64 1])):=by
 have n1:=fun sh=>wSpawn_ok s sh
 refine ZI [_,_] func29 ntmps29 fun G w hp=>?_
 repeat' (first|refine ZC ?_|refine ZB ?_|refine ZD ?_|refine ZA (n1 _) (fun _ _=>?_)|fail)
 exact ZF () rfl trivial
theorem wChange_ok (s:ByteArray) (f:FuncId) (cs:Array Value):Enters 56∧Spec prog 56 #[nilW,.string s,.func (.func f) #[] cs] [] [] (RetV (.int .i64 1)):=by
 have n1:=XH s
 refine ZI [_,_,_] func56 ntmps56 fun G w hp=>?_
 repeat' (first|refine ZC ?_|refine ZB ?_|refine ZD ?_|refine ZV ?_|refine ZO (fun b=>?_)|refine ZL ?_|refine ZA (n1) (fun _ _=>?_)|fail)
 exact ZF () rfl trivial
theorem wExit_ok (s:ByteArray) (z:Int):Enters 13∧Spec prog 13 #[nilW,.string s,.int .i64 z] [] [] (RetV (.int .i64 1)):=by
 have n1:=fun f cs=>wChange_ok s f cs
 refine ZI [_,_,_] func13 ntmps13 fun G w hp=>?_
 repeat' (first|refine ZC ?_|refine ZB ?_|refine ZD ?_|refine ZO (fun b=>?_)|refine ZA (n1 _ _) (fun _ _=>?_)|fail)
 exact ZF () rfl trivial
theorem wWait_ok (s:ByteArray) (z:Int):Enters 14∧Spec prog 14 #[nilW,.string s,.int .i64 z] [] [] (RetV (.tuple #[.int .i64 0,.int .i64 1])):=by
 have n1:=wGet_ok s
 refine ZI [_,_,_] func14 ntmps14 fun G w hp=>?_
 repeat' (first|refine ZC ?_|refine ZB ?_|refine ZD ?_|refine ZV ?_|refine ZO (fun b=>?_)|refine ZL ?_|refine ZA (n1) (fun _ _=>?_)|fail)
 exact ZF () rfl trivial
theorem wStart_ok (s:ByteArray) (p:Pr) (o:Option Addr) (c:Nat):Enters 40∧Spec prog 40 #[nilW,.string s,p.v o c] [] [] (RetV (.int .i64 1)):=by
 obtain ⟨x1,x2,x3,x4,x5,xs,x7,x8,⟨x9,x10⟩,x11⟩:=p
 simp only [Pr.v]
 refine ZI [_,_,_] func40 ntmps40 fun G w hp=>?_
 repeat' (first|refine ZC ?_|refine ZB ?_|refine ZD ?_|refine ZO (fun b=>?_)|refine ZL ?_|fail)
 exact ZF () rfl trivial
theorem wSetP_ok (s:ByteArray) (p:Pr) (o:Option Addr) (c:Nat):Enters 88∧Spec prog 88 #[nilW,.string s,p.v o c] [] [] (RetV (.int .i64 1)):=by
 obtain ⟨x1,x2,x3,x4,x5,xs,x7,x8,⟨x9,x10⟩,x11⟩:=p
 simp only [Pr.v]
 refine ZI [_,_,_] func88 ntmps88 fun G w hp=>?_
 repeat' (first|refine ZC ?_|refine ZB ?_|refine ZD ?_|refine ZO (fun b=>?_)|refine ZL ?_|fail)
 exact ZF () rfl trivial
theorem wMemOf_ok (s:ByteArray):Enters 74∧Spec prog 74 #[nilW,.string s] [] [] (RetV (.tuple #[zPr,zPr,.int .i64 1])):=by
 have n1:=wGet_ok s
 refine ZI [_,_] func74 ntmps74 fun G w hp=>?_
 repeat' (first|refine ZC ?_|refine ZB ?_|refine ZD ?_|refine ZV ?_|refine ZO (fun b=>?_)|refine ZL ?_|refine ZA (n1) (fun _ _=>?_)|fail)
 exact ZF () rfl trivial
theorem wMemory_ok (s:ByteArray):Enters 24∧Spec prog 24 #[nilW,.string s] [] [] (RetV (.tuple #[nilW,.int .i64 1])):=by
 have n1:=wMemOf_ok s
 refine ZI [_,_] func24 ntmps24 fun G w hp=>?_
 repeat' (first|refine ZC ?_|refine ZB ?_|refine ZD ?_|refine ZR ?_|refine ZV ?_|refine ZO (fun b=>?_)|refine ZL ?_|refine ZA (n1) (fun _ _=>?_)|fail)
 exact ZF () rfl trivial
theorem wGrow_ok (s:ByteArray) (z:Int):Enters 31∧Spec prog 31 #[nilW,.string s,.int .i64 z] [] [] (RetV (.tuple #[.int .i64 0,.int .i64 1])):=by
 refine ZI [_,_,_] func31 ntmps31 fun G w hp=>?_
 repeat' (first|refine ZC ?_|refine ZB ?_|refine ZD ?_|refine ZL ?_|fail)
 exact ZF () rfl trivial
theorem wLoad_ok (s c1 c2:ByteArray) (z1 z2:Int):Enters 89∧Spec prog 89 #[nilW,.string s,.agg #[.string c1,.string c2,.int .i64 z1,.int .i64 z2]] [] [] (RetV (.int .i64 1)):=by
 refine ZI [_,_,_] func89 ntmps89 fun G w hp=>?_
 repeat' (first|refine ZC ?_|refine ZB ?_|refine ZD ?_|refine ZO (fun b=>?_)|refine ZL ?_|fail)
 exact ZF () rfl trivial
theorem wSetRegs_ok (s:ByteArray) (g:List Int) (h:g.length=9):Enters 23∧Spec prog 23 #[nilW,.string s,rgV g] [] [] (RetV (.int .i64 1)):=by
 obtain _|⟨a1,_|⟨a2,_|⟨a3,_|⟨a4,_|⟨a5,_|⟨a6,_|⟨a7,_|⟨a8,_|⟨a9,_|⟨a10,l⟩⟩⟩⟩⟩⟩⟩⟩⟩⟩:=g
 all_goals try (simp at h;done)
 refine ZI [_,_,_] func23 ntmps23 fun G w hp=>?_
 repeat' (first|refine ZC ?_|refine ZB ?_|refine ZD ?_|refine ZO (fun b=>?_)|refine ZL ?_|fail)
 exact ZF () rfl trivial
section
variable {n:Nat} {C:Cx} {Q:Exit→Act→World→Prop} {E E':List (Nat×Value)} {F F' F1 Fs F0:List Pf} {R R' R0 Rs N N' A:List HP} {k k':List Fr} {ops l:List Oper} {L L':List (Nat×Nat)} {Tl:List Nat} {i d:Nat} {t ty0:TypeId} {x y:Operand} {pos:String} {aft:Array Edge} {gd:Option (Nat×Bool)} {b off:Nat} {cs:Array Value} {ty:TypeId} {fzn:Nat×Nat} {v:Value}
theorem run_indexAtK {T sz:Nat} {o:Option Addr} {m cap i:Nat} {w:World} {rs tr:TRow} (hts:lookT tab t=some rs) (hrs:rs.k = .slice T) (hT:lookT tab T=some tr) (hsz:tr.size=sz) {z:Int} {kd:IntKind} (hz:z=(i:Int)) (hi:i<m) {p:Addr} (ho:o.map (·.add (i * sz))=some p) :
  (Instr.indexAt t (.slice o m cap) (.int kd z)).run prog w = .ok (.pointer (some p)) w:=by
 obtain ⟨d1,hd1,hk1⟩:=ZZ.und hts
 rw [hrs] at hk1
 have hu1:(underlying t).run prog w = .ok (.slice T) w:=by
  cases d1<;>simp [chkKind] at hk1
  subst hk1
  simp [underlying,hd1,go_sem]
 have hs1:=ZZ.sizeOf hT w
 rw [hsz] at hs1
 cases o with
 | none=>cases ho
 | some a=>
  subst hz
  simp only [Option.map_some,Option.some.injEq] at ho
  unfold Instr.indexAt
  simp only [asIntOf,Sem.run_bind,Sem.run_pure,Result.andThen,hu1]
  have hc:(0:Int)≤(i:Int)∧(i:Int)<((m:Nat):Int):=⟨by omega,by omega⟩
  rw [if_pos hc]
  simp only [Sem.run_bind,hs1,Result.andThen,Sem.run_pure,Int.toNat_natCast,ho]
theorem r_ixPK {T sz m cap:Nat} {z:Int} {kd:IntKind} {rs tr:TRow} (j:Nat) (hlt:j<m) (nx:Wr n C ops k Q Tl Fs R L ((d,.pointer (some ⟨b,j * sz,none⟩))::E) F N)
  (ho:nth ops i=some ⟨some d,.indexAddr t x y,ty0,pos,aft,gd⟩:=by rfl) (hw:wantL ops E ⟨some d,.indexAddr t x y,ty0,pos,aft,gd⟩=some true:=by rfl) (hx:ev E x=some (.slice (some ⟨b,0,none⟩) m cap):=by rfl) (hy:ev E y=some (.int kd z):=by rfl)
  (hts:lookT tab t=some rs:=by rfl) (hrs:rs.k = .slice T:=by rfl) (hT:lookT tab T=some tr:=by rfl) (hsz:tr.size=sz:=by rfl) (hz:z=(j:Int):=by first|rfl|omega):Wr n C ops k Q Tl Fs R ((i,0)::L) E F N:=
 r_q (fun a w ha=>by
  have hr1:=run_indexAtK (kd:=kd) (o:=some ⟨b,0,none⟩) (m:=m) (cap:=cap) (w:=w) hts hrs hT hsz hz hlt (p:=⟨b,j * sz,none⟩) (by simp [Y5 rfl])
  simp only [execOp,ha.ev (x:=x) (by rw [ZK];exact hx),ha.ev (x:=y) (by rw [ZK];exact hy),Sem.run_bind,Result.andThen,hr1,Sem.run_pure]) nx ho hw
end
def nm35:List ByteArray:=[⟨#[49]⟩,⟨#[50]⟩,⟨#[49,46,49]⟩,⟨#[49,46,50]⟩,⟨#[49,46,49,46,49]⟩,⟨#[50,46,49]⟩,⟨#[120]⟩]
abbrev sf:ByteArray→List Value:=fun s=>[.string s]
theorem names35_ok:Enters 47∧Spec prog 47 #[] [] [] ⟨Nat,fun b=>.slice (some ⟨b,0,none⟩) 7 7,fun _=>True,fun _=>[],fun b=>[Ax 28 sf b nm35 ([],(0,0))]⟩:=by
 refine ZI [] func47 ntmps47 fun G w hp=>?_
 repeat' (first|refine ZC ?_|refine ZB ?_|refine ZD ?_|refine YE (fun b=>?_)|fail)
 exact ZF b rfl trivial
structure Oq where
 k:Nat
 w:Nat
 n:Int
 a:Int
 t:ByteArray
 p:Pr
 ic:ByteArray
 id:ByteArray
 iz:Int
 ie:Int
def Oq.v (q:Oq) (o:Option Addr) (c:Nat):Value:=.agg #[.int .u8 q.k,.int .u8 q.w,.int .i64 q.n,.int .i64 q.a,.string q.t,.int .i64 q.p.kd,.int .i64 q.p.st,.int .i64 q.p.cd,.int .i64 q.p.ep,.int .i64 q.p.us,.slice o q.p.gs.length c,.string q.p.sp,.int .i64 q.p.pg,.string q.p.dr.mkr,.int .i64 q.p.dr.nu,.int .i64 q.p.tm,.string q.ic,.string q.id,.int .i64 q.iz,.int .i64 q.ie]
def cutQ (q:Oq):Oq:={q with t:=cutS q.t 300,p:=shP q.p}
theorem Xz (q:Oq) (o:Option Addr) (c:Nat) (hl:q.p.gs.length≤1099511627776):Enters 32∧Spec prog 32 #[q.v o c] [Sl 3 zf o c q.p.gs] []
  ⟨Option Addr,fun o'=>(cutQ q).v o' c,fun _=>True,fun o'=>[Sl 3 zf o' c (cutQ q).p.gs],fun _=>[]⟩:=by
 have n1:=Ya q.p o c hl
 obtain ⟨y1,y2,y3,y4,y5,⟨x1,x2,x3,x4,x5,xs,x7,x8,⟨x9,x10⟩,x11⟩,y7,y8,y9,y10⟩:=q
 simp only [Pr.v,shP] at n1
 simp only [Oq.v,cutQ,shP]
 refine ZI [_] func32 ntmps32 fun G w hp=>?_
 repeat' (first|refine ZC ?_|refine ZB ?_|refine ZD ?_|refine ZR ?_|refine ZV ?_|refine ZO (fun b=>?_)|refine ZA (n1) (fun _ _=>?_)|refine l_cutS 300 ?_|fail)
 rename_i o' _
 exact ZF o' rfl trivial
abbrev zRs:Value:=.agg #[.int .i64 0,.string ⟨#[]⟩,.int .i64 0,.int .i64 0,.int .i64 0,.int .i64 0,.int .i64 0,.slice none 0 0,.string ⟨#[]⟩,.int .i64 0,.string ⟨#[]⟩,.int .i64 0,.int .i64 0,.int .i64 1]
theorem and7 (z:Int):∃j:Nat,j<8∧IntKind.i64.wrap (((BitVec.ofInt IntKind.i64.bits z &&& BitVec.ofInt IntKind.i64.bits 7).toNat:Nat):Int)=(j:Int):=by
 have h1:(BitVec.ofInt IntKind.i64.bits z &&& BitVec.ofInt IntKind.i64.bits 7).toNat≤7:=by
  rw [BitVec.toNat_and]
  have:(BitVec.ofInt IntKind.i64.bits 7).toNat=7:=by decide
  rw [this]
  exact Nat.and_le_right
 exact ⟨_,by omega,wrapi (by omega) (by omega)⟩
def RgP:Post:=⟨{g:List Int // g.length=9},fun g=>rgV g.1,fun _=>True,fun _=>[],fun _=>[]⟩
theorem regs35_ok (z:Int):Enters 91∧Spec prog 91 #[.int .i64 z] [] [] RgP:=by
 obtain ⟨j,hj,hw⟩:=and7 z
 rcases (show j=0∨j=1∨j=2∨j=3∨j=4∨j=5∨j=6∨j=7 by omega) with rfl|rfl|rfl|rfl|rfl|rfl|rfl|rfl
 all_goals
  (refine ZI [_] func91 ntmps91 fun G w hp=>?_
   repeat' (first|refine ZC ?_|refine ZB ?_|refine ZD ?_|refine ZR ?_|refine ZV ?_|refine ZO (fun b=>?_)|refine l_ixA (m:=8) _ hj ?_ (hz:=hw)|fail)
   exact ZF (post:=RgP) ⟨[_,_,_,_,_,_,_,_,_],rfl⟩ rfl trivial)
set_option maxHeartbeats 4000000 in
theorem Ym (q:Oq) (o:Option Addr) (c:Nat):Enters 33∧Spec prog 33 #[nilW,q.v o c] [] [] (RetV zRs):=by
 have n0:=names35_ok
 have m1:=fun s=>wGet_ok s
 have m2:=fun s p o c=>wStart_ok s p o c
 have m3:=fun s=>wFork_ok s
 have m4:=fun s=>wThread_ok s
 have m5:=fun s z=>wExit_ok s z
 have m6:=fun s z=>wWait_ok s z
 have m7:=fun s p o c=>wSetP_ok s p o c
 have m8:=fun s=>wMemory_ok s
 have m9:=fun s z=>wGrow_ok s z
 have m10:=fun s c1 c2 z1 z2=>wLoad_ok s c1 c2 z1 z2
 have m11:=wBoot_ok
 have m12:=fun z=>regs35_ok z
 have m13:=fun s (g:{g:List Int // g.length=9})=>wSetRegs_ok s g.1 g.2
 obtain ⟨y1,y2,y3,y4,y5,⟨x1,x2,x3,x4,x5,xs,x7,x8,⟨x9,x10⟩,x11⟩,y7,y8,y9,y10⟩:=q
 obtain ⟨nw,hnw⟩:∃s,nm35[y2 % 7]? = some s:=⟨_,List.getElem?_eq_getElem (show y2 % 7<7 by omega)⟩
 have hlt7:y2 % 7<7:=by omega
 have w1:(y2:Int).tmod 7=((y2 % 7:Nat):Int):=(Int.ofNat_tmod y2 7).symm
 have e2:=m2 nw ⟨x1,x2,x3,x4,x5,xs,x7,x8,⟨x9,x10⟩,x11⟩ o c
 have e7:=m7 nw ⟨x1,x2,x3,x4,x5,xs,x7,x8,⟨x9,x10⟩,x11⟩ o c
 simp only [Pr.v] at e2 e7
 simp only [Oq.v]
 generalize hk:(y1:Int).tmod 12=kk
 refine ZI [_,_] func33 ntmps33 fun G w hp=>?_
 repeat' (first|refine ZC ?_|refine ZB ?_|refine ZD ?_|refine ZR ?_|refine ZV ?_|refine ZO (fun b=>?_)|refine ZL ?_|refine Zv ?_|refine Yd ?_|refine Zw ?_|refine ZH (n0) (fun _ _=>?_)|refine ZA (m1 _) (fun _ _=>?_)|refine ZA (e2) (fun _ _=>?_)|refine ZA (m3 _) (fun _ _=>?_)|refine ZA (m4 _) (fun _ _=>?_)|refine ZA (m5 _ _) (fun _ _=>?_)|refine ZA (m6 _ _) (fun _ _=>?_)|refine ZA (e7) (fun _ _=>?_)|refine ZA (m8 _) (fun _ _=>?_)|refine ZA (m9 _ _) (fun _ _=>?_)|refine ZA (m10 _ _ _ _ _) (fun _ _=>?_)|refine ZA (m11) (fun _ _=>?_)|refine ZA (m12 _) (fun _ _=>?_)|refine ZA (m13 _ _) (fun _ _=>?_)|rw [w1]|rw [hk]|refine r_ixPK (m:=7) (y2 % 7) hlt7 ?_|refine r_ldEN 1 (y2 % 7) 0 hnw ?_|refine Zb 2 [] [(1,0),(2,0),(3,0),(0,4),(4,0),(5,3),(6,0)] [] ?_|(refine ZJ (fun hc=>?_) (fun hc=>?_)<;>(try simp at hc)<;>(try omega))|fail)
 all_goals refine ZF () ?_ trivial
 all_goals rfl
set_option maxHeartbeats 4000000 in
theorem YH (p q:Pr) (o1 o2:Option Addr) (c1 c2:Nat) (h1:p.gs.length≤1099511627776) (h2:q.gs.length≤1099511627776):Enters 20∧Spec prog 20 #[p.v o1 c1,q.v o2 c2] [Sl 3 zf o1 c1 p.gs,Sl 3 zf o2 c2 q.gs] [] (RetV (.bool (decide (p=q)))):=by
 have he:=pr_eq p q
 have hsp:(p.sp.toList == q.sp.toList)=decide (p.sp=q.sp):=beqSv _ _
 have hdr:=eqBi2 p.dr q.dr
 generalize hr:decide (p=q)=r
 obtain ⟨a1,a2,a3,a4,a5,xs,a7,a8,a9,a10⟩:=p
 obtain ⟨b1,b2,b3,b4,b5,ys,b7,b8,b9,b10⟩:=q
 dsimp only at *
 obtain ⟨d1,d2⟩:=a9
 obtain ⟨e1,e2⟩:=b9
 simp only [Bi.v] at hdr
 have bad:xs≠ys→r=false:=fun h=>by
  rw [←hr,decide_eq_false_iff_not,he]
  rintro ⟨⟨⟨⟨⟨_,g⟩,_⟩,_⟩,_⟩,_⟩
  exact h g
 refine ZI [_,_] func20 ntmps20 fun G w hp=>?_
 by_cases hlen:xs.length=ys.length
 ·repeat' (first|refine ZC ?_|refine ZB ?_|refine ZD ?_|refine ZR ?_|refine ZO (fun b=>?_)|(refine ZJ (fun hc=>?_) (fun hc=>?_)<;>(try simp at hc)<;>(try omega))|fail)
  rename_i bA
  refine k_lp (X:={i:Nat // i≤xs.length∧xs.take i=ys.take i}) (fun i=>[(2,.pointer (some ⟨bA,0,none⟩)),(3,.pointer (some ⟨b,0,none⟩)),(5,.int .i64 (i.1:Int))]) (fun _=>[Sl 3 zf o1 c1 xs,Sl 3 zf o2 c2 ys]) (fun _=>[Pt bA (.cells #[.int .i64 a1,.int .i64 a2,.int .i64 a3,.int .i64 a4,.int .i64 a5,.slice o1 xs.length c1,.string a7,.int .i64 a8,.string d1,.int .i64 d2,.int .i64 a10] 44),Pt b (.cells #[.int .i64 b1,.int .i64 b2,.int .i64 b3,.int .i64 b4,.int .i64 b5,.slice o2 ys.length c2,.string b7,.int .i64 b8,.string e1,.int .i64 e2,.int .i64 b10] 44)]) (fun i=>xs.length - i.1) ⟨0,by omega,rfl⟩ ⟨rfl,rfl,rfl,trivial⟩ ?_
  rintro ⟨i,hi1,hi2⟩
  dsimp only
  by_cases hlt:i<xs.length
  ·obtain ⟨u,ha⟩:∃u,xs[i]? = some u:=⟨_,List.getElem?_eq_getElem hlt⟩
   obtain ⟨v,hb⟩:∃v,ys[i]? = some v:=⟨_,List.getElem?_eq_getElem (by omega)⟩
   by_cases hab:u=v
   ·repeat' (first|refine ZC ?_|refine ZB ?_|refine ZD ?_|refine ZR ?_|refine Zv ?_|refine Yd ?_|refine Zw ?_|refine Y9 (es:=xs) i u ha (fun b off=>?_)|refine Y9 (es:=ys) i v hb (fun b off=>?_)|refine r_ldC ?_|refine Zb 6 [] [(0,0),(1,0),(2,0),(3,0),(4,0),(5,0),(6,0),(7,0),(8,0),(9,0),(10,0),(11,0),(12,0)] [] ?_|(refine ZJ (fun hc=>?_) (fun hc=>?_)<;>(try simp at hc)<;>(try omega))|fail)
    rw [wrapi (z:=(i:Int)+1) (by omega) (by omega)]
    refine Zi ⟨i+1,by omega,?_⟩ (by show xs.length - (i+1)<xs.length - i;omega) ⟨rfl,rfl,rfl,trivial⟩
    rw [List.take_add_one,List.take_add_one,hi2,ha,hb,hab]
   ·have e:r=false:=bad fun h=>by
     subst h
     exact hab (Option.some.inj (ha.symm.trans hb))
    rw [e]
    repeat' (first|refine ZC ?_|refine ZB ?_|refine ZD ?_|refine ZR ?_|refine Zv ?_|refine Yd ?_|refine Zw ?_|refine Y9 (es:=xs) i u ha (fun b off=>?_)|refine Y9 (es:=ys) i v hb (fun b off=>?_)|refine r_ldC ?_|refine Zb 6 [] [(0,0),(1,0),(2,0),(3,0),(4,0),(5,0),(6,0),(7,0),(8,0),(9,0),(10,0),(11,0),(12,0)] [] ?_|(refine ZJ (fun hc=>?_) (fun hc=>?_)<;>(try simp at hc)<;>(try omega))|fail)
    exact k_rt (w_lq (YO () rfl trivial))
  ·have e:xs=ys:=by
    rw [List.take_of_length_le (by omega),List.take_of_length_le (by omega)] at hi2
    exact hi2
   repeat' (first|refine l_seq ?_ (he:=hdr)|refine ZC ?_|refine ZB ?_|refine ZS ?_|refine ZD ?_|refine ZR ?_|refine Zj ?_|rw [hsp]|(refine ZN (fun hc=>?_) (fun hc=>?_)<;>(try simp at hc)<;>(try omega))|(refine ZJ (fun hc=>?_) (fun hc=>?_)<;>(try simp at hc)<;>(try omega))|fail)
   all_goals (
    refine ZF () ?_ trivial
    clear hsp hdr bad hi2
    refine congrArg Value.bool ?_
    rw [←hr,Bool.eq_iff_iff,decide_eq_true_iff,he]
    simp_all)
 ·have e:r=false:=bad fun h=>hlen (by rw [h])
  rw [e]
  repeat' (first|refine ZC ?_|refine ZB ?_|refine ZD ?_|refine ZR ?_|refine ZO (fun b=>?_)|(refine ZJ (fun hc=>?_) (fun hc=>?_)<;>(try simp at hc)<;>(try omega))|fail)
  exact ZF () rfl trivial
section
variable (q:Oq) (o:Option Addr) (c:Nat) (who raw:ByteArray)
set_option maxHeartbeats 8000000 in
theorem lpeN (hd:pdec (cutS raw 200)=none) (hl:q.p.gs.length≤1099511627776) (hv:lvalid (cutS who 80).data.toList=true) :
  Enters 7∧Spec prog 7 #[q.v o c,.string who,.string raw] [Sl 3 zf o c q.p.gs,Usg,P10] [] (RetV (.bool true)):=by
 have hw:=Zl who 80
 have hr:=Zl raw 200
 have m0:=Xz q o c hl
 have m1:=fun o c=>Ym (cutQ q) o c
 have m2:=X5 (cutS who 80)
 have m3:=Yy
 have m4:=ZY (cutS who 80) (by omega)
 rw [hv] at m4
 have m5:=fun b o c=>Yq b ⟨#[]⟩ Zf o c (Nat.zero_le _) (.inr (by simp [isE]))
 have m6:=Zt (cutS who 80)
 have m7:=Zx (cutS who 80)
 have m8:=fun b ps=>YP b ps [] [] (pnm (cutS who 80)) (cutS raw 200) (by show (cutS who 80).size≤_;omega) (Nat.zero_le _) (by simp)
 have e8:vset [] (pnm (cutS who 80)) (cutS raw 200)=(0,[]++[⟨pnm (cutS who 80),(cutS raw 200),false⟩]):=by
  unfold vset
  rw [if_neg (by simp [YF hv]),if_neg (by omega)]
 rw [e8] at m8
 have m9:=fun b ps=>YP b ps [] ([]++[⟨pnm (cutS who 80),(cutS raw 200),false⟩]) (rnm (cutS who 80)) (cutS raw 200) (by show (cutS who 80).size≤_;omega) (Nat.zero_le _) (by simp)
 have e9:vset ([]++[⟨pnm (cutS who 80),(cutS raw 200),false⟩]) (rnm (cutS who 80)) (cutS raw 200)=(0,[]++[⟨pnm (cutS who 80),(cutS raw 200),false⟩]++[⟨rnm (cutS who 80),(cutS raw 200),false⟩]):=by
  unfold vset
  rw [if_neg (by simp [XX hv]),if_neg (by omega)]
 rw [e9] at m9
 have g1:vget [] ([]++[⟨pnm (cutS who 80),(cutS raw 200),false⟩]++[⟨rnm (cutS who 80),(cutS raw 200),false⟩]) (pnm (cutS who 80))=((cutS raw 200),true):=by
  rw [Zn (by simp [pnm,rnm]),XA rfl (YF hv)];rfl
 have g2:vget [] ([]++[⟨pnm (cutS who 80),(cutS raw 200),false⟩]++[⟨rnm (cutS who 80),(cutS raw 200),false⟩]) (rnm (cutS who 80))=((cutS raw 200),true):=by
  rw [XA rfl (XX hv)];rfl
 have g3:vget [] ([]++[⟨pnm (cutS who 80),(cutS raw 200),false⟩]++[⟨rnm (cutS who 80),(cutS raw 200),false⟩]) enm=(⟨#[]⟩,false):=by
  rw [Zn (by simp [enm,rnm]),Zn (by simp [pnm,enm]),Yi]
 have n1:=fun b ps rs=>WN b ps [] rs ([]++[⟨pnm (cutS who 80),(cutS raw 200),false⟩]++[⟨rnm (cutS who 80),(cutS raw 200),false⟩]) (cutS who 80) (by omega) hv (cutS raw 200) (by omega) g1 g3
 have n2:=Zu (cutS raw 200) (by omega)
 have n3:=fun b ps rs=>regs_ok b ps [] rs ([]++[⟨pnm (cutS who 80),(cutS raw 200),false⟩]++[⟨rnm (cutS who 80),(cutS raw 200),false⟩]) (cutS who 80) (by omega) hv (cutS raw 200) g2
 have n4:=YW (cutS raw 200)
 have n5:=fun b=>XM b (cutS who 80)
 generalize ([]++[⟨pnm (cutS who 80),(cutS raw 200),false⟩]++[⟨rnm (cutS who 80),(cutS raw 200),false⟩]:List Ch)=cs2 at *
 generalize ([]++[⟨pnm (cutS who 80),(cutS raw 200),false⟩]:List Ch)=cs1 at *
 obtain ⟨y1,y2,y3,y4,y5,⟨x1,x2,x3,x4,x5,xs,x7,x8,⟨x9,x10⟩,x11⟩,y7,y8,y9,y10⟩:=q
 generalize hcq:cutQ _=cq at *
 clear hcq
 obtain ⟨z1,z2,z3,z4,z5,⟨u1,u2,u3,u4,u5,us,u7,u8,⟨u9,u10⟩,u11⟩,z7,z8,z9,z10⟩:=cq
 simp only [Oq.v] at m0 m1 ⊢
 have hreg:∃(g1 g2:List Int) (e1 e2:Int),(∀b ps rs,Enters 27∧Spec prog 27 #[.pointer (some ⟨b,0,none⟩),.string (cutS who 80)] [St ps [],Usg] [Vw b ps rs cs2]
   ⟨Unit,fun _=>.tuple #[rgV g1,.int .i64 e1],fun _=>True,fun _=>[],fun _=>[Vw b ps (vread [] rs cs2 (rnm (cutS who 80))) cs2]⟩)∧(Enters 45∧Spec prog 45 #[.string (cutS raw 200)] [] [] (RetV (.tuple #[rgV g2,.int .i64 e2])))∧g1.length=9∧g2.length=9∧((e1=0∧e2=0)∨(e1=3∧e2=4)∨(e1=3∧e2=5)):=
  ⟨_,_,_,_,n3,n4,by split<;>rfl,by split<;>rfl,by
   by_cases h:(cutS raw 200).size=36
   ·exact .inl ⟨by rw [if_pos h],by rw [if_neg (by omega),if_neg (by omega)]⟩
   ·by_cases h2:(cutS raw 200).size<36
    ·exact .inr (.inl ⟨by rw [if_neg h],by rw [if_pos h2]⟩)
    ·exact .inr (.inr ⟨by rw [if_neg h],by rw [if_neg h2,if_pos (by omega)]⟩)⟩
 clear n3 n4
 obtain ⟨g1,g2,e1,e2,n3,n4,hg1,hg2,he⟩:=hreg
 obtain _|⟨a1,_|⟨a2,_|⟨a3,_|⟨a4,_|⟨a5,_|⟨a6,_|⟨a7,_|⟨a8,_|⟨a9,_|⟨a10,l⟩⟩⟩⟩⟩⟩⟩⟩⟩⟩:=g1
 all_goals try (simp at hg1;done)
 obtain _|⟨b1,_|⟨b2,_|⟨b3,_|⟨b4,_|⟨b5,_|⟨b6,_|⟨b7,_|⟨b8,_|⟨b9,_|⟨b10,l⟩⟩⟩⟩⟩⟩⟩⟩⟩⟩:=g2
 all_goals try (simp at hg2;done)
 clear hg1 hg2
 have hE:(e1 == 0)=(e2 == 0):=by rcases he with ⟨rfl,rfl⟩|⟨rfl,rfl⟩|⟨rfl,rfl⟩<;>rfl
 simp only [hd,Option.getD_none,Option.isSome_none,Bool.false_eq_true,if_false] at n1 n2
 refine ZI [_,_,_] func7 ntmps7 fun G w hp=>?_
 repeat' (first|refine ZC ?_|refine ZB ?_|refine ZS ?_|refine ZD ?_|refine ZR ?_|refine Zr ?_|refine ZV ?_|refine ZO (fun b=>?_)|refine YE (fun b=>?_)|refine ZL ?_|refine ZG ?_|refine Zj ?_|refine Zv ?_|refine r_one ?_|refine Yd ?_|refine XD ?_|refine r_ldN ?_|refine r_al (fun b=>?_)|refine r_bs (fun b=>?_)|refine r_st ?_|refine Zw ?_|refine ZA (m0) (fun _ _=>?_)|refine l_call0 (m0) (fun _ _=>?_)|refine ZH (m0) (fun _ _=>?_)|refine ZE (m0) (fun _ _=>?_)|refine ZA (ZP) (fun _ _=>?_)|refine l_call0 (ZP) (fun _ _=>?_)|refine ZH (ZP) (fun _ _=>?_)|refine ZE (ZP) (fun _ _=>?_)|refine ZA (m1 _ _) (fun _ _=>?_)|refine l_call0 (m1 _ _) (fun _ _=>?_)|refine ZH (m1 _ _) (fun _ _=>?_)|refine ZE (m1 _ _) (fun _ _=>?_)|refine ZA (m2) (fun _ _=>?_)|refine l_call0 (m2) (fun _ _=>?_)|refine ZH (m2) (fun _ _=>?_)|refine ZE (m2) (fun _ _=>?_)|refine ZA (m3) (fun _ _=>?_)|refine l_call0 (m3) (fun _ _=>?_)|refine ZH (m3) (fun _ _=>?_)|refine ZE (m3) (fun _ _=>?_)|refine ZA (Za) (fun _ _=>?_)|refine l_call0 (Za) (fun _ _=>?_)|refine ZH (Za) (fun _ _=>?_)|refine ZE (Za) (fun _ _=>?_)|refine ZA (Zc _) (fun _ _=>?_)|refine l_call0 (Zc _) (fun _ _=>?_)|refine ZH (Zc _) (fun _ _=>?_)|refine ZE (Zc _) (fun _ _=>?_)|refine ZA (m4) (fun _ _=>?_)|refine l_call0 (m4) (fun _ _=>?_)|refine ZH (m4) (fun _ _=>?_)|refine ZE (m4) (fun _ _=>?_)|refine ZA (m5 _ _ _) (fun _ _=>?_)|refine l_call0 (m5 _ _ _) (fun _ _=>?_)|refine ZH (m5 _ _ _) (fun _ _=>?_)|refine ZE (m5 _ _ _) (fun _ _=>?_)|refine ZA (m6) (fun _ _=>?_)|refine l_call0 (m6) (fun _ _=>?_)|refine ZH (m6) (fun _ _=>?_)|refine ZE (m6) (fun _ _=>?_)|refine ZA (m7) (fun _ _=>?_)|refine l_call0 (m7) (fun _ _=>?_)|refine ZH (m7) (fun _ _=>?_)|refine ZE (m7) (fun _ _=>?_)|refine ZA (m8 _ _) (fun _ _=>?_)|refine l_call0 (m8 _ _) (fun _ _=>?_)|refine ZH (m8 _ _) (fun _ _=>?_)|refine ZE (m8 _ _) (fun _ _=>?_)|refine ZA (m9 _ _) (fun _ _=>?_)|refine l_call0 (m9 _ _) (fun _ _=>?_)|refine ZH (m9 _ _) (fun _ _=>?_)|refine ZE (m9 _ _) (fun _ _=>?_)|refine ZA (Zk) (fun _ _=>?_)|refine l_call0 (Zk) (fun _ _=>?_)|refine ZH (Zk) (fun _ _=>?_)|refine ZE (Zk) (fun _ _=>?_)|refine ZA (n1 _ _ _) (fun _ _=>?_)|refine l_call0 (n1 _ _ _) (fun _ _=>?_)|refine ZH (n1 _ _ _) (fun _ _=>?_)|refine ZE (n1 _ _ _) (fun _ _=>?_)|refine ZA (n2) (fun _ _=>?_)|refine l_call0 (n2) (fun _ _=>?_)|refine ZH (n2) (fun _ _=>?_)|refine ZE (n2) (fun _ _=>?_)|refine ZA (n3 _ _ _) (fun _ _=>?_)|refine l_call0 (n3 _ _ _) (fun _ _=>?_)|refine ZH (n3 _ _ _) (fun _ _=>?_)|refine ZE (n3 _ _ _) (fun _ _=>?_)|refine ZA (n4) (fun _ _=>?_)|refine l_call0 (n4) (fun _ _=>?_)|refine ZH (n4) (fun _ _=>?_)|refine ZE (n4) (fun _ _=>?_)|refine YS 80 ?_|refine YS 200 ?_|refine r_up ?_|(refine ZN (fun hc=>?_) (fun hc=>?_)<;>(try simp at hc)<;>(try omega))|(refine Yn (fun hc=>?_) (fun hc=>?_)<;>(try simp at hc)<;>(try omega))|refine Zb 1 [Pt _ (.cells _ 76 _)] [(2,0),(3,0),(4,0),(5,0),(6,0),(7,0),(8,0),(9,0),(10,0),(11,0),(0,3),(1,5),(12,4),(13,0),(14,0)] [] ?_|(refine ZJ (fun hc=>?_) (fun hc=>?_)<;>(try simp at hc)<;>(try omega)))
 all_goals first|exact absurd hE hc|(refine ZF () ?_ trivial;simp [RetV,resV])
end
section
variable (q:Oq) (o:Option Addr) (c:Nat) (who raw:ByteArray)
set_option maxHeartbeats 8000000 in
theorem lpeS (p:Pr) (hd:pdec (cutS raw 200)=some p) (h0:p.ep=0) (hl:q.p.gs.length≤1099511627776) (hv:lvalid (cutS who 80).data.toList=true) :
  Enters 7∧Spec prog 7 #[q.v o c,.string who,.string raw] [Sl 3 zf o c q.p.gs,Usg,P10] [] (RetV (.bool true)):=by
 have hw:=Zl who 80
 have hr:=Zl raw 200
 have m0:=Xz q o c hl
 have m1:=fun o c=>Ym (cutQ q) o c
 have m2:=X5 (cutS who 80)
 have m3:=Yy
 have m4:=ZY (cutS who 80) (by omega)
 rw [hv] at m4
 have m5:=fun b o c=>Yq b ⟨#[]⟩ Zf o c (Nat.zero_le _) (.inr (by simp [isE]))
 have m6:=Zt (cutS who 80)
 have m7:=Zx (cutS who 80)
 have m8:=fun b ps=>YP b ps [] [] (pnm (cutS who 80)) (cutS raw 200) (by show (cutS who 80).size≤_;omega) (Nat.zero_le _) (by simp)
 have e8:vset [] (pnm (cutS who 80)) (cutS raw 200)=(0,[]++[⟨pnm (cutS who 80),(cutS raw 200),false⟩]):=by
  unfold vset
  rw [if_neg (by simp [YF hv]),if_neg (by omega)]
 rw [e8] at m8
 have m9:=fun b ps=>YP b ps [] ([]++[⟨pnm (cutS who 80),(cutS raw 200),false⟩]) (rnm (cutS who 80)) (cutS raw 200) (by show (cutS who 80).size≤_;omega) (Nat.zero_le _) (by simp)
 have e9:vset ([]++[⟨pnm (cutS who 80),(cutS raw 200),false⟩]) (rnm (cutS who 80)) (cutS raw 200)=(0,[]++[⟨pnm (cutS who 80),(cutS raw 200),false⟩]++[⟨rnm (cutS who 80),(cutS raw 200),false⟩]):=by
  unfold vset
  rw [if_neg (by simp [XX hv]),if_neg (by omega)]
 rw [e9] at m9
 have g1:vget [] ([]++[⟨pnm (cutS who 80),(cutS raw 200),false⟩]++[⟨rnm (cutS who 80),(cutS raw 200),false⟩]) (pnm (cutS who 80))=((cutS raw 200),true):=by
  rw [Zn (by simp [pnm,rnm]),XA rfl (YF hv)];rfl
 have g2:vget [] ([]++[⟨pnm (cutS who 80),(cutS raw 200),false⟩]++[⟨rnm (cutS who 80),(cutS raw 200),false⟩]) (rnm (cutS who 80))=((cutS raw 200),true):=by
  rw [XA rfl (XX hv)];rfl
 have g3:vget [] ([]++[⟨pnm (cutS who 80),(cutS raw 200),false⟩]++[⟨rnm (cutS who 80),(cutS raw 200),false⟩]) enm=(⟨#[]⟩,false):=by
  rw [Zn (by simp [enm,rnm]),Zn (by simp [pnm,enm]),Yi]
 have n1:=fun b ps rs=>WN b ps [] rs ([]++[⟨pnm (cutS who 80),(cutS raw 200),false⟩]++[⟨rnm (cutS who 80),(cutS raw 200),false⟩]) (cutS who 80) (by omega) hv (cutS raw 200) (by omega) g1 g3
 have n2:=Zu (cutS raw 200) (by omega)
 have n3:=fun b ps rs=>regs_ok b ps [] rs ([]++[⟨pnm (cutS who 80),(cutS raw 200),false⟩]++[⟨rnm (cutS who 80),(cutS raw 200),false⟩]) (cutS who 80) (by omega) hv (cutS raw 200) g2
 have n4:=YW (cutS raw 200)
 have n5:=fun b=>XM b (cutS who 80)
 generalize ([]++[⟨pnm (cutS who 80),(cutS raw 200),false⟩]++[⟨rnm (cutS who 80),(cutS raw 200),false⟩]:List Ch)=cs2 at *
 generalize ([]++[⟨pnm (cutS who 80),(cutS raw 200),false⟩]:List Ch)=cs1 at *
 obtain ⟨y1,y2,y3,y4,y5,⟨x1,x2,x3,x4,x5,xs,x7,x8,⟨x9,x10⟩,x11⟩,y7,y8,y9,y10⟩:=q
 generalize hcq:cutQ _=cq at *
 clear hcq
 obtain ⟨z1,z2,z3,z4,z5,⟨u1,u2,u3,u4,u5,us,u7,u8,⟨u9,u10⟩,u11⟩,z7,z8,z9,z10⟩:=cq
 simp only [Oq.v] at m0 m1 ⊢
 have hreg:∃(g1 g2:List Int) (e1 e2:Int),(∀b ps rs,Enters 27∧Spec prog 27 #[.pointer (some ⟨b,0,none⟩),.string (cutS who 80)] [St ps [],Usg] [Vw b ps rs cs2]
   ⟨Unit,fun _=>.tuple #[rgV g1,.int .i64 e1],fun _=>True,fun _=>[],fun _=>[Vw b ps (vread [] rs cs2 (rnm (cutS who 80))) cs2]⟩)∧(Enters 45∧Spec prog 45 #[.string (cutS raw 200)] [] [] (RetV (.tuple #[rgV g2,.int .i64 e2])))∧g1.length=9∧g2.length=9∧((e1=0∧e2=0)∨(e1=3∧e2=4)∨(e1=3∧e2=5)):=
  ⟨_,_,_,_,n3,n4,by split<;>rfl,by split<;>rfl,by
   by_cases h:(cutS raw 200).size=36
   ·exact .inl ⟨by rw [if_pos h],by rw [if_neg (by omega),if_neg (by omega)]⟩
   ·by_cases h2:(cutS raw 200).size<36
    ·exact .inr (.inl ⟨by rw [if_neg h],by rw [if_pos h2]⟩)
    ·exact .inr (.inr ⟨by rw [if_neg h],by rw [if_neg h2,if_pos (by omega)]⟩)⟩
 clear n3 n4
 obtain ⟨g1,g2,e1,e2,n3,n4,hg1,hg2,he⟩:=hreg
 obtain _|⟨a1,_|⟨a2,_|⟨a3,_|⟨a4,_|⟨a5,_|⟨a6,_|⟨a7,_|⟨a8,_|⟨a9,_|⟨a10,l⟩⟩⟩⟩⟩⟩⟩⟩⟩⟩:=g1
 all_goals try (simp at hg1;done)
 obtain _|⟨b1,_|⟨b2,_|⟨b3,_|⟨b4,_|⟨b5,_|⟨b6,_|⟨b7,_|⟨b8,_|⟨b9,_|⟨b10,l⟩⟩⟩⟩⟩⟩⟩⟩⟩⟩:=g2
 all_goals try (simp at hg2;done)
 clear hg1 hg2
 have hE:(e1 == 0)=(e2 == 0):=by rcases he with ⟨rfl,rfl⟩|⟨rfl,rfl⟩|⟨rfl,rfl⟩<;>rfl
 simp only [hd,Option.getD_some,Option.isSome_some,if_true] at n1 n2
 have n6:=fun o c o' c'=>YH p p o o' c c'
 rw [show decide (p=p)=true by simp] at n6
 obtain ⟨i1,i2⟩:=XI hd
 obtain ⟨q1,q2,q3,q4,q5,q6⟩:=Zs i1
 obtain ⟨q7,q8,q9⟩:=Z7 q4
 have n7:=fun o c o' c'=>n6 o c o' c' (by omega) (by omega)
 clear n6 i1 i2 q1 q2 q3 q4 q5 q6 q7 q8 q9 hd
 obtain ⟨u1,u2,u3,u4,u5,us,u7,u8,⟨u9,u10⟩,u11⟩:=p
 dsimp only at h0
 simp only [Pr.v] at n1 n2 n7
 subst h0
 simp only [if_true] at n1
 refine ZI [_,_,_] func7 ntmps7 fun G w hp=>?_
 repeat' (first|refine ZC ?_|refine ZB ?_|refine ZS ?_|refine ZD ?_|refine ZR ?_|refine Zr ?_|refine ZV ?_|refine ZO (fun b=>?_)|refine YE (fun b=>?_)|refine ZL ?_|refine ZG ?_|refine Zj ?_|refine Zv ?_|refine r_one ?_|refine Yd ?_|refine XD ?_|refine r_ldN ?_|refine r_al (fun b=>?_)|refine r_bs (fun b=>?_)|refine r_st ?_|refine Zw ?_|refine ZA (m0) (fun _ _=>?_)|refine l_call0 (m0) (fun _ _=>?_)|refine ZH (m0) (fun _ _=>?_)|refine ZE (m0) (fun _ _=>?_)|refine ZA (ZP) (fun _ _=>?_)|refine l_call0 (ZP) (fun _ _=>?_)|refine ZH (ZP) (fun _ _=>?_)|refine ZE (ZP) (fun _ _=>?_)|refine ZA (m1 _ _) (fun _ _=>?_)|refine l_call0 (m1 _ _) (fun _ _=>?_)|refine ZH (m1 _ _) (fun _ _=>?_)|refine ZE (m1 _ _) (fun _ _=>?_)|refine ZA (m2) (fun _ _=>?_)|refine l_call0 (m2) (fun _ _=>?_)|refine ZH (m2) (fun _ _=>?_)|refine ZE (m2) (fun _ _=>?_)|refine ZA (m3) (fun _ _=>?_)|refine l_call0 (m3) (fun _ _=>?_)|refine ZH (m3) (fun _ _=>?_)|refine ZE (m3) (fun _ _=>?_)|refine ZA (Za) (fun _ _=>?_)|refine l_call0 (Za) (fun _ _=>?_)|refine ZH (Za) (fun _ _=>?_)|refine ZE (Za) (fun _ _=>?_)|refine ZA (Zc _) (fun _ _=>?_)|refine l_call0 (Zc _) (fun _ _=>?_)|refine ZH (Zc _) (fun _ _=>?_)|refine ZE (Zc _) (fun _ _=>?_)|refine ZA (m4) (fun _ _=>?_)|refine l_call0 (m4) (fun _ _=>?_)|refine ZH (m4) (fun _ _=>?_)|refine ZE (m4) (fun _ _=>?_)|refine ZA (m5 _ _ _) (fun _ _=>?_)|refine l_call0 (m5 _ _ _) (fun _ _=>?_)|refine ZH (m5 _ _ _) (fun _ _=>?_)|refine ZE (m5 _ _ _) (fun _ _=>?_)|refine ZA (m6) (fun _ _=>?_)|refine l_call0 (m6) (fun _ _=>?_)|refine ZH (m6) (fun _ _=>?_)|refine ZE (m6) (fun _ _=>?_)|refine ZA (m7) (fun _ _=>?_)|refine l_call0 (m7) (fun _ _=>?_)|refine ZH (m7) (fun _ _=>?_)|refine ZE (m7) (fun _ _=>?_)|refine ZA (m8 _ _) (fun _ _=>?_)|refine l_call0 (m8 _ _) (fun _ _=>?_)|refine ZH (m8 _ _) (fun _ _=>?_)|refine ZE (m8 _ _) (fun _ _=>?_)|refine ZA (m9 _ _) (fun _ _=>?_)|refine l_call0 (m9 _ _) (fun _ _=>?_)|refine ZH (m9 _ _) (fun _ _=>?_)|refine ZE (m9 _ _) (fun _ _=>?_)|refine ZA (Zk) (fun _ _=>?_)|refine l_call0 (Zk) (fun _ _=>?_)|refine ZH (Zk) (fun _ _=>?_)|refine ZE (Zk) (fun _ _=>?_)|refine ZA (n1 _ _ _) (fun _ _=>?_)|refine l_call0 (n1 _ _ _) (fun _ _=>?_)|refine ZH (n1 _ _ _) (fun _ _=>?_)|refine ZE (n1 _ _ _) (fun _ _=>?_)|refine ZA (n2) (fun _ _=>?_)|refine l_call0 (n2) (fun _ _=>?_)|refine ZH (n2) (fun _ _=>?_)|refine ZE (n2) (fun _ _=>?_)|refine ZA (n3 _ _ _) (fun _ _=>?_)|refine l_call0 (n3 _ _ _) (fun _ _=>?_)|refine ZH (n3 _ _ _) (fun _ _=>?_)|refine ZE (n3 _ _ _) (fun _ _=>?_)|refine ZA (n4) (fun _ _=>?_)|refine l_call0 (n4) (fun _ _=>?_)|refine ZH (n4) (fun _ _=>?_)|refine ZE (n4) (fun _ _=>?_)|refine ZA (n5 _) (fun _ _=>?_)|refine l_call0 (n5 _) (fun _ _=>?_)|refine ZH (n5 _) (fun _ _=>?_)|refine ZE (n5 _) (fun _ _=>?_)|refine ZA (n7 _ _ _ _) (fun _ _=>?_)|refine l_call0 (n7 _ _ _ _) (fun _ _=>?_)|refine ZH (n7 _ _ _ _) (fun _ _=>?_)|refine ZE (n7 _ _ _ _) (fun _ _=>?_)|refine YS 80 ?_|refine YS 200 ?_|refine r_up ?_|(refine ZN (fun hc=>?_) (fun hc=>?_)<;>(try simp at hc)<;>(try omega))|(refine Yn (fun hc=>?_) (fun hc=>?_)<;>(try simp at hc)<;>(try omega))|refine Zb 1 [Pt _ (.cells _ 76 _)] [(2,0),(3,0),(4,0),(5,0),(6,0),(7,0),(8,0),(9,0),(10,0),(11,0),(0,3),(1,5),(12,4),(13,0),(14,0)] [] ?_|(refine ZJ (fun hc=>?_) (fun hc=>?_)<;>(try simp at hc)<;>(try omega)))
 all_goals first|exact absurd hE hc|(refine ZF () ?_ trivial;simp [RetV,resV])
end
section
variable (q:Oq) (o:Option Addr) (c:Nat) (who raw:ByteArray)
set_option maxHeartbeats 8000000 in
theorem lpeT (p:Pr) (hd:pdec (cutS raw 200)=some p) (h0:p.ep≠0) (hl:q.p.gs.length≤1099511627776) (hv:lvalid (cutS who 80).data.toList=true) :
  Enters 7∧Spec prog 7 #[q.v o c,.string who,.string raw] [Sl 3 zf o c q.p.gs,Usg,P10] [] (RetV (.bool true)):=by
 have hw:=Zl who 80
 have hr:=Zl raw 200
 have m0:=Xz q o c hl
 have m1:=fun o c=>Ym (cutQ q) o c
 have m2:=X5 (cutS who 80)
 have m3:=Yy
 have m4:=ZY (cutS who 80) (by omega)
 rw [hv] at m4
 have m5:=fun b o c=>Yq b ⟨#[]⟩ Zf o c (Nat.zero_le _) (.inr (by simp [isE]))
 have m6:=Zt (cutS who 80)
 have m7:=Zx (cutS who 80)
 have m8:=fun b ps=>YP b ps [] [] (pnm (cutS who 80)) (cutS raw 200) (by show (cutS who 80).size≤_;omega) (Nat.zero_le _) (by simp)
 have e8:vset [] (pnm (cutS who 80)) (cutS raw 200)=(0,[]++[⟨pnm (cutS who 80),(cutS raw 200),false⟩]):=by
  unfold vset
  rw [if_neg (by simp [YF hv]),if_neg (by omega)]
 rw [e8] at m8
 have m9:=fun b ps=>YP b ps [] ([]++[⟨pnm (cutS who 80),(cutS raw 200),false⟩]) (rnm (cutS who 80)) (cutS raw 200) (by show (cutS who 80).size≤_;omega) (Nat.zero_le _) (by simp)
 have e9:vset ([]++[⟨pnm (cutS who 80),(cutS raw 200),false⟩]) (rnm (cutS who 80)) (cutS raw 200)=(0,[]++[⟨pnm (cutS who 80),(cutS raw 200),false⟩]++[⟨rnm (cutS who 80),(cutS raw 200),false⟩]):=by
  unfold vset
  rw [if_neg (by simp [XX hv]),if_neg (by omega)]
 rw [e9] at m9
 have g1:vget [] ([]++[⟨pnm (cutS who 80),(cutS raw 200),false⟩]++[⟨rnm (cutS who 80),(cutS raw 200),false⟩]) (pnm (cutS who 80))=((cutS raw 200),true):=by
  rw [Zn (by simp [pnm,rnm]),XA rfl (YF hv)];rfl
 have g2:vget [] ([]++[⟨pnm (cutS who 80),(cutS raw 200),false⟩]++[⟨rnm (cutS who 80),(cutS raw 200),false⟩]) (rnm (cutS who 80))=((cutS raw 200),true):=by
  rw [XA rfl (XX hv)];rfl
 have g3:vget [] ([]++[⟨pnm (cutS who 80),(cutS raw 200),false⟩]++[⟨rnm (cutS who 80),(cutS raw 200),false⟩]) enm=(⟨#[]⟩,false):=by
  rw [Zn (by simp [enm,rnm]),Zn (by simp [pnm,enm]),Yi]
 have n1:=fun b ps rs=>WN b ps [] rs ([]++[⟨pnm (cutS who 80),(cutS raw 200),false⟩]++[⟨rnm (cutS who 80),(cutS raw 200),false⟩]) (cutS who 80) (by omega) hv (cutS raw 200) (by omega) g1 g3
 have n2:=Zu (cutS raw 200) (by omega)
 have n3:=fun b ps rs=>regs_ok b ps [] rs ([]++[⟨pnm (cutS who 80),(cutS raw 200),false⟩]++[⟨rnm (cutS who 80),(cutS raw 200),false⟩]) (cutS who 80) (by omega) hv (cutS raw 200) g2
 have n4:=YW (cutS raw 200)
 have n5:=fun b=>XM b (cutS who 80)
 generalize ([]++[⟨pnm (cutS who 80),(cutS raw 200),false⟩]++[⟨rnm (cutS who 80),(cutS raw 200),false⟩]:List Ch)=cs2 at *
 generalize ([]++[⟨pnm (cutS who 80),(cutS raw 200),false⟩]:List Ch)=cs1 at *
 obtain ⟨y1,y2,y3,y4,y5,⟨x1,x2,x3,x4,x5,xs,x7,x8,⟨x9,x10⟩,x11⟩,y7,y8,y9,y10⟩:=q
 generalize hcq:cutQ _=cq at *
 clear hcq
 obtain ⟨z1,z2,z3,z4,z5,⟨u1,u2,u3,u4,u5,us,u7,u8,⟨u9,u10⟩,u11⟩,z7,z8,z9,z10⟩:=cq
 simp only [Oq.v] at m0 m1 ⊢
 have hreg:∃(g1 g2:List Int) (e1 e2:Int),(∀b ps rs,Enters 27∧Spec prog 27 #[.pointer (some ⟨b,0,none⟩),.string (cutS who 80)] [St ps [],Usg] [Vw b ps rs cs2]
   ⟨Unit,fun _=>.tuple #[rgV g1,.int .i64 e1],fun _=>True,fun _=>[],fun _=>[Vw b ps (vread [] rs cs2 (rnm (cutS who 80))) cs2]⟩)∧(Enters 45∧Spec prog 45 #[.string (cutS raw 200)] [] [] (RetV (.tuple #[rgV g2,.int .i64 e2])))∧g1.length=9∧g2.length=9∧((e1=0∧e2=0)∨(e1=3∧e2=4)∨(e1=3∧e2=5)):=
  ⟨_,_,_,_,n3,n4,by split<;>rfl,by split<;>rfl,by
   by_cases h:(cutS raw 200).size=36
   ·exact .inl ⟨by rw [if_pos h],by rw [if_neg (by omega),if_neg (by omega)]⟩
   ·by_cases h2:(cutS raw 200).size<36
    ·exact .inr (.inl ⟨by rw [if_neg h],by rw [if_pos h2]⟩)
    ·exact .inr (.inr ⟨by rw [if_neg h],by rw [if_neg h2,if_pos (by omega)]⟩)⟩
 clear n3 n4
 obtain ⟨g1,g2,e1,e2,n3,n4,hg1,hg2,he⟩:=hreg
 obtain _|⟨a1,_|⟨a2,_|⟨a3,_|⟨a4,_|⟨a5,_|⟨a6,_|⟨a7,_|⟨a8,_|⟨a9,_|⟨a10,l⟩⟩⟩⟩⟩⟩⟩⟩⟩⟩:=g1
 all_goals try (simp at hg1;done)
 obtain _|⟨b1,_|⟨b2,_|⟨b3,_|⟨b4,_|⟨b5,_|⟨b6,_|⟨b7,_|⟨b8,_|⟨b9,_|⟨b10,l⟩⟩⟩⟩⟩⟩⟩⟩⟩⟩:=g2
 all_goals try (simp at hg2;done)
 clear hg1 hg2
 have hE:(e1 == 0)=(e2 == 0):=by rcases he with ⟨rfl,rfl⟩|⟨rfl,rfl⟩|⟨rfl,rfl⟩<;>rfl
 simp only [hd,Option.getD_some,Option.isSome_some,if_true] at n1 n2
 have n6:=fun o c o' c'=>YH p p o o' c c'
 rw [show decide (p=p)=true by simp] at n6
 obtain ⟨i1,i2⟩:=XI hd
 obtain ⟨q1,q2,q3,q4,q5,q6⟩:=Zs i1
 obtain ⟨q7,q8,q9⟩:=Z7 q4
 have n7:=fun o c o' c'=>n6 o c o' c' (by omega) (by omega)
 clear n6 i1 i2 q1 q2 q3 q4 q5 q6 q7 q8 q9 hd
 obtain ⟨u1,u2,u3,u4,u5,us,u7,u8,⟨u9,u10⟩,u11⟩:=p
 dsimp only at h0
 simp only [Pr.v] at n1 n2 n7
 simp only [if_neg h0] at n1
 refine ZI [_,_,_] func7 ntmps7 fun G w hp=>?_
 repeat' (first|refine ZC ?_|refine ZB ?_|refine ZS ?_|refine ZD ?_|refine ZR ?_|refine Zr ?_|refine ZV ?_|refine ZO (fun b=>?_)|refine YE (fun b=>?_)|refine ZL ?_|refine ZG ?_|refine Zj ?_|refine Zv ?_|refine r_one ?_|refine Yd ?_|refine XD ?_|refine r_ldN ?_|refine r_al (fun b=>?_)|refine r_bs (fun b=>?_)|refine r_st ?_|refine Zw ?_|refine ZA (m0) (fun _ _=>?_)|refine l_call0 (m0) (fun _ _=>?_)|refine ZH (m0) (fun _ _=>?_)|refine ZE (m0) (fun _ _=>?_)|refine ZA (ZP) (fun _ _=>?_)|refine l_call0 (ZP) (fun _ _=>?_)|refine ZH (ZP) (fun _ _=>?_)|refine ZE (ZP) (fun _ _=>?_)|refine ZA (m1 _ _) (fun _ _=>?_)|refine l_call0 (m1 _ _) (fun _ _=>?_)|refine ZH (m1 _ _) (fun _ _=>?_)|refine ZE (m1 _ _) (fun _ _=>?_)|refine ZA (m2) (fun _ _=>?_)|refine l_call0 (m2) (fun _ _=>?_)|refine ZH (m2) (fun _ _=>?_)|refine ZE (m2) (fun _ _=>?_)|refine ZA (m3) (fun _ _=>?_)|refine l_call0 (m3) (fun _ _=>?_)|refine ZH (m3) (fun _ _=>?_)|refine ZE (m3) (fun _ _=>?_)|refine ZA (Za) (fun _ _=>?_)|refine l_call0 (Za) (fun _ _=>?_)|refine ZH (Za) (fun _ _=>?_)|refine ZE (Za) (fun _ _=>?_)|refine ZA (Zc _) (fun _ _=>?_)|refine l_call0 (Zc _) (fun _ _=>?_)|refine ZH (Zc _) (fun _ _=>?_)|refine ZE (Zc _) (fun _ _=>?_)|refine ZA (m4) (fun _ _=>?_)|refine l_call0 (m4) (fun _ _=>?_)|refine ZH (m4) (fun _ _=>?_)|refine ZE (m4) (fun _ _=>?_)|refine ZA (m5 _ _ _) (fun _ _=>?_)|refine l_call0 (m5 _ _ _) (fun _ _=>?_)|refine ZH (m5 _ _ _) (fun _ _=>?_)|refine ZE (m5 _ _ _) (fun _ _=>?_)|refine ZA (m6) (fun _ _=>?_)|refine l_call0 (m6) (fun _ _=>?_)|refine ZH (m6) (fun _ _=>?_)|refine ZE (m6) (fun _ _=>?_)|refine ZA (m7) (fun _ _=>?_)|refine l_call0 (m7) (fun _ _=>?_)|refine ZH (m7) (fun _ _=>?_)|refine ZE (m7) (fun _ _=>?_)|refine ZA (m8 _ _) (fun _ _=>?_)|refine l_call0 (m8 _ _) (fun _ _=>?_)|refine ZH (m8 _ _) (fun _ _=>?_)|refine ZE (m8 _ _) (fun _ _=>?_)|refine ZA (m9 _ _) (fun _ _=>?_)|refine l_call0 (m9 _ _) (fun _ _=>?_)|refine ZH (m9 _ _) (fun _ _=>?_)|refine ZE (m9 _ _) (fun _ _=>?_)|refine ZA (Zk) (fun _ _=>?_)|refine l_call0 (Zk) (fun _ _=>?_)|refine ZH (Zk) (fun _ _=>?_)|refine ZE (Zk) (fun _ _=>?_)|refine ZA (n1 _ _ _) (fun _ _=>?_)|refine l_call0 (n1 _ _ _) (fun _ _=>?_)|refine ZH (n1 _ _ _) (fun _ _=>?_)|refine ZE (n1 _ _ _) (fun _ _=>?_)|refine ZA (n2) (fun _ _=>?_)|refine l_call0 (n2) (fun _ _=>?_)|refine ZH (n2) (fun _ _=>?_)|refine ZE (n2) (fun _ _=>?_)|refine ZA (n3 _ _ _) (fun _ _=>?_)|refine l_call0 (n3 _ _ _) (fun _ _=>?_)|refine ZH (n3 _ _ _) (fun _ _=>?_)|refine ZE (n3 _ _ _) (fun _ _=>?_)|refine ZA (n4) (fun _ _=>?_)|refine l_call0 (n4) (fun _ _=>?_)|refine ZH (n4) (fun _ _=>?_)|refine ZE (n4) (fun _ _=>?_)|refine YS 80 ?_|refine YS 200 ?_|refine r_up ?_|(refine ZN (fun hc=>?_) (fun hc=>?_)<;>(try simp at hc)<;>(try omega))|(refine Yn (fun hc=>?_) (fun hc=>?_)<;>(try simp at hc)<;>(try omega))|refine Zb 1 [Pt _ (.cells _ 76 _)] [(2,0),(3,0),(4,0),(5,0),(6,0),(7,0),(8,0),(9,0),(10,0),(11,0),(0,3),(1,5),(12,4),(13,0),(14,0)] [] ?_|(refine ZJ (fun hc=>?_) (fun hc=>?_)<;>(try simp at hc)<;>(try omega)))
 all_goals first|exact absurd hE hc|(refine ZF () ?_ trivial;simp [RetV,resV])
end
section
variable (q:Oq) (o:Option Addr) (c:Nat) (who raw:ByteArray)
set_option maxHeartbeats 8000000 in
theorem lpeBad (hl:q.p.gs.length≤1099511627776) (hv:lvalid (cutS who 80).data.toList=false) :
  Enters 7∧Spec prog 7 #[q.v o c,.string who,.string raw] [Sl 3 zf o c q.p.gs,Usg,P10] [] (RetV (.bool true)):=by
 have hw:=Zl who 80
 have hr:=Zl raw 200
 have m0:=Xz q o c hl
 have m1:=fun o c=>Ym (cutQ q) o c
 have m2:=X5 (cutS who 80)
 have m3:=Yy
 have m4:=ZY (cutS who 80) (by omega)
 rw [hv] at m4
 have m5:=fun b=>getBad_ok b (cutS who 80) (by omega) hv
 have m6:=fun b=>regsBad_ok b (cutS who 80) (by omega) hv
 have m7:=fun b=>setRegsBad_ok b (cutS who 80) (by omega) hv 0 0 0 0 0 0 0 0 0
 have m8:=fun b o c=>Yq b (cutS who 80) Zf o c (by omega) (.inl hv)
 obtain ⟨y1,y2,y3,y4,y5,⟨x1,x2,x3,x4,x5,xs,x7,x8,⟨x9,x10⟩,x11⟩,y7,y8,y9,y10⟩:=q
 generalize hcq:cutQ _=cq at *
 clear hcq
 obtain ⟨z1,z2,z3,z4,z5,⟨u1,u2,u3,u4,u5,us,u7,u8,⟨u9,u10⟩,u11⟩,z7,z8,z9,z10⟩:=cq
 simp only [Oq.v] at m0 m1 ⊢
 refine ZI [_,_,_] func7 ntmps7 fun G w hp=>?_
 repeat' (first|refine ZC ?_|refine ZB ?_|refine ZS ?_|refine ZD ?_|refine ZR ?_|refine Zr ?_|refine ZV ?_|refine ZO (fun b=>?_)|refine YE (fun b=>?_)|refine ZL ?_|refine ZG ?_|refine Zj ?_|refine Zv ?_|refine r_one ?_|refine Yd ?_|refine XD ?_|refine r_ldN ?_|refine r_al (fun b=>?_)|refine r_bs (fun b=>?_)|refine r_st ?_|refine Zw ?_|refine ZA (m0) (fun _ _=>?_)|refine l_call0 (m0) (fun _ _=>?_)|refine ZH (m0) (fun _ _=>?_)|refine ZE (m0) (fun _ _=>?_)|refine ZA (ZP) (fun _ _=>?_)|refine l_call0 (ZP) (fun _ _=>?_)|refine ZH (ZP) (fun _ _=>?_)|refine ZE (ZP) (fun _ _=>?_)|refine ZA (m1 _ _) (fun _ _=>?_)|refine l_call0 (m1 _ _) (fun _ _=>?_)|refine ZH (m1 _ _) (fun _ _=>?_)|refine ZE (m1 _ _) (fun _ _=>?_)|refine ZA (m2) (fun _ _=>?_)|refine l_call0 (m2) (fun _ _=>?_)|refine ZH (m2) (fun _ _=>?_)|refine ZE (m2) (fun _ _=>?_)|refine ZA (m3) (fun _ _=>?_)|refine l_call0 (m3) (fun _ _=>?_)|refine ZH (m3) (fun _ _=>?_)|refine ZE (m3) (fun _ _=>?_)|refine ZA (Za) (fun _ _=>?_)|refine l_call0 (Za) (fun _ _=>?_)|refine ZH (Za) (fun _ _=>?_)|refine ZE (Za) (fun _ _=>?_)|refine ZA (Zc _) (fun _ _=>?_)|refine l_call0 (Zc _) (fun _ _=>?_)|refine ZH (Zc _) (fun _ _=>?_)|refine ZE (Zc _) (fun _ _=>?_)|refine ZA (m4) (fun _ _=>?_)|refine l_call0 (m4) (fun _ _=>?_)|refine ZH (m4) (fun _ _=>?_)|refine ZE (m4) (fun _ _=>?_)|refine ZA (m5 _) (fun _ _=>?_)|refine l_call0 (m5 _) (fun _ _=>?_)|refine ZH (m5 _) (fun _ _=>?_)|refine ZE (m5 _) (fun _ _=>?_)|refine ZA (m6 _) (fun _ _=>?_)|refine l_call0 (m6 _) (fun _ _=>?_)|refine ZH (m6 _) (fun _ _=>?_)|refine ZE (m6 _) (fun _ _=>?_)|refine ZA (m7 _) (fun _ _=>?_)|refine l_call0 (m7 _) (fun _ _=>?_)|refine ZH (m7 _) (fun _ _=>?_)|refine ZE (m7 _) (fun _ _=>?_)|refine ZA (Zk) (fun _ _=>?_)|refine l_call0 (Zk) (fun _ _=>?_)|refine ZH (Zk) (fun _ _=>?_)|refine ZE (Zk) (fun _ _=>?_)|refine ZA (m8 _ _ _) (fun _ _=>?_)|refine l_call0 (m8 _ _ _) (fun _ _=>?_)|refine ZH (m8 _ _ _) (fun _ _=>?_)|refine ZE (m8 _ _ _) (fun _ _=>?_)|refine YS 80 ?_|refine YS 200 ?_|refine r_up ?_|(refine ZN (fun hc=>?_) (fun hc=>?_)<;>(try simp at hc)<;>(try omega))|(refine Yn (fun hc=>?_) (fun hc=>?_)<;>(try simp at hc)<;>(try omega))|refine Zb 1 [Pt _ (.cells _ 76 _)] [(2,0),(3,0),(4,0),(5,0),(6,0),(7,0),(8,0),(9,0),(10,0),(11,0),(0,3),(1,5),(12,4),(13,0),(14,0)] [] ?_|(refine ZJ (fun hc=>?_) (fun hc=>?_)<;>(try simp at hc)<;>(try omega)))
 all_goals (refine ZF () ?_ trivial;simp [RetV,resV])
theorem lawPErrors_ok (hl:q.p.gs.length≤1099511627776) :
  Enters 7∧Spec prog 7 #[q.v o c,.string who,.string raw] [Sl 3 zf o c q.p.gs,Usg,P10] [] (RetV (.bool true)):=by
 cases h:lvalid (cutS who 80).data.toList with
 | true=>
  cases hd:pdec (cutS raw 200) with
  | none=>exact lpeN q o c who raw hd hl h
  | some p=>
   by_cases h0:p.ep=0
   ·exact lpeS q o c who raw p hd h0 hl h
   ·exact lpeT q o c who raw p hd h0 hl h
 | false=>exact lpeBad q o c who raw hl h
end
section
open Go.ChangeShapes Go.WideShapes Go.ChangeAt
section
variable {H:Type} {enc:TypeId×Value→H} {P:Program} {W:World}
theorem trod_sl_keep {n k t e:Nat} {cs:List Value} {x:DataW H×List MemPlace} (hu:P.underlying t=some (.slice e)) (hpl:plainT P k e=true) (hc0:0<P.cellsOf e) (h:DataW.trod enc P W 0 (fun _=>true) true n t cs=some x) :
  (∃a len cap,cs=[.slice a len cap])∧∀(W':World) (sp:Nat→Bool),Kept W W'→(∀b<W.heap.size,sp b=true)→DataW.trod enc P W' 0 sp true n t cs=some x:=by
 cases n with
 | zero=>simp [DataW.trod] at h
 | succ n=>
  have hsl:∃a len cap,cs=[.slice a len cap]:=by
   rcases cs with _|⟨c,_|⟨c2,cs⟩⟩
   ·simp [DataW.trod,hu] at h
   ·cases c with
    | slice a len cap=>exact ⟨a,len,cap,rfl⟩
    | _=>simp [DataW.trod,hu] at h
   ·simp [DataW.trod,hu] at h
  refine ⟨hsl,fun W' sp hk hsp=>?_⟩
  obtain ⟨a,len,cap,rfl⟩:=hsl
  cases a with
  | none=>
   have h0:len=0∧cap=0:=by
    unfold DataW.trod at h
    rw [hu] at h
    split at h<;>simp_all
   obtain ⟨rfl,rfl⟩:=h0
   simp [DataW.trod,hu] at h ⊢
   exact h
  | some a=>
   simp only [DataW.trod,hu] at h ⊢
   split at h
   ·rename_i hb
    rw [if_pos hb]
    simp only [Option.bind_eq_some_iff,if_true,Option.map_eq_some_iff] at h ⊢
    obtain ⟨elems,he,rest,hr,hx⟩:=h
    have hel1:∀i x,((W.cells? 0 (a.add (i * P.cellsOf e)) (P.cellsOf e)).bind (DataW.trod enc P W 0 (fun _=>true) true n e))=some x→((W'.cells? 0 (a.add (i * P.cellsOf e)) (P.cellsOf e)).bind (DataW.trod enc P W' 0 sp true n e))=some x:=fun i x hx=>by
     simp only [Option.bind_eq_some_iff] at hx ⊢
     obtain ⟨cs,hcs,htr⟩:=hx
     exact ⟨cs,hk.cells hcs,(YM n _ _ W 0 _ _ _ _ hpl htr).2 W' 0 sp true⟩
    refine ⟨elems,Z9 (fun i _ x hx=>hel1 i x hx) he,rest,?_,hx⟩
    by_cases hcap:cap=len
    ·have hrest:rest=[]:=by
      subst hcap
      simp at hr
      exact hr
     subst hrest
     subst hcap
     split<;>simp
    ·have hlt:a.block<W.heap.size:=by
      obtain ⟨x,_,hx2⟩:=Z1 hr 0 0 (by rw [List.getElem?_range (by omega)])
      simp only [Option.bind_eq_some_iff] at hx2
      obtain ⟨cs,hcs,_⟩:=hx2
      obtain ⟨_,c,fz,hblk,_⟩:=Xn hcs hc0
      have h1:=(Array.getElem?_eq_some_iff.1 hblk).1
      have h2:(a.add ((len+0) * P.cellsOf e)).block=a.block:=by unfold Addr.add;split<;>rfl
      rwa [h2] at h1
     rw [if_pos (hsp _ hlt)]
     exact Z9 (fun j _ x hx=>hel1 (len+j) x hx) hr
   ·cases h
def okT (P:Program):Nat→TypeId→Bool
 | 0,_=>false
 | k+1,t=>plainT P (k+1) t || match P.underlying t with
  | some (.slice e)=>plainT P k e && decide (0<P.cellsOf e)
  | some (.struct fs)=>(fs.toList.all fun f=>okT P k f.type) && (contig P 0 fs.toList == some (P.cellsOf t))
  | _=>false
inductive SL where
 | p (k:SK)
 | l (t:Nat)
def slF (g:TypeId→Option (List SL)):List Field→Option (List SL)
 | []=>some []
 | f::fs=>match g f.type,slF g fs with
  | some a,some r=>some (a++r)
  | _,_=>none
def sls (P:Program):Nat→TypeId→Option (List SL)
 | 0,_=>none
 | k+1,t=>if plainT P (k+1) t then (sks P (k+1) t).map fun l=>l.map .p else match P.underlying t with
  | some (.slice _)=>some [.l t]
  | some (.struct fs)=>slF (sls P k) fs.toList
  | _=>none
def CellL (enc:TypeId×Value→H) (P:Program) (W:World) (M:Nat):SL→Value→Prop
 | .p k,v=>CellOK M k v
 | .l t,v=>(∃a len cap,v = .slice a len cap)∧∃n x,DataW.trod enc P W 0 (fun _=>true) true n t [v]=some x∧Rows.uptoBulk x.1≤M
def CellsL (enc:TypeId×Value→H) (P:Program) (W:World) (M:Nat):List SL→List Value→Prop
 | [],[]=>True
 | k::ks,v::vs=>CellL enc P W M k v∧CellsL enc P W M ks vs
 | _,_=>False
theorem Xa {M:Nat}:∀{a b:List SL} {x y:List Value},CellsL enc P W M a x→CellsL enc P W M b y→CellsL enc P W M (a++b) (x++y)
 | [],_,[],_,_,h=>h
 | _::_,_,_::_,_,⟨h1,h2⟩,h=>⟨h1,Xa h2 h⟩
theorem WQ {M M':Nat} (hM:M≤M'):∀{a:List SL} {x:List Value},CellsL enc P W M a x→CellsL enc P W M' a x
 | [],[],_=>trivial
 | k::_,_::_,⟨h1,h2⟩=>⟨by
   cases k with
   | p k=>exact (YV hM (a:=[k]) (x:=[_]) ⟨h1,trivial⟩).1
   | l t=>obtain ⟨ha,n,x,hx,hl⟩:=h1;exact ⟨ha,n,x,hx,Nat.le_trans hl hM⟩,WQ hM h2⟩
theorem cellsL_of {M:Nat}:∀{a:List SK} {x:List Value},CellsOK M a x→CellsL enc P W M (a.map .p) x
 | [],[],_=>trivial
 | _::_,_::_,⟨h1,h2⟩=>⟨h1,cellsL_of h2⟩
theorem slF_ok {M:Nat} {g:TypeId→Option (List SL)}:∀(fs:List Field) (o total:Nat) (cs:List Value) (ks:List SL),contig P o fs=some total→cs.length=total→slF g fs=some ks→
  (∀f ∈ fs,∀k,g f.type=some k→CellsL enc P W M k ((cs.drop f.offset).take (P.cellsOf f.type)))→CellsL enc P W M ks (cs.drop o)
 | [],o,total,cs,ks,h,h1,h2,_=>by
  simp only [contig,Option.some.injEq] at h
  simp only [slF,Option.some.injEq] at h2
  rw [←h2,List.drop_eq_nil_of_le (by omega)];trivial
 | f::fs,o,total,cs,ks,h,h1,h2,hp=>by
  unfold contig at h
  split at h
  ·rename_i ho
   unfold slF at h2
   split at h2
   ·rename_i a r ha hr
    obtain rfl:=Option.some.inj h2
    have ih:=slF_ok fs (o+P.cellsOf f.type) total cs r h h1 hr fun g hg=>hp g (by simp [hg])
    have h3:=hp f (by simp) a ha
    rw [ho] at h3
    rw [←List.take_append_drop (P.cellsOf f.type) (cs.drop o),List.drop_drop]
    exact Xa h3 ih
   ·cases h2
  ·cases h
theorem XY:∀(n k:Nat) (t:TypeId) (cs:List Value) (x:DataW H×List MemPlace) (ks:List SL),okT P k t=true→sls P k t=some ks→DataW.trod enc P W 0 (fun _=>true) true n t cs=some x→
  CellsL enc P W (Rows.uptoBulk x.1) ks cs∧∀(W':World) (sp:Nat→Bool),Kept W W'→(∀b<W.heap.size,sp b=true)→DataW.trod enc P W' 0 sp true n t cs=some x
 | 0,_,_,_,_,_,_,_,h=>by simp [DataW.trod] at h
 | n+1,0,_,_,_,_,hp,_,_=>by simp [okT] at hp
 | n+1,k+1,t,cs,x,ks,hp,hk,h=>by
  unfold okT at hp
  unfold sls at hk
  by_cases hpl:plainT P (k+1) t=true
  ·rw [if_pos hpl] at hk
   simp only [Option.map_eq_some_iff] at hk
   obtain ⟨l,hl,rfl⟩:=hk
   exact ⟨cellsL_of (Yz (n+1) (k+1) t W 0 _ _ cs x l hpl hl h),fun W' sp _ _=>(YM (n+1) (k+1) t W 0 _ _ cs x hpl h).2 W' 0 sp true⟩
  ·rw [if_neg hpl] at hk
   simp only [Bool.not_eq_true] at hpl
   rw [hpl,Bool.false_or] at hp
   split at hp
   ·rename_i e hu
    rw [hu] at hk
    obtain rfl:=Option.some.inj hk
    rw [Bool.and_eq_true,decide_eq_true_eq] at hp
    obtain ⟨⟨a,len,cap,rfl⟩,h2⟩:=trod_sl_keep hu hp.1 hp.2 h
    exact ⟨⟨⟨⟨a,len,cap,rfl⟩,n+1,x,h,Nat.le_refl _⟩,trivial⟩,h2⟩
   ·rename_i fs hu
    rw [hu] at hk
    rw [Bool.and_eq_true,List.all_eq_true,beq_iff_eq] at hp
    simp only [DataW.trod,hu] at h ⊢
    split at h
    ·rename_i hl
     simp only [Option.map_eq_some_iff] at h
     obtain ⟨xs,hxs,rfl⟩:=h
     refine ⟨?_,fun W' sp hkp hsp=>?_⟩
     ·have:=slF_ok (M:=Rows.uptoBulk (.agg (xs.map (·.1)))) (g:=sls P k) (enc:=enc) (W:=W) fs.toList 0 _ cs ks hp.2 hl hk fun f hf k' hk'=>by
       obtain ⟨i,hi,rfl⟩:=List.mem_iff_getElem.1 hf
       obtain ⟨y,hy1,hy2⟩:=Z1 hxs i _ (List.getElem?_eq_getElem hi)
       refine WQ ?_ (XY n k _ _ y k' (hp.1 _ hf) hk' hy2).1
       have hm:y.1 ∈ xs.map (·.1):=List.mem_map.2 ⟨y,List.mem_of_getElem? hy1,rfl⟩
       have:=XG hm
       simp only [Rows.uptoBulk];omega
      simpa using this
     ·rw [if_pos hl,Z9 (fun f hf y hy=>?_) hxs]
      ·rfl
      ·have hs:∃k',sls P k f.type=some k':=slF_mem hk hf
       obtain ⟨k',hk'⟩:=hs
       exact (XY n k _ _ y k' (hp.1 f hf) hk' hy).2 W' sp hkp hsp
    ·cases h
   ·cases hp
where slF_mem {g:TypeId→Option (List SL)}:∀{fs:List Field} {ks:List SL} {f:Field},slF g fs=some ks→f ∈ fs→∃k,g f.type=some k
 | [],_,_,_,h=>by cases h
 | f::fs,ks,f',h,hm=>by
  unfold slF at h
  split at h
  ·rename_i a r ha hr
   rcases List.mem_cons.1 hm with rfl|hm
   ·exact ⟨a,ha⟩
   ·exact slF_mem hr hm
  ·cases h
theorem ZX {M:Nat} {k:SK} {ks:List SL} {cs:List Value} (h:CellsL enc P W M (.p k::ks) cs):∃v cs',cs=v::cs'∧CellOK M k v∧CellsL enc P W M ks cs':=by
 obtain _|⟨v,cs⟩:=cs
 ·exact h.elim
 ·exact ⟨v,cs,rfl,h⟩
theorem cellsL_l {M t:Nat} {ks:List SL} {cs:List Value} (h:CellsL enc P W M (.l t::ks) cs):∃v cs',cs=v::cs'∧CellL enc P W M (.l t) v∧CellsL enc P W M ks cs':=by
 obtain _|⟨v,cs⟩:=cs
 ·exact h.elim
 ·exact ⟨v,cs,rfl,h⟩
theorem cellsL_nil {M:Nat} {cs:List Value} (h:CellsL enc P W M [] cs):cs=[]:=by
 cases cs
 ·rfl
 ·exact h.elim
end
theorem plI64:plainT prog 5 3=true:=by decide +kernel
theorem okPr:okT prog 5 44=true:=by decide +kernel
theorem slPr:sls prog 5 44=some [.p (.i .i64),.p (.i .i64),.p (.i .i64),.p (.i .i64),.p (.i .i64),.l 38,.p .s,.p (.i .i64),.p .s,.p (.i .i64),.p (.i .i64)]:=by kernel_rfl
section
variable {H:Type} {enc:TypeId×Value→H} {W:World} {base:Nat} {v:Value} {d:DataW H} {p:List MemPlace}
theorem open_pr (hv:Value.okWide prog W .any base 44 v) (h:DataW.Trod enc prog W 0 (fun _=>true) true 44 v d p) :
  ∃(q:Pr) (o:Option Addr) (cap:Nat),v=q.v o cap∧(Sl 3 zf o cap q.gs).p (fun b=>W.heap[b]?)∧q.gs.length≤Rows.uptoBulk d∧
   ∀(W':World) (sp:Nat→Bool),Kept W W'→(∀b<W.heap.size,sp b=true)→DataW.Trod enc prog W' 0 sp true 44 v d p:=by
 obtain ⟨cs,rfl⟩:=aggS underlying44 hv
 obtain ⟨n,hn⟩:=h
 obtain ⟨hc,hk⟩:=XY n 5 _ _ _ _ okPr slPr hn
 have hkeep:∀(W':World) (sp:Nat→Bool),Kept W W'→(∀b<W.heap.size,sp b=true)→DataW.Trod enc prog W' 0 sp true 44 (.agg cs) d p:=fun W' sp h1 h2=>⟨n,hk W' sp h1 h2⟩
 dsimp only at hc
 have hcl:(Value.agg cs).cells.toList=cs.toList:=rfl
 rw [hcl] at hc
 obtain ⟨v1,c,e1,⟨z1,rfl,_⟩,g1⟩:=ZX hc
 obtain ⟨v2,c,rfl,⟨z2,rfl,_⟩,g2⟩:=ZX g1
 obtain ⟨v3,c,rfl,⟨z3,rfl,_⟩,g3⟩:=ZX g2
 obtain ⟨v4,c,rfl,⟨z4,rfl,_⟩,g4⟩:=ZX g3
 obtain ⟨v5,c,rfl,⟨z5,rfl,_⟩,g5⟩:=ZX g4
 obtain ⟨v6,c,rfl,⟨⟨a,len,cap,rfl⟩,m,x,hx,hb⟩,g6⟩:=cellsL_l g5
 obtain ⟨v7,c,rfl,⟨s7,rfl,_⟩,g7⟩:=ZX g6
 obtain ⟨v8,c,rfl,⟨z8,rfl,_⟩,g8⟩:=ZX g7
 obtain ⟨v9,c,rfl,⟨s9,rfl,_⟩,g9⟩:=ZX g8
 obtain ⟨v10,c,rfl,⟨z10,rfl,_⟩,g10⟩:=ZX g9
 obtain ⟨v11,c,rfl,⟨z11,rfl,_⟩,g11⟩:=ZX g10
 obtain rfl:=cellsL_nil g11
 obtain ⟨o,cp,es,h1,h2,h3,_,_⟩:=open_slC (enc:=enc) (P:=prog) (W:=W) (v:=.slice a len cap) (d:=x.1) (p:=x.2) (fa:=zf) (Q:=fun _ _=>True) 3 underlying38 plI64 (by decide +kernel) (fun _=>show 1=_ by decide +kernel) (fun n cs x hx=>by
  cases n with
  | zero=>simp [DataW.trod] at hx
  | succ n=>
   obtain ⟨z,rfl,_,hz⟩:=DataW.trod_int underlying3 hx
   exact ⟨z,rfl,trivial⟩) (fun _ _ _ _ _=>trivial) ⟨a,len,cap,rfl⟩ ⟨m,hx⟩
 injection h1 with h4 h5 h6
 subst h4 h6
 have hcs:cs = #[.int .i64 z1,.int .i64 z2,.int .i64 z3,.int .i64 z4,.int .i64 z5,.slice a len cap,.string s7,.int .i64 z8,.string s9,.int .i64 z10,.int .i64 z11]:=by rw [←Array.toList_inj];exact e1
 exact ⟨⟨z1,z2,z3,z4,z5,es,s7,z8,⟨s9,z10⟩,z11⟩,a,cap,by rw [hcs,h5];rfl,h2,by show es.length≤_;omega,hkeep⟩
end
end
section
open Go.ChangeShapes Go.WideShapes Go.ChangeAt
theorem okOq:okT prog 6 76=true:=by decide +kernel
theorem slOq:sls prog 6 76=some [.p (.i .u8),.p (.i .u8),.p (.i .i64),.p (.i .i64),.p .s,.p (.i .i64),.p (.i .i64),.p (.i .i64),.p (.i .i64),.p (.i .i64),.l 38,.p .s,.p (.i .i64),.p .s,.p (.i .i64),.p (.i .i64),.p .s,.p .s,.p (.i .i64),.p (.i .i64)]:=by kernel_rfl
section
variable {H:Type} {enc:TypeId×Value→H} {W:World} {base:Nat} {v:Value} {d:DataW H} {p:List MemPlace}
theorem open_oq (hv:Value.okWide prog W .any base 76 v) (h:DataW.Trod enc prog W 0 (fun _=>true) true 76 v d p) :
  ∃(q:Oq) (o:Option Addr) (cap:Nat),v=q.v o cap∧(Sl 3 zf o cap q.p.gs).p (fun b=>W.heap[b]?)∧q.p.gs.length≤Rows.uptoBulk d∧
   ∀(W':World) (sp:Nat→Bool),Kept W W'→(∀b<W.heap.size,sp b=true)→DataW.Trod enc prog W' 0 sp true 76 v d p:=by
 obtain ⟨cs,rfl⟩:=aggS underlying76 hv
 obtain ⟨n,hn⟩:=h
 obtain ⟨hc,hk⟩:=XY n 6 _ _ _ _ okOq slOq hn
 have hkeep:∀(W':World) (sp:Nat→Bool),Kept W W'→(∀b<W.heap.size,sp b=true)→DataW.Trod enc prog W' 0 sp true 76 (.agg cs) d p:=fun W' sp h1 h2=>⟨n,hk W' sp h1 h2⟩
 dsimp only at hc
 have hcl:(Value.agg cs).cells.toList=cs.toList:=rfl
 rw [hcl] at hc
 obtain ⟨w1,c,e1,⟨y1,rfl,i1⟩,k1⟩:=ZX hc
 obtain ⟨w2,c,rfl,⟨y2,rfl,i2⟩,k2⟩:=ZX k1
 obtain ⟨w3,c,rfl,⟨y3,rfl,_⟩,k3⟩:=ZX k2
 obtain ⟨w4,c,rfl,⟨y4,rfl,_⟩,k4⟩:=ZX k3
 obtain ⟨w5,c,rfl,⟨y5,rfl,_⟩,k5⟩:=ZX k4
 obtain ⟨v1,c,rfl,⟨z1,rfl,_⟩,g1⟩:=ZX k5
 obtain ⟨v2,c,rfl,⟨z2,rfl,_⟩,g2⟩:=ZX g1
 obtain ⟨v3,c,rfl,⟨z3,rfl,_⟩,g3⟩:=ZX g2
 obtain ⟨v4,c,rfl,⟨z4,rfl,_⟩,g4⟩:=ZX g3
 obtain ⟨v5,c,rfl,⟨z5,rfl,_⟩,g5⟩:=ZX g4
 obtain ⟨v6,c,rfl,⟨⟨a,len,cap,rfl⟩,m,x,hx,hb⟩,g6⟩:=cellsL_l g5
 obtain ⟨v7,c,rfl,⟨s7,rfl,_⟩,g7⟩:=ZX g6
 obtain ⟨v8,c,rfl,⟨z8,rfl,_⟩,g8⟩:=ZX g7
 obtain ⟨v9,c,rfl,⟨s9,rfl,_⟩,g9⟩:=ZX g8
 obtain ⟨v10,c,rfl,⟨z10,rfl,_⟩,g10⟩:=ZX g9
 obtain ⟨v11,c,rfl,⟨z11,rfl,_⟩,g11⟩:=ZX g10
 obtain ⟨v12,c,rfl,⟨s12,rfl,_⟩,g12⟩:=ZX g11
 obtain ⟨v13,c,rfl,⟨s13,rfl,_⟩,g13⟩:=ZX g12
 obtain ⟨v14,c,rfl,⟨z14,rfl,_⟩,g14⟩:=ZX g13
 obtain ⟨v15,c,rfl,⟨z15,rfl,_⟩,g15⟩:=ZX g14
 obtain rfl:=cellsL_nil g15
 obtain ⟨o,cp,es,h1,h2,h3,_,_⟩:=open_slC (enc:=enc) (P:=prog) (W:=W) (v:=.slice a len cap) (d:=x.1) (p:=x.2) (fa:=zf) (Q:=fun _ _=>True) 3 underlying38 plI64 (by decide +kernel) (fun _=>show 1=_ by decide +kernel) (fun n cs x hx=>by
  cases n with
  | zero=>simp [DataW.trod] at hx
  | succ n=>
   obtain ⟨z,rfl,_,hz⟩:=DataW.trod_int underlying3 hx
   exact ⟨z,rfl,trivial⟩) (fun _ _ _ _ _=>trivial) ⟨a,len,cap,rfl⟩ ⟨m,hx⟩
 injection h1 with h4 h5 h6
 subst h4 h6
 obtain ⟨n1,rfl⟩:=u8_of i1
 obtain ⟨n2,rfl⟩:=u8_of i2
 have hcs:cs = #[.int .u8 (n1.toNat:Int),.int .u8 (n2.toNat:Int),.int .i64 y3,.int .i64 y4,.string y5,.int .i64 z1,.int .i64 z2,.int .i64 z3,.int .i64 z4,.int .i64 z5,.slice a len cap,.string s7,.int .i64 z8,.string s9,.int .i64 z10,.int .i64 z11,.string s12,.string s13,.int .i64 z14,.int .i64 z15]:=by rw [←Array.toList_inj];exact e1
 exact ⟨⟨n1.toNat,n2.toNat,y3,y4,y5,⟨z1,z2,z3,z4,z5,es,s7,z8,⟨s9,z10⟩,z11⟩,s12,s13,z14,z15⟩,a,cap,by rw [hcs,h5];rfl,h2,by show es.length≤_;omega,hkeep⟩
end
end
end Go.Proofs.YtgfohjbcccfolaaGreatDoor
