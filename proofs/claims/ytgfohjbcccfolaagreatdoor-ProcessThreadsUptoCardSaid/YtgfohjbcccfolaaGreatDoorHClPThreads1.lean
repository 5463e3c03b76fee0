/-
  The library's contract, laid at this program: strings.Repeat; and process.setPages, Grow.
  The contracts of process.Grow by one page, and of process.Thread, where they succeed.
  What is there in the law ProcessThreads.
  What holds in the turns of the law ProcessThreads.
  Rules for loads out of an owned slice that is also appended to.
  The law ProcessThreads, walked.
  Conditions: those that each theorem states.
-/
import Derived.Shelf.Strings.Repeat
import Derived.Test.YtgfohjbcccfolaaGreatDoorF3
set_option maxRecDepth 10000
namespace Go.Proofs
open Go.Shelf
def Tryz.lays105_ren:Go.Shelf.Ren:=⟨fun|105=>86|212=>135|99=>136|165=>137|166=>138|170=>139|169=>140|263=>164|264=>165|206=>166|240=>167|241=>168|276=>200|277=>201|n=>n,fun|9=>9|3=>3|4=>4|20=>20|0=>0|46=>174|109=>218|5=>5|72=>223|76=>226|51=>55|146=>257|53=>202|148=>259|70=>221|37=>22|75=>225|127=>261|164=>294|80=>71|n=>n,fun|n=>n⟩
theorem Tryz.lays105:Go.Proofs.Lays.n105 Tryz.prog Tryz.lays105_ren:={
 mixed:=by kernel_rfl
 f99:=Tryz.func136.trans (congrArg some (by kernel_rfl))
 f105:=Tryz.func86.trans (congrArg some (by kernel_rfl))
 f165:=Tryz.func137.trans (congrArg some (by kernel_rfl))
 f166:=Tryz.func138.trans (congrArg some (by kernel_rfl))
 f169:=Tryz.func140.trans (congrArg some (by kernel_rfl))
 f170:=Tryz.func139.trans (congrArg some (by kernel_rfl))
 f206:=Tryz.func166.trans (congrArg some (by kernel_rfl))
 f212:=Tryz.func135.trans (congrArg some (by kernel_rfl))
 f240:=Tryz.func167.trans (congrArg some (by kernel_rfl))
 f241:=Tryz.func168.trans (congrArg some (by kernel_rfl))
 f263:=Tryz.func164.trans (congrArg some (by kernel_rfl))
 f264:=Tryz.func165.trans (congrArg some (by kernel_rfl))
 f276:=Tryz.func200.trans (congrArg some (by kernel_rfl))
 f277:=Tryz.func201.trans (congrArg some (by kernel_rfl))
 t0:=Tryz.underlying0
 a0:=Tryz.isAgg0
 z0:=Tryz.sizeOf0
 v0:=Tryz.zeroValue0
 t3:=Tryz.underlying3
 a3:=Tryz.isAgg3
 z3:=Tryz.sizeOf3
 v3:=Tryz.zeroValue3
 t4:=Tryz.underlying4
 a4:=Tryz.isAgg4
 z4:=Tryz.sizeOf4
 v4:=Tryz.zeroValue4
 t5:=Tryz.underlying5
 a5:=Tryz.isAgg5
 z5:=Tryz.sizeOf5
 v5:=Tryz.zeroValue5
 t9:=Tryz.underlying9
 a9:=Tryz.isAgg9
 z9:=Tryz.sizeOf9
 v9:=Tryz.zeroValue9
 t20:=Tryz.underlying20
 a20:=Tryz.isAgg20
 z20:=Tryz.sizeOf20
 v20:=Tryz.zeroValue20
 t37:=Tryz.underlying22
 a37:=Tryz.isAgg22
 z37:=Tryz.sizeOf22
 v37:=Tryz.zeroValue22
 t46:=Tryz.underlying174
 a46:=Tryz.isAgg174
 z46:=Tryz.sizeOf174
 v46:=Tryz.zeroValue174
 t51:=Tryz.underlying55
 a51:=Tryz.isAgg55
 z51:=Tryz.sizeOf55
 v51:=Tryz.zeroValue55
 t53:=Tryz.underlying202
 a53:=Tryz.isAgg202
 z53:=Tryz.sizeOf202
 v53:=Tryz.zeroValue202
 t70:=Tryz.underlying221
 a70:=Tryz.isAgg221
 z70:=Tryz.sizeOf221
 v70:=Tryz.zeroValue221
 t72:=Tryz.underlying223
 a72:=Tryz.isAgg223
 z72:=Tryz.sizeOf223
 v72:=Tryz.zeroValue223
 t75:=Tryz.underlying225
 a75:=Tryz.isAgg225
 z75:=Tryz.sizeOf225
 v75:=Tryz.zeroValue225
 t76:=Tryz.underlying226
 a76:=Tryz.isAgg226
 z76:=Tryz.sizeOf226
 v76:=Tryz.zeroValue226
 t109:=Tryz.underlying218
 a109:=Tryz.isAgg218
 z109:=Tryz.sizeOf218
 v109:=Tryz.zeroValue218
 t127:=Tryz.underlying261
 a127:=Tryz.isAgg261
 z127:=Tryz.sizeOf261
 v127:=Tryz.zeroValue261
 t146:=Tryz.underlying257
 a146:=Tryz.isAgg257
 z146:=Tryz.sizeOf257
 v146:=Tryz.zeroValue257
 t148:=Tryz.underlying259
 a148:=Tryz.isAgg259
 z148:=Tryz.sizeOf259
 v148:=Tryz.zeroValue259
 t164:=Tryz.underlying294
 a164:=Tryz.isAgg294
 z164:=Tryz.sizeOf294
 v164:=Tryz.zeroValue294}
theorem Tryz.bx105:Builder.Extra Tryz.prog Tryz.lays105_ren:={
 sizeBuilder:=by kernel_rfl
 liesBuilder:=by kernel_rfl
 t5:=Tryz.underlying5
 a5:=Tryz.isAgg5
 z5:=Tryz.sizeOf5
 v5:=Tryz.zeroValue5
 infoByte:=by kernel_rfl
 cellsByte:=by kernel_rfl
 sizeByte:=by kernel_rfl
 neB5:=by decide}
end Go.Proofs
namespace Go.Proofs.YtgfohjbcccfolaaGreatDoor
open Go.Proofs.Tryz
open Go.RowKit
theorem repeat_ok (s:ByteArray) (c:Nat) (h1:2≤c) (h2:c≤1000) (h3:s.size≤1000) (h4:0<s.size):Enters 86∧Spec prog 86 #[.string s,.int .i64 (c:Int)] [] [] (RetV (.string ⟨(Lib.repeatL s.data.toList c).toArray⟩)):=by
 refine ⟨enters_of func86 (by kernel_rfl) rfl,fun G w hp hs=>?_⟩
 refine (Any.strings_Repeat_main Tryz.lays105 Tryz.bx105 s c w h1 (by omega) (Nat.le_trans (Nat.mul_le_mul h3 h2) (by decide)) h4).mono ?_
 rintro e w' ⟨rfl,hx⟩
 exact ⟨(),rfl,trivial,hs.ext hx⟩
def z64B:ByteArray:=⟨z64.toArray⟩
theorem repeat64_ok:Enters 86∧Spec prog 86 #[.string ⟨#[0]⟩,.int .i64 64] [] [] (RetV (.string z64B)):=by
 have h:=repeat_ok ⟨#[0]⟩ 64 (by decide) (by decide) (by decide) (by decide)
 rw [show (⟨(Lib.repeatL (⟨#[0]⟩:ByteArray).data.toList 64).toArray⟩:ByteArray)=z64B by decide +kernel] at h
 exact h
theorem setPage1_ok (b:Nat) (ps:Option Addr) (rs:List (Nm×Ch)) (cs:List Ch) (who:ByteArray) (hw:who.size≤1000) (hv:lvalid who.data.toList=true) (f:Nat) (hf:f≤63) (hl:cs.length≤1000000) (x:ByteArray) (hx:x.size≤65536) (o:Option Addr) (cap:Nat) :
  Enters 87∧Spec prog 87 #[.pointer (some ⟨b,0,none⟩),.string who,.int .i64 (f:Int),.slice o 1 cap] [Sl 9 (fun s=>[Value.string s]) o cap [x],Usg] [Vw b ps rs cs]
  ⟨Unit,fun _=>.int .i64 0,fun _=>True,fun _=>[],fun _=>[Vw b ps rs (cs++[⟨gnm who (f:Int),x,false⟩])]⟩:=by
 have n1:=YO who (f:Int)
 have n2:=Y0 b ps rs cs (gnm who (f:Int)) x (by show who.size≤_;omega) (Nat.zero_le _) hl
 have e2:vset cs (gnm who (f:Int)) x=(0,cs++[⟨gnm who (f:Int),x,false⟩]):=by
  unfold vset
  rw [if_neg (by rw [XW hv (by omega)];simp),if_neg (by omega)]
 rw [e2] at n2
 have hx0:[x][0]? = some x:=rfl
 have wf:IntKind.i64.wrap ((f:Int)+((0:Nat):Int))=(f:Int):=by rw [wrapi (by omega) (by omega)];omega
 have w9:IntKind.i64.wrap (((0:Nat):Int)+1)=((1:Nat):Int):=by rw [wrapi (by omega) (by omega)];omega
 generalize cs++[⟨gnm who (f:Int),x,false⟩]=cs2 at *
 generalize b=bv at *
 refine ZI [_,_,_,_] func87 ntmps87 fun G w hp=>?_
 repeat' (first|refine ZC ?_|refine ZB ?_|refine ZD ?_|fail)
 refine YF (X:={i:Nat // i≤1}) (fun i=>[(0,.pointer (some ⟨bv,0,none⟩)),(1,.string who),(2,.int .i64 (f:Int)),(12,.slice o 1 cap),(13,.int .i64 1),(14,.int .i64 (i.1:Int))]) (fun _=>[Sl 9 (fun s=>[Value.string s]) o cap [x],Usg]) (fun i=>[Vw bv ps rs (if i.1=0 then cs else cs2)]) (fun i=>1 - i.1) ⟨0,Nat.zero_le _⟩ ⟨rfl,rfl,rfl,rfl,rfl,rfl,trivial⟩ ?_
 rintro ⟨i,hi⟩
 dsimp only
 by_cases h:i=0
 ·subst h
  rw [if_pos rfl]
  repeat' (first|refine ZC ?_|refine ZB ?_|refine ZD ?_|refine ZJ ?_|refine ZF ?_|refine ZA (n1) (fun _ _=>?_)|refine ZA (n2) (fun _ _=>?_)|rw [wf]|rw [w9]|refine YY (es:=[x]) (f:=fun s=>[Value.string s]) 0 x hx0 (fun b off=>?_)|refine Zw ?_|fail)
  exact ZW ⟨1,Nat.le_refl _⟩ (by show 1 - 1<1 - 0;decide) ⟨rfl,rfl,rfl,rfl,rfl,rfl,trivial⟩
 ·obtain rfl:i=1:=by omega
  rw [if_neg h]
  repeat' (first|refine ZC ?_|refine ZB ?_|refine ZD ?_|refine ZF ?_|refine Zj ?_|fail)
  exact ZG () rfl trivial
end Go.Proofs.YtgfohjbcccfolaaGreatDoor
set_option maxRecDepth 10000
namespace Go.Proofs.YtgfohjbcccfolaaGreatDoor
open Go.RowKit Go.Proofs.Tryz
abbrev sf1:ByteArray→List Value:=fun s=>[Value.string s]
theorem Xg {b:Nat} {ps:Option Addr} {es:Al} {rs:List (Nm×Ch)} {cs cs':List Ch} {who s:ByteArray} (h:Enters 52∧Spec prog 52 #[.pointer (some ⟨b,0,none⟩),.string who,.bool true] [St ps es,Usg,P10] [Vw b ps rs cs] ⟨List (Nm×Ch),fun _=>.tuple #[.string s,.int .i64 0],fun _=>True,fun _=>[],fun rs'=>[Vw b ps rs' cs']⟩) :
  Enters 29∧Spec prog 29 #[.pointer (some ⟨b,0,none⟩),.string who] [St ps es,Usg,P10] [Vw b ps rs cs] ⟨List (Nm×Ch),fun _=>.tuple #[.string s,.int .i64 0],fun _=>True,fun _=>[],fun rs'=>[Vw b ps rs' cs']⟩:=by
 refine ZI [_,_] func29 ntmps29 fun G w hp=>?_
 repeat' (first|refine ZC ?_|refine ZB ?_|refine ZD ?_|refine ZA (h) (fun _ _=>?_)|fail)
 rename_i x _
 exact ZG x rfl trivial
def grP (o:Pr):Pr:={o with pg:=o.pg+1}
set_option maxHeartbeats 4000000 in
theorem grow1_ok (b:Nat) (ps:Option Addr) (es:Al) (rs:List (Nm×Ch)) (cs:List Ch) (who:ByteArray) (p o:Pr) (h:PrAt es cs who p) (ho:Own es cs who p o) (hv:lvalid p.sp.data.toList=true) (pg:Nat) (hpg:o.pg=(pg:Int)) (hp63:pg≤63) (hc:pchk (grP o)=0) (hos:o.sp.size≤1000) (hod:o.dr.mkr.size≤1000) (hl:cs.length≤900000) :
  Enters 31∧Spec prog 31 #[.pointer (some ⟨b,0,none⟩),.string who,.int .i64 1] [St ps es,Usg] [Vw b ps rs cs]
  ⟨Unit,fun _=>.tuple #[.int .i64 (pg:Int),.int .i64 0],fun _=>True,fun _=>[],fun _=>[Vw b ps (mmR es rs cs who p) (cs++[⟨pnm p.sp,pencS (grP o),false⟩]++[⟨gnm p.sp (pg:Int),z64B,false⟩])]⟩:=by
 have n1:=XN b ps es rs cs who p o h ho
 have n2:=XR 1 64
 rw [show (decide ((0:Int)≤1) && decide ((1:Int)≤64))=true by decide] at n2
 have n3:=XZ b ps (mmR es rs cs who p) cs
 have n4:=fun a c=>Yh b ps (mmR es rs cs who p) cs p.sp (grP o) a c hc hos hod h.s hv (by omega)
 have n5:=fun a c=>setPage1_ok b ps (mmR es rs cs who p) (cs++[⟨pnm p.sp,pencS (grP o),false⟩]) p.sp h.s hv pg hp63 (by simp;omega) z64B (by decide) a c
 have n6:=repeat64_ok
 have hsp:=h.s
 generalize cs++[⟨pnm p.sp,pencS (grP o),false⟩]++[⟨gnm p.sp (pg:Int),z64B,false⟩]=cs3 at *
 generalize cs++[⟨pnm p.sp,pencS (grP o),false⟩]=cs2 at *
 generalize mmR es rs cs who p=rs3 at *
 generalize b=bv at *
 clear h ho hc
 obtain ⟨a1,a2,a3,a4,a5,gs,a7,a8,⟨a9,a9'⟩,a10⟩:=p
 obtain ⟨o1,o2,o3,o4,o5,os,o7,o8,⟨o9,o9'⟩,o10⟩:=o
 simp only [Pr.v,grP] at n1 n4
 dsimp only at *
 subst hpg
 have w1:IntKind.i64.wrap ((pg:Int)+1)=(pg:Int)+1:=wrapi (by omega) (by omega)
 refine ZI [_,_,_] func31 ntmps31 fun G w hp=>?_
 repeat' (first|refine ZC ?_|refine ZB ?_|refine ZD ?_|refine ZS ?_|refine ZV ?_|refine ZQ (fun b=>?_)|refine ZF ?_|refine ZA (n1) (fun _ _=>?_)|refine ZA (n2) (fun _ _=>?_)|rw [w1]|refine l_mks (f:=sf1) (z0:=⟨#[]⟩) (m:=1) (bytes:=16) (by decide) (by decide) (fun b=>?_)|(refine ZH (fun hc=>?_) (fun hc=>?_)<;>(try simp at hc)<;>(try omega))|fail)
 rename_i q _ b8 b9
 obtain ⟨⟨qa,qc⟩,qa',qc'⟩:=q
 dsimp only
 refine YF (X:={i:Nat // i≤1}) (fun i=>[(0,.pointer (some ⟨bv,0,none⟩)),(2,.int .i64 1),(8,.pointer (some ⟨b8,0,none⟩)),(9,.pointer (some ⟨b9,0,none⟩)),(11,.int .i64 (pg:Int)),(12,.slice (some ⟨b,0,none⟩) 1 1),(42,.int .i64 ((1:Nat):Int)),(43,.int .i64 (i.1:Int))]) (fun _=>[Sl 3 zf qa' qc' os,St ps es,Usg])
  (fun i=>[Vw bv ps rs3 cs,Ar 9 sf1 b [if i.1=0 then ⟨#[]⟩ else z64B],Pt b8 (.cells #[.int .i64 a1,.int .i64 a2,.int .i64 a3,.int .i64 a4,.int .i64 a5,.slice qa gs.length qc,.string a7,.int .i64 a8,.string a9,.int .i64 a9',.int .i64 a10] 44),Pt b9 (.cells #[.int .i64 o1,.int .i64 o2,.int .i64 o3,.int .i64 o4,.int .i64 o5,.slice qa' os.length qc',.string o7,.int .i64 (pg:Int),.string o9,.int .i64 o9',.int .i64 o10] 44)]) (fun i=>1 - i.1)
  ⟨0,Nat.zero_le _⟩ ⟨rfl,rfl,rfl,rfl,rfl,rfl,rfl,rfl,trivial⟩ ?_
 rintro ⟨i,hi⟩
 dsimp only
 by_cases h:i=0
 ·subst h
  rw [if_pos rfl]
  have w9:IntKind.i64.wrap (((0:Nat):Int)+1)=((1:Nat):Int):=by rw [wrapi (by omega) (by omega)];omega
  have hv0:[(⟨#[]⟩:ByteArray)][0]? = some ⟨#[]⟩:=rfl
  repeat' (first|refine ZC ?_|refine ZB ?_|refine ZD ?_|refine ZV ?_|refine ZJ ?_|refine ZA (n6) (fun _ _=>?_)|rw [w9]|refine l_ixO (m:=1) (sz:=1) 0 (by decide) ?_|fail)
  exact ZW ⟨1,Nat.le_refl _⟩ (by show 1 - 1<1 - 0;decide) ⟨rfl,rfl,rfl,rfl,rfl,rfl,rfl,rfl,trivial⟩
 ·obtain rfl:i=1:=by omega
  rw [if_neg h]
  refine Zi (r:=Row 9 1 (some ⟨b,0,none⟩) 1 1 [.string z64B]) (Lx:=[Ar 9 sf1 b [z64B]]) (fun h hh=>by
   obtain ⟨h1,h2,_,s1,_,hx,_⟩:=hh
   exact .inr ⟨b,[],(0,0),rfl,s1 _ _ hx,rfl,rfl,Nat.le_refl _,.inl rfl⟩) ?_
  refine k_frz (T:=9) (f:=sf1) [z64B] ?_ rfl rfl
  repeat' (first|refine ZC ?_|refine ZB ?_|refine ZD ?_|refine ZS ?_|refine ZV ?_|refine ZJ ?_|refine ZF ?_|refine Zj ?_|refine ZA (n3) (fun _ _=>?_)|refine ZA (n4 _ _) (fun _ _=>?_)|refine ZA (n5 _ _) (fun _ _=>?_)|rw [w1]|fail)
  exact ZG () rfl trivial
def c111:ByteArray:=⟨#[49,46,49,46,49]⟩
theorem chN11:chN c11 1=c111:=by rw [chN,itoa1];decide
theorem YA:lvalid c111.data.toList=true:=by
 have h:=(Zh [49,46,49,46,49] 0 0 (by simp)).2.2.2
 rw [show ffirst (([49,46,49,46,49]:List UInt8).drop 0) 0 0=(⟨1,0,0⟩,1) from rfl] at h
 have h2:=(Zh [49,46,49,46,49] 2 1 (by simp)).2.2.2
 rw [show ffirst (([49,46,49,46,49]:List UInt8).drop 2) 2 1=(⟨1,2,0⟩,3) from rfl] at h2
 have h3:=(Zh [49,46,49,46,49] 4 2 (by simp)).2.2.2
 rw [show ffirst (([49,46,49,46,49]:List UInt8).drop 4) 4 2=(⟨1,4,0⟩,5) from rfl] at h3
 simp at h h2 h3
 simp [c111,lvalid,lparts,h,h2,h3]
theorem c11_parts:lparts c11.data.toList=[⟨1,0,0⟩,⟨1,2,0⟩]:=by
 have h:=(Zh [49,46,49] 0 0 (by simp)).2.2.2
 rw [show ffirst (([49,46,49]:List UInt8).drop 0) 0 0=(⟨1,0,0⟩,1) from rfl] at h
 have h2:=(Zh [49,46,49] 2 1 (by simp)).2.2.2
 rw [show ffirst (([49,46,49]:List UInt8).drop 2) 2 1=(⟨1,2,0⟩,3) from rfl] at h2
 simp at h h2
 simp [c11,lparts,h,h2]
theorem c11_lords:(lords c11.data.toList).length≠8:=by
 rw [lords,if_pos ZR,c11_parts];decide
def Zk:Pr:=kidS true ZK ZK c11
theorem thr35_chk:pchk Zk=0:=kidS_chk (share:=true) Xd ZR (by decide)
theorem e1:c111≠o1:=by decide
theorem e2:c111≠c11:=by decide
theorem e3:c111≠c12:=by decide
theorem thr_at {cs:List Ch} {who:ByteArray} (hv:lvalid who.data.toList=true) (hw:who.size≤1000) (h1:vget [] cs (pnm who)=(pencS Zk,true)) (h2:vget [] cs enm=(⟨#[]⟩,false)):PrAt [] cs who Zk:=⟨hv,hw,h1,thr35_chk,by decide,by decide,rfl,h2⟩
theorem spT {cs:List Ch} {who ch:ByteArray} {c:Ct} {p:Pr} (hr:(vget [] cs (rnm who)).2=false):spC [] cs who ch c p Zk=cs++[⟨cnm who,cvs {c with c:=c.c+1},false⟩]++[⟨pnm ch,pencS Zk,false⟩]:=by
 unfold spC
 rw [show Zk.pg.toNat=0 from rfl]
 show cpC _ _ _ _=_
 unfold cpC
 rw [ZX (by simp [pnm,rnm]),ZX (by simp [cnm,rnm]),hr]
 rfl
def tA:List Ch:=cA
def tB:List Ch:=tA++[⟨cnm o1,cvs ⟨0,0,1⟩,false⟩]++[⟨pnm c11,pencS Zk,false⟩]
def tC:List Ch:=tB++[⟨cnm c11,cvs ⟨0,0,1⟩,false⟩]++[⟨pnm c111,pencS Zk,false⟩]
def tD:List Ch:=tC++[⟨cnm o1,cvs ⟨0,0,2⟩,false⟩]++[⟨pnm c12,pencS Zk,false⟩]
section
variable {cs:List Ch} {who ch:ByteArray} {z:Int}
theorem tv_p (hv:lvalid ch.data.toList=true) (x:ByteArray):vget [] (cs++[⟨cnm who,cvs ⟨0,0,z⟩,false⟩]++[⟨pnm ch,pencS Zk,false⟩]) (pnm x)=if x=ch then (pencS Zk,true) else vget [] cs (pnm x):=by
 by_cases h:x=ch
 ·subst h
  rw [if_pos rfl,Yx rfl (Yc hv)];rfl
 ·rw [if_neg h,ZX (fun e=>h (by simpa [pnm] using e.symm)),ZX (by simp [cnm,pnm])]
theorem tv_o (m:Nm) (h1:m.kind≠1) (h5:m.kind≠5):vget [] (cs++[⟨cnm who,cvs ⟨0,0,z⟩,false⟩]++[⟨pnm ch,pencS Zk,false⟩]) m=vget [] cs m:=by
 rw [ZX (fun e=>h1 (by rw [←e];rfl)),ZX (fun e=>h5 (by rw [←e];rfl))]
theorem tv_c (hv:lvalid who.data.toList=true) (x:ByteArray):vget [] (cs++[⟨cnm who,cvs ⟨0,0,z⟩,false⟩]++[⟨pnm ch,pencS Zk,false⟩]) (cnm x)=if x=who then (cvs ⟨0,0,z⟩,true) else vget [] cs (cnm x):=by
 rw [ZX (by simp [pnm,cnm])]
 by_cases h:x=who
 ·subst h
  rw [if_pos rfl,Yx rfl (chk_cnm hv)];rfl
 ·rw [if_neg h,ZX (fun e=>h (by simpa [cnm] using e.symm))]
end
theorem tA_1:PrAt [] tA o1 ZK:=Yn (by unfold tA;rw [vA_p,if_pos rfl]) (vA_o _ (by decide))
theorem tB_1:PrAt [] tB o1 ZK:=Yn (by unfold tB;rw [tv_p ZR,if_neg (fun e=>d1 e.symm)];exact tA_1.g) (by unfold tB;rw [tv_o _ (by decide) (by decide)];exact tA_1.n)
theorem tB_2:PrAt [] tB c11 Zk:=thr_at ZR (by decide) (by unfold tB;rw [tv_p ZR,if_pos rfl]) tB_1.n
theorem tC_1:PrAt [] tC o1 ZK:=Yn (by unfold tC;rw [tv_p YA,if_neg (fun e=>e1 e.symm)];exact tB_1.g) (by unfold tC;rw [tv_o _ (by decide) (by decide)];exact tB_1.n)
theorem tC_2:PrAt [] tC c11 Zk:=thr_at ZR (by decide) (by unfold tC;rw [tv_p YA,if_neg (fun e=>e2 e.symm)];exact tB_2.g) tC_1.n
theorem tC_3:PrAt [] tC c111 Zk:=thr_at YA (by decide) (by unfold tC;rw [tv_p YA,if_pos rfl]) tC_1.n
theorem tD_1:PrAt [] tD o1 ZK:=Yn (by unfold tD;rw [tv_p Z2,if_neg (fun e=>d2 e.symm)];exact tC_1.g) (by unfold tD;rw [tv_o _ (by decide) (by decide)];exact tC_1.n)
theorem tD_2:PrAt [] tD c11 Zk:=thr_at ZR (by decide) (by unfold tD;rw [tv_p Z2,if_neg d3];exact tC_2.g) tD_1.n
theorem tD_3:PrAt [] tD c111 Zk:=thr_at YA (by decide) (by unfold tD;rw [tv_p Z2,if_neg e3];exact tC_3.g) tD_1.n
theorem tD_4:PrAt [] tD c12 Zk:=thr_at Z2 (by decide) (by unfold tD;rw [tv_p Z2,if_pos rfl]) tD_1.n
theorem t_g (x:ByteArray) (i:Int):vget [] tA (gnm x i)=(⟨#[]⟩,false)∧vget [] tB (gnm x i)=(⟨#[]⟩,false)∧vget [] tC (gnm x i)=(⟨#[]⟩,false)∧vget [] tD (gnm x i)=(⟨#[]⟩,false):=by
 have hA:vget [] tA (gnm x i)=(⟨#[]⟩,false):=vA_o _ (by simp [gnm])
 have hB:vget [] tB (gnm x i)=(⟨#[]⟩,false):=by unfold tB;rw [tv_o _ (by simp [gnm]) (by simp [gnm])];exact hA
 have hC:vget [] tC (gnm x i)=(⟨#[]⟩,false):=by unfold tC;rw [tv_o _ (by simp [gnm]) (by simp [gnm])];exact hB
 exact ⟨hA,hB,hC,by unfold tD;rw [tv_o _ (by simp [gnm]) (by simp [gnm])];exact hC⟩
theorem t_r (x:ByteArray):vget [] tA (rnm x)=(⟨#[]⟩,false)∧vget [] tB (rnm x)=(⟨#[]⟩,false)∧vget [] tC (rnm x)=(⟨#[]⟩,false):=by
 have hA:vget [] tA (rnm x)=(⟨#[]⟩,false):=vA_o _ (by simp [rnm])
 have hB:vget [] tB (rnm x)=(⟨#[]⟩,false):=by unfold tB;rw [tv_o _ (by simp [rnm]) (by simp [rnm])];exact hA
 exact ⟨hA,hB,by unfold tC;rw [tv_o _ (by simp [rnm]) (by simp [rnm])];exact hB⟩
theorem ctT_ok {z:Int} (h:0≤z∧z≤1000):CtOK ⟨0,0,z⟩:=⟨Int.le_refl 0,by show (0:Int)≤1048576;decide,Int.le_refl 0,by show (0:Int)≤1048576;decide,h.1,by show z≤1048576;omega⟩
theorem th1_ok (v s:Nat) (rs:List (Nm×Ch)):Enters 29∧Spec prog 29 #[.pointer (some ⟨v,0,none⟩),.string o1] [St (some ⟨s,0,none⟩) [],Usg,P10] [Vw v (some ⟨s,0,none⟩) rs tA] ⟨List (Nm×Ch),fun _=>.tuple #[.string c11,.int .i64 0],fun _=>True,fun _=>[],fun rs'=>[Vw v (some ⟨s,0,none⟩) rs' tB]⟩:=by
 have hne:isE o1=false:=by simp [isE,o1,ZZ]
 have i1:(Lib.itoa 1).length≤100:=by rw [itoa1];decide
 have hc:vget [] tA (cnm o1)=(⟨#[]⟩,false):=vA_o _ (by decide)
 have h:=X0 v (some ⟨s,0,none⟩) [] rs tA o1 ZK ZK true tA_1 rfl (by unfold Own;rw [if_pos (show ZK.sp=o1 from rfl)]) ⟨0,0,0⟩ (by rw [madeE,if_pos ZT,hc];rfl) (by rw [hc];exact Nat.zero_le _) (ctT_ok (by decide)) (by decide) YZ hne i1
  (by show lvalid (chN o1 1).data.toList=true;rw [chN1];exact ZR) (by show (chN o1 1).size≤_;rw [chN1];decide) (by show (vget [] tA (pnm (chN o1 1))).2=false;rw [chN1];unfold tA;rw [vA_p,if_neg d1]) (by show chN o1 1≠o1;rw [chN1];exact d1) (by rw [(t_r _).1];exact Nat.zero_le _)
  (fun i _=>by rw [(t_g _ _).1];exact Nat.zero_le _) (by decide)
 rw [show chN o1 ((Ct.mk 0 0 0).c+1)=c11 from chN1,show kidS true ZK ZK c11=Zk from rfl,spT (by rw [(t_r _).1])] at h
 exact Xg h
theorem th2_ok (v s:Nat) (rs:List (Nm×Ch)):Enters 29∧Spec prog 29 #[.pointer (some ⟨v,0,none⟩),.string c11] [St (some ⟨s,0,none⟩) [],Usg,P10] [Vw v (some ⟨s,0,none⟩) rs tB] ⟨List (Nm×Ch),fun _=>.tuple #[.string c111,.int .i64 0],fun _=>True,fun _=>[],fun rs'=>[Vw v (some ⟨s,0,none⟩) rs' tC]⟩:=by
 have hne:isE c11=false:=by simp [isE,c11,ZZ]
 have i1:(Lib.itoa 1).length≤100:=by rw [itoa1];decide
 have hc:vget [] tB (cnm c11)=(⟨#[]⟩,false):=by unfold tB;rw [tv_c ZT,if_neg d1];exact vA_o _ (by decide)
 have h:=X0 v (some ⟨s,0,none⟩) [] rs tB c11 Zk ZK true tB_2 rfl (by unfold Own;rw [if_neg (show ¬Zk.sp=c11 from fun e=>d1 e.symm)];exact tB_1) ⟨0,0,0⟩ (by rw [madeE,if_pos ZR,hc];rfl) (by rw [hc];exact Nat.zero_le _) (ctT_ok (by decide)) (by decide) c11_lords hne i1
  (by show lvalid (chN c11 1).data.toList=true;rw [chN11];exact YA) (by show (chN c11 1).size≤_;rw [chN11];decide) (by show (vget [] tB (pnm (chN c11 1))).2=false;rw [chN11];unfold tB;rw [tv_p ZR,if_neg e2];unfold tA;rw [vA_p,if_neg e1]) (by show chN c11 1≠o1;rw [chN11];exact e1) (by rw [(t_r _).2.1];exact Nat.zero_le _)
  (fun i _=>by rw [(t_g _ _).2.1];exact Nat.zero_le _) (by decide)
 rw [show chN c11 ((Ct.mk 0 0 0).c+1)=c111 from chN11,show kidS true Zk ZK c111=Zk from rfl,spT (by rw [(t_r _).2.1])] at h
 exact Xg h
theorem th3_ok (v s:Nat) (rs:List (Nm×Ch)):Enters 29∧Spec prog 29 #[.pointer (some ⟨v,0,none⟩),.string o1] [St (some ⟨s,0,none⟩) [],Usg,P10] [Vw v (some ⟨s,0,none⟩) rs tC] ⟨List (Nm×Ch),fun _=>.tuple #[.string c12,.int .i64 0],fun _=>True,fun _=>[],fun rs'=>[Vw v (some ⟨s,0,none⟩) rs' tD]⟩:=by
 have hne:isE o1=false:=by simp [isE,o1,ZZ]
 have i2:(Lib.itoa 2).length≤100:=by rw [itoa2];decide
 have hc:vget [] tC (cnm o1)=(cvs ⟨0,0,1⟩,true):=by unfold tC;rw [tv_c ZR,if_neg (fun e=>d1 e.symm)];unfold tB;rw [tv_c ZT,if_pos rfl]
 obtain ⟨m1,m2⟩:=Xv (z:=1) (by decide) hc
 have h:=X0 v (some ⟨s,0,none⟩) [] rs tC o1 ZK ZK true tC_1 rfl (by unfold Own;rw [if_pos (show ZK.sp=o1 from rfl)]) ⟨0,0,1⟩ m1 m2 (ctT_ok (by decide)) (by decide) YZ hne i2
  (by show lvalid (chN o1 2).data.toList=true;rw [chN2];exact Z2) (by show (chN o1 2).size≤_;rw [chN2];decide) (by show (vget [] tC (pnm (chN o1 2))).2=false;rw [chN2];unfold tC;rw [tv_p YA,if_neg (fun e=>e3 e.symm)];unfold tB;rw [tv_p ZR,if_neg (fun e=>d3 e.symm)];unfold tA;rw [vA_p,if_neg d2]) (by show chN o1 2≠o1;rw [chN2];exact d2) (by rw [(t_r _).2.2];exact Nat.zero_le _)
  (fun i _=>by rw [(t_g _ _).2.2.1];exact Nat.zero_le _) (by decide)
 rw [show chN o1 ((Ct.mk 0 0 1).c+1)=c12 from chN2,show kidS true ZK ZK c12=Zk from rfl,spT (by rw [(t_r _).2.2])] at h
 exact Xg h
def fstP (g e:Bool):Pr:=⟨1,if e then 2 else 1,0,0,7,[1,5],o1,if g then 3 else 2,⟨⟨#[]⟩,0⟩,3⟩
theorem XT (g e:Bool):pchk (fstP g e)=0:=by
 have hg:gchk [1,5]=0:=by decide
 have hb:bchk ⟨⟨#[]⟩,0⟩=0:=(Zt Xd).2.2.2.2.2
 unfold pchk pfit fstP
 dsimp only
 cases g<;>cases e<;>rw [if_neg (by decide),if_neg (by decide),if_neg (by decide),hg,if_neg (by simp),if_neg (by simp [ZT]),hb]
theorem fst_at {cs:List Ch} {g e:Bool} (h1:vget [] cs (pnm o1)=(pencS (fstP g e),true)) (h2:vget [] cs enm=(⟨#[]⟩,false)):PrAt [] cs o1 (fstP g e):=⟨ZT,by decide,h1,XT g e,by show o1.size≤1000;decide,by show (0:Nat)≤1000;decide,rfl,h2⟩
def pgN (g:Bool):Nat:=if g then 3 else 2
theorem fst_pg (g e:Bool):(fstP g e).pg=(pgN g:Int):=by cases g<;>rfl
structure TJ (i:Nat) (g e:Bool) (cs:List Ch) (w:ByteArray):Prop where
 p1:PrAt [] cs o1 (fstP g e)
 p2:PrAt [] cs c11 Zk
 p3:PrAt [] cs c111 Zk
 p4:PrAt [] cs c12 Zk
 m:memS [] cs o1 (pgN g)=w
 l:cs.length≤100+70 * i
theorem TJ.size {i:Nat} {g e:Bool} {cs:List Ch} {w:ByteArray} (h:TJ i g e cs w):w.size=64 * pgN g:=by rw [←h.m];exact Zx _ _ _ _
theorem TJ.st {i:Nat} {g e:Bool} {cs:List Ch} {w:ByteArray} (h:TJ i g e cs w) {k:Nat} {tx:ByteArray} (hk:k+tx.size≤64 * pgN g):TJ (i+1) g e (putS [] cs o1 (pgN g) k tx) (spl w k tx):=
 ⟨YL h.p1,YL h.p2,YL h.p3,YL h.p4,by rw [X8 ZT (by cases g<;>decide) hk,h.m],by have:=YI (es:=[]) (cs:=cs) (sp:=o1) (pg:=pgN g) (k:=k) (tx:=tx);have:=h.l;omega⟩
theorem Yk {cs:List Ch} {who x:ByteArray} {p:Pr} {v:ByteArray} (h:PrAt [] cs who p) (hne:x≠who):PrAt [] (cs++[⟨pnm x,v,false⟩]) who p:=
 ⟨h.v,h.w,by rw [ZX (fun e=>hne (by simpa [pnm] using e))];exact h.g,h.c,h.s,h.d,h.e,by rw [ZX (by simp [pnm,enm])];exact h.n⟩
theorem prAt_gnm {cs:List Ch} {who x:ByteArray} {i:Int} {p:Pr} {v:ByteArray} (h:PrAt [] cs who p):PrAt [] (cs++[⟨gnm x i,v,false⟩]) who p:=
 ⟨h.v,h.w,by rw [ZX (by simp [gnm,pnm])];exact h.g,h.c,h.s,h.d,h.e,by rw [ZX (by simp [gnm,enm])];exact h.n⟩
theorem TJ.end_ {i:Nat} {g:Bool} {cs:List Ch} {w:ByteArray} (h:TJ i g false cs w) (hl:cs.length≤100+70 * i - 3):TJ i g true (cs++[⟨pnm o1,pencS (fstP g true),false⟩]) w:=
 ⟨fst_at (by rw [Yx rfl (Yc ZT)];rfl) (by rw [ZX (by simp [pnm,enm])];exact h.p1.n),Yk h.p2 (fun e=>d1 e.symm),Yk h.p3 (fun e=>e1 e.symm),Yk h.p4 (fun e=>d2 e.symm),
  by rw [←h.m];exact YQ fun j _=>by rw [ZX (by simp [pnm,gnm])],by simp;omega⟩
theorem padz:padS z64B=z64:=by decide +kernel
theorem TJ.gr {i:Nat} {e:Bool} {cs:List Ch} {w:ByteArray} (h:TJ i false e cs w) (hl:cs.length+2≤100+70 * i):TJ i true e (cs++[⟨pnm o1,pencS (fstP true e),false⟩]++[⟨gnm o1 ((2:Nat):Int),z64B,false⟩]) (w++z64B):=
 ⟨fst_at (by rw [ZX (by simp [gnm,pnm]),Yx rfl (Yc ZT)];rfl) (by rw [ZX (by simp [gnm,enm]),ZX (by simp [pnm,enm])];exact h.p1.n),prAt_gnm (Yk h.p2 (fun e=>d1 e.symm)),prAt_gnm (Yk h.p3 (fun e=>e1 e.symm)),prAt_gnm (Yk h.p4 (fun e=>d2 e.symm)),by
  show memS [] _ o1 2++_=_
  rw [Yx rfl (XW ZT (by decide))]
  have h2:memS [] (cs++[⟨pnm o1,pencS (fstP true e),false⟩]++[⟨gnm o1 ((2:Nat):Int),z64B,false⟩]) o1 2=w:=by
   rw [←h.m]
   exact YQ fun j hj=>by rw [ZX (Xo (.inr (by omega))),ZX (by simp [pnm,gnm])]
  rw [h2]
  show w++⟨(padS z64B).toArray⟩=_
  rw [padz];rfl,by simp;omega⟩
section
variable {n:Nat} {C:Cx} {Q:Exit→Act→World→Prop} {E E':List (Nat×Value)} {F F' F1 Fs F0:List Pf} {R R' R0:List HP} {k k':List Fr} {ops l:List Oper} {i d b off:Nat} {t ty0:TypeId} {x y:Operand} {pos:String} {aft:Array Edge} {gd:Option (Nat×Bool)} {v:Value}
theorem k_rowo {T sz m cap:Nat} {o:Option Addr} {xs:List Value} (hm:0<m) (t:∀b,o=some ⟨b,0,none⟩→Wk n C k Q E F R) (hs:Sel (Row T sz o m cap xs) R R0:=by (repeat (first|exact Sel.here|apply Sel.there));first|done|fail):Wk n C k Q E F R:=fun a w ha hsat=>by
 have h0:=hsat
 obtain ⟨hp,hr,st⟩:=hsat
 obtain ⟨h1,h2,_,_,_,hx,_⟩:=hs.sep st.r
 rcases hx with ⟨_,h3,_⟩|⟨b,_,_,h3,_⟩
 ·omega
 ·exact t b h3 a w ha h0
theorem l_ldR {T sz m cap:Nat} {xs:List Value} (nx:Wl n C ops.toArray k Q l ((d,v)::E) F R) (hw:wantL ops E ⟨some d,.load t x,ty0,pos,aft,gd⟩=some true:=by rfl) (hn:Nat.blt d n=true:=by rfl)
  (hx:ev E x=some (.pointer (some ⟨b,off,none⟩)):=by rfl) (hs:Sel (Row T sz (some ⟨b,0,none⟩) m cap xs) R R0:=by (repeat (first|exact Sel.here|apply Sel.there));first|done|fail) (hv:ldv t xs off=some v:=by rfl) :
  Wl n C ops.toArray k Q (⟨some d,.load t x,ty0,pos,aft,gd⟩::l) E F R:=
 Zn (fun t ht=>by cases ht;exact Nat.le_of_ble_eq_true hn) (fun c hc=>by cases hc) hw fun a w ha hsat=>by
  have h0:=hsat
  obtain ⟨hp,hr,st⟩:=hsat
  obtain ⟨h1,h2,_,s1,_,hrow,_⟩:=hs.sep st.r
  obtain ⟨rest,fz,hb⟩:∃rest fz,h1 b=some (.cells (xs++rest).toArray T fz):=by
   rcases hrow with ⟨h3,_⟩|⟨b',rest,fz,h3,h4,_⟩
   ·cases h3
   ·cases h3;exact ⟨rest,fz,h4⟩
  have hv':ldv t (xs++rest).toArray.toList off=some v:=by
   have h:=ldv_in (pre:=[]) (post:=rest) hv
   simpa using h
  have hr1:=YP (st.inr _ _ (s1 _ _ hb)) hv'
  unfold OpRes
  simp only [execOp,Instr.loadAt,ha.ev (by rw [ZE];exact hx),Instr.sureAddr,Sem.run_bind,Sem.run_pure,Result.andThen,hr1]
  exact fun a' ha'=>nx a' w ha' h0
theorem l_ixP5 {T sz m cap:Nat} {z:Int} {rs tr:TRow} (j:Nat) (hlt:j<m) (nx:Wl n C ops.toArray k Q l ((d,.pointer (some ⟨b,j * sz,none⟩))::E) F R)
  (hw:wantL ops E ⟨some d,.indexAddr t x y,ty0,pos,aft,gd⟩=some true:=by rfl) (hn:Nat.blt d n=true:=by rfl) (hx:ev E x=some (.slice (some ⟨b,0,none⟩) m cap):=by rfl) (hy:ev E y=some (.int .i64 z):=by rfl)
  (hts:lookT tab t=some rs:=by rfl) (hrs:rs.k = .slice T:=by rfl) (hT:lookT tab T=some tr:=by rfl) (hsz:tr.size=sz:=by rfl) (hz:z=(j:Int):=by first|rfl|omega):Wl n C ops.toArray k Q (⟨some d,.indexAddr t x y,ty0,pos,aft,gd⟩::l) E F R:=
 l_q (fun a w ha=>by
  have hr1:=YE (o:=some ⟨b,0,none⟩) (m:=m) (cap:=cap) (w:=w) hts hrs hT hsz hz hlt (p:=⟨b,j * sz,none⟩) (by simp [YH rfl])
  simp only [execOp,ha.ev (x:=x) (by rw [ZE];exact hx),ha.ev (x:=y) (by rw [ZE];exact hy),Sem.run_bind,Result.andThen,hr1,Sem.run_pure]) nx (by intro c h;cases h) hw hn
end
def nmL:Nat→List ByteArray
 | 0=>[o1]
 | 1=>[o1,c11]
 | 2=>[o1,c11,c111]
 | _=>[o1,c11,c111,c12]
def csT:Nat→List Ch
 | 0=>tA
 | 1=>tB
 | 2=>tC
 | _=>tD
theorem zeros35_ok:Enters 30∧Spec prog 30 #[] [] [] (RetV (.string z64B)):=by
 refine ZI [] func30 ntmps30 fun G w hp=>?_
 repeat' (first|refine ZC ?_|refine ZB ?_|refine ZP ?_|refine ZD ?_|refine ZS ?_|refine Zr ?_|refine ZV ?_|refine ZQ (fun b=>?_)|refine YM (fun b=>?_)|refine ZJ ?_|refine ZF ?_|refine Zj ?_|refine l_mks bf (0:UInt8) 64 1 (by decide) (by decide) (fun b6=>?_)|refine l_b2sH (es:=z64) (q:=([],(0,0))) ?_ rfl|(refine ZM (fun hc=>?_) (fun hc=>?_)<;>(try simp at hc))|(refine ZH (fun hc=>?_) (fun hc=>?_)<;>(try simp at hc)))
 exact ZG () rfl trivial
theorem TJ.who {i:Nat} {g e:Bool} {cs:List Ch} {w:ByteArray} (h:TJ i g e cs w) (j:Nat) (hj:j<4):∃who p,(nmL 3)[j]? = some who∧PrAt [] cs who p∧Own [] cs who p (fstP g e)∧p.sp=o1:=by
 have ho:∀who,who≠o1→Own [] cs who Zk (fstP g e):=fun who hw=>by
  unfold Own
  rw [if_neg (show ¬Zk.sp=who from fun e=>hw e.symm)]
  exact h.p1
 rcases (show j=0∨j=1∨j=2∨j=3 by omega) with rfl|rfl|rfl|rfl
 ·exact ⟨o1,fstP g e,rfl,h.p1,by unfold Own;rw [if_pos (show (fstP g e).sp=o1 from rfl)],rfl⟩
 ·exact ⟨c11,Zk,rfl,h.p2,ho _ d1,rfl⟩
 ·exact ⟨c111,Zk,rfl,h.p3,ho _ e1,rfl⟩
 ·exact ⟨c12,Zk,rfl,h.p4,ho _ d2,rfl⟩
theorem tj0:TJ 0 false false tD (z64B++z64B):=
 ⟨fst_at tD_1.g tD_1.n,tD_2,tD_3,tD_4,by
  have h:∀i:Int,(vget [] tD (gnm o1 i)).1=⟨#[]⟩:=fun i=>by rw [(t_g o1 i).2.2.2]
  show ((⟨#[]⟩:ByteArray)++(⟨(padS (vget [] tD (gnm o1 ((0:Nat):Int))).1).toArray⟩:ByteArray))++(⟨(padS (vget [] tD (gnm o1 ((1:Nat):Int))).1).toArray⟩:ByteArray)=z64B++z64B
  rw [h,h,show padS ⟨#[]⟩=z64 by decide +kernel]
  rfl,by decide⟩
theorem Xh (g:Bool):pgN g≤64:=by cases g<;>decide
theorem XP (g:Bool):2≤pgN g:=by cases g<;>decide
set_option maxHeartbeats 8000000 in
theorem lawPThreads_ok (o:Option Addr) (cap:Nat) (es:List UInt8) (gr en:UInt8) :
  Enters 6∧Spec prog 6 #[.slice o es.length cap,.int .u8 gr.toNat,.int .u8 en.toNat] [Sl 5 bf o cap es,Usg,P10] [] (RetV (.bool true)):=by
 have n0:=begun_ok
 have n1:=known35_ok
 have m1:=th1_ok
 have m2:=th2_ok
 have m3:=th3_ok
 have hT:=tj0
 obtain ⟨f,hf⟩:∃f,f=csT:=⟨_,rfl⟩
 rw [show cA=csT 0 from rfl,←hf] at n0
 rw [show tA=csT 0 from rfl,show tB=csT 1 from rfl,←hf] at m1
 rw [show tB=csT 1 from rfl,show tC=csT 2 from rfl,←hf] at m2
 rw [show tC=csT 2 from rfl,show tD=csT 3 from rfl,←hf] at m3
 rw [show tD=csT 3 from rfl,←hf] at hT
 have hl3:(f 3).length≤50:=by rw [hf];decide
 clear hf
 refine ZI [_,_,_] func6 ntmps6 fun G w hp=>?_
 repeat' (first|refine ZC ?_|refine ZB ?_|refine ZP ?_|refine ZD ?_|refine ZS ?_|refine Zr ?_|refine ZV ?_|refine ZQ (fun b=>?_)|refine YM (fun b=>?_)|refine ZJ ?_|refine ZF ?_|refine ZA (n0) (fun _ _=>?_)|refine l_call0 (n0) (fun _ _=>?_)|refine ZA (n1) (fun _ _=>?_)|refine l_call0 (n1) (fun _ _=>?_)|(refine ZM (fun hc=>?_) (fun hc=>?_)<;>(try simp at hc)<;>(try omega))|(refine ZH (fun hc=>?_) (fun hc=>?_)<;>(try simp at hc)<;>(try omega)))
 rename Nat×Nat×List (Nm×Ch)=>q
 obtain ⟨v,s,rs0⟩:=q
 dsimp only
 refine Zi (r:=Row 28 1 (some ⟨b,0,none⟩) (nmL 0).length 1 ((nmL 0).flatMap sf1)) (Lx:=[Pt b (.cells #[.string ⟨#[49]⟩] 28)]) (fun h hh=>by
  obtain ⟨h1,h2,_,s1,_,hx,_⟩:=hh
  exact .inr ⟨b,[],(0,0),rfl,s1 _ _ hx,rfl,rfl,Nat.le_refl _,.inl rfl⟩) ?_
 refine YF (X:={t:Nat×(Option Addr×Nat)×List (Nm×Ch) // t.1≤3}) (fun t=>[(0,.slice o es.length cap),(1,.int .u8 gr.toNat),(2,.int .u8 en.toNat),(7,.pointer (some ⟨v,0,none⟩)),(9,.slice t.1.2.1.1 (nmL t.1.1).length t.1.2.1.2),(10,.int .i64 (t.1.1:Int))]) (fun _=>[Sl 5 bf o cap es,St (some ⟨s,0,none⟩) [],Usg,P10])
  (fun t=>[Vw v (some ⟨s,0,none⟩) t.1.2.2 (f t.1.1),Row 28 1 t.1.2.1.1 (nmL t.1.1).length t.1.2.1.2 ((nmL t.1.1).flatMap sf1)]) (fun t=>3 - t.1.1) ⟨(0,(some ⟨b,0,none⟩,1),rs0),Nat.zero_le _⟩ ⟨rfl,rfl,rfl,rfl,rfl,rfl,trivial⟩ ?_
 rintro ⟨⟨i,⟨ro,rc⟩,rs⟩,hi⟩
 dsimp only at hi ⊢
 by_cases hlt:i<3
 ·rcases (show i=0∨i=1∨i=2 by omega) with rfl|rfl|rfl
  ·have w9:IntKind.i64.wrap (((0:Nat):Int)+1)=((1:Nat):Int):=by rw [wrapi (by omega) (by omega)];omega
   refine k_rowo (by decide) (fun rb hrb=>?_) (hs:=Sel.there Sel.here)
   subst hrb
   rw [show (nmL 0).length=1 from rfl]
   have m1':=m1 v s rs
   repeat' (first|refine ZC ?_|refine ZB ?_|refine ZP ?_|refine ZD ?_|refine ZS ?_|refine Zr ?_|refine ZV ?_|refine ZQ (fun b=>?_)|refine YM (fun b=>?_)|refine ZJ ?_|refine ZF ?_|refine ZA (m1') (fun _ _=>?_)|refine l_call0 (m1') (fun _ _=>?_)|rw [w9]|refine l_ixP5 (m:=1) (sz:=1) 0 (by decide) ?_|refine l_ldR ?_|refine XM (fun o' cap'=>?_)|(refine ZM (fun hc=>?_) (fun hc=>?_)<;>(try simp at hc)<;>(try omega))|(refine ZH (fun hc=>?_) (fun hc=>?_)<;>(try simp at hc)<;>(try omega)))
   rename List (Nm×Ch)=>rs2
   refine k_rowc (T:=28) (sz:=1) (o:=o') (cap:=cap') (m:=1+1) (m':=(nmL 1).length) ((nmL 0).flatMap sf1++sf1 c11) ((nmL 1).flatMap sf1) rfl rfl ?_
   exact ZW ⟨(1,(o',cap'),rs2),by omega⟩ (by show 3 - 1<3 - 0;decide) ⟨rfl,rfl,rfl,rfl,rfl,rfl,trivial⟩
  ·have w9:IntKind.i64.wrap (((1:Nat):Int)+1)=((2:Nat):Int):=by rw [wrapi (by omega) (by omega)];omega
   refine k_rowo (by decide) (fun rb hrb=>?_) (hs:=Sel.there Sel.here)
   subst hrb
   rw [show (nmL 1).length=2 from rfl]
   have m1':=m2 v s rs
   repeat' (first|refine ZC ?_|refine ZB ?_|refine ZP ?_|refine ZD ?_|refine ZS ?_|refine Zr ?_|refine ZV ?_|refine ZQ (fun b=>?_)|refine YM (fun b=>?_)|refine ZJ ?_|refine ZF ?_|refine ZA (m1') (fun _ _=>?_)|refine l_call0 (m1') (fun _ _=>?_)|rw [w9]|refine l_ixP5 (m:=2) (sz:=1) 1 (by decide) ?_|refine l_ldR ?_|refine XM (fun o' cap'=>?_)|(refine ZM (fun hc=>?_) (fun hc=>?_)<;>(try simp at hc)<;>(try omega))|(refine ZH (fun hc=>?_) (fun hc=>?_)<;>(try simp at hc)<;>(try omega)))
   rename List (Nm×Ch)=>rs2
   refine k_rowc (T:=28) (sz:=1) (o:=o') (cap:=cap') (m:=2+1) (m':=(nmL 2).length) ((nmL 1).flatMap sf1++sf1 c111) ((nmL 2).flatMap sf1) rfl rfl ?_
   exact ZW ⟨(2,(o',cap'),rs2),by omega⟩ (by show 3 - 2<3 - 1;decide) ⟨rfl,rfl,rfl,rfl,rfl,rfl,trivial⟩
  ·have w9:IntKind.i64.wrap (((2:Nat):Int)+1)=((3:Nat):Int):=by rw [wrapi (by omega) (by omega)];omega
   refine k_rowo (by decide) (fun rb hrb=>?_) (hs:=Sel.there Sel.here)
   subst hrb
   rw [show (nmL 2).length=3 from rfl]
   have m1':=m3 v s rs
   repeat' (first|refine ZC ?_|refine ZB ?_|refine ZP ?_|refine ZD ?_|refine ZS ?_|refine Zr ?_|refine ZV ?_|refine ZQ (fun b=>?_)|refine YM (fun b=>?_)|refine ZJ ?_|refine ZF ?_|refine ZA (m1') (fun _ _=>?_)|refine l_call0 (m1') (fun _ _=>?_)|rw [w9]|refine l_ixP5 (m:=3) (sz:=1) 0 (by decide) ?_|refine l_ldR ?_|refine XM (fun o' cap'=>?_)|(refine ZM (fun hc=>?_) (fun hc=>?_)<;>(try simp at hc)<;>(try omega))|(refine ZH (fun hc=>?_) (fun hc=>?_)<;>(try simp at hc)<;>(try omega)))
   rename List (Nm×Ch)=>rs2
   refine k_rowc (T:=28) (sz:=1) (o:=o') (cap:=cap') (m:=3+1) (m':=(nmL 3).length) ((nmL 2).flatMap sf1++sf1 c12) ((nmL 3).flatMap sf1) rfl rfl ?_
   exact ZW ⟨(3,(o',cap'),rs2),by omega⟩ (by show 3 - 3<3 - 2;decide) ⟨rfl,rfl,rfl,rfl,rfl,rfl,trivial⟩
 ·obtain rfl:i=3:=by omega
  obtain ⟨Z,hZ⟩:∃Z,Z=z64B:=⟨_,rfl⟩
  have hZs:Z.size=64:=by rw [hZ];decide
  have n4:=zeros35_ok
  rw [←hZ] at n4 hT
  have hcz:Z.size+Z.size≤9223372036854775807:=by omega
  refine k_frz (T:=28) (sz:=1) (f:=sf1) (o:=ro) (cap:=rc) (nmL 3) ?_ rfl rfl
  repeat' (first|refine ZC ?_|refine ZB ?_|refine ZP ?_|refine ZD ?_|refine ZS ?_|refine Zr ?_|refine ZV ?_|refine ZQ (fun b=>?_)|refine YM (fun b=>?_)|refine ZJ ?_|refine ZF ?_|refine Zj ?_|refine ZA (n4) (fun _ _=>?_)|refine l_call0 (n4) (fun _ _=>?_)|refine l_cat ?_ (h:=hcz)|(refine ZM (fun hc=>?_) (fun hc=>?_)<;>(try simp at hc)<;>(try omega))|(refine ZH (fun hc=>?_) (fun hc=>?_)<;>(try simp at hc)<;>(try omega)))
  obtain ⟨G,hG⟩:∃G,G=gr.toNat % 10:=⟨_,rfl⟩
  obtain ⟨H,hH⟩:∃H,H=en.toNat % 10:=⟨_,rfl⟩
  have hG10:G<10:=by omega
  have hH10:H<10:=by omega
  have tg:(gr.toNat:Int).tmod 10=(G:Int):=by rw [Int.tmod_eq_emod_of_nonneg (Int.natCast_nonneg _),hG];exact (Int.natCast_emod _ 10).symm
  have te:(en.toNat:Int).tmod 10=(H:Int):=by rw [Int.tmod_eq_emod_of_nonneg (Int.natCast_nonneg _),hH];exact (Int.natCast_emod _ 10).symm
  have wG:IntKind.i64.wrap (G:Int)=(G:Int):=wrapi (by omega) (by omega)
  have wH:IntKind.i64.wrap (H:Int)=(H:Int):=wrapi (by omega) (by omega)
  clear hG hH
  refine YF (X:={t:Nat×List (Nm×Ch)×List Ch×ByteArray // t.1≤es.length∧t.1≤10∧TJ t.1 (decide (G<t.1)) (decide (H<t.1)) t.2.2.1 t.2.2.2∧t.2.2.1.length≤50+68 * t.1}) (fun t=>[(0,.slice o es.length cap),(1,.int .u8 gr.toNat),(2,.int .u8 en.toNat),(7,.pointer (some ⟨v,0,none⟩)),(9,.slice ro (nmL 3).length rc),(13,.string t.1.2.2.2),(14,.int .i64 (t.1.1:Int))]) (fun _=>[Sl 5 bf o cap es,Sl 28 sf1 ro rc (nmL 3),St (some ⟨s,0,none⟩) [],Usg]) (fun t=>[Vw v (some ⟨s,0,none⟩) t.1.2.1 t.1.2.2.1]) (fun t=>es.length - t.1.1) ⟨(0,rs,f 3,Z++Z),Nat.zero_le _,Nat.zero_le _,by rw [show decide (G<0)=false by simp,show decide (H<0)=false by simp];exact hT,by omega⟩ ⟨rfl,rfl,rfl,rfl,rfl,rfl,rfl,trivial⟩ ?_
  clear hT hl3 m1 m2 m3 n0 n1 hi hlt
  rintro ⟨⟨i,rs,cs,w⟩,hi1,hi2,hJ,hlc⟩
  dsimp only at hi1 hi2 hJ hlc ⊢
  by_cases hgo:i<es.length∧i<10
  ·obtain ⟨hgo1,hgo2⟩:=hgo
   obtain ⟨c,hgt⟩:∃c,es[i]? = some c:=⟨_,List.getElem?_eq_getElem hgo1⟩
   have hcl:=c.toNat_lt
   obtain ⟨j,hj0⟩:∃j,j=c.toNat % 4:=⟨_,rfl⟩
   obtain ⟨q,hq0⟩:∃q,q=c.toNat / 4:=⟨_,rfl⟩
   obtain ⟨k,hk0⟩:∃k,k=q % 128:=⟨_,rfl⟩
   have hj:j<4:=by omega
   have hk7:k<128:=by omega
   have hq7:q<64:=by omega
   have t1:(c.toNat:Int).tmod 4=(j:Int):=by rw [Int.tmod_eq_emod_of_nonneg (Int.natCast_nonneg _),hj0];exact (Int.natCast_emod _ 4).symm
   have td:(c.toNat:Int).tdiv 4=(q:Int):=by rw [Int.tdiv_eq_ediv_of_nonneg (Int.natCast_nonneg _),hq0];exact (Int.natCast_ediv _ 4).symm
   have tk:(q:Int).tmod 128=(k:Int):=by rw [Int.tmod_eq_emod_of_nonneg (Int.natCast_nonneg _),hk0];exact (Int.natCast_emod _ 128).symm
   have wc:IntKind.i64.wrap (c.toNat:Int)=(c.toNat:Int):=wrapi (by omega) (by omega)
   have wj:IntKind.i64.wrap (j:Int)=(j:Int):=wrapi (by omega) (by omega)
   have wq:IntKind.i64.wrap (q:Int)=(q:Int):=wrapi (by omega) (by omega)
   have wk0:IntKind.i64.wrap (k:Int)=(k:Int):=wrapi (by omega) (by omega)
   have w9:IntKind.i64.wrap ((i:Int)+1)=((i+1:Nat):Int):=by rw [wrapi (by omega) (by omega)];omega
   have wk:IntKind.i64.wrap ((k:Int)+1)=((k+1:Nat):Int):=by rw [wrapi (by omega) (by omega)];omega
   clear hj0 hq0 hk0
   have hw0:=hJ.size
   have hwle:=Xh (decide (G<i))
   obtain ⟨g0,hg0⟩:∃g0,g0=decide (G<i):=⟨_,rfl⟩
   obtain ⟨e0,he0⟩:∃e0,e0=decide (H<i):=⟨_,rfl⟩
   rw [←hg0,←he0] at hJ
   rw [←hg0] at hw0 hwle
   by_cases hgi:i=G
   ·obtain rfl:g0=false:=by rw [hg0];simp;omega
    by_cases hei:i=H
    ·obtain rfl:e0=false:=by rw [he0];simp;omega
     obtain ⟨who,p,hwho,hp,ho,hsp⟩:=hJ.who j hj
     have nG:=grow1_ok v (some ⟨s,0,none⟩) [] rs cs who p (fstP false false) hp ho (by rw [hsp];exact ZT) 2 rfl (by decide) (XT true false) (by show o1.size≤1000;decide) (by show (0:Nat)≤1000;decide) (by omega)
     rw [hsp,show grP (fstP false false)=fstP true false from rfl,←hZ] at nG
     have hJ1:=hJ.gr (by omega)
     rw [←hZ] at hJ1
     have hcat:w.size+Z.size≤9223372036854775807:=by omega
     have hl1:(cs++[Ch.mk (pnm o1) (pencS (fstP true false)) false]++[Ch.mk (gnm o1 ((2:Nat):Int)) Z false]).length≤52+68 * i:=by rw [List.length_append,List.length_append];show cs.length+1+1≤_;omega
     generalize cs++[Ch.mk (pnm o1) (pencS (fstP true false)) false]++[Ch.mk (gnm o1 ((2:Nat):Int)) Z false]=cs1 at *
     generalize hrs1:mmR [] rs cs who p=rs1 at *
     have nE:=Xn v (some ⟨s,0,none⟩) [] rs1 cs1 o1 (fstP true false) hJ1.p1 rfl 0 ⟨by decide,by decide⟩ (XT true true) (by omega)
     rw [show ({fstP true false with st:=2,cd:=0}:Pr)=fstP true true from rfl] at nE
     have hJ2:=hJ1.end_ (by omega)
     have hl2:(cs1++[Ch.mk (pnm o1) (pencS (fstP true true)) false]).length≤53+68 * i:=by rw [List.length_append];show cs1.length+1≤_;omega
     generalize cs1++[Ch.mk (pnm o1) (pencS (fstP true true)) false]=cs2 at *
     generalize hrs2:pgR [] rs1 cs1 o1=rs3 at *
     obtain ⟨who',p',hwho',hp',ho',hsp'⟩:=hJ2.who j hj
     obtain rfl:who'=who:=Option.some.inj (hwho'.symm.trans hwho)
     have hop:=fst_pg true true
     have hl4:=YI (es:=[]) (cs:=cs2) (sp:=o1) (pg:=pgN true) (k:=k) (tx:=⟨#[35]⟩)
     have hJ3:=hJ2.st (k:=k) (tx:=⟨#[35]⟩) (by show k+1≤_;have:=XP true;omega)
     have hw2:=hJ2.size
     have hp64:pgN true≤64:=Xh _
     have hpg2:=XP true
     generalize hfst:fstP true true=oP at *
     have hpk:k+(⟨#[35]⟩:ByteArray).size≤64 * pgN true:=by show k+1≤_;omega
     have m1:=fun rs=>YC v (some ⟨s,0,none⟩) [] rs cs2 who' p' oP hp' ho'
     have m2:=fun (x:Mb) q=>YN (x.s v p' oP) (some ⟨s,0,none⟩) [] cs2 hp'.s (pgN true) hop hp64 k ⟨#[35]⟩ hpk x.bk q (k:Int) rfl
     have m3:=fun (x:Mb) q=>YB (x.s v p' oP) (some ⟨s,0,none⟩) [] cs2 (pgN true) hp64 k ⟨#[35]⟩ hpk who' p' oP hp' ho' hop rfl (by rw [hsp'];exact ZT) x.bk q (by omega)
     rw [hsp'] at m3
     generalize putS [] cs2 o1 (pgN true) k ⟨#[35]⟩=cs3 at *
     have hk8:k≤((w++Z)).size:=by omega
     have hk9:k+1≤((w++Z)).size:=by omega
     generalize hwv:(w++Z)=wv at *
     have hc1:(wv.extract 0 k).size+(⟨#[35]⟩:ByteArray).size≤9223372036854775807:=by rw [ByteArray.size_extract];show _+1≤_;omega
     have hc2:(wv.extract 0 k++(⟨#[35]⟩:ByteArray)).size+(wv.extract (k+1) wv.size).size≤9223372036854775807:=by rw [ByteArray.size_append,ByteArray.size_extract,ByteArray.size_extract];show _+1+_≤_;omega
     repeat' (first|refine ZC ?_|refine ZB ?_|refine ZP ?_|refine ZD ?_|refine ZS ?_|refine Zr ?_|refine ZV ?_|refine ZQ (fun b=>?_)|refine YM (fun b=>?_)|refine ZJ ?_|refine ZF ?_|refine Zq ?_|refine r_one ?_|refine Ym ?_|refine r_ldF ?_|refine r_ldN ?_|refine r_al (fun b=>?_)|refine r_bs (fun b=>?_)|refine r_st ?_|refine Zp ?_|refine ZA (nG) (fun _ _=>?_)|refine l_call0 (nG) (fun _ _=>?_)|refine ZY (nG) (fun _ _=>?_)|refine ZA (n4) (fun _ _=>?_)|refine l_call0 (n4) (fun _ _=>?_)|refine ZY (n4) (fun _ _=>?_)|refine ZA (nE) (fun _ _=>?_)|refine l_call0 (nE) (fun _ _=>?_)|refine ZY (nE) (fun _ _=>?_)|refine ZA (m1 _) (fun _ _=>?_)|refine l_call0 (m1 _) (fun _ _=>?_)|refine ZY (m1 _) (fun _ _=>?_)|refine ZA (m2 _ _) (fun _ _=>?_)|refine l_call0 (m2 _ _) (fun _ _=>?_)|refine ZY (m2 _ _) (fun _ _=>?_)|refine ZA (m3 _ _) (fun _ _=>?_)|refine l_call0 (m3 _ _) (fun _ _=>?_)|refine ZY (m3 _ _) (fun _ _=>?_)|rw [t1]|rw [tg]|rw [te]|rw [td]|rw [tk]|rw [wc]|rw [wj]|rw [wG]|rw [wH]|rw [wq]|rw [wk0]|rw [w9]|rw [wk]|refine YY (es:=es) i c hgt (fun b off=>?_)|refine YY (es:=nmL 3) (f:=sf1) j who' hwho (fun b off=>?_)|refine Zw ?_|refine r_sH k hk8 ?_|refine r_send (k+1) hk9 ?_|refine XF ?_ (h:=hc1)|refine XF ?_ (h:=hc2)|refine l_cat ?_ (h:=hcat)|rw [hwv]|(refine ZM (fun hc=>?_) (fun hc=>?_)<;>(try simp at hc)<;>(try omega))|(refine r_split (fun hc=>?_) (fun hc=>?_)<;>(try simp at hc)<;>(try omega))|refine Za 28 [] [(0,0),(1,0),(2,0),(3,0),(4,0),(5,0),(6,0),(7,0),(8,0),(9,0)] [] ?_|(refine ZH (fun hc=>?_) (fun hc=>?_)<;>(try simp at hc)<;>(try omega)))
     rename List (Nm×Ch)=>rs2
     exact ZW ⟨(i+1,rs2,cs3,spl wv k ⟨#[35]⟩),by omega,by omega,by rw [show decide (G<i+1)=true from by simp;omega,show decide (H<i+1)=true from by simp;omega];exact hJ3,by show cs3.length≤50+68 * (i+1);omega⟩ (by show es.length - (i+1)<es.length - i;omega) ⟨rfl,rfl,rfl,rfl,rfl,rfl,rfl,trivial⟩
    ·have he1:decide (H<i+1)=e0:=by rw [he0,Bool.eq_iff_iff];simp;omega
     obtain ⟨who,p,hwho,hp,ho,hsp⟩:=hJ.who j hj
     have nG:=grow1_ok v (some ⟨s,0,none⟩) [] rs cs who p (fstP false e0) hp ho (by rw [hsp];exact ZT) 2 rfl (by decide) (XT true e0) (by show o1.size≤1000;decide) (by show (0:Nat)≤1000;decide) (by omega)
     rw [hsp,show grP (fstP false e0)=fstP true e0 from rfl,←hZ] at nG
     have hJ1:=hJ.gr (by omega)
     rw [←hZ] at hJ1
     have hcat:w.size+Z.size≤9223372036854775807:=by omega
     have hl1:(cs++[Ch.mk (pnm o1) (pencS (fstP true e0)) false]++[Ch.mk (gnm o1 ((2:Nat):Int)) Z false]).length≤52+68 * i:=by rw [List.length_append,List.length_append];show cs.length+1+1≤_;omega
     generalize cs++[Ch.mk (pnm o1) (pencS (fstP true e0)) false]++[Ch.mk (gnm o1 ((2:Nat):Int)) Z false]=cs1 at *
     generalize hrs1:mmR [] rs cs who p=rs1 at *
     have hJ2:=hJ1
     have hl2:cs1.length≤53+68 * i:=by omega
     obtain ⟨who',p',hwho',hp',ho',hsp'⟩:=hJ2.who j hj
     obtain rfl:who'=who:=Option.some.inj (hwho'.symm.trans hwho)
     have hop:=fst_pg true e0
     have hl4:=YI (es:=[]) (cs:=cs1) (sp:=o1) (pg:=pgN true) (k:=k) (tx:=⟨#[35]⟩)
     have hJ3:=hJ2.st (k:=k) (tx:=⟨#[35]⟩) (by show k+1≤_;have:=XP true;omega)
     have hw2:=hJ2.size
     have hp64:pgN true≤64:=Xh _
     have hpg2:=XP true
     generalize hfst:fstP true e0=oP at *
     have hpk:k+(⟨#[35]⟩:ByteArray).size≤64 * pgN true:=by show k+1≤_;omega
     have m1:=fun rs=>YC v (some ⟨s,0,none⟩) [] rs cs1 who' p' oP hp' ho'
     have m2:=fun (x:Mb) q=>YN (x.s v p' oP) (some ⟨s,0,none⟩) [] cs1 hp'.s (pgN true) hop hp64 k ⟨#[35]⟩ hpk x.bk q (k:Int) rfl
     have m3:=fun (x:Mb) q=>YB (x.s v p' oP) (some ⟨s,0,none⟩) [] cs1 (pgN true) hp64 k ⟨#[35]⟩ hpk who' p' oP hp' ho' hop rfl (by rw [hsp'];exact ZT) x.bk q (by omega)
     rw [hsp'] at m3
     generalize putS [] cs1 o1 (pgN true) k ⟨#[35]⟩=cs3 at *
     have hk8:k≤((w++Z)).size:=by omega
     have hk9:k+1≤((w++Z)).size:=by omega
     generalize hwv:(w++Z)=wv at *
     have hc1:(wv.extract 0 k).size+(⟨#[35]⟩:ByteArray).size≤9223372036854775807:=by rw [ByteArray.size_extract];show _+1≤_;omega
     have hc2:(wv.extract 0 k++(⟨#[35]⟩:ByteArray)).size+(wv.extract (k+1) wv.size).size≤9223372036854775807:=by rw [ByteArray.size_append,ByteArray.size_extract,ByteArray.size_extract];show _+1+_≤_;omega
     repeat' (first|refine ZC ?_|refine ZB ?_|refine ZP ?_|refine ZD ?_|refine ZS ?_|refine Zr ?_|refine ZV ?_|refine ZQ (fun b=>?_)|refine YM (fun b=>?_)|refine ZJ ?_|refine ZF ?_|refine Zq ?_|refine r_one ?_|refine Ym ?_|refine r_ldF ?_|refine r_ldN ?_|refine r_al (fun b=>?_)|refine r_bs (fun b=>?_)|refine r_st ?_|refine Zp ?_|refine ZA (nG) (fun _ _=>?_)|refine l_call0 (nG) (fun _ _=>?_)|refine ZY (nG) (fun _ _=>?_)|refine ZA (n4) (fun _ _=>?_)|refine l_call0 (n4) (fun _ _=>?_)|refine ZY (n4) (fun _ _=>?_)|refine ZA (m1 _) (fun _ _=>?_)|refine l_call0 (m1 _) (fun _ _=>?_)|refine ZY (m1 _) (fun _ _=>?_)|refine ZA (m2 _ _) (fun _ _=>?_)|refine l_call0 (m2 _ _) (fun _ _=>?_)|refine ZY (m2 _ _) (fun _ _=>?_)|refine ZA (m3 _ _) (fun _ _=>?_)|refine l_call0 (m3 _ _) (fun _ _=>?_)|refine ZY (m3 _ _) (fun _ _=>?_)|rw [t1]|rw [tg]|rw [te]|rw [td]|rw [tk]|rw [wc]|rw [wj]|rw [wG]|rw [wH]|rw [wq]|rw [wk0]|rw [w9]|rw [wk]|refine YY (es:=es) i c hgt (fun b off=>?_)|refine YY (es:=nmL 3) (f:=sf1) j who' hwho (fun b off=>?_)|refine Zw ?_|refine r_sH k hk8 ?_|refine r_send (k+1) hk9 ?_|refine XF ?_ (h:=hc1)|refine XF ?_ (h:=hc2)|refine l_cat ?_ (h:=hcat)|rw [hwv]|(refine ZM (fun hc=>?_) (fun hc=>?_)<;>(try simp at hc)<;>(try omega))|(refine r_split (fun hc=>?_) (fun hc=>?_)<;>(try simp at hc)<;>(try omega))|refine Za 28 [] [(0,0),(1,0),(2,0),(3,0),(4,0),(5,0),(6,0),(7,0),(8,0),(9,0)] [] ?_|(refine ZH (fun hc=>?_) (fun hc=>?_)<;>(try simp at hc)<;>(try omega)))
     rename List (Nm×Ch)=>rs2
     exact ZW ⟨(i+1,rs2,cs3,spl wv k ⟨#[35]⟩),by omega,by omega,by rw [show decide (G<i+1)=true from by simp;omega,show decide (H<i+1)=e0 from he1];exact hJ3,by show cs3.length≤50+68 * (i+1);omega⟩ (by show es.length - (i+1)<es.length - i;omega) ⟨rfl,rfl,rfl,rfl,rfl,rfl,rfl,trivial⟩
   ·have hg1:decide (G<i+1)=g0:=by rw [hg0,Bool.eq_iff_iff];simp;omega
    by_cases hei:i=H
    ·obtain rfl:e0=false:=by rw [he0];simp;omega
     obtain ⟨who,p,hwho,hp,ho,hsp⟩:=hJ.who j hj
     have hl1:cs.length≤52+68 * i:=by omega
     have nE:=Xn v (some ⟨s,0,none⟩) [] rs cs o1 (fstP g0 false) hJ.p1 rfl 0 ⟨by decide,by decide⟩ (XT g0 true) (by omega)
     rw [show ({fstP g0 false with st:=2,cd:=0}:Pr)=fstP g0 true from rfl] at nE
     have hJ2:=hJ.end_ (by omega)
     have hl2:(cs++[Ch.mk (pnm o1) (pencS (fstP g0 true)) false]).length≤53+68 * i:=by rw [List.length_append];show cs.length+1≤_;omega
     generalize cs++[Ch.mk (pnm o1) (pencS (fstP g0 true)) false]=cs2 at *
     generalize hrs2:pgR [] rs cs o1=rs3 at *
     obtain ⟨who',p',hwho',hp',ho',hsp'⟩:=hJ2.who j hj
     obtain rfl:who'=who:=Option.some.inj (hwho'.symm.trans hwho)
     have hop:=fst_pg g0 true
     have hl4:=YI (es:=[]) (cs:=cs2) (sp:=o1) (pg:=pgN g0) (k:=k) (tx:=⟨#[35]⟩)
     have hJ3:=hJ2.st (k:=k) (tx:=⟨#[35]⟩) (by show k+1≤_;have:=XP g0;omega)
     have hw2:=hJ2.size
     have hp64:pgN g0≤64:=Xh _
     have hpg2:=XP g0
     generalize hfst:fstP g0 true=oP at *
     have hpk:k+(⟨#[35]⟩:ByteArray).size≤64 * pgN g0:=by show k+1≤_;omega
     have m1:=fun rs=>YC v (some ⟨s,0,none⟩) [] rs cs2 who' p' oP hp' ho'
     have m2:=fun (x:Mb) q=>YN (x.s v p' oP) (some ⟨s,0,none⟩) [] cs2 hp'.s (pgN g0) hop hp64 k ⟨#[35]⟩ hpk x.bk q (k:Int) rfl
     have m3:=fun (x:Mb) q=>YB (x.s v p' oP) (some ⟨s,0,none⟩) [] cs2 (pgN g0) hp64 k ⟨#[35]⟩ hpk who' p' oP hp' ho' hop rfl (by rw [hsp'];exact ZT) x.bk q (by omega)
     rw [hsp'] at m3
     generalize putS [] cs2 o1 (pgN g0) k ⟨#[35]⟩=cs3 at *
     have hk8:k≤(w).size:=by omega
     have hk9:k+1≤(w).size:=by omega
     have hc1:(w.extract 0 k).size+(⟨#[35]⟩:ByteArray).size≤9223372036854775807:=by rw [ByteArray.size_extract];show _+1≤_;omega
     have hc2:(w.extract 0 k++(⟨#[35]⟩:ByteArray)).size+(w.extract (k+1) w.size).size≤9223372036854775807:=by rw [ByteArray.size_append,ByteArray.size_extract,ByteArray.size_extract];show _+1+_≤_;omega
     repeat' (first|refine ZC ?_|refine ZB ?_|refine ZP ?_|refine ZD ?_|refine ZS ?_|refine Zr ?_|refine ZV ?_|refine ZQ (fun b=>?_)|refine YM (fun b=>?_)|refine ZJ ?_|refine ZF ?_|refine Zq ?_|refine r_one ?_|refine Ym ?_|refine r_ldF ?_|refine r_ldN ?_|refine r_al (fun b=>?_)|refine r_bs (fun b=>?_)|refine r_st ?_|refine Zp ?_|refine ZA (nE) (fun _ _=>?_)|refine l_call0 (nE) (fun _ _=>?_)|refine ZY (nE) (fun _ _=>?_)|refine ZA (m1 _) (fun _ _=>?_)|refine l_call0 (m1 _) (fun _ _=>?_)|refine ZY (m1 _) (fun _ _=>?_)|refine ZA (m2 _ _) (fun _ _=>?_)|refine l_call0 (m2 _ _) (fun _ _=>?_)|refine ZY (m2 _ _) (fun _ _=>?_)|refine ZA (m3 _ _) (fun _ _=>?_)|refine l_call0 (m3 _ _) (fun _ _=>?_)|refine ZY (m3 _ _) (fun _ _=>?_)|rw [t1]|rw [tg]|rw [te]|rw [td]|rw [tk]|rw [wc]|rw [wj]|rw [wG]|rw [wH]|rw [wq]|rw [wk0]|rw [w9]|rw [wk]|refine YY (es:=es) i c hgt (fun b off=>?_)|refine YY (es:=nmL 3) (f:=sf1) j who' hwho (fun b off=>?_)|refine Zw ?_|refine r_sH k hk8 ?_|refine r_send (k+1) hk9 ?_|refine XF ?_ (h:=hc1)|refine XF ?_ (h:=hc2)|(refine ZM (fun hc=>?_) (fun hc=>?_)<;>(try simp at hc)<;>(try omega))|(refine r_split (fun hc=>?_) (fun hc=>?_)<;>(try simp at hc)<;>(try omega))|refine Za 28 [] [(0,0),(1,0),(2,0),(3,0),(4,0),(5,0),(6,0),(7,0),(8,0),(9,0)] [] ?_|(refine ZH (fun hc=>?_) (fun hc=>?_)<;>(try simp at hc)<;>(try omega)))
     rename List (Nm×Ch)=>rs2
     exact ZW ⟨(i+1,rs2,cs3,spl w k ⟨#[35]⟩),by omega,by omega,by rw [show decide (G<i+1)=g0 from hg1,show decide (H<i+1)=true from by simp;omega];exact hJ3,by show cs3.length≤50+68 * (i+1);omega⟩ (by show es.length - (i+1)<es.length - i;omega) ⟨rfl,rfl,rfl,rfl,rfl,rfl,rfl,trivial⟩
    ·have he1:decide (H<i+1)=e0:=by rw [he0,Bool.eq_iff_iff];simp;omega
     obtain ⟨who,p,hwho,hp,ho,hsp⟩:=hJ.who j hj
     have hl1:cs.length≤52+68 * i:=by omega
     have hJ2:=hJ
     have hl2:cs.length≤53+68 * i:=by omega
     obtain ⟨who',p',hwho',hp',ho',hsp'⟩:=hJ2.who j hj
     obtain rfl:who'=who:=Option.some.inj (hwho'.symm.trans hwho)
     have hop:=fst_pg g0 e0
     have hl4:=YI (es:=[]) (cs:=cs) (sp:=o1) (pg:=pgN g0) (k:=k) (tx:=⟨#[35]⟩)
     have hJ3:=hJ2.st (k:=k) (tx:=⟨#[35]⟩) (by show k+1≤_;have:=XP g0;omega)
     have hw2:=hJ2.size
     have hp64:pgN g0≤64:=Xh _
     have hpg2:=XP g0
     generalize hfst:fstP g0 e0=oP at *
     have hpk:k+(⟨#[35]⟩:ByteArray).size≤64 * pgN g0:=by show k+1≤_;omega
     have m1:=fun rs=>YC v (some ⟨s,0,none⟩) [] rs cs who' p' oP hp' ho'
     have m2:=fun (x:Mb) q=>YN (x.s v p' oP) (some ⟨s,0,none⟩) [] cs hp'.s (pgN g0) hop hp64 k ⟨#[35]⟩ hpk x.bk q (k:Int) rfl
     have m3:=fun (x:Mb) q=>YB (x.s v p' oP) (some ⟨s,0,none⟩) [] cs (pgN g0) hp64 k ⟨#[35]⟩ hpk who' p' oP hp' ho' hop rfl (by rw [hsp'];exact ZT) x.bk q (by omega)
     rw [hsp'] at m3
     generalize putS [] cs o1 (pgN g0) k ⟨#[35]⟩=cs3 at *
     have hk8:k≤(w).size:=by omega
     have hk9:k+1≤(w).size:=by omega
     have hc1:(w.extract 0 k).size+(⟨#[35]⟩:ByteArray).size≤9223372036854775807:=by rw [ByteArray.size_extract];show _+1≤_;omega
     have hc2:(w.extract 0 k++(⟨#[35]⟩:ByteArray)).size+(w.extract (k+1) w.size).size≤9223372036854775807:=by rw [ByteArray.size_append,ByteArray.size_extract,ByteArray.size_extract];show _+1+_≤_;omega
     repeat' (first|refine ZC ?_|refine ZB ?_|refine ZP ?_|refine ZD ?_|refine ZS ?_|refine Zr ?_|refine ZV ?_|refine ZQ (fun b=>?_)|refine YM (fun b=>?_)|refine ZJ ?_|refine ZF ?_|refine Zq ?_|refine r_one ?_|refine Ym ?_|refine r_ldF ?_|refine r_ldN ?_|refine r_al (fun b=>?_)|refine r_bs (fun b=>?_)|refine r_st ?_|refine Zp ?_|refine ZA (m1 _) (fun _ _=>?_)|refine l_call0 (m1 _) (fun _ _=>?_)|refine ZY (m1 _) (fun _ _=>?_)|refine ZA (m2 _ _) (fun _ _=>?_)|refine l_call0 (m2 _ _) (fun _ _=>?_)|refine ZY (m2 _ _) (fun _ _=>?_)|refine ZA (m3 _ _) (fun _ _=>?_)|refine l_call0 (m3 _ _) (fun _ _=>?_)|refine ZY (m3 _ _) (fun _ _=>?_)|rw [t1]|rw [tg]|rw [te]|rw [td]|rw [tk]|rw [wc]|rw [wj]|rw [wG]|rw [wH]|rw [wq]|rw [wk0]|rw [w9]|rw [wk]|refine YY (es:=es) i c hgt (fun b off=>?_)|refine YY (es:=nmL 3) (f:=sf1) j who' hwho (fun b off=>?_)|refine Zw ?_|refine r_sH k hk8 ?_|refine r_send (k+1) hk9 ?_|refine XF ?_ (h:=hc1)|refine XF ?_ (h:=hc2)|(refine ZM (fun hc=>?_) (fun hc=>?_)<;>(try simp at hc)<;>(try omega))|(refine r_split (fun hc=>?_) (fun hc=>?_)<;>(try simp at hc)<;>(try omega))|refine Za 28 [] [(0,0),(1,0),(2,0),(3,0),(4,0),(5,0),(6,0),(7,0),(8,0),(9,0)] [] ?_|(refine ZH (fun hc=>?_) (fun hc=>?_)<;>(try simp at hc)<;>(try omega)))
     rename List (Nm×Ch)=>rs2
     exact ZW ⟨(i+1,rs2,cs3,spl w k ⟨#[35]⟩),by omega,by omega,by rw [show decide (G<i+1)=g0 from hg1,show decide (H<i+1)=e0 from he1];exact hJ3,by show cs3.length≤50+68 * (i+1);omega⟩ (by show es.length - (i+1)<es.length - i;omega) ⟨rfl,rfl,rfl,rfl,rfl,rfl,rfl,trivial⟩
  ·by_cases hlen:i<es.length
   ·repeat' (first|refine ZC ?_|refine ZB ?_|refine ZP ?_|refine ZD ?_|refine ZS ?_|refine Zr ?_|refine ZV ?_|refine ZQ (fun b=>?_)|refine YM (fun b=>?_)|refine ZJ ?_|refine ZF ?_|refine Zj ?_|(refine ZM (fun hc=>?_) (fun hc=>?_)<;>(try simp at hc)<;>(try omega))|(refine ZH (fun hc=>?_) (fun hc=>?_)<;>(try simp at hc)<;>(try omega)))
    generalize decide (G<i)=g1 at *
    generalize decide (H<i)=e1 at *
    refine YF (X:={t:Nat×List (Nm×Ch) // t.1≤4}) (fun t=>[(7,.pointer (some ⟨v,0,none⟩)),(9,.slice ro (nmL 3).length rc),(13,.string w),(21,.int .i64 (t.1.1:Int))]) (fun _=>[Sl 28 sf1 ro rc (nmL 3),St (some ⟨s,0,none⟩) [],Usg]) (fun t=>[Vw v (some ⟨s,0,none⟩) t.1.2 cs]) (fun t=>4 - t.1.1) ⟨(0,rs),Nat.zero_le _⟩ ⟨rfl,rfl,rfl,rfl,trivial⟩ ?_
    rintro ⟨⟨j,rs⟩,hj4⟩
    dsimp only at hj4 ⊢
    by_cases hj:j<4
    ·obtain ⟨who,p,hwho,hp,ho,hsp⟩:=hJ.who j hj
     have m1:=YR v (some ⟨s,0,none⟩) [] rs cs who p (fstP g1 e1) hp ho (pgN g1) (fst_pg _ _) (Xh _)
     rw [hsp,hJ.m] at m1
     have hE:(w.toList == w.toList)=true:=by simp
     have w9:IntKind.i64.wrap ((j:Int)+1)=((j+1:Nat):Int):=by rw [wrapi (by omega) (by omega)];omega
     repeat' (first|refine ZC ?_|refine ZB ?_|refine ZP ?_|refine ZD ?_|refine ZS ?_|refine Zr ?_|refine ZV ?_|refine ZQ (fun b=>?_)|refine YM (fun b=>?_)|refine ZJ ?_|refine ZF ?_|refine ZA (m1) (fun _ _=>?_)|refine l_call0 (m1) (fun _ _=>?_)|rw [w9]|rw [hE]|refine YY (es:=nmL 3) (f:=sf1) j who hwho (fun b off=>?_)|refine Zw ?_|(refine ZM (fun hc=>?_) (fun hc=>?_)<;>(try simp at hc)<;>(try omega))|(refine ZH (fun hc=>?_) (fun hc=>?_)<;>(try simp at hc)<;>(try omega)))
     rename List (Nm×Ch)=>rs2
     exact ZW ⟨(j+1,rs2),by omega⟩ (by show 4 - (j+1)<4 - j;omega) ⟨rfl,rfl,rfl,rfl,trivial⟩
    ·repeat' (first|refine ZC ?_|refine ZB ?_|refine ZP ?_|refine ZD ?_|refine ZS ?_|refine Zr ?_|refine ZV ?_|refine ZQ (fun b=>?_)|refine YM (fun b=>?_)|refine ZJ ?_|refine ZF ?_|refine Zj ?_|(refine ZM (fun hc=>?_) (fun hc=>?_)<;>(try simp at hc)<;>(try omega))|(refine ZH (fun hc=>?_) (fun hc=>?_)<;>(try simp at hc)<;>(try omega)))
     exact ZG () rfl trivial
   ·repeat' (first|refine ZC ?_|refine ZB ?_|refine ZP ?_|refine ZD ?_|refine ZS ?_|refine Zr ?_|refine ZV ?_|refine ZQ (fun b=>?_)|refine YM (fun b=>?_)|refine ZJ ?_|refine ZF ?_|refine Zj ?_|(refine ZM (fun hc=>?_) (fun hc=>?_)<;>(try simp at hc)<;>(try omega))|(refine ZH (fun hc=>?_) (fun hc=>?_)<;>(try simp at hc)<;>(try omega)))
    generalize decide (G<i)=g1 at *
    generalize decide (H<i)=e1 at *
    refine YF (X:={t:Nat×List (Nm×Ch) // t.1≤4}) (fun t=>[(7,.pointer (some ⟨v,0,none⟩)),(9,.slice ro (nmL 3).length rc),(13,.string w),(21,.int .i64 (t.1.1:Int))]) (fun _=>[Sl 28 sf1 ro rc (nmL 3),St (some ⟨s,0,none⟩) [],Usg]) (fun t=>[Vw v (some ⟨s,0,none⟩) t.1.2 cs]) (fun t=>4 - t.1.1) ⟨(0,rs),Nat.zero_le _⟩ ⟨rfl,rfl,rfl,rfl,trivial⟩ ?_
    rintro ⟨⟨j,rs⟩,hj4⟩
    dsimp only at hj4 ⊢
    by_cases hj:j<4
    ·obtain ⟨who,p,hwho,hp,ho,hsp⟩:=hJ.who j hj
     have m1:=YR v (some ⟨s,0,none⟩) [] rs cs who p (fstP g1 e1) hp ho (pgN g1) (fst_pg _ _) (Xh _)
     rw [hsp,hJ.m] at m1
     have hE:(w.toList == w.toList)=true:=by simp
     have w9:IntKind.i64.wrap ((j:Int)+1)=((j+1:Nat):Int):=by rw [wrapi (by omega) (by omega)];omega
     repeat' (first|refine ZC ?_|refine ZB ?_|refine ZP ?_|refine ZD ?_|refine ZS ?_|refine Zr ?_|refine ZV ?_|refine ZQ (fun b=>?_)|refine YM (fun b=>?_)|refine ZJ ?_|refine ZF ?_|refine ZA (m1) (fun _ _=>?_)|refine l_call0 (m1) (fun _ _=>?_)|rw [w9]|rw [hE]|refine YY (es:=nmL 3) (f:=sf1) j who hwho (fun b off=>?_)|refine Zw ?_|(refine ZM (fun hc=>?_) (fun hc=>?_)<;>(try simp at hc)<;>(try omega))|(refine ZH (fun hc=>?_) (fun hc=>?_)<;>(try simp at hc)<;>(try omega)))
     rename List (Nm×Ch)=>rs2
     exact ZW ⟨(j+1,rs2),by omega⟩ (by show 4 - (j+1)<4 - j;omega) ⟨rfl,rfl,rfl,rfl,trivial⟩
    ·repeat' (first|refine ZC ?_|refine ZB ?_|refine ZP ?_|refine ZD ?_|refine ZS ?_|refine Zr ?_|refine ZV ?_|refine ZQ (fun b=>?_)|refine YM (fun b=>?_)|refine ZJ ?_|refine ZF ?_|refine Zj ?_|(refine ZM (fun hc=>?_) (fun hc=>?_)<;>(try simp at hc)<;>(try omega))|(refine ZH (fun hc=>?_) (fun hc=>?_)<;>(try simp at hc)<;>(try omega)))
     exact ZG () rfl trivial
end Go.Proofs.YtgfohjbcccfolaaGreatDoor
