/-
  The library's contract, laid at this program: strings.Repeat.
  The law RuleLong.
  Small numbers as arguments.
  Conditions: those that each theorem states.
-/
import Derived.Shelf.Strings.Repeat
import Derived.Test.YtodkipbnefngkaaGreatDoorG2
import Derived.Test.YtodkipbnefngkaaGreatDoorG4
set_option maxRecDepth 10000
namespace Go.Proofs
open Go.Shelf
def Tryz.lays105_ren:Go.Shelf.Ren:=⟨fun|105=>31|212=>54|99=>55|165=>56|166=>38|170=>57|169=>41|263=>83|264=>84|206=>85|240=>65|241=>86|276=>92|277=>117|n=>n,fun|9=>9|3=>3|4=>4|20=>20|0=>0|46=>118|109=>119|5=>5|72=>82|76=>85|51=>148|146=>149|53=>151|148=>152|70=>79|37=>80|75=>84|127=>129|164=>161|80=>71|n=>n,fun|n=>n⟩
theorem Tryz.lays105:Go.Proofs.Lays.n105 Tryz.prog Tryz.lays105_ren:={
 mixed:=by kernel_rfl
 f99:=Tryz.func55.trans (congrArg some (by kernel_rfl))
 f105:=Tryz.func31.trans (congrArg some (by kernel_rfl))
 f165:=Tryz.func56.trans (congrArg some (by kernel_rfl))
 f166:=Tryz.func38.trans (congrArg some (by kernel_rfl))
 f169:=Tryz.func41.trans (congrArg some (by kernel_rfl))
 f170:=Tryz.func57.trans (congrArg some (by kernel_rfl))
 f206:=Tryz.func85.trans (congrArg some (by kernel_rfl))
 f212:=Tryz.func54.trans (congrArg some (by kernel_rfl))
 f240:=Tryz.func65.trans (congrArg some (by kernel_rfl))
 f241:=Tryz.func86.trans (congrArg some (by kernel_rfl))
 f263:=Tryz.func83.trans (congrArg some (by kernel_rfl))
 f264:=Tryz.func84.trans (congrArg some (by kernel_rfl))
 f276:=Tryz.func92.trans (congrArg some (by kernel_rfl))
 f277:=Tryz.func117.trans (congrArg some (by kernel_rfl))
 t0:=Tryz.underlying0
 a0:=Tryz.isAgg0
 z0:=Tryz.sizeOf0
 v0:=Tryz.zeroValue0
 t3:=Tryz.underlying3
 a3:=Tryz.isAgg3
 z3:=Tryz.sizeOf3
 v3:=Tryz.zeroValue3
 t4:=Tryz.underlying4
 a4:=Tryz.isAgg4
 z4:=Tryz.sizeOf4
 v4:=Tryz.zeroValue4
 t5:=Tryz.underlying5
 a5:=Tryz.isAgg5
 z5:=Tryz.sizeOf5
 v5:=Tryz.zeroValue5
 t9:=Tryz.underlying9
 a9:=Tryz.isAgg9
 z9:=Tryz.sizeOf9
 v9:=Tryz.zeroValue9
 t20:=Tryz.underlying20
 a20:=Tryz.isAgg20
 z20:=Tryz.sizeOf20
 v20:=Tryz.zeroValue20
 t37:=Tryz.underlying80
 a37:=Tryz.isAgg80
 z37:=Tryz.sizeOf80
 v37:=Tryz.zeroValue80
 t46:=Tryz.underlying118
 a46:=Tryz.isAgg118
 z46:=Tryz.sizeOf118
 v46:=Tryz.zeroValue118
 t51:=Tryz.underlying148
 a51:=Tryz.isAgg148
 z51:=Tryz.sizeOf148
 v51:=Tryz.zeroValue148
 t53:=Tryz.underlying151
 a53:=Tryz.isAgg151
 z53:=Tryz.sizeOf151
 v53:=Tryz.zeroValue151
 t70:=Tryz.underlying79
 a70:=Tryz.isAgg79
 z70:=Tryz.sizeOf79
 v70:=Tryz.zeroValue79
 t72:=Tryz.underlying82
 a72:=Tryz.isAgg82
 z72:=Tryz.sizeOf82
 v72:=Tryz.zeroValue82
 t75:=Tryz.underlying84
 a75:=Tryz.isAgg84
 z75:=Tryz.sizeOf84
 v75:=Tryz.zeroValue84
 t76:=Tryz.underlying85
 a76:=Tryz.isAgg85
 z76:=Tryz.sizeOf85
 v76:=Tryz.zeroValue85
 t109:=Tryz.underlying119
 a109:=Tryz.isAgg119
 z109:=Tryz.sizeOf119
 v109:=Tryz.zeroValue119
 t127:=Tryz.underlying129
 a127:=Tryz.isAgg129
 z127:=Tryz.sizeOf129
 v127:=Tryz.zeroValue129
 t146:=Tryz.underlying149
 a146:=Tryz.isAgg149
 z146:=Tryz.sizeOf149
 v146:=Tryz.zeroValue149
 t148:=Tryz.underlying152
 a148:=Tryz.isAgg152
 z148:=Tryz.sizeOf152
 v148:=Tryz.zeroValue152
 t164:=Tryz.underlying161
 a164:=Tryz.isAgg161
 z164:=Tryz.sizeOf161
 v164:=Tryz.zeroValue161}
theorem Tryz.bx105:Builder.Extra Tryz.prog Tryz.lays105_ren:={
 sizeBuilder:=by kernel_rfl
 liesBuilder:=by kernel_rfl
 t5:=Tryz.underlying5
 a5:=Tryz.isAgg5
 z5:=Tryz.sizeOf5
 v5:=Tryz.zeroValue5
 infoByte:=by kernel_rfl
 cellsByte:=by kernel_rfl
 sizeByte:=by kernel_rfl
 neB5:=by decide}
end Go.Proofs
namespace Go.Proofs.YtodkipbnefngkaaGreatDoor
open Go.Proofs.Tryz
open Go.RowKit
theorem YF (s:ByteArray) (c:Nat) (h:s.size * c≤1000000000) (hc:c≤1000000000):Enters 31∧Spec prog 31 #[.string s,.int .i64 (c:Int)] [] [] (RetV (.string (ofL (Lib.repeatL s.data.toList c)))):=by
 refine ⟨enters_of func31 (by kernel_rfl) rfl,fun G w hp hs=>?_⟩
 refine (Any.strings_Repeat Tryz.lays105 Tryz.bx105 s c w (by omega) (by omega)).mono ?_
 rintro e w' ⟨rfl,hx⟩
 exact ⟨(),rfl,trivial,hs.ext (Y1 hx)⟩
theorem rep_one (x:UInt8) (c:Nat):Lib.repeatL [x] c=List.replicate c x:=by
 have:=Lib.repeatL_replicate x 1 c
 rw [Nat.mul_one] at this
 exact this
end Go.Proofs.YtodkipbnefngkaaGreatDoor
set_option maxRecDepth 10000
namespace Go.Proofs.YtodkipbnefngkaaGreatDoor
open Go.RowKit Go.Proofs.Tryz
def lgA:ByteArray:=⟨#[105,102,32,109,105,115,115,105,110,103,58,32,99,111,109,112,101,110,115,97,116,101,32,34]⟩
def lgB:ByteArray:=⟨#[34,10,107,101,101,112]⟩
def lgF:ByteArray:=⟨#[123,111,108,100,125]⟩
def wOld:ByteArray:=⟨#[111,108,100]⟩
def lgL (k:Nat):List Ru:=[⟨some (.kd wMis 2),⟨2,ofL (Lib.repeatL lgF.data.toList k)⟩⟩,⟨none,⟨1,ofL []⟩⟩]
def lgC (x:ByteArray):Cq:=⟨2,ofL [],0,0,⟨1,⟨#[97]⟩,x,0⟩,0,ou0,0⟩
theorem lg_par (k:Nat) (h:1≤k) (h4:k≤4):parF (lgA++ofL (Lib.repeatL lgF.data.toList k)++lgB) = .ok (lgL k)∧(tplF (ofL (Lib.repeatL lgF.data.toList k))).1=List.replicate k (.fld wOld):=by
 match k,h,h4 with
 | 1,_,_=>exact ⟨by kernel_rfl,by kernel_rfl⟩
 | 2,_,_=>exact ⟨by kernel_rfl,by kernel_rfl⟩
 | 3,_,_=>exact ⟨by kernel_rfl,by kernel_rfl⟩
 | 4,_,_=>exact ⟨by kernel_rfl,by kernel_rfl⟩
 | k+5,_,h=>omega
theorem flat_rep (c:Cq) (x:Seg):∀k,flat c (List.replicate k x)=Lib.repeatL (segF c x).data.toList k
 | 0=>rfl
 | k+1=>by
  rw [List.replicate_succ]
  show (segF c x).data.toList++flat c (List.replicate k x)=_
  rw [flat_rep c x k];rfl
theorem lg_exp (k:Nat) (h:1≤k) (h4:k≤4) (x:ByteArray):expF (ofL (Lib.repeatL lgF.data.toList k)) (lgC x)=ofL (Lib.repeatL x.data.toList k):=by
 rw [Wi,(lg_par k h h4).2,flat_rep]
 rfl
theorem lg_dec (k:Nat) (h:1≤k) (h4:k≤4) (x:ByteArray):decideF (lgL k) (lgC x)=if 4096<k * x.size then (⟨5,ofL []⟩,-1) else (⟨2,ofL (Lib.repeatL x.data.toList k)⟩,0):=by
 have e:decideF (lgL k) (lgC x)=if 4096<(expF (ofL (Lib.repeatL lgF.data.toList k)) (lgC x)).size then (⟨5,ofL []⟩,-1) else (⟨2,expF (ofL (Lib.repeatL lgF.data.toList k)) (lgC x)⟩,0):=rfl
 rw [e,lg_exp k h h4,Z0,Lib.repeatL_length,lsz]
theorem lgC_i (x:ByteArray):CqI (lgC x):=⟨show (-9223372036854775808:Int)≤0 by decide,show (0:Int)≤9223372036854775807 by decide,show (-9223372036854775808:Int)≤0 by decide,show (0:Int)≤9223372036854775807 by decide,show (-9223372036854775808:Int)≤0 by decide,show (0:Int)≤9223372036854775807 by decide⟩
theorem lgC_s (x:ByteArray) (h:x.size≤5000):CqS (lgC x):=⟨show 1≤5000 by decide,h,show 0≤5000 by decide,show 0≤5000 by decide,show 0≤5000 by decide⟩
theorem xB_eq:(⟨#[120]⟩:ByteArray).data.toList=[120]:=rfl
set_option maxHeartbeats 4000000 in
theorem lawLong_ok (n m:Nat):Enters 9∧Spec prog 9 #[.int .u16 (n:Int),.int .u8 (m:Int)] [ErA,P10,MxL] [] (RetV (.bool true)):=by
 have q1:(n:Int).tmod 4200=((n % 4200:Nat):Int):=rfl
 have q2:(m:Int).tmod 4=((m % 4:Nat):Int):=rfl
 have z1:n % 4200<4200:=Nat.mod_lt _ (by decide)
 have z2:m % 4<4:=Nat.mod_lt _ (by decide)
 generalize n % 4200=sz at *
 obtain ⟨k,hk⟩:∃k,1+m % 4=k:=⟨_,rfl⟩
 have k1:1≤k:=by omega
 have k4:k≤4:=by omega
 have w2:=wrapi (z:=(1:Int)+((m % 4:Nat):Int)) (by omega) (by omega)
 have w2:IntKind.i64.wrap ((1:Int)+((m % 4:Nat):Int))=(k:Int):=by rw [w2];omega
 have r1:=YF lgF k (by show 5 * k≤_;omega) (by omega)
 have r2:=YF ⟨#[120]⟩ sz (by show 1 * sz≤_;omega) (by omega)
 rw [xB_eq,rep_one] at r2
 have p0:=YS (lgA++ofL (Lib.repeatL lgF.data.toList k)++lgB) (by
  rw [Zz,Zz,Z0 (Lib.repeatL lgF.data.toList k),Lib.repeatL_length];show 24+k * 5+6≤_;omega)
 obtain ⟨pk,_⟩:=lg_par k k1 k4
 rw [pk] at p0
 obtain ⟨u1,u2⟩:=par_ok pk
 have hx:(ofL (List.replicate sz 120)).size=sz:=by rw [Z0,List.length_replicate]
 have d1:=fun b=>Yb b (lgL k) (lgC (ofL (List.replicate sz 120))) (lgC_i _) (lgC_s _ (by omega)) (show (lgA++ofL (Lib.repeatL lgF.data.toList k)++lgB).size≤70000 by
  rw [Zz,Zz,Z0 (Lib.repeatL lgF.data.toList k),Lib.repeatL_length];show 24+k * 5+6≤_;omega) u2 u1
 rw [lg_dec k k1 k4,hx,Yw,Lib.repeatL_replicate] at d1
 have n1:=X0
 have w3:=wrapi (z:=(sz:Int) * (k:Int)) (by have:=Int.mul_nonneg (show (0:Int)≤sz by omega) (show (0:Int)≤k by omega);omega) (by
  have:sz * k≤4200 * 4:=Nat.mul_le_mul (by omega) k4
  have:((sz * k:Nat):Int)≤16800:=by omega
  rw [Int.natCast_mul] at this;omega)
 have e3:(sz:Int) * (k:Int)=((k * sz:Nat):Int):=by rw [Nat.mul_comm,Int.natCast_mul]
 rw [e3] at w3
 have hks:k * sz≤4 * 4200:=Nat.mul_le_mul k4 (by omega)
 have r3:=YF ⟨#[120]⟩ (k * sz) (by show 1 * (k * sz)≤_;omega) (by omega)
 rw [xB_eq,rep_one] at r3
 have w4:=wrapi (z:=((m % 4:Nat):Int)) (by omega) (by omega)
 have w5:=wrapi (z:=(sz:Int)) (by omega) (by omega)
 have hY:(ofL (Lib.repeatL lgF.data.toList k)).size=k * 5:=by rw [Z0 (Lib.repeatL lgF.data.toList k),Lib.repeatL_length];rfl
 generalize ofL (List.replicate sz 120)=X at *
 generalize ofL (Lib.repeatL lgF.data.toList k)=Y at *
 generalize lgL k=l at *
 generalize ofL (List.replicate (k * sz) 120)=T at *
 have bT:(T.toList == T.toList)=true:=beqT rfl
 by_cases hbig:4096<k * sz
 ·rw [if_pos hbig] at d1
  have hb2:(4096:Int)<((k * sz:Nat):Int):=by omega
  refine ZR [_,_] func9 ntmps9 fun G w hp=>?_
  repeat' (first|refine ZF ?_|refine ZG ?_|refine ZI ?_|refine ZJ ?_|refine ZM ?_|refine ZH ?_|refine ZO ?_|refine ZN (fun b=>?_)|refine ZP (fun b=>?_)|refine ZD ?_|refine ZB ?_|refine Zd ?_|refine Zc ?_|refine Zt ?_|refine Zb ?_|refine Ze ?_|refine Zu (fun b=>?_)|refine Zs (fun b=>?_)|refine Zr ?_|refine Zf ?_|refine ZA (n1) (fun _ _=>?_)|refine l_call0 (n1) (fun _ _=>?_)|refine ZS (n1) (fun _ _=>?_)|refine ZA (r1) (fun _ _=>?_)|refine l_call0 (r1) (fun _ _=>?_)|refine ZS (r1) (fun _ _=>?_)|refine ZA (r2) (fun _ _=>?_)|refine l_call0 (r2) (fun _ _=>?_)|refine ZS (r2) (fun _ _=>?_)|refine ZA (p0) (fun _ _=>?_)|refine l_call0 (p0) (fun _ _=>?_)|refine ZS (p0) (fun _ _=>?_)|refine ZA (d1 _) (fun _ _=>?_)|refine l_call0 (d1 _) (fun _ _=>?_)|refine ZS (d1 _) (fun _ _=>?_)|rw [q1]|rw [q2]|rw [w4]|rw [w5]|rw [w2]|rw [e3]|rw [w3]|refine Yy ?_|refine l_seqA ?_|(refine ZC (fun hc=>?_) (fun hc=>?_)<;>(try simp at hc)<;>(try omega))|(refine ZV (fun hc=>?_) (fun hc=>?_)<;>(try simp at hc)<;>(try omega))|refine ZT 9 [] [(0,0),(1,0),(2,0),(3,0),(4,4),(5,0),(6,0),(7,0),(8,0),(9,0),(10,0),(11,0)] [] ?_|(refine ZE (fun hc=>?_) (fun hc=>?_)<;>(try simp at hc)<;>(try omega)))
  all_goals exact ZQ () rfl trivial
 ·rw [if_neg hbig] at d1
  have hb2:¬(4096:Int)<((k * sz:Nat):Int):=by omega
  refine ZR [_,_] func9 ntmps9 fun G w hp=>?_
  repeat' (first|rw [bT]|refine ZF ?_|refine ZG ?_|refine ZI ?_|refine ZJ ?_|refine ZM ?_|refine ZH ?_|refine ZO ?_|refine ZN (fun b=>?_)|refine ZP (fun b=>?_)|refine ZD ?_|refine ZB ?_|refine Zd ?_|refine Zc ?_|refine Zt ?_|refine Zb ?_|refine Ze ?_|refine Zu (fun b=>?_)|refine Zs (fun b=>?_)|refine Zr ?_|refine Zf ?_|refine ZA (n1) (fun _ _=>?_)|refine l_call0 (n1) (fun _ _=>?_)|refine ZS (n1) (fun _ _=>?_)|refine ZA (r1) (fun _ _=>?_)|refine l_call0 (r1) (fun _ _=>?_)|refine ZS (r1) (fun _ _=>?_)|refine ZA (r2) (fun _ _=>?_)|refine l_call0 (r2) (fun _ _=>?_)|refine ZS (r2) (fun _ _=>?_)|refine ZA (r3) (fun _ _=>?_)|refine l_call0 (r3) (fun _ _=>?_)|refine ZS (r3) (fun _ _=>?_)|refine ZA (p0) (fun _ _=>?_)|refine l_call0 (p0) (fun _ _=>?_)|refine ZS (p0) (fun _ _=>?_)|refine ZA (d1 _) (fun _ _=>?_)|refine l_call0 (d1 _) (fun _ _=>?_)|refine ZS (d1 _) (fun _ _=>?_)|rw [q1]|rw [q2]|rw [w4]|rw [w5]|rw [w2]|rw [e3]|rw [w3]|refine Yy ?_|refine r_seqA ?_|(refine ZC (fun hc=>?_) (fun hc=>?_)<;>(try simp at hc)<;>(try omega))|(refine ZV (fun hc=>?_) (fun hc=>?_)<;>(try simp at hc)<;>(try omega))|refine ZT 9 [] [(0,0),(1,0),(2,0),(3,0),(4,4),(5,0),(6,0),(7,0),(8,0),(9,0),(10,0),(11,0)] [] ?_|(refine ZE (fun hc=>?_) (fun hc=>?_)<;>(try simp at hc)<;>(try omega)))
  all_goals exact ZQ () rfl trivial
section
open Go.ChangeShapes Go.WideShapes Go.ChangeAt
section
variable {H:Type} {enc:TypeId×Value→H} {W:World} {base:Nat} {v:Value} {d:DataW H} {p:List MemPlace}
theorem open_u16 (hv:Value.okWide prog W .any base 67 v) (h:DataW.Trod enc prog W 0 (fun _=>true) true 67 v d p) :
  ∃n:Nat,v = .int .u16 (n:Int)∧n<65536∧p=[]∧∀w' base' sp' hd',DataW.Trod enc prog w' base' sp' hd' 67 v d []:=by
 obtain ⟨z,rfl,hz,hp,hr⟩:=WB underlying67 hv h
 have h1:0≤z∧z<65536:=by
  simp [Lit.wf,IntKind.min,IntKind.max,IntKind.bits,IntKind.signed] at hz
  omega
 obtain ⟨n,rfl⟩:∃n:Nat,z=(n:Int):=⟨z.toNat,by omega⟩
 exact ⟨n,rfl,by omega,hp,hr⟩
theorem open_u8n (hv:Value.okWide prog W .any base 5 v) (h:DataW.Trod enc prog W 0 (fun _=>true) true 5 v d p) :
  ∃n:Nat,v = .int .u8 (n:Int)∧n<256∧p=[]∧∀w' base' sp' hd',DataW.Trod enc prog w' base' sp' hd' 5 v d []:=by
 obtain ⟨z,rfl,hz,hp,hr⟩:=WB underlying5 hv h
 have h1:0≤z∧z<256:=by
  simp [Lit.wf,IntKind.min,IntKind.max,IntKind.bits,IntKind.signed] at hz
  omega
 obtain ⟨n,rfl⟩:∃n:Nat,z=(n:Int):=⟨z.toNat,by omega⟩
 exact ⟨n,rfl,by omega,hp,hr⟩
end
end
end Go.Proofs.YtodkipbnefngkaaGreatDoor
