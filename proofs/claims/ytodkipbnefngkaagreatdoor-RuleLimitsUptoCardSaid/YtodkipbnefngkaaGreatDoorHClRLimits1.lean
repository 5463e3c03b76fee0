/-
  The library's contract, laid at this program: strings.Repeat.
  The texts of the law RuleLimits, parsed. No program in sight.
  The law RuleLimits.
  Small numbers as arguments.
  Conditions: those that each theorem states.
-/
import Derived.Shelf.Strings.Repeat
import Derived.Test.YtodkipbnefngkaaGreatDoorG2
import Derived.Test.YtodkipbnefngkaaGreatDoorG3
import Derived.Test.YtodkipbnefngkaaGreatDoorG4
set_option maxRecDepth 10000
namespace Go.Proofs
open Go.Shelf
def Tryz.lays105_ren:Go.Shelf.Ren:=⟨fun|105=>31|212=>54|99=>55|165=>56|166=>38|170=>57|169=>41|263=>83|264=>84|206=>85|240=>65|241=>86|276=>92|277=>117|n=>n,fun|9=>9|3=>3|4=>4|20=>20|0=>0|46=>118|109=>119|5=>5|72=>82|76=>85|51=>148|146=>149|53=>151|148=>152|70=>79|37=>80|75=>84|127=>129|164=>161|80=>71|n=>n,fun|n=>n⟩
theorem Tryz.lays105:Go.Proofs.Lays.n105 Tryz.prog Tryz.lays105_ren:={
 mixed:=by kernel_rfl
 f99:=Tryz.func55.trans (congrArg some (by kernel_rfl))
 f105:=Tryz.func31.trans (congrArg some (by kernel_rfl))
 f165:=Tryz.func56.trans (congrArg some (by kernel_rfl))
 f166:=Tryz.func38.trans (congrArg some (by kernel_rfl))
 f169:=Tryz.func41.trans (congrArg some (by kernel_rfl))
 f170:=Tryz.func57.trans (congrArg some (by kernel_rfl))
 f206:=Tryz.func85.trans (congrArg some (by kernel_rfl))
 f212:=Tryz.func54.trans (congrArg some (by kernel_rfl))
 f240:=Tryz.func65.trans (congrArg some (by kernel_rfl))
 f241:=Tryz.func86.trans (congrArg some (by kernel_rfl))
 f263:=Tryz.func83.trans (congrArg some (by kernel_rfl))
 f264:=Tryz.func84.trans (congrArg some (by kernel_rfl))
 f276:=Tryz.func92.trans (congrArg some (by kernel_rfl))
 f277:=Tryz.func117.trans (congrArg some (by kernel_rfl))
 t0:=Tryz.underlying0
 a0:=Tryz.isAgg0
 z0:=Tryz.sizeOf0
 v0:=Tryz.zeroValue0
 t3:=Tryz.underlying3
 a3:=Tryz.isAgg3
 z3:=Tryz.sizeOf3
 v3:=Tryz.zeroValue3
 t4:=Tryz.underlying4
 a4:=Tryz.isAgg4
 z4:=Tryz.sizeOf4
 v4:=Tryz.zeroValue4
 t5:=Tryz.underlying5
 a5:=Tryz.isAgg5
 z5:=Tryz.sizeOf5
 v5:=Tryz.zeroValue5
 t9:=Tryz.underlying9
 a9:=Tryz.isAgg9
 z9:=Tryz.sizeOf9
 v9:=Tryz.zeroValue9
 t20:=Tryz.underlying20
 a20:=Tryz.isAgg20
 z20:=Tryz.sizeOf20
 v20:=Tryz.zeroValue20
 t37:=Tryz.underlying80
 a37:=Tryz.isAgg80
 z37:=Tryz.sizeOf80
 v37:=Tryz.zeroValue80
 t46:=Tryz.underlying118
 a46:=Tryz.isAgg118
 z46:=Tryz.sizeOf118
 v46:=Tryz.zeroValue118
 t51:=Tryz.underlying148
 a51:=Tryz.isAgg148
 z51:=Tryz.sizeOf148
 v51:=Tryz.zeroValue148
 t53:=Tryz.underlying151
 a53:=Tryz.isAgg151
 z53:=Tryz.sizeOf151
 v53:=Tryz.zeroValue151
 t70:=Tryz.underlying79
 a70:=Tryz.isAgg79
 z70:=Tryz.sizeOf79
 v70:=Tryz.zeroValue79
 t72:=Tryz.underlying82
 a72:=Tryz.isAgg82
 z72:=Tryz.sizeOf82
 v72:=Tryz.zeroValue82
 t75:=Tryz.underlying84
 a75:=Tryz.isAgg84
 z75:=Tryz.sizeOf84
 v75:=Tryz.zeroValue84
 t76:=Tryz.underlying85
 a76:=Tryz.isAgg85
 z76:=Tryz.sizeOf85
 v76:=Tryz.zeroValue85
 t109:=Tryz.underlying119
 a109:=Tryz.isAgg119
 z109:=Tryz.sizeOf119
 v109:=Tryz.zeroValue119
 t127:=Tryz.underlying129
 a127:=Tryz.isAgg129
 z127:=Tryz.sizeOf129
 v127:=Tryz.zeroValue129
 t146:=Tryz.underlying149
 a146:=Tryz.isAgg149
 z146:=Tryz.sizeOf149
 v146:=Tryz.zeroValue149
 t148:=Tryz.underlying152
 a148:=Tryz.isAgg152
 z148:=Tryz.sizeOf152
 v148:=Tryz.zeroValue152
 t164:=Tryz.underlying161
 a164:=Tryz.isAgg161
 z164:=Tryz.sizeOf161
 v164:=Tryz.zeroValue161}
theorem Tryz.bx105:Builder.Extra Tryz.prog Tryz.lays105_ren:={
 sizeBuilder:=by kernel_rfl
 liesBuilder:=by kernel_rfl
 t5:=Tryz.underlying5
 a5:=Tryz.isAgg5
 z5:=Tryz.sizeOf5
 v5:=Tryz.zeroValue5
 infoByte:=by kernel_rfl
 cellsByte:=by kernel_rfl
 sizeByte:=by kernel_rfl
 neB5:=by decide}
end Go.Proofs
namespace Go.Proofs.YtodkipbnefngkaaGreatDoor
open Go.Proofs.Tryz
open Go.RowKit
theorem YF (s:ByteArray) (c:Nat) (h:s.size * c≤1000000000) (hc:c≤1000000000):Enters 31∧Spec prog 31 #[.string s,.int .i64 (c:Int)] [] [] (RetV (.string (ofL (Lib.repeatL s.data.toList c)))):=by
 refine ⟨enters_of func31 (by kernel_rfl) rfl,fun G w hp hs=>?_⟩
 refine (Any.strings_Repeat Tryz.lays105 Tryz.bx105 s c w (by omega) (by omega)).mono ?_
 rintro e w' ⟨rfl,hx⟩
 exact ⟨(),rfl,trivial,hs.ext (Y1 hx)⟩
theorem rep_one (x:UInt8) (c:Nat):Lib.repeatL [x] c=List.replicate c x:=by
 have:=Lib.repeatL_replicate x 1 c
 rw [Nat.mul_one] at this
 exact this
end Go.Proofs.YtodkipbnefngkaaGreatDoor
set_option maxRecDepth 10000
namespace Go.Proofs.YtodkipbnefngkaaGreatDoor
open Go.RowKit Go.Proofs.Tryz
def askL:List UInt8:=[97,115,107]
def askB:ByteArray:=⟨#[97,115,107,10]⟩
def askR:Ru:=⟨none,⟨5,ofL []⟩⟩
theorem lines_nl (r:List UInt8):linesF (10::r)=[]::linesF r:=by simp [linesF]
theorem lines_c {c:UInt8} (h:c≠10) {r l:List UInt8} {m:List (List UInt8)} (hr:linesF r=l::m):linesF (c::r)=(c::l)::m:=by
 have h2:(c == 10)=false:=by simpa using h
 simp [linesF,h2,hr]
theorem lines_ask:∀n,linesF (Lib.repeatL askB.data.toList n)=List.replicate n askL++[[]]
 | 0=>rfl
 | n+1=>by
  show linesF (97::115::107::10::Lib.repeatL askB.data.toList n)=_
  rw [lines_c (by decide) (lines_c (by decide) (lines_c (by decide) (lines_nl _))),lines_ask n]
  rfl
theorem line_ask (m:Nat):lineF askL m=if m=256 then (none,0,9) else (some askR,0,0):=by
 unfold lineF
 rw [show scanF (askL.length+1) askL 0 []=([⟨1,ofL askL,0⟩],3,true) by kernel_rfl]
 dsimp only
 rw [if_neg (by decide)]
 split
 ·rfl
 ·rw [show ruleF ⟨[⟨1,ofL askL,0⟩],((3:Nat):Int),0,0,0⟩=(askR,⟨[],3,0,0,0⟩) by kernel_rfl]
  rfl
theorem line_nil (m:Nat):lineF [] m=(none,0,0):=rfl
theorem rows_ask:∀(n i:Nat) (acc:List Ru),i=acc.length→acc.length≤256→rowsF (List.replicate n askL++[[]]) i acc=if acc.length+n≤256 then .ok (acc++List.replicate n askR) else .error (257,1,9)
 | 0,i,acc,hi,ha=>by
  rw [if_pos (by omega)]
  show rowsF [[]] i acc=_
  unfold rowsF
  rw [line_nil]
  simp [rowsF]
 | n+1,i,acc,hi,ha=>by
  rw [List.replicate_succ,List.cons_append,rowsF,line_ask]
  by_cases h:acc.length=256
  ·rw [if_pos h,if_neg (by omega)]
   show (if (9:Int)=0 then _ else _)=_
   rw [if_neg (by decide),hi,h]
   rfl
  ·rw [if_neg h]
   show rowsF _ (i+1) (acc++[askR])=_
   rw [rows_ask n (i+1) (acc++[askR]) (by simp [hi]) (by simp;omega)]
   have e:(acc++[askR]).length+n=acc.length+(n+1):=by simp;omega
   rw [e,List.append_assoc]
   rfl
theorem lim_ask (n:Nat) (hn:n≤1000):parF (ofL (Lib.repeatL askB.data.toList n))=if n≤256 then .ok (List.replicate n askR) else .error (257,1,9):=by
 have hz:¬65536<(ofL (Lib.repeatL askB.data.toList n)).size:=by
  rw [Z0 (Lib.repeatL askB.data.toList n),Lib.repeatL_length]
  show ¬65536<n * 4;omega
 unfold parF
 rw [if_neg hz,Yw (Lib.repeatL askB.data.toList n),lines_ask,rows_ask n 0 [] rfl (by decide)]
 simp
def nsA:ByteArray:=⟨#[105,102,32]⟩
def nsB:ByteArray:=⟨#[58,32,115,101,110,100]⟩
def nsN:ByteArray:=⟨#[110,101,119]⟩
def nsS (k:Nat):ByteArray:=nsA++ofL (Lib.repeatL [40] k)++nsN++ofL (Lib.repeatL [41] k)++nsB
def nsC (k:Nat):Bool:=match parF (nsS k) with
 | .ok _=>decide (k≤32)
 | .error x=>decide (32<k) && decide (x=(1,36,9))
theorem ns_all:∀k<41,nsC k=true:=by decide +kernel
theorem lim_nest (k:Nat) (h:k<41):(k≤32∧∃l,parF (nsS k) = .ok l)∨(32<k∧parF (nsS k) = .error (1,36,9)):=by
 have h1:=ns_all k h
 unfold nsC at h1
 split at h1
 ·rename_i l hl;exact .inl ⟨by simpa using h1,l,hl⟩
 ·rename_i x hx
  simp only [Bool.and_eq_true,decide_eq_true_eq] at h1
  exact .inr ⟨h1.1,by rw [hx,h1.2]⟩
theorem lines_sp:∀n,linesF (List.replicate n 32)=[List.replicate n 32]
 | 0=>rfl
 | n+1=>by rw [List.replicate_succ,lines_c (by decide) (lines_sp n)]
theorem scan_sp:∀(m n i:Nat),n≤m→scanF m (List.replicate n 32) i []=([],i+n,true)
 | 0,n,i,h=>by
  obtain rfl:n=0:=by omega
  rfl
 | m+1,0,i,_=>rfl
 | m+1,n+1,i,h=>by
  rw [List.replicate_succ]
  show scanF m (List.replicate n 32) (i+1) []=_
  rw [scan_sp m n (i+1) (by omega),Nat.add_assoc,Nat.add_comm 1 n]
theorem lim_sp (n:Nat):parF (ofL (List.replicate n 32))=if 65536<n then .error (0,0,5) else .ok []:=by
 unfold parF
 rw [Z0 (List.replicate n 32),List.length_replicate]
 split
 ·rfl
 ·rw [Yw (List.replicate n 32),lines_sp]
  unfold rowsF lineF
  rw [List.length_replicate,scan_sp (n+1) n 0 (by omega)]
  rfl
set_option maxHeartbeats 4000000 in
theorem lawLimits_ok (n m k:Nat) (hk:k<256):Enters 10∧Spec prog 10 #[.int .u16 (n:Int),.int .u8 (m:Int),.int .u8 (k:Int)] [ErA,P10,MxL] [] (RetV (.bool true)):=by
 have q1:(n:Int).tmod 300=((n % 300:Nat):Int):=rfl
 have q2:(m:Int).tmod 41=((m % 41:Nat):Int):=rfl
 have z1:n % 300<300:=Nat.mod_lt _ (by decide)
 have z2:m % 41<41:=Nat.mod_lt _ (by decide)
 generalize n % 300=a at *
 generalize m % 41=b at *
 have w1:=wrapi (z:=(a:Int)) (by omega) (by omega)
 have w2:=wrapi (z:=(b:Int)) (by omega) (by omega)
 have w3:=wrapi (z:=(k:Int)) (by omega) (by omega)
 have w4:=wrapi (z:=(65400:Int)+(k:Int)) (by omega) (by omega)
 have e4:(65400:Int)+(k:Int)=((65400+k:Nat):Int):=by omega
 rw [e4] at w4
 generalize hc:65400+k=c at *
 have r1:=YF askB a (by show 4 * a≤_;omega) (by omega)
 have r2:=YF ⟨#[40]⟩ b (by show 1 * b≤_;omega) (by omega)
 have r3:=YF ⟨#[41]⟩ b (by show 1 * b≤_;omega) (by omega)
 have r4:=YF ⟨#[32]⟩ c (by show 1 * c≤_;omega) (by omega)
 rw [show (⟨#[32]⟩:ByteArray).data.toList=[32] from rfl,rep_one] at r4
 rw [show (⟨#[40]⟩:ByteArray).data.toList=[40] from rfl] at r2
 rw [show (⟨#[41]⟩:ByteArray).data.toList=[41] from rfl] at r3
 have p1:=YS (ofL (Lib.repeatL askB.data.toList a)) (by rw [Z0 (Lib.repeatL askB.data.toList a),Lib.repeatL_length];show a * 4≤_;omega)
 have s2:(ofL (Lib.repeatL [40] b)).size=b:=by rw [Z0 (Lib.repeatL [40] b),Lib.repeatL_length];simp
 have s3:(ofL (Lib.repeatL [41] b)).size=b:=by rw [Z0 (Lib.repeatL [41] b),Lib.repeatL_length];simp
 have p2:=YS (nsS b) (by
  unfold nsS
  rw [Zz,Zz,Zz,Zz,s2,s3];show 3+b+3+b+6≤_;omega)
 have p3:=YS (ofL (List.replicate c 32)) (by rw [Z0 (List.replicate c 32),List.length_replicate];omega)
 have n1:=X0
 rw [lim_ask a (by omega)] at p1
 rw [lim_sp] at p3
 have t2:=lim_nest b z2
 unfold nsS at p2 t2
 generalize ofL (Lib.repeatL [40] b)=X at *
 generalize ofL (Lib.repeatL [41] b)=Y at *
 generalize ofL (Lib.repeatL askB.data.toList a)=Z at *
 generalize ofL (List.replicate c 32)=U at *
 have g1:(a≤256∧(if a≤256 then (.ok (List.replicate a askR):Except (Int×Int×Int) (List Ru)) else .error (257,1,9)) = .ok (List.replicate a askR))∨(¬a≤256∧(if a≤256 then (.ok (List.replicate a askR):Except (Int×Int×Int) (List Ru)) else .error (257,1,9)) = .error (257,1,9)):=by
  by_cases h:a≤256
  ·exact .inl ⟨h,if_pos h⟩
  ·exact .inr ⟨h,if_neg h⟩
 have g3:(¬65536<c∧(if 65536<c then (.error (0,0,5):Except (Int×Int×Int) (List Ru)) else .ok []) = .ok [])∨(65536<c∧(if 65536<c then (.error (0,0,5):Except (Int×Int×Int) (List Ru)) else .ok []) = .error (0,0,5)):=by
  by_cases h:65536<c
  ·exact .inr ⟨h,if_pos h⟩
  ·exact .inl ⟨h,if_neg h⟩
 rcases g1 with ⟨a1,g1⟩|⟨a1,g1⟩<;>rcases t2 with ⟨b1,_,t2⟩|⟨b1,t2⟩<;>rcases g3 with ⟨c1,g3⟩|⟨c1,g3⟩<;>rw [g1] at p1<;>rw [t2] at p2<;>rw [g3] at p3
 all_goals
  refine ZR [_,_,_] func10 ntmps10 fun G w hp=>?_
  repeat' (first|refine ZF ?_|refine ZG ?_|refine ZI ?_|refine ZJ ?_|refine ZM ?_|refine ZH ?_|refine ZO ?_|refine ZN (fun b=>?_)|refine ZP (fun b=>?_)|refine ZD ?_|refine ZB ?_|refine ZK ?_|refine ZA (n1) (fun _ _=>?_)|refine l_call0 (n1) (fun _ _=>?_)|refine ZA (r1) (fun _ _=>?_)|refine l_call0 (r1) (fun _ _=>?_)|refine ZA (r2) (fun _ _=>?_)|refine l_call0 (r2) (fun _ _=>?_)|refine ZA (r3) (fun _ _=>?_)|refine l_call0 (r3) (fun _ _=>?_)|refine ZA (r4) (fun _ _=>?_)|refine l_call0 (r4) (fun _ _=>?_)|refine ZA (p1) (fun _ _=>?_)|refine l_call0 (p1) (fun _ _=>?_)|refine ZA (p2) (fun _ _=>?_)|refine l_call0 (p2) (fun _ _=>?_)|refine ZA (p3) (fun _ _=>?_)|refine l_call0 (p3) (fun _ _=>?_)|rw [q1]|rw [q2]|rw [w1]|rw [w2]|rw [w3]|rw [e4]|rw [w4]|refine Yy ?_|(refine ZC (fun hc=>?_) (fun hc=>?_)<;>(try simp at hc)<;>(try omega))|(refine ZE (fun hc=>?_) (fun hc=>?_)<;>(try simp at hc)<;>(try omega)))
  all_goals exact ZQ () rfl trivial
section
open Go.ChangeShapes Go.WideShapes Go.ChangeAt
section
variable {H:Type} {enc:TypeId×Value→H} {W:World} {base:Nat} {v:Value} {d:DataW H} {p:List MemPlace}
theorem open_u16 (hv:Value.okWide prog W .any base 67 v) (h:DataW.Trod enc prog W 0 (fun _=>true) true 67 v d p) :
  ∃n:Nat,v = .int .u16 (n:Int)∧n<65536∧p=[]∧∀w' base' sp' hd',DataW.Trod enc prog w' base' sp' hd' 67 v d []:=by
 obtain ⟨z,rfl,hz,hp,hr⟩:=WB underlying67 hv h
 have h1:0≤z∧z<65536:=by
  simp [Lit.wf,IntKind.min,IntKind.max,IntKind.bits,IntKind.signed] at hz
  omega
 obtain ⟨n,rfl⟩:∃n:Nat,z=(n:Int):=⟨z.toNat,by omega⟩
 exact ⟨n,rfl,by omega,hp,hr⟩
theorem open_u8n (hv:Value.okWide prog W .any base 5 v) (h:DataW.Trod enc prog W 0 (fun _=>true) true 5 v d p) :
  ∃n:Nat,v = .int .u8 (n:Int)∧n<256∧p=[]∧∀w' base' sp' hd',DataW.Trod enc prog w' base' sp' hd' 5 v d []:=by
 obtain ⟨z,rfl,hz,hp,hr⟩:=WB underlying5 hv h
 have h1:0≤z∧z<256:=by
  simp [Lit.wf,IntKind.min,IntKind.max,IntKind.bits,IntKind.signed] at hz
  omega
 obtain ⟨n,rfl⟩:∃n:Nat,z=(n:Int):=⟨z.toNat,by omega⟩
 exact ⟨n,rfl,by omega,hp,hr⟩
end
end
end Go.Proofs.YtodkipbnefngkaaGreatDoor
