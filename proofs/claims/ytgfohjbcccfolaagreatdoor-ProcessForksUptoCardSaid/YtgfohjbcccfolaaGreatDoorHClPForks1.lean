/-
  The law ProcessForks, walked.
  Registers, as an argument.
  Conditions: those that each theorem states.
-/
import Derived.Test.YtgfohjbcccfolaaGreatDoorF3
set_option maxRecDepth 10000
namespace Go.Proofs.YtgfohjbcccfolaaGreatDoor
open Go.RowKit Go.Proofs.Tryz
section
variable {n:Nat} {C:Cx} {Q:Exit→Act→World→Prop} {E E':List (Nat×Value)} {F F' F1 Fs F0:List Pf} {R R' R0 Rs N N' A:List HP} {k k':List Fr} {ops l:List Oper} {L L':List (Nat×Nat)} {Tl:List Nat} {i d b:Nat} {t ty0:TypeId} {x y:Operand} {pos:String} {aft:Array Edge} {gd:Option (Nat×Bool)}
theorem r_ixP5 {T sz m cap:Nat} {z:Int} {rs tr:TRow} (j:Nat) (hlt:j<m) (nx:Wr n C ops k Q Tl Fs R L ((d,.pointer (some ⟨b,j * sz,none⟩))::E) F N)
  (ho:nth ops i=some ⟨some d,.indexAddr t x y,ty0,pos,aft,gd⟩:=by rfl) (hw:wantL ops E ⟨some d,.indexAddr t x y,ty0,pos,aft,gd⟩=some true:=by rfl) (hx:ev E x=some (.slice (some ⟨b,0,none⟩) m cap):=by rfl) (hy:ev E y=some (.int .i64 z):=by rfl)
  (hts:lookT tab t=some rs:=by rfl) (hrs:rs.k = .slice T:=by rfl) (hT:lookT tab T=some tr:=by rfl) (hsz:tr.size=sz:=by rfl) (hz:z=(j:Int):=by first|rfl|omega):Wr n C ops k Q Tl Fs R ((i,0)::L) E F N:=
 r_q (fun a w ha=>by
  have hr1:=YE (o:=some ⟨b,0,none⟩) (m:=m) (cap:=cap) (w:=w) hts hrs hT hsz hz hlt (p:=⟨b,j * sz,none⟩) (by simp [YH rfl])
  simp only [execOp,ha.ev (x:=x) (by rw [ZE];exact hx),ha.ev (x:=y) (by rw [ZE];exact hy),Sem.run_bind,Result.andThen,hr1,Sem.run_pure]) nx ho hw
end
theorem fk_fork (ec tx:ByteArray) (hec:ec.size≤65536) (ht:tx.size≤100) (v s:Nat) (rs:List (Nm×Ch)) :
  Enters 11∧Spec prog 11 #[.pointer (some ⟨v,0,none⟩),.string o1] [St (some ⟨s,0,none⟩) [],Usg,P10] [Vw v (some ⟨s,0,none⟩) rs (fk2 ec tx)] ⟨List (Nm×Ch),fun _=>.tuple #[.string c11,.int .i64 0],fun _=>True,fun _=>[],fun rs'=>[Vw v (some ⟨s,0,none⟩) rs' (fk3 ec tx)]⟩:=by
 have hne:isE o1=false:=by simp [isE,o1,ZZ]
 have i1:(Lib.itoa 1).length≤100:=by rw [itoa1];decide
 have hl:(fk2 ec tx).length≤66:=by
  have h3:(fk2 ec tx).length≤(fk1 ec).length+64:=YI
  have h4:(fk1 ec).length=2:=rfl
  omega
 have h:=X0 v (some ⟨s,0,none⟩) [] rs (fk2 ec tx) o1 ZK ZK false (f2_at ec tx) rfl (by unfold Own;rw [if_pos (show ZK.sp=o1 from rfl)]) ⟨0,0,0⟩ (by rw [madeE,if_pos ZT,f2_c];rfl) (by rw [f2_c];exact Nat.zero_le _) ⟨by decide,by decide,by decide,by decide,by decide,by decide⟩ (by decide) YZ hne i1
  (by show lvalid (chN o1 1).data.toList=true;rw [chN1];exact ZR) (by show (chN o1 1).size≤_;rw [chN1];decide) (by show (vget [] (fk2 ec tx) (pnm (chN o1 1))).2=false;rw [chN1,f2_p]) (by show chN o1 1≠o1;rw [chN1];exact d1) (by rw [f2_r];exact hec)
  (fun i _=>by
   show (vget [] (fk2 ec tx) (gnm o1 (i:Int))).1.size≤65536
   rcases f2_g ec tx ht i with ⟨s,h1,h2⟩|h2
   ·rw [h2];show s.size≤_;omega
   ·rw [h2];exact Nat.zero_le _) (by omega)
 rw [show chN o1 ((Ct.mk 0 0 0).c+1)=c11 from chN1] at h
 exact fork2_ok h
set_option maxHeartbeats 8000000 in
theorem lawPForks_ok (text:ByteArray) (o:Option Addr) (cap:Nat) (es:List UInt8) (_hl:es.length≤1099511627776) (a1 a2 a3 a4 a5 a6 a7 a8 a9:Int) (hr:∀z ∈ [a1,a2,a3,a4,a5,a6,a7,a8,a9],0≤z∧z<4294967296) :
  Enters 5∧Spec prog 5 #[.string text,.slice o es.length cap,.agg #[.int .u32 a1,.int .u32 a2,.int .u32 a3,.int .u32 a4,.int .u32 a5,.int .u32 a6,.int .u32 a7,.int .u32 a8,.int .u32 a9]] [Sl 5 bf o cap es,Usg,P10] [] (RetV (.bool true)):=by
 have htz:=cutS_size text 100
 generalize ht0:cutS text 100=tx at *
 obtain ⟨ec,hec⟩:∃ec:ByteArray,ec=⟨(encR [a1,a2,a3,a4,a5,a6,a7,a8,a9]).toArray⟩:=⟨_,rfl⟩
 have hes:ec.size=36:=by rw [hec];show (List.toArray _).size=36;rw [List.size_toArray];rfl
 have hrg:rgs ec=[a1,a2,a3,a4,a5,a6,a7,a8,a9]:=by rw [hec];exact rgs_enc hr
 have n0:=begun_ok
 have n1:=known35_ok
 have n2:=fun v s rs=>setRegs_ok v (some ⟨s,0,none⟩) rs cA o1 (by decide) ZT (by decide) a1 a2 a3 a4 a5 a6 a7 a8 a9 hr
 rw [←hec] at n2
 rw [show cA++[⟨rnm o1,ec,false⟩]=fk1 ec from rfl] at n2
 have hown:∀cs:List Ch,Own [] cs o1 ZK ZK:=fun cs=>by unfold Own;rw [if_pos (show ZK.sp=o1 from rfl)]
 have hown1:∀cs:List Ch,Own [] cs c11 Zy Zy:=fun cs=>by unfold Own;rw [if_pos (show Zy.sp=c11 from rfl)]
 have n3:=fun v s rs=>YC v (some ⟨s,0,none⟩) [] rs (fk1 ec) o1 ZK ZK (f1_at ec) (hown _)
 have n4:=fun (x:Mb) v s q=>YN (x.s v ZK ZK) (some ⟨s,0,none⟩) [] (fk1 ec) (by show o1.size≤1000;decide) 2 rfl (by decide) 20 tx (by omega) x.bk q 20 rfl
 have n5:=fun (x:Mb) v s q=>YB (x.s v ZK ZK) (some ⟨s,0,none⟩) [] (fk1 ec) 2 (by decide) 20 tx (by omega) o1 ZK ZK (f1_at ec) (hown _) rfl rfl ZT x.bk q (by show 2≤_;decide)
 have n6:=fun v s rs=>fk_fork ec tx (by omega) htz v s rs
 have n7:=fun v s rs=>regs_ok v (some ⟨s,0,none⟩) [] rs (fk3 ec tx) c11 (by decide) ZR ec (f3_r ec tx)
 rw [if_pos hes,hrg,if_pos hes] at n7
 have hj:=fj0 ec tx htz
 have n8:=fun v s rs=>YR v (some ⟨s,0,none⟩) [] rs (fk3 ec tx) o1 ZK ZK hj.a (hown _) 2 rfl (by decide)
 have n9:=fun v s rs=>YR v (some ⟨s,0,none⟩) [] rs (fk3 ec tx) c11 Zy Zy hj.b (hown1 _) 2 rfl (by decide)
 rw [show ZK.sp=o1 from rfl,hj.m0] at n8
 rw [show Zy.sp=c11 from rfl,hj.m1] at n9
 have hw0:(memS [] (fk1 ec) o1 2).size=128:=Zx _ _ _ _
 have hmid:=spl_mid (memS [] (fk1 ec) o1 2) 20 tx (by omega)
 have hws:(spl (memS [] (fk1 ec) o1 2) 20 tx).size=128:=by rw [←hj.m0];exact Zx _ _ _ _
 generalize spl (memS [] (fk1 ec) o1 2) 20 tx=w0 at *
 have hF3:∃F3,F3=fk3 ec tx:=⟨_,rfl⟩
 obtain ⟨F3,hF3⟩:=hF3
 rw [←hF3] at n6 n7 n8 n9 hj
 simp only [rgV,List.flatMap_cons,List.flatMap_nil,List.append_nil,List.cons_append,List.nil_append] at n7
 clear hrg hr hec
 generalize cA=sA at *
 have w20:IntKind.i64.wrap (20+(tx.size:Int))=((20+tx.size:Nat):Int):=by rw [wrapi (by omega) (by omega)];omega
 have hlo:20≤20+tx.size:=by omega
 have hhi:20+tx.size≤w0.size:=by omega
 have hE1:(tx.toList == tx.toList)=true:=by simp
 have hE2:(w0.toList == w0.toList)=true:=by simp
 refine ZI [_,_,_] func5 ntmps5 fun G w hp=>?_
 repeat' (first|refine ZC ?_|refine ZB ?_|refine ZP ?_|refine ZD ?_|refine ZS ?_|refine Zr ?_|refine ZV ?_|refine ZQ (fun b=>?_)|refine YM (fun b=>?_)|refine ZJ ?_|refine ZF ?_|refine ZA (n0) (fun _ _=>?_)|refine l_call0 (n0) (fun _ _=>?_)|refine ZA (n1) (fun _ _=>?_)|refine l_call0 (n1) (fun _ _=>?_)|refine ZA (n2 _ _ _) (fun _ _=>?_)|refine l_call0 (n2 _ _ _) (fun _ _=>?_)|refine ZA (n3 _ _ _) (fun _ _=>?_)|refine l_call0 (n3 _ _ _) (fun _ _=>?_)|refine ZA (n4 _ _ _ _) (fun _ _=>?_)|refine l_call0 (n4 _ _ _ _) (fun _ _=>?_)|refine ZA (n5 _ _ _ _) (fun _ _=>?_)|refine l_call0 (n5 _ _ _ _) (fun _ _=>?_)|refine ZA (n6 _ _ _) (fun _ _=>?_)|refine l_call0 (n6 _ _ _) (fun _ _=>?_)|refine ZA (n7 _ _ _) (fun _ _=>?_)|refine l_call0 (n7 _ _ _) (fun _ _=>?_)|refine ZA (n8 _ _ _) (fun _ _=>?_)|refine l_call0 (n8 _ _ _) (fun _ _=>?_)|refine ZA (n9 _ _ _) (fun _ _=>?_)|refine l_call0 (n9 _ _ _) (fun _ _=>?_)|refine l_cutS 100 ?_|rw [ht0]|refine l_sneq35 ?_|refine l_ixA (m:=2) 0 (by decide) ?_|refine l_ixA (m:=2) 1 (by decide) ?_|rw [w20]|refine l_sLH2 20 (20+tx.size) hlo hhi ?_|rw [hmid]|rw [hE1]|rw [hE2]|(refine ZM (fun hc=>?_) (fun hc=>?_)<;>(try simp at hc)<;>(try omega))|(refine ZH (fun hc=>?_) (fun hc=>?_)<;>(try simp at hc)<;>(try omega)))
 rename Nat×Nat×List (Nm×Ch)=>q
 rename List (Nm×Ch)=>rs9
 obtain ⟨v,s,rs0⟩:=q
 dsimp only
 refine YF (X:={q:Nat×List (Nm×Ch)×List Ch×ByteArray×ByteArray // q.1≤es.length∧q.1≤10∧FJ q.1 q.2.2.1 q.2.2.2.1 q.2.2.2.2}) (fun q=>[(1,.slice o es.length cap),(7,.pointer (some ⟨v,0,none⟩)),(11,.string c11),(15,.pointer (some ⟨b,0,none⟩)),(16,.int .i64 (q.1.1:Int))]) (fun _=>[Sl 5 bf o cap es,St (some ⟨s,0,none⟩) [],Usg]) (fun q=>[Vw v (some ⟨s,0,none⟩) q.1.2.1 q.1.2.2.1,Pt b (.cells #[.string q.1.2.2.2.1,.string q.1.2.2.2.2] 67)]) (fun q=>es.length - q.1.1)
  ⟨(0,rs9,F3,w0,w0),Nat.zero_le _,Nat.zero_le _,hj⟩ ⟨rfl,rfl,rfl,rfl,rfl,trivial⟩ ?_
 clear hj n6 n7 n8 n9 n2 n3 n4 n5 hF3
 rintro ⟨⟨i,rs,cs,y0,y1⟩,hi1,hi2,hJ⟩
 dsimp only at hi1 hi2 hJ ⊢
 have hy0:y0.size=128:=by rw [←hJ.m0];exact Zx _ _ _ _
 have hy1:y1.size=128:=by rw [←hJ.m1];exact Zx _ _ _ _
 by_cases hgo:i<es.length∧i<10
 ·obtain ⟨hgo1,hgo2⟩:=hgo
  obtain ⟨c,hgt⟩:∃c,es[i]? = some c:=⟨_,List.getElem?_eq_getElem hgo1⟩
  have hcl:=c.toNat_lt
  obtain ⟨k,hk⟩:∃k,k=c.toNat % 128:=⟨_,rfl⟩
  have hk7:k<128:=by omega
  have t1:(c.toNat:Int).tmod 128=(k:Int):=by rw [Int.tmod_eq_emod_of_nonneg (Int.natCast_nonneg _),hk];exact (Int.natCast_emod _ 128).symm
  have w0':IntKind.i64.wrap (k:Int)=(k:Int):=wrapi (by omega) (by omega)
  have w9:IntKind.i64.wrap ((i:Int)+1)=((i+1:Nat):Int):=by rw [wrapi (by omega) (by omega)];omega
  have wk:IntKind.i64.wrap ((k:Int)+1)=((k+1:Nat):Int):=by rw [wrapi (by omega) (by omega)];omega
  clear hk
  have hlc:=hJ.l
  have hk8:k≤y0.size:=by omega
  have hk9:k+1≤y0.size:=by omega
  have hk8':k≤y1.size:=by omega
  have hk9':k+1≤y1.size:=by omega
  have hc1:(y0.extract 0 k).size+(⟨#[33]⟩:ByteArray).size≤9223372036854775807:=by rw [ByteArray.size_extract];show _+1≤_;omega
  have hc2:(y0.extract 0 k++(⟨#[33]⟩:ByteArray)).size+(y0.extract (k+1) y0.size).size≤9223372036854775807:=by rw [ByteArray.size_append,ByteArray.size_extract,ByteArray.size_extract];show _+1+_≤_;omega
  have hc1':(y1.extract 0 k).size+(⟨#[33]⟩:ByteArray).size≤9223372036854775807:=by rw [ByteArray.size_extract];show _+1≤_;omega
  have hc2':(y1.extract 0 k++(⟨#[33]⟩:ByteArray)).size+(y1.extract (k+1) y1.size).size≤9223372036854775807:=by rw [ByteArray.size_append,ByteArray.size_extract,ByteArray.size_extract];show _+1+_≤_;omega
  by_cases hpar:i % 2=0
  ·have t2:(i:Int).tmod 2=0:=by rw [Int.tmod_eq_emod_of_nonneg (Int.natCast_nonneg _)];omega
   have m1:=YC v (some ⟨s,0,none⟩) [] rs cs o1 ZK ZK hJ.a (hown _)
   have m2:=fun (x:Mb) q=>YN (x.s v ZK ZK) (some ⟨s,0,none⟩) [] cs (by show o1.size≤1000;decide) 2 rfl (by decide) k ⟨#[33]⟩ (by show k+1≤128;omega) x.bk q (k:Int) rfl
   have m3:=fun (x:Mb) q=>YB (x.s v ZK ZK) (some ⟨s,0,none⟩) [] cs 2 (by decide) k ⟨#[33]⟩ (by show k+1≤128;omega) o1 ZK ZK hJ.a (hown _) rfl rfl ZT x.bk q (by omega)
   have hJ2:=hJ.s0 (k:=k) (tx:=⟨#[33]⟩) (by show k+1≤128;omega)
   repeat' (first|refine ZC ?_|refine ZB ?_|refine ZP ?_|refine ZD ?_|refine ZS ?_|refine Zr ?_|refine ZV ?_|refine ZQ (fun b=>?_)|refine YM (fun b=>?_)|refine ZJ ?_|refine ZF ?_|refine Zq ?_|refine r_one ?_|refine Ym ?_|refine r_ldF ?_|refine r_ldN ?_|refine r_al (fun b=>?_)|refine r_bs (fun b=>?_)|refine r_st ?_|refine Zp ?_|refine ZA (m1) (fun _ _=>?_)|refine l_call0 (m1) (fun _ _=>?_)|refine ZY (m1) (fun _ _=>?_)|refine ZA (m2 _ _) (fun _ _=>?_)|refine l_call0 (m2 _ _) (fun _ _=>?_)|refine ZY (m2 _ _) (fun _ _=>?_)|refine ZA (m3 _ _) (fun _ _=>?_)|refine l_call0 (m3 _ _) (fun _ _=>?_)|refine ZY (m3 _ _) (fun _ _=>?_)|rw [t2]|rw [t1]|rw [w0']|rw [w9]|rw [wk]|refine r_ixe (es:=es) i c hgt (fun b off=>?_)|refine r_ldC ?_|refine r_ixP5 (sz:=1) (m:=2) 0 (by decide) ?_|refine r_ixA (m:=2) 0 (by decide) ?_|refine r_sH k hk8 ?_|refine r_send (k+1) hk9 ?_|refine XF ?_ (h:=hc1)|refine XF ?_ (h:=hc2)|(refine ZM (fun hc=>?_) (fun hc=>?_)<;>(try simp at hc)<;>(try omega))|(refine r_split (fun hc=>?_) (fun hc=>?_)<;>(try simp at hc)<;>(try omega))|refine Za 20 [] [(0,0),(2,0),(3,0),(6,0),(7,0),(8,0),(9,0),(10,0),(11,0),(1,1),(4,0),(5,3),(12,0),(13,0)] [] ?_|refine Za 24 [] [(0,0),(1,0),(2,0),(3,0),(4,0),(5,0),(6,0),(7,0),(8,0),(9,0),(10,0),(11,0),(12,0),(13,0),(14,0),(15,0),(16,0),(17,0)] [18] ?_|(refine ZH (fun hc=>?_) (fun hc=>?_)<;>(try simp at hc)<;>(try omega)))
   rename List (Nm×Ch)=>rs2
   have hsp:spl y0 k ⟨#[33]⟩=y0.extract 0 k++⟨#[33]⟩++y0.extract (k+1) y0.size:=rfl
   exact ZW ⟨(i+1,rs2,putS [] cs o1 2 k ⟨#[33]⟩,spl y0 k ⟨#[33]⟩,y1),by omega,by omega,hJ2⟩ (by show es.length - (i+1)<es.length - i;omega) ⟨rfl,rfl,rfl,rfl,rfl,trivial⟩ (hr:=by dsimp only;rw [hsp];(repeat (first|exact Sels.nil|exact Sel.here|apply Sel.there|apply Sels.cons)))
  ·have t2:(i:Int).tmod 2=1:=by rw [Int.tmod_eq_emod_of_nonneg (Int.natCast_nonneg _)];omega
   have m1:=YC v (some ⟨s,0,none⟩) [] rs cs c11 Zy Zy hJ.b (hown1 _)
   have m2:=fun (x:Mb) q=>YN (x.s v Zy Zy) (some ⟨s,0,none⟩) [] cs (by show c11.size≤1000;decide) 2 rfl (by decide) k ⟨#[33]⟩ (by show k+1≤128;omega) x.bk q (k:Int) rfl
   have m3:=fun (x:Mb) q=>YB (x.s v Zy Zy) (some ⟨s,0,none⟩) [] cs 2 (by decide) k ⟨#[33]⟩ (by show k+1≤128;omega) c11 Zy Zy hJ.b (hown1 _) rfl rfl ZR x.bk q (by omega)
   have hJ2:=hJ.s1 (k:=k) (tx:=⟨#[33]⟩) (by show k+1≤128;omega)
   repeat' (first|refine ZC ?_|refine ZB ?_|refine ZP ?_|refine ZD ?_|refine ZS ?_|refine Zr ?_|refine ZV ?_|refine ZQ (fun b=>?_)|refine YM (fun b=>?_)|refine ZJ ?_|refine ZF ?_|refine Zq ?_|refine r_one ?_|refine Ym ?_|refine r_ldF ?_|refine r_ldN ?_|refine r_al (fun b=>?_)|refine r_bs (fun b=>?_)|refine r_st ?_|refine Zp ?_|refine ZA (m1) (fun _ _=>?_)|refine l_call0 (m1) (fun _ _=>?_)|refine ZY (m1) (fun _ _=>?_)|refine ZA (m2 _ _) (fun _ _=>?_)|refine l_call0 (m2 _ _) (fun _ _=>?_)|refine ZY (m2 _ _) (fun _ _=>?_)|refine ZA (m3 _ _) (fun _ _=>?_)|refine l_call0 (m3 _ _) (fun _ _=>?_)|refine ZY (m3 _ _) (fun _ _=>?_)|rw [t2]|rw [t1]|rw [w0']|rw [w9]|rw [wk]|refine r_ixe (es:=es) i c hgt (fun b off=>?_)|refine r_ldC ?_|refine r_ixP5 (sz:=1) (m:=2) 1 (by decide) ?_|refine r_ixA (m:=2) 1 (by decide) ?_|refine r_sH k hk8' ?_|refine r_send (k+1) hk9' ?_|refine XF ?_ (h:=hc1')|refine XF ?_ (h:=hc2')|(refine ZM (fun hc=>?_) (fun hc=>?_)<;>(try simp at hc)<;>(try omega))|(refine r_split (fun hc=>?_) (fun hc=>?_)<;>(try simp at hc)<;>(try omega))|refine Za 20 [] [(0,0),(2,0),(3,0),(6,0),(7,0),(8,0),(9,0),(10,0),(11,0),(1,1),(4,0),(5,3),(12,0),(13,0)] [] ?_|refine Za 24 [] [(0,0),(1,0),(2,0),(3,0),(4,0),(5,0),(6,0),(7,0),(8,0),(9,0),(10,0),(11,0),(12,0),(13,0),(14,0),(15,0),(16,0),(17,0)] [18] ?_|(refine ZH (fun hc=>?_) (fun hc=>?_)<;>(try simp at hc)<;>(try omega)))
   rename List (Nm×Ch)=>rs2
   have hsp:spl y1 k ⟨#[33]⟩=y1.extract 0 k++⟨#[33]⟩++y1.extract (k+1) y1.size:=rfl
   exact ZW ⟨(i+1,rs2,putS [] cs c11 2 k ⟨#[33]⟩,y0,spl y1 k ⟨#[33]⟩),by omega,by omega,hJ2⟩ (by show es.length - (i+1)<es.length - i;omega) ⟨rfl,rfl,rfl,rfl,rfl,trivial⟩ (hr:=by dsimp only;rw [hsp];(repeat (first|exact Sels.nil|exact Sel.here|apply Sel.there|apply Sels.cons)))
 ·have f8:=fun rs=>YR v (some ⟨s,0,none⟩) [] rs cs o1 ZK ZK hJ.a (hown _) 2 rfl (by decide)
  have f9:=fun rs=>YR v (some ⟨s,0,none⟩) [] rs cs c11 Zy Zy hJ.b (hown1 _) 2 rfl (by decide)
  rw [show ZK.sp=o1 from rfl,hJ.m0] at f8
  rw [show Zy.sp=c11 from rfl,hJ.m1] at f9
  repeat' (first|refine ZC ?_|refine ZB ?_|refine ZP ?_|refine ZD ?_|refine ZS ?_|refine Zr ?_|refine ZV ?_|refine ZQ (fun b=>?_)|refine YM (fun b=>?_)|refine ZJ ?_|refine ZF ?_|refine Zj ?_|refine ZA (f8 _) (fun _ _=>?_)|refine l_call0 (f8 _) (fun _ _=>?_)|refine ZA (f9 _) (fun _ _=>?_)|refine l_call0 (f9 _) (fun _ _=>?_)|refine l_ixA (m:=2) 0 (by decide) ?_|refine l_ixA (m:=2) 1 (by decide) ?_|(refine ZM (fun hc=>?_) (fun hc=>?_)<;>(try simp at hc)<;>(try omega))|(refine ZH (fun hc=>?_) (fun hc=>?_)<;>(try simp at hc)<;>(try omega)))
  all_goals (refine ZG () ?_ trivial;simp [RetV,resV])
section
open Go.ChangeShapes Go.WideShapes Go.ChangeAt
theorem plRg:plainT prog 5 58=true:=by decide +kernel
theorem skRg:sks prog 5 58=some [.i .u32,.i .u32,.i .u32,.i .u32,.i .u32,.i .u32,.i .u32,.i .u32,.i .u32]:=by kernel_rfl
theorem Y7 {n:Int} (h:(Lit.int .u32 n).wf=true):0≤n∧n<4294967296:=by
 simp [Lit.wf,IntKind.min,IntKind.max,IntKind.bits,IntKind.signed] at h
 omega
section
variable {H:Type} {enc:TypeId×Value→H} {W:World} {base:Nat} {v:Value} {d:DataW H} {p:List MemPlace}
theorem open_rg (hv:Value.okWide prog W .any base 58 v) (h:DataW.Trod enc prog W 0 (fun _=>true) true 58 v d p) :
  ∃a1 a2 a3 a4 a5 a6 a7 a8 a9:Int,v = .agg #[.int .u32 a1,.int .u32 a2,.int .u32 a3,.int .u32 a4,.int .u32 a5,.int .u32 a6,.int .u32 a7,.int .u32 a8,.int .u32 a9]∧(∀z ∈ [a1,a2,a3,a4,a5,a6,a7,a8,a9],0≤z∧z<4294967296)∧p=[]∧∀w' base' sp' hd',DataW.Trod enc prog w' base' sp' hd' 58 v d []:=by
 obtain ⟨cs,rfl,h,hp,hr⟩:=open_agg plRg skRg (aggS underlying58 hv) h
 obtain ⟨z1,cs,rfl,h1,h⟩:=Ye h
 obtain ⟨z2,cs,rfl,h2,h⟩:=Ye h
 obtain ⟨z3,cs,rfl,h3,h⟩:=Ye h
 obtain ⟨z4,cs,rfl,h4,h⟩:=Ye h
 obtain ⟨z5,cs,rfl,h5,h⟩:=Ye h
 obtain ⟨z6,cs,rfl,h6,h⟩:=Ye h
 obtain ⟨z7,cs,rfl,h7,h⟩:=Ye h
 obtain ⟨z8,cs,rfl,h8,h⟩:=Ye h
 obtain ⟨z9,cs,rfl,h9,h⟩:=Ye h
 obtain rfl:=cells_nil h
 refine ⟨z1,z2,z3,z4,z5,z6,z7,z8,z9,rfl,fun z hz=>?_,hp,hr⟩
 simp only [List.mem_cons,List.not_mem_nil,or_false] at hz
 rcases hz with rfl|rfl|rfl|rfl|rfl|rfl|rfl|rfl|rfl
 ·exact Y7 h1
 ·exact Y7 h2
 ·exact Y7 h3
 ·exact Y7 h4
 ·exact Y7 h5
 ·exact Y7 h6
 ·exact Y7 h7
 ·exact Y7 h8
 ·exact Y7 h9
end
end
end Go.Proofs.YtgfohjbcccfolaaGreatDoor
