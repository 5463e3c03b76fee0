/-
  The law RulePossible.
  Conditions: those that each theorem states.
-/
import Derived.Test.YtodkipbnefngkaaGreatDoorG4
set_option maxRecDepth 10000
namespace Go.Proofs.YtodkipbnefngkaaGreatDoor
open Go.RowKit Go.Proofs.Tryz
def psL:List ByteArray:=[⟨#[107,101,101,112]⟩,⟨#[99,111,109,112,101,110,115,97,116,101,32,34,120,34]⟩,⟨#[115,101,110,100]⟩,⟨#[104,111,108,100]⟩,⟨#[97,115,107]⟩]
def psT (j:Nat):ByteArray:=if j=1 then ⟨#[120]⟩ else ofL []
theorem ps_par (j:Nat) (s:ByteArray) (h:psL[j]? = some s):parF s = .ok [⟨none,⟨(j:Int)+1,psT j⟩⟩]∧s.size≤100:=by
 match j,h with
 | 0,h=>obtain rfl:=Option.some.inj h;exact ⟨by kernel_rfl,by decide⟩
 | 1,h=>obtain rfl:=Option.some.inj h;exact ⟨by kernel_rfl,by decide⟩
 | 2,h=>obtain rfl:=Option.some.inj h;exact ⟨by kernel_rfl,by decide⟩
 | 3,h=>obtain rfl:=Option.some.inj h;exact ⟨by kernel_rfl,by decide⟩
 | 4,h=>obtain rfl:=Option.some.inj h;exact ⟨by kernel_rfl,by decide⟩
 | j+5,h=>simp [psL] at h
theorem ps_dec (j:Nat) (hj:j<5) (c:Cq):decideF [⟨none,⟨(j:Int)+1,psT j⟩⟩] c=(if posF 5 c.kind=false then (⟨0,ofL []⟩,-1) else if posF ((j:Int)+1) c.kind=true then (⟨(j:Int)+1,psT j⟩,0) else (⟨5,ofL []⟩,-1)):=by
 unfold decideF
 split
 ·rfl
 ·rw [decF]
  by_cases h:posF ((j:Int)+1) c.kind=true
  ·rw [if_pos h,if_neg (fun h2=>h2.elim (fun h2=>absurd (h.symm.trans h2) (by decide)) (fun h2=>absurd (show true=false from h2) (by decide)))]
   by_cases h1:j=1
   ·subst h1
    rw [if_neg (by simp),if_neg (by show ¬4096<(expF (psT 1) c).size;rw [show (expF (psT 1) c).size=1 from rfl];omega)]
    rfl
   ·rw [if_pos (by show (j:Int)+1≠2;omega)]
    rfl
  ·rw [if_neg h,if_pos (.inl (by simpa using h))]
   rfl
set_option maxHeartbeats 4000000 in
theorem lawPossible_ok (x y:Int) (c:Cq) (hw:CqW c):Enters 4∧Spec prog 4 #[.int .i64 x,.int .i64 y,cqa c] [ErA,P10,MxL] [] (RetV (.bool true)):=by
 have n0:=shortM_ok c
 have hj:=shF_j hw
 have hq:=shF_s c
 generalize shF c=e at *
 have n1:=X0
 have n2:=XV x y
 have n3:=WJ x y
 generalize posF x y=pxy at *
 refine ZR [_,_,_] func4 ntmps4 fun G w hp=>?_
 repeat' (first|refine ZF ?_|refine ZG ?_|refine ZI ?_|refine ZJ ?_|refine ZM ?_|refine ZH ?_|refine ZO ?_|refine ZN (fun b=>?_)|refine ZP (fun b=>?_)|refine ZD ?_|refine ZB ?_|refine ZA (n0) (fun _ _=>?_)|refine l_call0 (n0) (fun _ _=>?_)|refine ZA (n1) (fun _ _=>?_)|refine l_call0 (n1) (fun _ _=>?_)|refine ZA (n2) (fun _ _=>?_)|refine l_call0 (n2) (fun _ _=>?_)|refine ZA (n3) (fun _ _=>?_)|refine l_call0 (n3) (fun _ _=>?_)|(refine ZC (fun hc=>?_) (fun hc=>?_)<;>(try simp at hc)<;>(try omega))|(refine ZE (fun hc=>?_) (fun hc=>?_)<;>(try simp at hc)<;>(try omega)))
 rename_i b5 _ _ _ _ _ _ _ _
 generalize b=bs at *
 refine k_fz (b:=bs) (o:=.cells (psL.map Value.string).toArray 9) ?_
 refine Z5 (F1:=[Blk bs (.cells (psL.map Value.string).toArray 9)]) (f:=Sl 9 skl (some ⟨bs,0,none⟩) 5 psL) (fun hp hF=>blk_sl (hF _ (.head _)) rfl (by decide)) ?_
 refine k_lp (X:={j:Nat // j≤5}) (fun j=>[(5,pv0 b5),(28,.slice (some ⟨bs,0,none⟩) 5 5),(29,.int .i64 5),(30,.int .i64 (j.1:Int))]) (fun _=>[Sl 9 skl (some ⟨bs,0,none⟩) 5 psL,ErA,P10,MxL]) (fun _=>[Pt b5 (.cells (cqf e).toArray 26)]) (fun j=>5 - j.1) ⟨0,by omega⟩ ⟨rfl,rfl,rfl,rfl,trivial⟩ ?_
 rintro ⟨j,hj5⟩
 dsimp only
 by_cases hlt:j<5
 ·have hs:=List.getElem?_eq_getElem (l:=psL) hlt
  generalize psL[j]=s at *
  obtain ⟨p1,p2⟩:=ps_par j s hs
  have m1:=YS s (by omega)
  obtain ⟨q1,q2⟩:=par_ok p1
  have m2:=fun b=>Yb b _ e hj.i hq (show s.size≤70000 by omega) q2 q1
  rw [ps_dec j hlt] at m2
  rw [p1] at m1
  have m3:=WJ ((j:Int)+1) e.kind
  have w1:=wrapi (z:=(j:Int)+1) (by omega) (by omega)
  have i1:=pos_iff ((j:Int)+1) e.kind
  have i5:=pos_iff 5 e.kind
  generalize ([⟨none,⟨(j:Int)+1,psT j⟩⟩]:List Ru)=l at *
  cases hP:posF ((j:Int)+1) e.kind with
  | true=>
   have h5:posF 5 e.kind=true:=by
    rw [i5];have:=i1.1 hP;omega
   rw [hP] at m2 m3
   rw [if_neg (by rw [h5];decide),if_pos rfl] at m2
   repeat' (first|refine ZF ?_|refine ZG ?_|refine ZI ?_|refine ZJ ?_|refine ZM ?_|refine ZH ?_|refine ZO ?_|refine ZN (fun b=>?_)|refine ZP (fun b=>?_)|refine ZD ?_|refine ZB ?_|refine ZA (m1) (fun _ _=>?_)|refine l_call0 (m1) (fun _ _=>?_)|refine ZA (m2 _) (fun _ _=>?_)|refine l_call0 (m2 _) (fun _ _=>?_)|refine ZA (m3) (fun _ _=>?_)|refine l_call0 (m3) (fun _ _=>?_)|refine Zy (es:=psL) (f:=skl) j _ hs (fun b off=>?_)|refine Z1 ?_|refine l_sneqA ?_|rw [w1]|(refine ZC (fun hc=>?_) (fun hc=>?_)<;>(try simp at hc)<;>(try omega))|(refine ZE (fun hc=>?_) (fun hc=>?_)<;>(try simp at hc)<;>(try omega)))
   all_goals exact ZZ ⟨j+1,by omega⟩ (by show 5 - (j+1)<5 - j;omega) ⟨rfl,rfl,rfl,rfl,trivial⟩
  | false=>
   rw [hP] at m2 m3
   cases h5:posF 5 e.kind with
   | true=>
    have hk:=i5.1 h5
    have k1:2≤e.kind:=by omega
    have k2:e.kind≤4:=by omega
    rw [h5] at m2
    rw [if_neg (by decide),if_neg (by decide)] at m2
    repeat' (first|refine ZF ?_|refine ZG ?_|refine ZI ?_|refine ZJ ?_|refine ZM ?_|refine ZH ?_|refine ZO ?_|refine ZN (fun b=>?_)|refine ZP (fun b=>?_)|refine ZD ?_|refine ZB ?_|refine ZA (m1) (fun _ _=>?_)|refine l_call0 (m1) (fun _ _=>?_)|refine ZA (m2 _) (fun _ _=>?_)|refine l_call0 (m2 _) (fun _ _=>?_)|refine ZA (m3) (fun _ _=>?_)|refine l_call0 (m3) (fun _ _=>?_)|refine Zy (es:=psL) (f:=skl) j _ hs (fun b off=>?_)|refine Z1 ?_|refine l_sneqA ?_|rw [w1]|(refine ZC (fun hc=>?_) (fun hc=>?_)<;>(try simp at hc)<;>(try omega))|(refine ZE (fun hc=>?_) (fun hc=>?_)<;>(try simp at hc)<;>(try omega)))
    all_goals exact ZZ ⟨j+1,by omega⟩ (by show 5 - (j+1)<5 - j;omega) ⟨rfl,rfl,rfl,rfl,trivial⟩
   | false=>
    have hk:¬(2≤e.kind∧e.kind≤4):=fun h=>by
     have:=i5.2 (by omega)
     rw [h5] at this;cases this
    rw [h5] at m2
    rw [if_pos rfl] at m2
    repeat' (first|refine ZF ?_|refine ZG ?_|refine ZI ?_|refine ZJ ?_|refine ZM ?_|refine ZH ?_|refine ZO ?_|refine ZN (fun b=>?_)|refine ZP (fun b=>?_)|refine ZD ?_|refine ZB ?_|refine ZA (m1) (fun _ _=>?_)|refine l_call0 (m1) (fun _ _=>?_)|refine ZA (m2 _) (fun _ _=>?_)|refine l_call0 (m2 _) (fun _ _=>?_)|refine ZA (m3) (fun _ _=>?_)|refine l_call0 (m3) (fun _ _=>?_)|refine Zy (es:=psL) (f:=skl) j _ hs (fun b off=>?_)|refine Z1 ?_|refine l_sneqA ?_|rw [w1]|(refine ZC (fun hc=>?_) (fun hc=>?_)<;>(try simp at hc)<;>(try omega))|(refine ZE (fun hc=>?_) (fun hc=>?_)<;>(try simp at hc)<;>(try omega)))
    all_goals exact ZZ ⟨j+1,by omega⟩ (by show 5 - (j+1)<5 - j;omega) ⟨rfl,rfl,rfl,rfl,trivial⟩
 ·obtain rfl:j=5:=by omega
  repeat' (first|refine ZF ?_|refine ZG ?_|refine ZI ?_|refine ZJ ?_|refine ZM ?_|refine ZH ?_|refine ZO ?_|refine ZN (fun b=>?_)|refine ZP (fun b=>?_)|refine ZD ?_|refine ZB ?_|refine ZK ?_|(refine ZC (fun hc=>?_) (fun hc=>?_)<;>(try simp at hc)<;>(try omega))|(refine ZE (fun hc=>?_) (fun hc=>?_)<;>(try simp at hc)<;>(try omega)))
  exact ZQ () rfl trivial
end Go.Proofs.YtodkipbnefngkaaGreatDoor
