/-
  The law RuleDecides.
  Conditions: those that each theorem states.
-/
import Derived.Test.YtodkipbnefngkaaGreatDoorP5
set_option maxRecDepth 10000
namespace Go.Proofs.YtodkipbnefngkaaGreatDoor
open Go.RowKit Go.Proofs.Tryz
set_option maxHeartbeats 8000000 in
theorem lawDecides_ok (s:ByteArray) (c:Cq) (hw:CqW c):Enters 6∧Spec prog 6 #[.string s,cqa c] [ErA,P10,MxL] [] (RetV (.bool true)):=by
 have n0:=VV c
 have hj:=shF_j hw
 have hq:=shF_s c
 generalize shF c=e at *
 have n1:=Ww
 have n2:=cutM_ok s
 have hcz:=Ya s 1000
 generalize cutS s 1000=u at *
 have p1:=Y3 u (by omega)
 have p2:=Wu u (by omega)
 rcases par_both u with ⟨k,e1,e2,hk,hk1,hk2⟩|⟨x,e1,e2,hx⟩
 ·rw [e1] at p2
  rw [e2] at p1
  have p2:Enters 27∧Spec prog 27 #[.string u] [MxL] [] ⟨List LC×Option Addr×Nat,fun q=>.tuple #[.slice q.2.1 q.1.length q.2.2,.int .i64 0,.int .i64 0,.int .i64 0],fun q=>q.1.length=k.length,fun q=>[lnS q.2.1 q.2.2 q.1,LnsF k q.1],fun _=>[]⟩:=p2
  rw [List.length_map] at hk1
  have d1:=fun b=>YY b (k.map ruC) e hj.i hq (show u.size≤70000 by omega) hk2 (by rw [List.length_map];exact hk1)
  have d2:=fun (vs:List LC) (hlen:vs.length=k.length) (o:Option Addr) (cap:Nat)=>mpDecide_ok k vs hlen o cap e hj hq (show u.size≤70000 by omega) hk hk2 hk1
  generalize decideF (k.map ruC) e=y at *
  obtain ⟨⟨yk,yt⟩,yi⟩:=y
  have bX:(yt.toList == yt.toList)=true:=beqT rfl
  refine ZT [_,_] func6 ntmps6 fun G w hp=>?_
  repeat' (first|rw [bX]|refine ZG ?_|refine ZF ?_|refine ZJ ?_|refine ZH ?_|refine ZL ?_|refine ZI ?_|refine ZN ?_|refine ZO (fun b=>?_)|refine ZM (fun b=>?_)|refine ZB ?_|refine ZD ?_|refine ZP ?_|refine ZA (n0) (fun _ _=>?_)|refine l_call0 (n0) (fun _ _=>?_)|refine ZA (n1) (fun _ _=>?_)|refine l_call0 (n1) (fun _ _=>?_)|refine ZA (n2) (fun _ _=>?_)|refine l_call0 (n2) (fun _ _=>?_)|refine ZA (p1) (fun _ _=>?_)|refine l_call0 (p1) (fun _ _=>?_)|refine ZA (p2) (fun _ _=>?_)|refine l_call0 (p2) (fun _ _=>?_)|refine ZA (d1 _) (fun _ _=>?_)|refine l_call0 (d1 _) (fun _ _=>?_)|refine ZA (d2 _ (by assumption) _ _) (fun _ _=>?_)|refine l_call0 (d2 _ (by assumption) _ _) (fun _ _=>?_)|refine l_seqA ?_|(refine ZC (fun hc=>?_) (fun hc=>?_)<;>(try simp at hc)<;>(try omega))|(refine ZE (fun hc=>?_) (fun hc=>?_)<;>(try simp at hc)<;>(try omega)))
  all_goals (refine ZR () ?_ trivial;show Value.bool _=Value.bool true;simp)
 ·rw [e1] at p2
  rw [e2] at p1
  obtain ⟨x1,x2,x3⟩:=x
  dsimp only at hx
  refine ZT [_,_] func6 ntmps6 fun G w hp=>?_
  repeat' (first|refine ZG ?_|refine ZF ?_|refine ZJ ?_|refine ZH ?_|refine ZL ?_|refine ZI ?_|refine ZN ?_|refine ZO (fun b=>?_)|refine ZM (fun b=>?_)|refine ZB ?_|refine ZD ?_|refine ZP ?_|refine ZA (n0) (fun _ _=>?_)|refine l_call0 (n0) (fun _ _=>?_)|refine ZA (n1) (fun _ _=>?_)|refine l_call0 (n1) (fun _ _=>?_)|refine ZA (n2) (fun _ _=>?_)|refine l_call0 (n2) (fun _ _=>?_)|refine ZA (p1) (fun _ _=>?_)|refine l_call0 (p1) (fun _ _=>?_)|refine ZA (p2) (fun _ _=>?_)|refine l_call0 (p2) (fun _ _=>?_)|(refine ZC (fun hc=>?_) (fun hc=>?_)<;>(try simp at hc)<;>(try omega))|(refine ZE (fun hc=>?_) (fun hc=>?_)<;>(try simp at hc)<;>(try omega)))
  all_goals (refine ZR () ?_ trivial;show Value.bool _=Value.bool true;simp)
end Go.Proofs.YtodkipbnefngkaaGreatDoor
