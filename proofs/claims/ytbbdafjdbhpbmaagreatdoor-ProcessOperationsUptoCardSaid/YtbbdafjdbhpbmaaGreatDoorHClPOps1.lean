/-
  The law ProcessOperations, walked.
  Conditions: those that each theorem states.
-/
import Derived.Test.YtbbdafjdbhpbmaaGreatDoorG6
import Derived.Test.YtbbdafjdbhpbmaaGreatDoorG4
set_option maxRecDepth 10000
namespace Go.Proofs.YtbbdafjdbhpbmaaGreatDoor
open Go.RowKit Go.Proofs.Tryz
section
open VP
theorem pRegs_cs (es:Al) (cs:List Ch) (who:ByteArray):((pRegs who).run es cs).2.2=cs:=by
 unfold pRegs
 split
 ·simp [VP.run]
 ·rfl
theorem lookOr {α:Type} (o:Option α):o=none∨∃x,o=some x:=by cases o with
 | none=>exact .inl rfl
 | some x=>exact .inr ⟨x,rfl⟩
set_option maxHeartbeats 4000000 in
theorem lawPOps_ok (o:Option Addr) (cap:Nat) (l:List Oe) (hl:l.length≤1099511627776) (hB:OeB 1099511627776 l) :
  Enters 6∧Spec prog 6 #[.slice o l.length cap] [Sl 68 oef o cap l,OeF l,Usg,P10] [] (RetV (.bool true)):=by
 have n0:=VY o cap l hl hB
 have n1:=VO
 have nN:=Za
 refine ZH [_] func6 ntmps6 fun G w hp=>?_
 repeat' (first|refine ZC ?_|refine ZB ?_|refine ZT ?_|refine ZD ?_|refine ZE ?_|refine ZA (n0) (fun _ _=>?_)|refine ZA (n1) (fun _ _=>?_)|fail)
 rename Nat×AfX=>x
 rename AfP _ _ _=>hx
 obtain ⟨mb,i,s,es,ms⟩:=x
 obtain ⟨-,hi,hR⟩:=hx
 dsimp only at hi hR ⊢
 have n2:=fun b=>epoG_ok b (some ⟨s,0,none⟩) es [] [] hR.s
 simp only [pEpo_v hR.r (by omega:i≤1000),Y9] at n2
 rw [show (absM ms).ep=ms.ep from rfl] at n2
 repeat' (first|refine ZC ?_|refine ZB ?_|refine ZT ?_|refine ZD ?_|refine ZQ ?_|refine ZE ?_|refine ZA (XH _) (fun _ _=>?_)|refine ZA (n2 _) (fun _ _=>?_)|refine l_mo (ms:=ms) (fun r1 r2 r3 r4=>?_)|(refine ZW (fun hc=>?_) (fun hc=>?_)<;>(try simp at hc)<;>(try omega))|fail)
 refine Z4 (ms:=ms) (r1:=r1) (r2:=r2) (r3:=r3) (r4:=r4) ?_
 rename_i vb _ _ _
 refine Z8 (X:={t:Nat×List (Nm×Ch) // t.1≤7}) (fun t=>[(4,.pointer (some ⟨mb,0,none⟩)),(6,.pointer (some ⟨vb,0,none⟩)),(9,.int .i64 (t.1.1:Int))]) (fun _=>[St (some ⟨s,0,none⟩) es,PrF ms.pr,Usg]) (fun t=>[Vw vb (some ⟨s,0,none⟩) t.1.2 [],MO mb ms]) (fun t=>7 - t.1.1)
  ⟨(0,rsOf es (run es pEpo []).2.1 []),by omega⟩ ⟨rfl,rfl,rfl,trivial⟩ ?_
 clear n0 n1 n2
 rintro ⟨⟨j,rs⟩,hj⟩
 dsimp only at hj ⊢
 by_cases hlt:j<7
 ·obtain ⟨who,hwi,hw,-⟩:=nm35_at j hlt
  have m1:=fun rs=>Xs vb (some ⟨s,0,none⟩) es rs [] who hR.s hw
  simp only [We hR.r (by omega:i≤1000),Ye] at m1
  have m2:=Zq mb ms who hw
  rw [←YS] at m2
  have m3:=fun rs=>runsG_ok vb (some ⟨s,0,none⟩) es rs [] who hR.s hw
  simp only [pRun_v hR.r (by omega:i≤1000)] at m3
  have m4:=fun rs=>regsG_ok vb (some ⟨s,0,none⟩) es rs [] who hw
  simp only [pRegs_cs] at m4
  have hrg:=pRegs_v hR.r hR.v (who:=who)
  have m5:=fun o1 c1 o2 c2=>equal35_ok (aget (absM ms) who).1 (aget (absM ms) who).1 o1 o2 c1 c2
  have hgs:=aget_gs (s:=absM ms) (fun a p hp=>(Z3 (hR.r.p2 a p hp).1).1) who
  have m5':=fun o1 c1 o2 c2=>m5 o1 c1 o2 c2 (by omega) (by omega)
  simp only [decide_true] at m5'
  clear m5
  have w9:IntKind.i64.wrap ((j:Int)+1)=((j+1:Nat):Int):=by rw [wrapi (by omega) (by omega)];omega
  generalize aget (absM ms) who=A at *
  obtain ⟨⟨a1,a2,a3,a4,a5,gs,a7,a8,⟨a9,a9'⟩,a10⟩,e⟩:=A
  simp only [Pr.v] at m1 m2 m3 m5'
  dsimp only at hgs
  rw [show (absM ms).rg who=mget who ms.rg from rfl] at hrg
  have h9:∀g,mget who ms.rg=some g→g.length=9:=fun g hg=>(hR.r.r2 who g hg).1
  have hr3:(e≠0∧((if e≠0 then (Pr.z,e) else if a2≠1 then (Pr.z,10) else (⟨a1,a2,a3,a4,a5,gs,a7,a8,⟨a9,a9'⟩,a10⟩,0)).2 == 0)=false)∨(e=0∧a2≠1∧((if e≠0 then (Pr.z,e) else if a2≠1 then (Pr.z,10) else (⟨a1,a2,a3,a4,a5,gs,a7,a8,⟨a9,a9'⟩,a10⟩,0)).2 == 0)=false)∨(e=0∧a2=1∧((if e≠0 then (Pr.z,e) else if a2≠1 then (Pr.z,10) else (⟨a1,a2,a3,a4,a5,gs,a7,a8,⟨a9,a9'⟩,a10⟩,0)).2 == 0)=true):=by
   by_cases he:e=0
   ·subst he
    by_cases h2:a2=1
    ·subst h2;exact .inr (.inr ⟨rfl,rfl,rfl⟩)
    ·right;left;exact ⟨rfl,h2,by rw [if_neg (by decide),if_pos h2];rfl⟩
   ·left;exact ⟨he,by rw [if_pos he];simp [he]⟩
  generalize ((if e≠0 then (Pr.z,e) else if a2≠1 then (Pr.z,10) else (⟨a1,a2,a3,a4,a5,gs,a7,a8,⟨a9,a9'⟩,a10⟩,0)).2 == 0)=r at *
  clear hR hB
  rcases lookOr (mget who ms.rg) with hg|⟨g,hg⟩
  ·rw [hg] at hrg
   dsimp only at hrg
   obtain ⟨er,hne,her⟩:∃er:Int,er≠0∧((pRegs who).run es []).1=(rg0,er):=⟨_,by split<;>decide,hrg⟩
   simp only [her] at m4
   unfold rg0 at m4
   rcases hr3 with ⟨he,rfl⟩|⟨rfl,h2,rfl⟩|⟨rfl,rfl,rfl⟩
   ·repeat' (first|refine ZC ?_|refine ZB ?_|refine ZT ?_|refine ZD ?_|refine ZQ ?_|refine ZS ?_|refine ZP (fun b=>?_)|refine ZE ?_|refine ZA (nN) (fun _ _=>?_)|refine ZA (m1 _) (fun _ _=>?_)|refine ZA (m2) (fun _ _=>?_)|refine ZA (m3 _) (fun _ _=>?_)|refine ZA (m4 _) (fun _ _=>?_)|refine ZA (m5' _ _ _ _) (fun _ _=>?_)|rw [w9]|refine WR (m:=7) (sz:=1) j hlt ?_|refine Wo 1 j 0 hwi ?_|refine Zz ZX who _ hg ?_|refine l_mo (ms:=ms) (fun r1 r2 r3 r4=>?_)|(refine ZW (fun hc=>?_) (fun hc=>?_)<;>(try simp at hc)<;>(try omega))|(refine ZG (fun hc=>?_) (fun hc=>?_)<;>(try simp at hc)<;>(try omega))|fail)
    refine Z4 (ms:=ms) (r1:=r1) (r2:=r2) (r3:=r3) (r4:=r4) ?_
    rename List (Nm×Ch)=>rr
    exact ZV ⟨(j+1,rsOf es (run es (pRegs who) []).2.1 rr),by omega⟩ (by show 7 - (j+1)<7 - j;omega) ⟨rfl,rfl,rfl,trivial⟩
   ·repeat' (first|refine ZC ?_|refine ZB ?_|refine ZT ?_|refine ZD ?_|refine ZQ ?_|refine ZS ?_|refine ZP (fun b=>?_)|refine ZE ?_|refine ZA (nN) (fun _ _=>?_)|refine ZA (m1 _) (fun _ _=>?_)|refine ZA (m2) (fun _ _=>?_)|refine ZA (m3 _) (fun _ _=>?_)|refine ZA (m4 _) (fun _ _=>?_)|refine ZA (m5' _ _ _ _) (fun _ _=>?_)|rw [w9]|refine WR (m:=7) (sz:=1) j hlt ?_|refine Wo 1 j 0 hwi ?_|refine Zz ZX who _ hg ?_|refine l_mo (ms:=ms) (fun r1 r2 r3 r4=>?_)|(refine ZW (fun hc=>?_) (fun hc=>?_)<;>(try simp at hc)<;>(try omega))|(refine ZG (fun hc=>?_) (fun hc=>?_)<;>(try simp at hc)<;>(try omega))|fail)
    refine Z4 (ms:=ms) (r1:=r1) (r2:=r2) (r3:=r3) (r4:=r4) ?_
    rename List (Nm×Ch)=>rr
    exact ZV ⟨(j+1,rsOf es (run es (pRegs who) []).2.1 rr),by omega⟩ (by show 7 - (j+1)<7 - j;omega) ⟨rfl,rfl,rfl,trivial⟩
   ·repeat' (first|refine ZC ?_|refine ZB ?_|refine ZT ?_|refine ZD ?_|refine ZQ ?_|refine ZS ?_|refine ZP (fun b=>?_)|refine ZE ?_|refine ZA (nN) (fun _ _=>?_)|refine ZA (m1 _) (fun _ _=>?_)|refine ZA (m2) (fun _ _=>?_)|refine ZA (m3 _) (fun _ _=>?_)|refine ZA (m4 _) (fun _ _=>?_)|refine ZA (m5' _ _ _ _) (fun _ _=>?_)|rw [w9]|refine WR (m:=7) (sz:=1) j hlt ?_|refine Wo 1 j 0 hwi ?_|refine Zz ZX who _ hg ?_|refine l_mo (ms:=ms) (fun r1 r2 r3 r4=>?_)|(refine ZW (fun hc=>?_) (fun hc=>?_)<;>(try simp at hc)<;>(try omega))|(refine ZG (fun hc=>?_) (fun hc=>?_)<;>(try simp at hc)<;>(try omega))|fail)
    refine Z4 (ms:=ms) (r1:=r1) (r2:=r2) (r3:=r3) (r4:=r4) ?_
    rename List (Nm×Ch)=>rr
    exact ZV ⟨(j+1,rsOf es (run es (pRegs who) []).2.1 rr),by omega⟩ (by show 7 - (j+1)<7 - j;omega) ⟨rfl,rfl,rfl,trivial⟩
  ·have hn9:=nineL (h9 g hg)
   obtain ⟨g1,g2,g3,g4,g5,g6,g7,g8,g9,rfl⟩:=hn9
   rw [hg] at hrg
   dsimp only at hrg
   simp only [hrg] at m4
   rcases hr3 with ⟨he,rfl⟩|⟨rfl,h2,rfl⟩|⟨rfl,rfl,rfl⟩
   ·repeat' (first|refine ZC ?_|refine ZB ?_|refine ZT ?_|refine ZD ?_|refine ZQ ?_|refine ZS ?_|refine ZP (fun b=>?_)|refine ZE ?_|refine ZA (nN) (fun _ _=>?_)|refine ZA (m1 _) (fun _ _=>?_)|refine ZA (m2) (fun _ _=>?_)|refine ZA (m3 _) (fun _ _=>?_)|refine ZA (m4 _) (fun _ _=>?_)|refine ZA (m5' _ _ _ _) (fun _ _=>?_)|rw [w9]|refine WR (m:=7) (sz:=1) j hlt ?_|refine Wo 1 j 0 hwi ?_|refine l_sneq35 ?_|refine Zz ZX who _ hg ?_|refine l_mo (ms:=ms) (fun r1 r2 r3 r4=>?_)|(refine ZW (fun hc=>?_) (fun hc=>?_)<;>(try simp at hc)<;>(try omega))|(refine ZG (fun hc=>?_) (fun hc=>?_)<;>(try simp at hc)<;>(try omega))|fail)
    refine Z4 (ms:=ms) (r1:=r1) (r2:=r2) (r3:=r3) (r4:=r4) ?_
    rename List (Nm×Ch)=>rr
    exact ZV ⟨(j+1,rsOf es (run es (pRegs who) []).2.1 rr),by omega⟩ (by show 7 - (j+1)<7 - j;omega) ⟨rfl,rfl,rfl,trivial⟩
   ·repeat' (first|refine ZC ?_|refine ZB ?_|refine ZT ?_|refine ZD ?_|refine ZQ ?_|refine ZS ?_|refine ZP (fun b=>?_)|refine ZA (nN) (fun _ _=>?_)|refine ZA (m1 _) (fun _ _=>?_)|refine ZA (m2) (fun _ _=>?_)|refine ZA (m3 _) (fun _ _=>?_)|refine ZA (m4 _) (fun _ _=>?_)|refine ZA (m5' _ _ _ _) (fun _ _=>?_)|rw [w9]|refine WR (m:=7) (sz:=1) j hlt ?_|refine Wo 1 j 0 hwi ?_|refine l_sneq35 ?_|refine Zz ZX who _ hg ?_|refine l_mo (ms:=ms) (fun r1 r2 r3 r4=>?_)|(refine ZG (fun hc=>?_) (fun hc=>?_)<;>(try simp at hc)<;>(try omega))|fail)
    refine Z4 (ms:=ms) (r1:=r1) (r2:=r2) (r3:=r3) (r4:=r4) ?_
    rename List (Nm×Ch)=>rr
    exact ZV ⟨(j+1,rsOf es (run es (pRegs who) []).2.1 rr),by omega⟩ (by show 7 - (j+1)<7 - j;omega) ⟨rfl,rfl,rfl,trivial⟩
   ·repeat' (first|refine ZC ?_|refine ZB ?_|refine ZT ?_|refine ZD ?_|refine ZQ ?_|refine ZS ?_|refine ZP (fun b=>?_)|refine ZE ?_|refine ZA (nN) (fun _ _=>?_)|refine ZA (m1 _) (fun _ _=>?_)|refine ZA (m2) (fun _ _=>?_)|refine ZA (m3 _) (fun _ _=>?_)|refine ZA (m4 _) (fun _ _=>?_)|refine ZA (m5' _ _ _ _) (fun _ _=>?_)|rw [w9]|refine WR (m:=7) (sz:=1) j hlt ?_|refine Wo 1 j 0 hwi ?_|refine l_sneq35 ?_|refine Zz ZX who _ hg ?_|refine l_mo (ms:=ms) (fun r1 r2 r3 r4=>?_)|(refine ZG (fun hc=>?_) (fun hc=>?_)<;>(try simp at hc)<;>(try omega))|fail)
    refine Z4 (ms:=ms) (r1:=r1) (r2:=r2) (r3:=r3) (r4:=r4) ?_
    rename List (Nm×Ch)=>rr
    exact ZV ⟨(j+1,rsOf es (run es (pRegs who) []).2.1 rr),by omega⟩ (by show 7 - (j+1)<7 - j;omega) ⟨rfl,rfl,rfl,trivial⟩
 ·obtain rfl:j=7:=by omega
  repeat' (first|refine ZC ?_|refine ZB ?_|refine ZD ?_|refine ZE ?_|refine Zo ?_|refine ZA (nN) (fun _ _=>?_)|fail)
  exact ZF () rfl trivial
end
end Go.Proofs.YtbbdafjdbhpbmaaGreatDoor
