/-
  What a view writes, as an owned block.
  The law ProcessBoots, walked.
  Conditions: those that each theorem states.
-/
import Derived.Test.YtbbdafjdbhpbmaaGreatDoorG3
import Derived.Test.YtbbdafjdbhpbmaaGreatDoorG2
import Derived.Test.YtbbdafjdbhpbmaaGreatDoorG6
set_option maxRecDepth 10000
namespace Go.Proofs.YtbbdafjdbhpbmaaGreatDoor
open Go.RowKit Go.Proofs.Tryz
theorem wrX_ok (b:Nat) (ps:Option Addr) (rs:List (Nm×Ch)) (cs:List Ch) (hl:(lastL cs).length≤200) (hsz:∀c ∈ cs,c.nm.owner.size≤1099511627770) (hne:vwr cs≠[]) :
  Enters 13∧Spec prog 13 #[.pointer (some ⟨b,0,none⟩)] [Usg] [Vw b ps rs cs]
  ⟨Nat×Nat×(List Value×(Nat×Nat)),fun x=>.slice (some ⟨x.1,0,none⟩) (vwr cs).length x.2.1,fun _=>True,fun _=>[],fun x=>[Ax 45 chf x.1 (vwr cs) x.2.2,Vw b ps rs cs]⟩:=by
 obtain ⟨h1,h2⟩:=vwWrites_ok b ps rs cs hl hsz
 refine ⟨h1,h2.imp fun G w hp q w' _ hs=>?_⟩
 obtain ⟨⟨⟨b',q'⟩,hx⟩,hs2⟩:=(hs.sel (.there .here)).open' (X:={x:Nat×(List Value×(Nat×Nat)) // q.1=some ⟨x.1,0,none⟩}) (L:=fun x=>[Ax 45 chf x.1.1 (vwr cs) x.1.2]) fun k hk=>by
  rcases hk with ⟨_,h0,_⟩|⟨b',rest,fz,h3,h4,_⟩
  ·exact absurd (List.length_eq_zero_iff.1 h0) hne
  ·exact ⟨⟨(b',rest,fz),h3⟩,k,emp,(fun _=>.inr rfl),Sub.refl _,(fun _ _ e=>by cases e),h4,trivial⟩
 exact ⟨(b',q.2,q'),congrArg (fun o=>Ending.returned (Value.slice o (vwr cs).length q.2)) hx,trivial,hs2⟩
theorem vwr_one (c:Ch):vwr [c]=[c]:=by
 refine (vwr_eq (cs:=[c]) (l:=[c]) ?_ ?_).symm
 ·show [c].Perm ((lastL ([]++[c])).map (chAt [c]))
  rw [Xo]
  exact .refl _
 ·exact List.pairwise_singleton _ _
section
open VP
theorem lookO2 {α:Type} (o:Option α):o=none∨∃x,o=some x:=by cases o with
 | none=>exact .inl rfl
 | some x=>exact .inr ⟨x,rfl⟩
theorem nm35_v:∀i,i<6→∃who,nm35[i]? = some who∧who.size≤1000∧isE who=false∧lvalid who.data.toList=true:=by
 intro i hi
 have hE:∀w:ByteArray,w.size≠0→isE w=false:=fun w h=>by
  rw [isE_eq]
  simp only [decide_eq_false_iff_not]
  intro e;rw [e] at h;exact h rfl
 have h3:lvalid [50]=true:=by
  have h:=(YB [50] 0 0 (by simp)).2.2.2
  rw [show ffirst (([50]:List UInt8).drop 0) 0 0=(⟨2,0,0⟩,1) from rfl] at h
  simp at h
  simp [lvalid,lparts,h]
 have h4:lvalid [50,46,49]=true:=by
  have h:=(YB [50,46,49] 0 0 (by simp)).2.2.2
  rw [show ffirst (([50,46,49]:List UInt8).drop 0) 0 0=(⟨2,0,0⟩,1) from rfl] at h
  have h2:=(YB [50,46,49] 2 1 (by simp)).2.2.2
  rw [show ffirst (([50,46,49]:List UInt8).drop 2) 2 1=(⟨1,2,0⟩,3) from rfl] at h2
  simp at h h2
  simp [lvalid,lparts,h,h2]
 rcases (show i=0∨i=1∨i=2∨i=3∨i=4∨i=5 by omega) with rfl|rfl|rfl|rfl|rfl|rfl
 ·exact ⟨o1,rfl,by decide,hE _ (by decide),Yi⟩
 ·exact ⟨⟨#[50]⟩,rfl,by decide,hE _ (by decide),h3⟩
 ·exact ⟨c11,rfl,by decide,hE _ (by decide),YJ⟩
 ·exact ⟨c12,rfl,by decide,hE _ (by decide),VH⟩
 ·exact ⟨c111,rfl,by decide,hE _ (by decide),c111_valid⟩
 ·exact ⟨⟨#[50,46,49]⟩,rfl,by decide,hE _ (by decide),h4⟩
theorem nm35_inj:∀(i j:Nat) (w:ByteArray),nm35[i]? = some w→nm35[j]? = some w→i=j:=by
 intro i j w hi hj
 have h1:i<7:=(List.getElem?_eq_some_iff.1 hi).1
 have h2:j<7:=(List.getElem?_eq_some_iff.1 hj).1
 have h:∀i j:Fin 7,nm35[i.val]? = nm35[j.val]?→i=j:=by decide
 exact congrArg Fin.val (h ⟨i,h1⟩ ⟨j,h2⟩ (by dsimp only;rw [hi,hj]))
structure BtJ (k:Nat) (es:Al) (ep:Int) (f:ByteArray→Option Pr) (j:Nat) (cs:List Ch):Prop where
 ex:∃s,Sm k (1+j) es cs s∧s.ep=ep+1∧(∀m w,j≤m→nm35[m]? = some w→s.pr w=f w)
theorem BtJ.next {k:Nat} {es:Al} {ep:Int} {f:ByteArray→Option Pr} {j:Nat} {cs:List Ch} (h:BtJ k es ep f j cs) (hk:k≤1000) {who:ByteArray} (hj:nm35[j]? = some who) (hv:lvalid who.data.toList=true) (hne:isE who=false) (hep:∀a p,f a=some p→p.ep≤ep) :
  ((pGet who).run es cs).1=(Pr.z,8)∧((pStart who Z0).run es cs).1=(if (f who).isSome=true then 13 else 0)∧BtJ k es ep f (j+1) ((pStart who Z0).run es cs).2.2:=by
 obtain ⟨s,h1,h2,h3⟩:=h.ex
 have hw:=h3 j who (Nat.le_refl _) hj
 obtain ⟨g1,g2⟩:=pStart_v h1.1 hk (p:=Z0) hv hne VD rfl
 refine ⟨?_,?_,⟨?_⟩⟩
 ·rw [We h1.1 hk,aget_no hv fun p hp=>?_]
  rw [hw] at hp
  have:=hep _ _ hp
  omega
 ·rw [g1,hw]
 ·rw [g2]
  by_cases hs:(s.pr who).isSome=true
  ·rw [if_pos hs]
   exact ⟨s,⟨h1.1,h1.2.le (by omega)⟩,h2,fun m w hm=>h3 m w (by omega)⟩
  ·rw [if_neg hs]
   have he:=h1.1.e1
   have h4:=sm_p h1 (pchk_ep (e:=s.ep) VD (by omega)) hv hne
   refine ⟨_,h4,h2,fun m w hm hw'=>?_⟩
   have:who≠w:=fun e=>by
    subst e
    have:=nm35_inj _ _ _ hj hw'
    omega
   show fup s.pr who _ w=f w
   unfold fup
   rw [if_neg this]
   exact h3 m w (by omega) hw'
set_option maxHeartbeats 4000000 in
theorem lawPBoots_ok (o:Option Addr) (cap:Nat) (l:List Oe) (hl:l.length≤1099511627776) (hB:OeB 1099511627776 l) :
  Enters 3∧Spec prog 3 #[.slice o l.length cap] [Sl 68 oef o cap l,OeF l,Usg,P10] [] (RetV (.bool true)):=by
 have n0:=VY o cap l hl hB
 have n1:=VO
 have nN:=Za
 have nE:=WE
 refine ZH [_] func3 ntmps3 fun G w hp=>?_
 repeat' (first|refine ZC ?_|refine ZB ?_|refine ZT ?_|refine ZD ?_|refine ZE ?_|refine ZA (n0) (fun _ _=>?_)|refine ZA (n1) (fun _ _=>?_)|fail)
 rename Nat×AfX=>x
 rename AfP _ _ _=>hx
 obtain ⟨mb,i,s,es,ms⟩:=x
 obtain ⟨-,hi,hR⟩:=hx
 dsimp only at hi hR ⊢
 have hepo:=pEpo_v hR.r (by omega:i≤1000)
 have he1:0≤ms.ep∧ms.ep≤(i:Int):=hR.r.e1
 rw [show (absM ms).ep=ms.ep from rfl] at hepo
 have n2:=fun b=>bootG_ok b (some ⟨s,0,none⟩) es [] [] hR.s (Nat.zero_le _)
 have hbt:pBoot.run es []=((ms.ep+1,0),(pBoot.run es []).2.1,[⟨enm,encB (ms.ep+1),false⟩]):=by
  unfold pBoot
  rw [run_bind,hepo,Y9]
  dsimp only
  rw [if_neg (by simp),if_neg (by omega)]
  rfl
 rw [hbt] at n2
 dsimp only at n2
 have hs0:=sm_e (YP (n:=0) hR.r) (by omega)
 rw [List.nil_append,show (absM ms).ep=ms.ep from rfl] at hs0
 have hJ:BtJ (i+1) es ms.ep (absM ms).pr 0 [⟨enm,encB (ms.ep+1),false⟩]:=⟨⟨_,hs0,rfl,fun m w _ _=>rfl⟩⟩
 have hw1:=vwr_one ⟨enm,encB (ms.ep+1),false⟩
 have n3:=fun b rs=>wrX_ok b (some ⟨s,0,none⟩) rs [⟨enm,encB (ms.ep+1),false⟩] (by show (mset _ _ []).length≤200;simp [mset]) (fun c hc=>by rw [List.mem_singleton.1 hc];exact Nat.zero_le _) (by rw [hw1];simp)
 rw [hw1] at n3
 have hw9:IntKind.i64.wrap (ms.ep+1)=ms.ep+1:=wrapi (by omega) (by omega)
 generalize encB (ms.ep+1)=v0 at *
 unfold enm at n3 nE
 repeat' (first|refine ZC ?_|refine ZB ?_|refine ZD ?_|refine ZA (XH _) (fun _ _=>?_)|refine ZA (n2 _) (fun _ _=>?_)|fail)
 rename_i vb _ _ _
 refine Xi (ms:=ms) fun q=>?_
 obtain ⟨r1,r2,r3,r4⟩:=q
 dsimp only [MoL,List.cons_append,List.nil_append]
 repeat' (first|refine ZC ?_|refine ZB ?_|refine ZD ?_|refine ZN ?_|refine Zy ?_|refine Zd ?_|refine r_ldN ?_|refine ZO ?_|refine ZR (n3 _ _) (fun _ _=>?_)|refine Y0 (nE) (fun _ _=>?_)|rw [hw9]|refine Zg (m:=1) (sz:=7) 0 (by decide) ?_|refine r_sneq ?_|(refine Zk (fun hc=>?_) (fun hc=>?_)<;>(try simp at hc)<;>(try omega))|refine ZJ 6 [Vw _ _ _ _] [(0,0),(1,0),(2,0),(3,0),(4,0),(5,0),(6,0),(7,0),(8,0),(9,0),(10,0),(11,0),(12,0),(13,4),(14,0),(15,0),(16,0),(17,0),(18,0),(19,4),(20,0),(21,0),(22,3),(23,5),(24,0),(25,0)] [] ?_|(refine ZG (fun hc=>?_) (fun hc=>?_)<;>(try simp at hc)<;>(try omega))|fail)
 refine Z4 (ms:=ms) (r1:=r1) (r2:=r2) (r3:=r3) (r4:=r4) ?_
 refine Z8 (X:={t:Nat×List (Nm×Ch)×List Ch // t.1≤6∧BtJ (i+1) es ms.ep (absM ms).pr t.1 t.2.2}) (fun t=>[(4,.pointer (some ⟨mb,0,none⟩)),(6,.pointer (some ⟨vb,0,none⟩)),(9,.int .i64 (t.1.1:Int))]) (fun _=>[St (some ⟨s,0,none⟩) es,PrF ms.pr,Usg]) (fun t=>[Vw vb (some ⟨s,0,none⟩) t.1.2.1 t.1.2.2,MO mb ms]) (fun t=>6 - t.1.1)
  ⟨(0,rsOf es (run es pBoot []).2.1 [],_),Nat.zero_le _,hJ⟩ ⟨rfl,rfl,rfl,trivial⟩ ?_
 clear n0 n1 n2 n3 nE
 rintro ⟨⟨j,rs,cs⟩,hj,hJ⟩
 dsimp only at hj hJ ⊢
 have w7:IntKind.i64.wrap 6=6:=rfl
 by_cases hlt:j<6
 ·obtain ⟨who,hwi,hw,hne,hv⟩:=nm35_v j hlt
  have hj7:j<7:=by omega
  obtain ⟨g1,g2,hnext⟩:=hJ.next (by omega) hwi hv hne hR.e
  have hS:Sml es cs:=by
   obtain ⟨s',h1,_⟩:=hJ.ex
   exact Sml.gd hR.s h1.2.2
  have hlc:cs.length≤1000000:=by
   obtain ⟨s',h1,_⟩:=hJ.ex
   have:=h1.2.1
   omega
  have nO:=one35_ok
  have m1:=fun rs=>Xs vb (some ⟨s,0,none⟩) es rs cs who hS hw
  simp only [g1,Ye] at m1
  have m2:=fun rs o c=>startG_ok vb (some ⟨s,0,none⟩) es rs cs who Z0 o c hS (by decide) (by decide) (by decide) hw hlc
  simp only [g2] at m2
  have w9:IntKind.i64.wrap ((j:Int)+1)=((j+1:Nat):Int):=by rw [wrapi (by omega) (by omega)];omega
  have hpr:(absM ms).pr who=(mget who ms.pr).map (·.1):=rfl
  rw [hpr] at m2
  generalize (run es (pStart who Z0) cs).2.1=N2 at *
  generalize (run es (pStart who Z0) cs).2.2=cs2 at *
  clear g1 g2 hB hS
  rcases lookO2 (mget who ms.pr) with hg|⟨x,hg⟩
  ·rw [hg] at m2
   simp only [Option.map_none,Option.isSome_none,Bool.false_eq_true,if_false] at m2
   repeat' (first|refine ZC ?_|refine ZB ?_|refine ZT ?_|refine ZD ?_|refine ZQ ?_|refine ZS ?_|refine ZP (fun b=>?_)|refine ZE ?_|refine ZA (nN) (fun _ _=>?_)|refine ZA (nO) (fun _ _=>?_)|refine ZA (m1 _) (fun _ _=>?_)|refine ZA (m2 _ _ _) (fun _ _=>?_)|rw [w9]|refine WR (m:=7) (sz:=1) j hj7 ?_|refine Wo 1 j 0 hwi ?_|refine Zz ZX who _ hg ?_|refine l_mo (ms:=ms) (fun r1 r2 r3 r4=>?_)|(refine ZG (fun hc=>?_) (fun hc=>?_)<;>(try simp at hc)<;>(try omega))|fail)
   refine Z4 (ms:=ms) (r1:=r1) (r2:=r2) (r3:=r3) (r4:=r4) ?_
   exact ZV ⟨(j+1,rsOf es N2 (rsOf es (run es (pGet who) cs).2.1 rs),cs2),by show j+1≤6;omega,hnext⟩ (by show 6 - (j+1)<6 - j;omega) ⟨rfl,rfl,rfl,trivial⟩
  ·rw [hg] at m2
   simp only [Option.map_some,Option.isSome_some,if_true] at m2
   obtain ⟨⟨x1,x2,x3,x4,x5,xs,x7,x8,⟨x9,x10⟩,x11⟩,xo,xc⟩:=x
   repeat' (first|refine ZC ?_|refine ZB ?_|refine ZT ?_|refine ZD ?_|refine ZQ ?_|refine ZS ?_|refine ZP (fun b=>?_)|refine ZE ?_|refine ZA (nN) (fun _ _=>?_)|refine ZA (nO) (fun _ _=>?_)|refine ZA (m1 _) (fun _ _=>?_)|refine ZA (m2 _ _ _) (fun _ _=>?_)|rw [w9]|refine WR (m:=7) (sz:=1) j hj7 ?_|refine Wo 1 j 0 hwi ?_|refine Zz ZX who _ hg ?_|refine l_mo (ms:=ms) (fun r1 r2 r3 r4=>?_)|(refine ZG (fun hc=>?_) (fun hc=>?_)<;>(try simp at hc)<;>(try omega))|fail)
   refine Z4 (ms:=ms) (r1:=r1) (r2:=r2) (r3:=r3) (r4:=r4) ?_
   exact ZV ⟨(j+1,rsOf es N2 (rsOf es (run es (pGet who) cs).2.1 rs),cs2),by show j+1≤6;omega,hnext⟩ (by show 6 - (j+1)<6 - j;omega) ⟨rfl,rfl,rfl,trivial⟩
 ·obtain rfl:j=6:=by omega
  repeat' (first|refine ZC ?_|refine ZB ?_|refine ZD ?_|refine ZE ?_|refine Zo ?_|refine ZA (nN) (fun _ _=>?_)|fail)
  exact ZF () rfl trivial
end
end Go.Proofs.YtbbdafjdbhpbmaaGreatDoor
