/-
  The names that an operation of layer 27 reads: they are few and short.
  The law InodeFrame.
  Conditions: those that each theorem states.
-/
import Derived.Test.YtdkndahndgkmnaaGreatDoorS5
set_option maxRecDepth 10000
namespace Go.Proofs.YtdkndahndgkmnaaGreatDoor
open Go.RowKit Go.Proofs.Tryz
section
open VQ
theorem rn_len (cs:List Ch) (n:Nm):(rn cs n).length≤1:=by
 unfold rn
 split
 ·exact Nat.zero_le _
 ·cases vcall cs n with
  | some c=>exact Nat.zero_le _
  | none=>exact Nat.le_refl _
theorem rsq_cg {es es':Al}:∀(N:List Nm) (rs:List (Nm×Ch)),(∀n ∈ N,getO n es'=getO n es)→rsq es' N rs=rsq es N rs
 | [],_,_=>rfl
 | n::N,rs,h=>by
  rw [rsq,rsq,h n (by simp)]
  exact rsq_cg N _ fun m hm=>h m (by simp [hm])
theorem rsq_len (es:Al):∀(N:List Nm) (rs:List (Nm×Ch)),(rsq es N rs).length≤N.length+rs.length
 | [],rs=>by simp [rsq]
 | n::N,rs=>by
  have h1:=rsq_len es N (mset n ⟨n,(getO n es).getD ⟨#[]⟩,!(getO n es).isSome⟩ rs)
  have h2:=mset_len n (⟨n,(getO n es).getD ⟨#[]⟩,!(getO n es).isSome⟩:Ch) rs
  rw [rsq,List.length_cons]
  omega
def NmB (b:Bi) (k:Nat) (N:List Nm):Prop:=(∀n ∈ N,OfB b n)∧N.length≤k
section
variable {es:Al} {b:Bi}
theorem YA (k:Nat):NmB b k []:=⟨(fun n h=>by cases h),Nat.zero_le _⟩
theorem NmB.app {k j:Nat} {N M:List Nm} (h:NmB b k N) (g:NmB b j M):NmB b (k+j) (N++M):=⟨fun n hn=>(List.mem_append.1 hn).elim (h.1 n) (g.1 n),by rw [List.length_append];exact Nat.add_le_add h.2 g.2⟩
theorem NmB.le {k j:Nat} {N:List Nm} (h:NmB b k N) (hk:k≤j):NmB b j N:=⟨h.1,Nat.le_trans h.2 hk⟩
theorem nmB_rn (cs:List Ch) {n:Nm} (h:OfB b n):NmB b 1 (rn cs n):=⟨fun m hm=>by rw [(rn_chk hm).1];exact h,rn_len cs n⟩
theorem XP (cs:List Ch):NmB b 1 (iN cs b):=by
 unfold iN
 split
 ·exact YA _
 ·exact nmB_rn cs (.inl rfl)
theorem nmB_rd (cs:List Ch):∀l:List Pp,NmB b l.length (rdN cs b l)
 | []=>YA _
 | p::l=>by
  have h:=(nmB_rn (b:=b) cs (n:=bnm b p.bl) (.inr ⟨_,rfl⟩)).app (nmB_rd cs l)
  exact h.le (by rw [List.length_cons];omega)
theorem nmB_wr (f:Nat) (s:ByteArray):∀(l:List Pp) (cs:List Ch),NmB b l.length ((qWrL b f s l).run es cs).2.1
 | [],cs=>YA _
 | p::l,cs=>by
  rw [qWrL]
  split
  ·simp only [run]
   exact ((nmB_rn (b:=b) cs (n:=bnm b p.bl) (.inr ⟨_,rfl⟩)).app (nmB_wr f s l _)).le (by rw [List.length_cons];omega)
  ·simp only [run]
   exact (nmB_wr f s l _).le (by rw [List.length_cons];omega)
theorem pts_l64 {a t:Nat} (h:t≤4096):(pts a t).length≤64:=by
 have:=pts_len7 (t - a) a t (Nat.le_refl _)
 omega
theorem nmB_read (f c:Int):NmB b 66 ((qRead b f c).run es []).2.1:=by
 unfold qRead
 rw [run_bind,YQ]
 dsimp only
 by_cases h0:(ifile es [] b).2≠0
 ·rw [if_pos h0]
  exact ((XP []).app (YA 0)).le (by omega)
 ·rw [if_neg h0]
  obtain ⟨g1,g2,_,_⟩:=Wh (by omega:(ifile es [] b).2=0)
  obtain ⟨-,g5,-⟩:=Yc g2
  unfold ifit at g5
  split
  ·exact ((XP []).app (YA 0)).le (by omega)
  ·rw [run_bind,Xx]
   simp only [run,List.append_nil]
   refine ((XP []).app (nmB_rd [] _)).le ?_
   have:=pts_l64 (a:=min f.toNat (ifile es [] b).1.sz.toNat) (t:=min f.toNat (ifile es [] b).1.sz.toNat+min c.toNat ((ifile es [] b).1.sz.toNat - min f.toNat (ifile es [] b).1.sz.toNat)) (by omega)
   omega
theorem nmB_write (f:Int) (s:ByteArray):NmB b 66 ((qWrite b f s).run es []).2.1:=by
 unfold qWrite
 rw [run_bind,YQ]
 dsimp only
 split
 ·exact ((XP []).app (YA 0)).le (by omega)
 ·split
  ·exact ((XP []).app (YA 0)).le (by omega)
  ·split
   ·exact ((XP []).app (YA 0)).le (by omega)
   ·rename_i h1 _
    rw [run_bind]
    have h:=nmB_wr (es:=es) (b:=b) f.toNat s (pts f.toNat (f.toNat+min s.size (4096 - f.toNat))) []
    have hp:=pts_l64 (a:=f.toNat) (t:=f.toNat+min s.size (4096 - f.toNat)) (by omega)
    refine ((XP []).app (h.app (j:=1) ?_)).le (by omega)
    split
    ·exact YA _
    ·exact YA _
theorem nmB_resize (n:Int):NmB b 66 ((qResize b n).run es []).2.1:=by
 unfold qResize
 rw [run_bind,YQ]
 dsimp only
 split
 ·exact ((XP []).app (YA 0)).le (by omega)
 ·split
  ·exact ((XP []).app (YA 0)).le (by omega)
  ·split
   ·exact ((XP []).app (YA 0)).le (by omega)
   ·rw [run_bind]
    refine ((XP []).app (k:=1) (j:=2) (NmB.app (k:=1) (j:=1) ?_ ?_)).le (by omega)
    ·split
     ·rw [qCut_run]
      dsimp only
      split
      ·exact YA _
      ·exact nmB_rn _ (.inr ⟨_,rfl⟩)
     ·exact YA _
    ·exact YA _
theorem nmB_set (nd:Ino):NmB b 66 ((qSet b nd).run es []).2.1:=by
 unfold qSet
 split
 ·exact YA _
 ·rw [run_bind,V1]
  dsimp only
  refine ((XP []).app (j:=1) ?_).le (by omega)
  split
  ·exact YA _
  ·split
   ·exact YA _
   ·exact YA _
end
theorem op_names {es:Al} {bs:List Bi} (hb:∀b ∈ bs,b.mkr.size≤3) (o:Op7):(∀n ∈ ((qOp bs o).run es []).2.1,ShN n)∧((qOp bs o).run es []).2.1.length≤66:=by
 have hl:=Nat.mod_lt o.k.toNat (show 0<6 by decide)
 have hbz:=YC hb o.w
 have hB:∀N,NmB (bthF bs o.w) 66 N→(∀n ∈ N,ShN n)∧N.length≤66:=fun N h=>⟨fun n hn=>ofB_sh (h.1 n hn) hbz,h.2⟩
 unfold qOp
 generalize o.k.toNat % 6=j at *
 rcases (show j=0∨j=1∨j=2∨j=3∨j=4∨j=5 by omega) with rfl|rfl|rfl|rfl|rfl|rfl
 ·simp (decide:=true) only [if_true,if_false,run_bind,run,List.append_nil]
  exact hB _ (nmB_read _ _)
 ·simp (decide:=true) only [if_true,if_false,run_bind,run,List.append_nil]
  exact hB _ (nmB_write _ _)
 ·simp (decide:=true) only [if_true,if_false,run_bind,run,List.append_nil]
  exact hB _ (nmB_resize _)
 ·simp (decide:=true) only [if_true,if_false,run_bind,run,List.append_nil]
  exact hB _ (nmB_set _)
 ·simp (decide:=true) only [if_true,if_false,run_bind,run,List.append_nil]
  exact hB _ (nmB_read _ _)
 ·simp (decide:=true) only [if_true,if_false,run_bind,run,List.append_nil]
  have hs:=XF (o.w.toNat % 3)
  rw [V8]
  dsimp only
  split
  ·unfold mN
   split
   ·refine ⟨fun n hn=>?_,Nat.le_trans (rn_len _ _) (by omega)⟩
    rw [(rn_chk hn).1]
    exact ⟨by show (Zh (o.w.toNat % 3)).size≤_;omega,Nat.zero_le _⟩
   ·exact ⟨(fun n hn=>by cases hn),Nat.zero_le _⟩
  ·exact ⟨(fun n hn=>by cases hn),Nat.zero_le _⟩
end
section
open VQ
theorem eqCh7 (a:Ch):eqC eqS 20 108 a.v a.v=some true:=by
 obtain ⟨⟨a1,a2,a3,a4,a5⟩,a6,a7⟩:=a
 show some (((a1 == a1) && ((a2.toList == a2.toList) && ((a3 == a3) && ((a4 == a4) && ((a5.toList == a5.toList) && true))))) && ((a6.toList == a6.toList) && ((a7 == a7) && true)))=_
 simp
abbrev ChW (o:Option Addr) (cap:Nat) (l:List Ch):HP:=Row 108 7 o l.length cap (l.flatMap chf)
set_option maxHeartbeats 2000000 in
theorem sameCh_ok (o1 o2:Option Addr) (c1 c2:Nat) (l:List Ch) (hl:l.length≤1000):Enters 24∧Spec prog 24 #[.slice o1 l.length c1,.slice o2 l.length c2] [] [ChW o1 c1 l,ChW o2 c2 l] ⟨Unit,fun _=>.bool true,fun _=>True,fun _=>[],fun _=>[ChW o1 c1 l,ChW o2 c2 l]⟩:=by
 by_cases h0:l=[]
 ·subst h0
  refine ZV [_,_] func24 ntmps24 fun G w hp=>?_
  repeat' (first|refine ZH ?_|refine ZI ?_|refine ZK ?_|refine ZG ?_|refine ZM ?_|refine ZJ ?_|refine ZN ?_|refine ZP (fun b=>?_)|refine ZO (fun b=>?_)|refine ZA ?_|refine ZB ?_|refine ZL ?_|(refine ZC (fun hc=>?_) (fun hc=>?_)<;>(try simp at hc)<;>(try omega))|(refine ZF (fun hc=>?_) (fun hc=>?_)<;>(try simp at hc)<;>(try omega)))
  refine YT (X:=Unit) (fun _=>[(0,.slice o1 0 c1),(5,.int .i64 0)]) (fun _=>[]) (fun _=>[ChW o1 c1 [],ChW o2 c2 []]) (fun _=>0) () ⟨rfl,rfl,trivial⟩ ?_
  rintro ⟨⟩
  repeat' (first|refine ZH ?_|refine ZI ?_|refine ZK ?_|refine ZG ?_|refine ZM ?_|refine ZJ ?_|refine ZN ?_|refine ZP (fun b=>?_)|refine ZO (fun b=>?_)|refine ZA ?_|refine ZB ?_|refine ZL ?_|(refine ZC (fun hc=>?_) (fun hc=>?_)<;>(try simp at hc)<;>(try omega))|(refine ZF (fun hc=>?_) (fun hc=>?_)<;>(try simp at hc)<;>(try omega)))
  exact ZT () rfl trivial
 ·have hpos:0<l.length:=List.length_pos_iff.2 h0
  have hll:((l.length:Int) != (l.length:Int))=false:=by simp
  refine ZV [_,_] func24 ntmps24 fun G w hp=>?_
  refine Z4 (X:=Nat×(List Value×(Nat×Nat))) (Lx:=fun x=>[Ax 108 chf x.1 l x.2]) (p:=fun x=>o1=some ⟨x.1,0,none⟩∧l.length * 7+x.2.1.length=c1 * 7∧AxOK (l.length * 7) x.2) (r:=ChW o1 c1 l) .here (fun h hh=>row_ax (f:=chf) (fun _=>rfl) hpos hh) (fun x hx=>?_)
  obtain ⟨rfl,x2,x3⟩:=hx
  refine Z4 (X:=Nat×(List Value×(Nat×Nat))) (Lx:=fun x=>[Ax 108 chf x.1 l x.2]) (p:=fun x=>o2=some ⟨x.1,0,none⟩∧l.length * 7+x.2.1.length=c2 * 7∧AxOK (l.length * 7) x.2) (r:=ChW o2 c2 l) (.there .here) (fun h hh=>row_ax (f:=chf) (fun _=>rfl) hpos hh) (fun y hy=>?_)
  obtain ⟨rfl,y2,y3⟩:=hy
  repeat' (first|refine ZH ?_|refine ZI ?_|refine ZK ?_|refine ZG ?_|refine ZM ?_|refine ZJ ?_|refine ZN ?_|refine ZP (fun b=>?_)|refine ZO (fun b=>?_)|refine ZA ?_|refine ZB ?_|rw [hll]|(refine ZC (fun hc=>?_) (fun hc=>?_)<;>(try simp at hc)<;>(try omega))|(refine ZF (fun hc=>?_) (fun hc=>?_)<;>(try simp at hc)<;>(try omega)))
  refine YT (X:={i:Nat // i≤l.length}) (fun i=>[(0,.slice (some ⟨x.1,0,none⟩) l.length c1),(1,.slice (some ⟨y.1,0,none⟩) l.length c2),(5,.int .i64 (i.1:Int))]) (fun _=>[]) (fun _=>[Ax 108 chf x.1 l x.2,Ax 108 chf y.1 l y.2]) (fun i=>l.length - i.1) ⟨0,Nat.zero_le _⟩ ⟨rfl,rfl,rfl,trivial⟩ ?_
  rintro ⟨i,hi⟩
  dsimp only
  by_cases hlt:i<l.length
  ·obtain ⟨c,hc7⟩:∃c,l[i]? = some c:=⟨_,List.getElem?_eq_getElem hlt⟩
   have he:=eqCh7 c
   have wi:IntKind.i64.wrap ((i:Int)+1)=((i+1:Nat):Int):=by rw [wrapi (by omega) (by omega)];omega
   obtain ⟨⟨k1,k2,k3,k4,k5⟩,k6,k7⟩:=c
   repeat' (first|refine ZH ?_|refine ZI ?_|refine ZK ?_|refine ZG ?_|refine ZM ?_|refine ZJ ?_|refine ZN ?_|refine ZP (fun b=>?_)|refine ZO (fun b=>?_)|refine ZA ?_|refine ZB ?_|refine ZX ?_|refine ZY ?_|refine Zf ?_|refine Za ?_|refine Zb ?_|refine Zc (fun b=>?_)|refine Zd (fun b=>?_)|refine Ze ?_|refine ZZ ?_|rw [wi]|refine XL (m:=l.length) (sz:=7) i hlt ?_|refine Zl (b:=x.1) 7 i 0 hc7 ?_|refine Zl (b:=y.1) 7 i 0 hc7 ?_|refine r_sneq (b:=true) ?_ (he:=he)|(refine ZC (fun hc=>?_) (fun hc=>?_)<;>(try simp at hc)<;>(try omega))|(refine ZQ (fun hc=>?_) (fun hc=>?_)<;>(try simp at hc)<;>(try omega))|refine ZD 6 [] [(0,0),(1,0),(2,0),(3,0),(4,0),(5,0),(6,0),(7,0),(8,0)] [] ?_|(refine ZF (fun hc=>?_) (fun hc=>?_)<;>(try simp at hc)<;>(try omega)))
   exact Zi ⟨i+1,by omega⟩ (by show l.length - (i+1)<l.length - i;omega) ⟨rfl,rfl,rfl,trivial⟩
  ·obtain rfl:i=l.length:=by omega
   refine Zr (r:=ChW (some ⟨x.1,0,none⟩) c1 l) (Lx:=[Ax 108 chf x.1 l x.2]) (fun h hh=>ax_row (f:=chf) (es:=l) (x:=x.2) (fun _=>rfl) (by decide) x2 x3 h hh) ?_
   refine Zr (r:=ChW (some ⟨y.1,0,none⟩) c2 l) (Lx:=[Ax 108 chf y.1 l y.2]) (fun h hh=>ax_row (f:=chf) (es:=l) (x:=y.2) (fun _=>rfl) (by decide) y2 y3 h hh) ?_
   repeat' (first|refine ZH ?_|refine ZI ?_|refine ZK ?_|refine ZG ?_|refine ZM ?_|refine ZJ ?_|refine ZN ?_|refine ZP (fun b=>?_)|refine ZO (fun b=>?_)|refine ZA ?_|refine ZB ?_|refine ZL ?_|(refine ZC (fun hc=>?_) (fun hc=>?_)<;>(try simp at hc)<;>(try omega))|(refine ZF (fun hc=>?_) (fun hc=>?_)<;>(try simp at hc)<;>(try omega)))
   exact ZT () rfl trivial
set_option maxHeartbeats 8000000 in
theorem lawIFrame_ok (o:Option Addr) (cap:Nat) (l:List Op7) (c7:Op7):Enters 5∧Spec prog 5 #[.slice o l.length cap,c7.v] [OpS o cap l,Usg] [] (RetV (.bool true)):=by
 have n0:=after7_ok o cap l
 unfold AfP at n0
 have n1:=known27_ok
 have m0:=cut7_ok c7
 have hct:(cut7 c7).t.size≤500:=cutS_size _ _
 generalize cut7 c7=o2 at *
 obtain ⟨c1,c2,c3,c4,c5,⟨d1,d2,d3,d4,d5,d6,d7⟩⟩:=c7
 simp only [Op7.v] at m0 ⊢
 refine ZV [_,_] func5 ntmps5 fun G w hp=>?_
 repeat' (first|refine ZH ?_|refine ZI ?_|refine ZK ?_|refine ZG ?_|refine ZM ?_|refine ZJ ?_|refine ZN ?_|refine ZP (fun b=>?_)|refine ZO (fun b=>?_)|refine ZA ?_|refine ZB ?_|refine ZE (n0) (fun _ _=>?_)|refine l_call0 (n0) (fun _ _=>?_)|refine ZE (n1) (fun _ _=>?_)|refine l_call0 (n1) (fun _ _=>?_)|(refine ZC (fun hc=>?_) (fun hc=>?_)<;>(try simp at hc)<;>(try omega))|(refine ZF (fun hc=>?_) (fun hc=>?_)<;>(try simp at hc)<;>(try omega)))
 rename_i x hx _ _
 obtain ⟨bm,s,q,es,bs,fs,m⟩:=x
 obtain ⟨k,hk,hO⟩:=hx
 obtain ⟨z1,z2⟩:=hO.sml
 obtain ⟨-,-,g3,-⟩:=hO.next hk o2
 dsimp only at z1 z2 g3 ⊢
 have n2:=fun vb=>UH vb (some ⟨s,0,none⟩) es q bs o2 ⟨hct,z2⟩ z1
 obtain ⟨hN1,hN2⟩:=op_names (es:=es) z2 o2
 have hN:=fun n hn=>And.intro (WX (es:=es) (qOp bs o2) [] n hn) (hN1 n hn)
 obtain ⟨p1,p2,p3,p4⟩:=small_pure hN z1
 have hsr:=small_run (p:=qOp bs o2) hN1 z1
 have n5:=fun wb ps=>UH wb ps (smallS es ((qOp bs o2).run es []).2.1) q bs o2 ⟨hct,z2⟩ p4
 rw [hsr] at n5
 have hrq:rsq (smallS es ((qOp bs o2).run es []).2.1) ((qOp bs o2).run es []).2.1 []=rsq es ((qOp bs o2).run es []).2.1 []:=rsq_cg _ _ p3
 rw [hrq] at n5
 have hRo:=rsq_ok (es:=es) hN
 have hRl:=rsq_len es ((qOp bs o2).run es []).2.1 []
 unfold smallS at n5
 clear hsr hrq p2 p3 p4 hN hN1 hO
 generalize (qOp bs o2).run es []=G at *
 obtain ⟨G1,G2,G3⟩:=G
 dsimp only at *
 rw [List.length_nil] at hRl
 have hvl:=vrd_len (rsq es G2 [])
 have n6:=fun vb ps=>vwReads_ok vb ps (rsq es G2 []) G3 hRo (by omega)
 have n7:=fun vb ps rs=>UX vb ps rs G3 g3.fit.1 (fun c hc=>(g3.fit.2 c hc).own)
 unfold WrPost at n7
 have hwl:(vwr G3).length≤200:=by rw [WG];exact g3.fit.1
 have n8:=fun bs' o' cap'=>apply3_ok bs' [] o' cap' (vrd (rsq es G2 [])) p1 (by simp;omega)
 have n9:=fun o1 o2 c1 c2=>sameCh_ok o1 o2 c1 c2 (vrd (rsq es G2 [])) (by omega)
 have n10:=fun o1 o2 c1 c2=>sameCh_ok o1 o2 c1 c2 (vwr G3) (by omega)
 have he:=eqRz7 G1
 generalize hRL:vrd (rsq es G2 [])=RL at *
 generalize hRS:rsq es G2 []=RS at *
 generalize hWL:vwr G3=WL at *
 obtain ⟨r1,r2,⟨r3,r4⟩,r5⟩:=G1
 obtain ⟨e1,e2,e3,e4,e5,⟨f1,f2,f3,f4,f5,f6,f7⟩⟩:=o2
 simp only [Op7.v,Rz7.v] at m0 n2 n5 he
 repeat' (first|refine ZH ?_|refine ZI ?_|refine ZK ?_|refine ZG ?_|refine ZM ?_|refine ZJ ?_|refine ZN ?_|refine ZP (fun b=>?_)|refine ZO (fun b=>?_)|refine ZA ?_|refine ZB ?_|refine ZX ?_|refine ZY ?_|refine Zf ?_|refine Za ?_|refine Zb ?_|refine Zc (fun b=>?_)|refine Zd (fun b=>?_)|refine Ze ?_|refine ZZ ?_|refine ZE (m0) (fun _ _=>?_)|refine l_call0 (m0) (fun _ _=>?_)|refine ZS (m0) (fun _ _=>?_)|refine ZE (Zx _) (fun _ _=>?_)|refine l_call0 (Zx _) (fun _ _=>?_)|refine ZS (Zx _) (fun _ _=>?_)|refine ZE (n2 _) (fun _ _=>?_)|refine l_call0 (n2 _) (fun _ _=>?_)|refine ZS (n2 _) (fun _ _=>?_)|refine ZE (YK) (fun _ _=>?_)|refine l_call0 (YK) (fun _ _=>?_)|refine ZS (YK) (fun _ _=>?_)|refine ZE (n6 _ _) (fun _ _=>?_)|refine l_call0 (n6 _ _) (fun _ _=>?_)|refine ZS (n6 _ _) (fun _ _=>?_)|refine ZE (n8 _ _ _) (fun _ _=>?_)|refine l_call0 (n8 _ _ _) (fun _ _=>?_)|refine ZS (n8 _ _ _) (fun _ _=>?_)|refine l_frz (T:=108) (sz:=7) (f:=chf) RL ?_ rfl rfl|(refine ZC (fun hc=>?_) (fun hc=>?_)<;>(try simp at hc)<;>(try omega))|(refine ZQ (fun hc=>?_) (fun hc=>?_)<;>(try simp at hc)<;>(try omega))|refine ZD 6 [Vw _ _ _ _,BiX _ _] [(0,0),(1,0),(2,0),(3,0),(4,0),(5,0),(6,4),(7,1),(8,4)] [] ?_|(refine ZF (fun hc=>?_) (fun hc=>?_)<;>(try simp at hc)<;>(try omega)))
 repeat' (first|refine ZH ?_|refine ZI ?_|refine ZK ?_|refine ZG ?_|refine ZM ?_|refine ZJ ?_|refine ZN ?_|refine ZP (fun b=>?_)|refine ZO (fun b=>?_)|refine ZA ?_|refine ZB ?_|refine ZL ?_|refine ZX ?_|refine ZY ?_|refine Zf ?_|refine Za ?_|refine Zb ?_|refine Zc (fun b=>?_)|refine Zd (fun b=>?_)|refine Ze ?_|refine ZZ ?_|refine ZE (n5 _ _) (fun _ _=>?_)|refine l_call0 (n5 _ _) (fun _ _=>?_)|refine ZS (n5 _ _) (fun _ _=>?_)|refine ZE (n6 _ _) (fun _ _=>?_)|refine l_call0 (n6 _ _) (fun _ _=>?_)|refine ZS (n6 _ _) (fun _ _=>?_)|refine ZE (n7 _ _ _) (fun _ _=>?_)|refine l_call0 (n7 _ _ _) (fun _ _=>?_)|refine ZS (n7 _ _ _) (fun _ _=>?_)|refine ZE (n9 _ _ _ _) (fun _ _=>?_)|refine l_call0 (n9 _ _ _ _) (fun _ _=>?_)|refine ZS (n9 _ _ _ _) (fun _ _=>?_)|refine ZE (n10 _ _ _ _) (fun _ _=>?_)|refine l_call0 (n10 _ _ _ _) (fun _ _=>?_)|refine ZS (n10 _ _ _ _) (fun _ _=>?_)|refine r_seq (b:=true) ?_ (he:=he)|(refine ZC (fun hc=>?_) (fun hc=>?_)<;>(try simp at hc)<;>(try omega))|(refine ZQ (fun hc=>?_) (fun hc=>?_)<;>(try simp at hc)<;>(try omega))|refine ZD 6 [] [(0,0),(1,0),(2,0),(3,0),(4,0),(5,0),(6,4),(7,1)] [8] ?_|refine ZD 11 [Vw _ _ _ _,Vw _ _ _ _,BiX _ _] [(0,0),(1,0),(2,0),(3,0),(4,0),(5,0),(7,0),(6,4),(8,0),(9,0),(10,0),(12,0),(11,4),(13,4),(14,4),(15,0),(16,0),(17,0),(19,0),(18,4),(20,4),(21,4),(22,0),(23,0)] [] ?_|(refine ZF (fun hc=>?_) (fun hc=>?_)<;>(try simp at hc)<;>(try omega)))
 exact ZT () rfl trivial
end
end Go.Proofs.YtdkndahndgkmnaaGreatDoor
