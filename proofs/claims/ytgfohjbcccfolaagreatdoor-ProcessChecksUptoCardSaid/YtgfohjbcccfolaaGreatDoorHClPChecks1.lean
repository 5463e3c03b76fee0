/-
  The statements' own check of processes.
  Entries as values, and their identities.
  The law InodeBirths, walked.
  Contracts of processes compared, and cut: slices.Equal, process.Equal, and the statements' own equal and short.
  Processes compared by the statements' own equal.
  The law ProcessChecks, walked.
  Structures that hold slices of plain data, as arguments.
  Conditions: those that each theorem states.
-/
import Derived.Test.YtgfohjbcccfolaaGreatDoorW2
import Derived.Test.YtgfohjbcccfolaaGreatDoorW3
set_option maxRecDepth 10000
namespace Go.Proofs.YtgfohjbcccfolaaGreatDoor
open Go.RowKit Go.Proofs.Tryz
def pchk2 (p:Pr):Int:=if gchk p.gs≠0 then gchk p.gs else if lvalid p.sp.data.toList=false then 12 else bchk p.dr
theorem pchk_2 {p:Pr} (h1:p.kd=1∨p.kd=2) (h2:1≤p.st∧p.st≤3) (h3:pfit p):pchk p=pchk2 p:=by
 unfold pchk pchk2
 rw [if_neg (by omega),if_neg (by omega),if_neg (by simp [h3])]
theorem pchk_11 {p:Pr} (h1:¬(p.kd=1∨p.kd=2)):pchk p=11:=by unfold pchk;rw [if_pos (by omega)]
theorem pchk_10 {p:Pr} (h1:p.kd=1∨p.kd=2) (h2:¬(1≤p.st∧p.st≤3)):pchk p=10:=by unfold pchk;rw [if_neg (by omega),if_pos (by omega)]
theorem pchk_02 {p:Pr} (h1:p.kd=1∨p.kd=2) (h2:1≤p.st∧p.st≤3) (h3:¬pfit p):pchk p=2:=by unfold pchk;rw [if_neg (by omega),if_neg (by omega),if_pos (by simp [h3])]
theorem pchk2_g {p:Pr} {z:Int} (h:gchk p.gs=z) (hz:z≠0):pchk2 p=z:=by unfold pchk2;rw [h,if_pos hz]
set_option maxHeartbeats 4000000 in
theorem Y4 (p:Pr) (o:Option Addr) (c:Nat) (hl:p.gs.length≤1099511627776) (h1:p.sp.size≤1099511627776) (h2:p.dr.mkr.size≤1099511627776):Enters 16∧Spec prog 16 #[p.v o c] [Sl 3 zf o c p.gs] [] (RetV (.int .i64 (pchk p))):=by
 have n3:=ZY p.sp h1
 have n4:=Xb p.dr h2
 generalize hr:pchk p=r
 refine ZI [_] func16 ntmps16 fun G w hp=>?_
 refine k_cutd (Y:={b:Nat // (p.kd=1∨p.kd=2)∧1≤p.st∧p.st≤3}) 3 (fun y=>[(1,.pointer (some ⟨y.1,0,none⟩))]) (fun _=>[Sl 3 zf o c p.gs]) (fun y=>[Pt y.1 (.cells (prf p o c).toArray 44)]) ?_ ?_
 rotate_left
 ·intro hx
  repeat' (first|refine k_skp ?_|refine k_to hx ⟨b,by omega,by omega⟩ ⟨rfl,trivial⟩|refine ZC ?_|refine ZB ?_|refine ZS ?_|refine ZD ?_|refine ZR ?_|refine ZO (fun b=>?_)|refine ZL ?_|refine ZG ?_|(refine ZN (fun hc=>?_) (fun hc=>?_)<;>(try simp at hc)<;>(try omega))|(refine ZJ (fun hc=>?_) (fun hc=>?_)<;>(try simp at hc)<;>(try omega))|fail)
  all_goals
   (refine ZF () ?_ trivial
    refine congrArg (Value.int .i64) ?_
    rw [←hr]
    first
    | exact (pchk_11 (by omega)).symm
    | exact (pchk_10 (by omega) (by omega)).symm)
 rintro ⟨b,hk0⟩
 refine k_cutd (Y:={u:Unit // pfit p}) 1 (fun y=>[(1,.pointer (some ⟨b,0,none⟩))]) (fun _=>[Sl 3 zf o c p.gs]) (fun y=>[Pt b (.cells (prf p o c).toArray 44)]) ?_ ?_
 rotate_left
 ·intro hx
  by_cases hst:p.st=1
  ·repeat' (first|refine k_skp ?_|refine k_to hx ⟨(),by unfold pfit;omega⟩ ⟨rfl,trivial⟩|refine ZC ?_|refine ZB ?_|refine ZS ?_|refine ZD ?_|refine ZR ?_|refine ZL ?_|(refine ZN (fun hc=>?_) (fun hc=>?_)<;>(try simp at hc)<;>(try omega))|(refine ZJ (fun hc=>?_) (fun hc=>?_)<;>(try simp at hc)<;>(try omega))|fail)
   all_goals
    (refine ZF () ?_ trivial
     refine congrArg (Value.int .i64) ?_
     rw [←hr]
     exact (pchk_02 (by omega) (by omega) (by unfold pfit;omega)).symm)
  ·repeat' (first|refine k_skp ?_|refine k_to hx ⟨(),by unfold pfit;omega⟩ ⟨rfl,trivial⟩|refine ZC ?_|refine ZB ?_|refine ZS ?_|refine ZD ?_|refine ZR ?_|refine ZL ?_|(refine ZN (fun hc=>?_) (fun hc=>?_)<;>(try simp at hc)<;>(try omega))|(refine ZJ (fun hc=>?_) (fun hc=>?_)<;>(try simp at hc)<;>(try omega))|fail)
   all_goals
    (refine ZF () ?_ trivial
     refine congrArg (Value.int .i64) ?_
     rw [←hr]
     exact (pchk_02 (by omega) (by omega) (by unfold pfit;omega)).symm)
 rintro ⟨_,hk2⟩
 rw [pchk_2 hk0.1 hk0.2 hk2] at hr
 unfold pfit at hk2
 by_cases hl8:8<p.gs.length
 ·repeat' (first|refine ZC ?_|refine ZB ?_|refine ZD ?_|refine ZR ?_|(refine ZJ (fun hc=>?_) (fun hc=>?_)<;>(try simp at hc)<;>(try omega))|fail)
  refine ZF () ?_ trivial
  refine congrArg (Value.int .i64) ?_
  rw [←hr]
  exact (pchk2_g (by unfold gchk;rw [if_pos (by omega)]) (by decide)).symm
 have hk1:=hk0
 repeat' (first|refine ZC ?_|refine ZB ?_|refine ZD ?_|refine ZR ?_|(refine ZJ (fun hc=>?_) (fun hc=>?_)<;>(try simp at hc)<;>(try omega))|fail)
 refine k_lp (X:={i:Nat // i≤p.gs.length∧∀j<i,0≤p.gs.getD j 0∧p.gs.getD j 0≤65535}) (fun i=>[(1,.pointer (some ⟨b,0,none⟩)),(3,.slice o p.gs.length c),(4,.int .i64 (i.1:Int))]) (fun _=>[Sl 3 zf o c p.gs]) (fun _=>[Pt b (.cells (prf p o c).toArray 44)]) (fun i=>p.gs.length - i.1) ⟨0,by omega,fun j hj=>by omega⟩ ⟨rfl,rfl,rfl,trivial⟩ ?_
 rintro ⟨i,hi1,hi2⟩
 dsimp only
 by_cases hlt:i<p.gs.length
 ·obtain ⟨x,hx⟩:∃x,p.gs[i]? = some x:=⟨_,List.getElem?_eq_getElem hlt⟩
  have hg:=Y0 hx
  have bad:¬(0≤x∧x≤65535)→r=2:=fun hb=>by
   have h3:gchk p.gs=2:=by
    unfold gchk
    rw [if_neg hl8,if_pos]
    intro h
    have h4:=h i hlt
    rw [hg] at h4
    exact hb h4
   rw [←hr,pchk2_g h3 (by decide)]
  repeat' (first|refine ZC ?_|refine ZB ?_|refine ZS ?_|refine ZD ?_|refine ZL ?_|refine XF (es:=p.gs) i x hx (fun b off=>?_)|refine Z4 ?_|(refine ZN (fun hc=>?_) (fun hc=>?_)<;>(try simp at hc)<;>(try omega))|(refine ZJ (fun hc=>?_) (fun hc=>?_)<;>(try simp at hc)<;>(try omega))|fail)
  all_goals try (
   have e:=bad (by omega)
   exact k_rt (w_lq (w_rv (congrArg (Value.int .i64) e) (YO () rfl trivial))))
  rw [wrapi (z:=(i:Int)+1) (by omega) (by omega)]
  refine Zi ⟨i+1,by omega,fun j hj=>?_⟩ (by show p.gs.length - (i+1)<p.gs.length - i;omega) ⟨rfl,rfl,rfl,trivial⟩
  by_cases hij:j=i
  ·subst hij
   rw [hg]
   omega
  ·exact hi2 j (by omega)
 ·have hk:gok p.gs:=fun j hj=>hi2 j (by omega)
  repeat' (first|refine ZC ?_|refine ZB ?_|refine ZD ?_|refine Zj ?_|(refine ZJ (fun hc=>?_) (fun hc=>?_)<;>(try simp at hc)<;>(try omega))|fail)
  refine k_lp (X:={i:Nat // i≤p.gs.length∧∀j<i,j+1<p.gs.length→p.gs.getD j 0<p.gs.getD (j+1) 0}) (fun i=>[(1,.pointer (some ⟨b,0,none⟩)),(3,.slice o p.gs.length c),(5,.int .i64 ((i.1+1:Nat):Int))]) (fun _=>[Sl 3 zf o c p.gs]) (fun _=>[Pt b (.cells (prf p o c).toArray 44)]) (fun i=>p.gs.length - i.1) ⟨0,by omega,fun j hj=>by omega⟩ ⟨rfl,rfl,rfl,trivial⟩ ?_
  rintro ⟨k,hk1,hk2⟩
  dsimp only
  by_cases hlk:k+1<p.gs.length
  ·obtain ⟨x,hx⟩:∃x,p.gs[k]? = some x:=⟨_,List.getElem?_eq_getElem (by omega)⟩
   obtain ⟨y,hy⟩:∃y,p.gs[k+1]? = some y:=⟨_,List.getElem?_eq_getElem hlk⟩
   have hgx:=Y0 hx
   have hgy:=Y0 hy
   have hw1:IntKind.i64.wrap (((k+1:Nat):Int) - 1)=(k:Int):=by rw [wrapi (by omega) (by omega)];omega
   have hw2:IntKind.i64.wrap (((k+1:Nat):Int)+1)=((k+1+1:Nat):Int):=by rw [wrapi (by omega) (by omega)];omega
   have bad:¬x<y→r=32:=fun hb=>by
    have h3:gchk p.gs=32:=by
     unfold gchk
     rw [if_neg hl8,if_neg (by simp [hk]),if_pos]
     intro h
     have h4:=h k (by omega) hlk
     rw [hgx,hgy] at h4
     exact hb h4
    rw [←hr,pchk2_g h3 (by decide)]
   repeat' (first|refine ZC ?_|refine ZB ?_|refine ZD ?_|refine Zv ?_|refine Zw ?_|rw [hw1]|rw [hw2]|refine Y9 (es:=p.gs) (k+1) y hy (fun b off=>?_)|refine Y9 (es:=p.gs) k x hx (fun b off=>?_)|refine r_ldC ?_|refine Zb 18 [] [(0,0),(1,0),(2,0),(3,0),(4,0),(5,0),(6,0),(7,0),(8,0),(9,0)] [] ?_|(refine ZJ (fun hc=>?_) (fun hc=>?_)<;>(try simp at hc)<;>(try omega))|fail)
   ·have e:=bad (by omega)
    exact k_rt (w_lq (w_rv (congrArg (Value.int .i64) e) (YO () rfl trivial)))
   ·refine Zi ⟨k+1,by omega,fun j hj h1=>?_⟩ (by show p.gs.length - (k+1)<p.gs.length - k;omega) ⟨rfl,rfl,rfl,trivial⟩
    by_cases hjk:j=k
    ·subst hjk
     rw [hgx,hgy]
     omega
    ·exact hk2 j (by omega) h1
  ·have hs:gsq p.gs:=fun j hj h1=>hk2 j (by omega) h1
   have h3:gchk p.gs=0:=by
    unfold gchk
    rw [if_neg hl8,if_neg (by simp [hk]),if_neg (by simp [hs])]
   unfold pchk2 at hr
   rw [h3,if_neg (by simp)] at hr
   repeat' (first|refine ZC ?_|refine ZB ?_|refine ZD ?_|refine ZR ?_|refine Zj ?_|refine ZA (n3) (fun _ _=>?_)|refine ZA (n4) (fun _ _=>?_)|(refine ZJ (fun hc=>?_) (fun hc=>?_)<;>(try simp at hc)<;>(try omega))|fail)
   all_goals (refine ZF () ?_ trivial;refine congrArg (Value.int .i64) ?_;rw [←hr])
   all_goals first
    | (rw [if_pos (by simp_all)];done)
    | (rw [if_neg (by simp_all)];done)
def En.w (e:En):Value:=.agg #[.string e.who,.int .i64 e.nu,.int .i64 e.tk,.int .i64 e.o.ch,.string e.o.tg,.string e.o.tx,.int .i64 e.o.us]
structure Idn where
 who:ByteArray
 nu:Int
 tk:Int
 deriving DecidableEq
def Idn.v (i:Idn):Value:=.agg #[.string i.who,.int .i64 i.nu,.int .i64 i.tk]
def En.id (e:En):Idn:=⟨e.who,e.nu,e.tk⟩
theorem beqSw (a b:ByteArray):(a.toList == b.toList)=decide (a=b):=by
 rw [Zg,Zg,Bool.eq_iff_iff]
 simp only [beq_iff_eq,decide_eq_true_eq]
 exact ⟨fun h=>Xg h,fun h=>by rw [h]⟩
theorem beqIw (a b:Int):(a == b)=decide (a=b):=by rw [Bool.eq_iff_iff];simp
def cmpT (a b:En):Int:=cmpI a.tk b.tk
section
variable {n:Nat} {C:Cx} {Q:Exit→Act→World→Prop} {E E':List (Nat×Value)} {F F' F1 Fs F0:List Pf} {R R' R0 Rs N N' A:List HP} {k k':List Fr} {ops l:List Oper} {L L':List (Nat×Nat)} {Tl:List Nat} {i d:Nat} {t ty0:TypeId} {x y z:Operand} {pos:String} {aft:Array Edge} {gd:Option (Nat×Bool)} {α β:Type} [DecidableEq α] {K:α→Value} {V:β→Value}
end
theorem eqBi2 (a b:Bi):eqC eqS 20 42 a.v b.v=some (decide (a=b)):=by
 rw [show eqC eqS 20 42 a.v b.v=some ((a.mkr.toList == b.mkr.toList) && ((a.nu == b.nu) && true)) from rfl]
 congr 1
 obtain ⟨a1,a2⟩:=a
 obtain ⟨b1,b2⟩:=b
 simp only [beqSw,beqIw,Bi.mk.injEq]
 rw [Bool.eq_iff_iff];simp
def blv (u:Bool):Value:=.bool u
def svf (s:ByteArray):List Value:=[.string s]
def shP (p:Pr):Pr:={p with sp:=cutS p.sp 80,gs:=p.gs.take 20,dr:={p.dr with mkr:=cutS p.dr.mkr 80}}
theorem Ya (p:Pr) (o:Option Addr) (c:Nat) (hl:p.gs.length≤1099511627776):Enters 15∧Spec prog 15 #[p.v o c] [Sl 3 zf o c p.gs] []
  ⟨Option Addr,fun o'=>(shP p).v o' c,fun _=>True,fun o'=>[Sl 3 zf o' c (shP p).gs],fun _=>[]⟩:=by
 have hm:(if (20:Int)<(p.gs.length:Int) then (20:Int) else (p.gs.length:Int))=((min p.gs.length 20:Nat):Int):=by split<;>omega
 obtain ⟨a1,a2,a3,a4,a5,gs,a7,a8,a9,a10⟩:=p
 obtain ⟨b1,b2⟩:=a9
 dsimp only at hl hm
 have ht:gs.take (min gs.length 20)=gs.take 20:=by
  by_cases h:gs.length≤20
  ·rw [Nat.min_eq_left h,List.take_length,List.take_of_length_le h]
  ·rw [Nat.min_eq_right (by omega)]
 refine ZI [_] func15 ntmps15 fun G w hp=>?_
 repeat' (first|refine ZC ?_|refine ZB ?_|refine ZD ?_|refine ZR ?_|refine ZV ?_|refine ZO (fun b=>?_)|refine l_cutS 80 ?_|rw [hm]|refine l_slH (es:=gs) (min gs.length 20) (by omega) (fun o'=>?_)|fail)
 rw [ht]
 exact ZF o' rfl trivial
set_option maxHeartbeats 1000000 in
theorem slEqual_ok (o1 o2:Option Addr) (c1 c2:Nat) (xs ys:List Int) (hx:xs.length≤1099511627776) (hy:ys.length≤1099511627776):Enters 68∧Spec prog 68 #[.slice o1 xs.length c1,.slice o2 ys.length c2] [Sl 3 zf o1 c1 xs,Sl 3 zf o2 c2 ys] [] (RetV (.bool (decide (xs=ys)))):=by
 refine ZI [_,_] func68 ntmps68 fun G w hp=>?_
 by_cases hlen:xs.length=ys.length
 ·repeat' (first|refine ZC ?_|refine ZB ?_|refine ZD ?_|(refine ZJ (fun hc=>?_) (fun hc=>?_)<;>(try simp at hc)<;>(try omega))|fail)
  refine k_lp (X:={i:Nat // i≤xs.length∧xs.take i=ys.take i}) (fun i=>[(0,.slice o1 xs.length c1),(1,.slice o2 ys.length c2),(12,.int .i64 (xs.length:Int)),(13,.int .i64 (i.1:Int))]) (fun _=>[Sl 3 zf o1 c1 xs,Sl 3 zf o2 c2 ys]) (fun _=>[]) (fun i=>xs.length - i.1) ⟨0,by omega,rfl⟩ ⟨rfl,rfl,rfl,rfl,trivial⟩ ?_
  rintro ⟨i,hi1,hi2⟩
  dsimp only
  by_cases hlt:i<xs.length
  ·obtain ⟨a,ha⟩:∃a,xs[i]? = some a:=⟨_,List.getElem?_eq_getElem hlt⟩
   obtain ⟨u,hb⟩:∃u,ys[i]? = some u:=⟨_,List.getElem?_eq_getElem (by omega)⟩
   by_cases hab:a=u
   ·repeat' (first|refine ZC ?_|refine ZB ?_|refine ZD ?_|refine Zv ?_|refine Zw ?_|refine Y9 (es:=xs) i a ha (fun b off=>?_)|refine Y9 (es:=ys) i u hb (fun b off=>?_)|refine r_ldC ?_|refine Zb 6 [] [(0,0),(1,0),(2,0),(3,0),(4,0),(5,0),(6,0),(7,0),(8,0)] [] ?_|(refine ZJ (fun hc=>?_) (fun hc=>?_)<;>(try simp at hc)<;>(try omega))|fail)
    rw [wrapi (z:=(i:Int)+1) (by omega) (by omega)]
    refine Zi ⟨i+1,by omega,?_⟩ (by show xs.length - (i+1)<xs.length - i;omega) ⟨rfl,rfl,rfl,rfl,trivial⟩
    rw [List.take_add_one,List.take_add_one,hi2,ha,hb,hab]
   ·have e:decide (xs=ys)=false:=decide_eq_false fun h=>by
     subst h
     exact hab (Option.some.inj (ha.symm.trans hb))
    repeat' (first|refine ZC ?_|refine ZB ?_|refine ZD ?_|refine Zv ?_|refine Zw ?_|refine Y9 (es:=xs) i a ha (fun b off=>?_)|refine Y9 (es:=ys) i u hb (fun b off=>?_)|refine r_ldC ?_|refine Zb 6 [] [(0,0),(1,0),(2,0),(3,0),(4,0),(5,0),(6,0),(7,0),(8,0)] [] ?_|(refine ZJ (fun hc=>?_) (fun hc=>?_)<;>(try simp at hc)<;>(try omega))|fail)
    exact k_rt (w_lq (w_rv (congrArg Value.bool e) (YO () rfl trivial)))
  ·have e:decide (xs=ys)=true:=decide_eq_true (by
    rw [List.take_of_length_le (by omega),List.take_of_length_le (by omega)] at hi2
    exact hi2)
   rw [e]
   repeat' (first|refine ZC ?_|refine ZB ?_|refine ZD ?_|refine Zj ?_|(refine ZJ (fun hc=>?_) (fun hc=>?_)<;>(try simp at hc)<;>(try omega))|fail)
   exact ZF () rfl trivial
 ·have e:decide (xs=ys)=false:=decide_eq_false fun h=>hlen (by rw [h])
  rw [e]
  repeat' (first|refine ZC ?_|refine ZB ?_|refine ZD ?_|(refine ZJ (fun hc=>?_) (fun hc=>?_)<;>(try simp at hc)<;>(try omega))|fail)
  exact ZF () rfl trivial
theorem pr_eq (p q:Pr):p=q↔((((((((p.kd=q.kd∧p.st=q.st)∧p.cd=q.cd)∧p.ep=q.ep)∧p.us=q.us)∧p.gs=q.gs)∧p.sp=q.sp)∧p.pg=q.pg)∧p.dr=q.dr)∧p.tm=q.tm:=by
 obtain ⟨a1,a2,a3,a4,a5,a6,a7,a8,a9,a10⟩:=p
 obtain ⟨b1,b2,b3,b4,b5,b6,b7,b8,b9,b10⟩:=q
 simp only [Pr.mk.injEq]
 constructor
 ·rintro ⟨h1,h2,h3,h4,h5,h6,h7,h8,h9,h10⟩;exact ⟨⟨⟨⟨⟨⟨⟨⟨⟨h1,h2⟩,h3⟩,h4⟩,h5⟩,h6⟩,h7⟩,h8⟩,h9⟩,h10⟩
 ·rintro ⟨⟨⟨⟨⟨⟨⟨⟨⟨h1,h2⟩,h3⟩,h4⟩,h5⟩,h6⟩,h7⟩,h8⟩,h9⟩,h10⟩;exact ⟨h1,h2,h3,h4,h5,h6,h7,h8,h9,h10⟩
set_option maxHeartbeats 4000000 in
theorem Yl (p q:Pr) (o1 o2:Option Addr) (c1 c2:Nat) (h1:p.gs.length≤1099511627776) (h2:q.gs.length≤1099511627776):Enters 19∧Spec prog 19 #[p.v o1 c1,q.v o2 c2] [Sl 3 zf o1 c1 p.gs,Sl 3 zf o2 c2 q.gs] [] (RetV (.bool (decide (p=q)))):=by
 have n1:=slEqual_ok o1 o2 c1 c2 p.gs q.gs h1 h2
 have he:=pr_eq p q
 have hsp:(p.sp.toList == q.sp.toList)=decide (p.sp=q.sp):=beqSv _ _
 have hdr:=eqBi2 p.dr q.dr
 generalize hr:decide (p=q)=r
 obtain ⟨a1,a2,a3,a4,a5,gs,a7,a8,a9,a10⟩:=p
 obtain ⟨b1,b2,b3,b4,b5,gs',b7,b8,b9,b10⟩:=q
 dsimp only at *
 obtain ⟨d1,d2⟩:=a9
 obtain ⟨e1,e2⟩:=b9
 simp only [Bi.v] at hdr
 refine ZI [_,_] func19 ntmps19 fun G w hp=>?_
 repeat' (first|refine l_seq ?_ (he:=hdr)|refine ZC ?_|refine ZB ?_|refine ZS ?_|refine ZD ?_|refine ZR ?_|refine ZO (fun b=>?_)|refine ZA (n1) (fun _ _=>?_)|rw [hsp]|(refine ZN (fun hc=>?_) (fun hc=>?_)<;>(try simp at hc)<;>(try omega))|fail)
 all_goals (
  refine ZF () ?_ trivial
  clear n1 hsp hdr
  refine congrArg Value.bool ?_
  rw [←hr,Bool.eq_iff_iff,decide_eq_true_iff,he]
  simp_all)
set_option maxHeartbeats 4000000 in
theorem YH (p q:Pr) (o1 o2:Option Addr) (c1 c2:Nat) (h1:p.gs.length≤1099511627776) (h2:q.gs.length≤1099511627776):Enters 20∧Spec prog 20 #[p.v o1 c1,q.v o2 c2] [Sl 3 zf o1 c1 p.gs,Sl 3 zf o2 c2 q.gs] [] (RetV (.bool (decide (p=q)))):=by
 have he:=pr_eq p q
 have hsp:(p.sp.toList == q.sp.toList)=decide (p.sp=q.sp):=beqSv _ _
 have hdr:=eqBi2 p.dr q.dr
 generalize hr:decide (p=q)=r
 obtain ⟨a1,a2,a3,a4,a5,xs,a7,a8,a9,a10⟩:=p
 obtain ⟨b1,b2,b3,b4,b5,ys,b7,b8,b9,b10⟩:=q
 dsimp only at *
 obtain ⟨d1,d2⟩:=a9
 obtain ⟨e1,e2⟩:=b9
 simp only [Bi.v] at hdr
 have bad:xs≠ys→r=false:=fun h=>by
  rw [←hr,decide_eq_false_iff_not,he]
  rintro ⟨⟨⟨⟨⟨_,g⟩,_⟩,_⟩,_⟩,_⟩
  exact h g
 refine ZI [_,_] func20 ntmps20 fun G w hp=>?_
 by_cases hlen:xs.length=ys.length
 ·repeat' (first|refine ZC ?_|refine ZB ?_|refine ZD ?_|refine ZR ?_|refine ZO (fun b=>?_)|(refine ZJ (fun hc=>?_) (fun hc=>?_)<;>(try simp at hc)<;>(try omega))|fail)
  rename_i bA
  refine k_lp (X:={i:Nat // i≤xs.length∧xs.take i=ys.take i}) (fun i=>[(2,.pointer (some ⟨bA,0,none⟩)),(3,.pointer (some ⟨b,0,none⟩)),(5,.int .i64 (i.1:Int))]) (fun _=>[Sl 3 zf o1 c1 xs,Sl 3 zf o2 c2 ys]) (fun _=>[Pt bA (.cells #[.int .i64 a1,.int .i64 a2,.int .i64 a3,.int .i64 a4,.int .i64 a5,.slice o1 xs.length c1,.string a7,.int .i64 a8,.string d1,.int .i64 d2,.int .i64 a10] 44),Pt b (.cells #[.int .i64 b1,.int .i64 b2,.int .i64 b3,.int .i64 b4,.int .i64 b5,.slice o2 ys.length c2,.string b7,.int .i64 b8,.string e1,.int .i64 e2,.int .i64 b10] 44)]) (fun i=>xs.length - i.1) ⟨0,by omega,rfl⟩ ⟨rfl,rfl,rfl,trivial⟩ ?_
  rintro ⟨i,hi1,hi2⟩
  dsimp only
  by_cases hlt:i<xs.length
  ·obtain ⟨u,ha⟩:∃u,xs[i]? = some u:=⟨_,List.getElem?_eq_getElem hlt⟩
   obtain ⟨v,hb⟩:∃v,ys[i]? = some v:=⟨_,List.getElem?_eq_getElem (by omega)⟩
   by_cases hab:u=v
   ·repeat' (first|refine ZC ?_|refine ZB ?_|refine ZD ?_|refine ZR ?_|refine Zv ?_|refine Yd ?_|refine Zw ?_|refine Y9 (es:=xs) i u ha (fun b off=>?_)|refine Y9 (es:=ys) i v hb (fun b off=>?_)|refine r_ldC ?_|refine Zb 6 [] [(0,0),(1,0),(2,0),(3,0),(4,0),(5,0),(6,0),(7,0),(8,0),(9,0),(10,0),(11,0),(12,0)] [] ?_|(refine ZJ (fun hc=>?_) (fun hc=>?_)<;>(try simp at hc)<;>(try omega))|fail)
    rw [wrapi (z:=(i:Int)+1) (by omega) (by omega)]
    refine Zi ⟨i+1,by omega,?_⟩ (by show xs.length - (i+1)<xs.length - i;omega) ⟨rfl,rfl,rfl,trivial⟩
    rw [List.take_add_one,List.take_add_one,hi2,ha,hb,hab]
   ·have e:r=false:=bad fun h=>by
     subst h
     exact hab (Option.some.inj (ha.symm.trans hb))
    rw [e]
    repeat' (first|refine ZC ?_|refine ZB ?_|refine ZD ?_|refine ZR ?_|refine Zv ?_|refine Yd ?_|refine Zw ?_|refine Y9 (es:=xs) i u ha (fun b off=>?_)|refine Y9 (es:=ys) i v hb (fun b off=>?_)|refine r_ldC ?_|refine Zb 6 [] [(0,0),(1,0),(2,0),(3,0),(4,0),(5,0),(6,0),(7,0),(8,0),(9,0),(10,0),(11,0),(12,0)] [] ?_|(refine ZJ (fun hc=>?_) (fun hc=>?_)<;>(try simp at hc)<;>(try omega))|fail)
    exact k_rt (w_lq (YO () rfl trivial))
  ·have e:xs=ys:=by
    rw [List.take_of_length_le (by omega),List.take_of_length_le (by omega)] at hi2
    exact hi2
   repeat' (first|refine l_seq ?_ (he:=hdr)|refine ZC ?_|refine ZB ?_|refine ZS ?_|refine ZD ?_|refine ZR ?_|refine Zj ?_|rw [hsp]|(refine ZN (fun hc=>?_) (fun hc=>?_)<;>(try simp at hc)<;>(try omega))|(refine ZJ (fun hc=>?_) (fun hc=>?_)<;>(try simp at hc)<;>(try omega))|fail)
   all_goals (
    refine ZF () ?_ trivial
    clear hsp hdr bad hi2
    refine congrArg Value.bool ?_
    rw [←hr,Bool.eq_iff_iff,decide_eq_true_iff,he]
    simp_all)
 ·have e:r=false:=bad fun h=>hlen (by rw [h])
  rw [e]
  repeat' (first|refine ZC ?_|refine ZB ?_|refine ZD ?_|refine ZR ?_|refine ZO (fun b=>?_)|(refine ZJ (fun hc=>?_) (fun hc=>?_)<;>(try simp at hc)<;>(try omega))|fail)
  exact ZF () rfl trivial
theorem penc_big {p:Pr} {s:ByteArray} (h:s.data.toList=penc p):p.sp.size≤s.size∧p.dr.mkr.size≤s.size:=by
 have hs:s.data.toList.length=s.size:=by simp
 have s1:p.sp.data.toList.length=p.sp.size:=by simp
 have s2:p.dr.mkr.data.toList.length=p.dr.mkr.size:=by simp
 rw [h] at hs
 simp only [penc,List.length_append] at hs
 omega
section
variable (p q:Pr) (o1 o2:Option Addr) (c1 c2:Nat) (raw r:ByteArray)
set_option maxHeartbeats 8000000 in
theorem lpcFit (hl1:p.gs.length≤1099511627776) (hl2:q.gs.length≤1099511627776) (hr:r.size≤300) (ht:cutS raw 300=r) (h:pchk (shP p)=0) :
  Enters 4∧Spec prog 4 #[p.v o1 c1,q.v o2 c2,.string raw] [Sl 3 zf o1 c1 p.gs,Sl 3 zf o2 c2 q.gs,Usg,P10] [] (RetV (.bool true)):=by
 have k1:=Ya p o1 c1 hl1
 have k2:=Ya q o2 c2 hl2
 have z1:(shP p).sp.size≤80:=Zl _ _
 have z2:(shP p).dr.mkr.size≤80:=Zl _ _
 have z3:(shP p).gs.length≤20:=by simp [shP];omega
 have z4:(shP q).gs.length≤20:=by simp [shP];omega
 generalize shP p=P at *
 generalize shP q=Q at *
 have m1:=fun o c=>Y4 P o c (by omega) (by omega) (by omega)
 have m2:=fun o c=>X9 P o c h (by omega) (by omega)
 have m3:=fun o c=>YI P o c (by omega) (by omega) (by omega)
 have m4:=fun o c o' c'=>Yl P Q o o' c c' (by omega) (by omega)
 have m5:=fun o c o' c'=>YH P Q o o' c c' (by omega) (by omega)
 have m6:=fun o c o' c'=>Yl P P o o' c c' (by omega) (by omega)
 have m7:=fun o c=>Xj P o c h (by omega) (by omega)
 have hps:=psz P h (by omega) (by omega)
 have m8:=Zu (pencS P) (by omega)
 rw [pdec_enc h (by omega) (by omega)] at m8
 simp only [Option.getD_some,Option.isSome_some,if_true] at m8
 have m9:=fun o c o' c'=>YH P P o o' c c' (by omega) (by omega)
 have m10:=Zu r (by omega)
 rw [h] at m1 m3
 have e1:decide (P=P)=true:=by simp
 rw [e1] at m6 m9
 generalize decide (P=Q)=B at *
 generalize pencS P=S at *
 clear h z1 z2 z3 z4 hps e1
 cases hd:pdec r with
 | none=>
  simp only [hd,Option.getD_none,Option.isSome_none,Bool.false_eq_true,if_false] at m10
  have n1:=fun o c=>YH Pr.z Pr.z o none c 0 (by decide) (by decide)
  rw [show decide (Pr.z=Pr.z)=true by simp] at n1
  obtain ⟨x1,x2,x3,x4,x5,xs,x7,x8,⟨x9,x10⟩,x11⟩:=P
  obtain ⟨y1,y2,y3,y4,y5,ys,y7,y8,⟨y9,y10⟩,y11⟩:=Q
  simp only [Pr.v] at k1 k2 m1 m2 m3 m4 m5 m6 m7 m8 m9
  refine ZI [_,_,_] func4 ntmps4 fun G w hp=>?_
  refine k_add (sl_nil 3 zf) ?_
  repeat' (first|refine ZC ?_|refine ZB ?_|refine ZS ?_|refine ZD ?_|refine ZR ?_|refine Zr ?_|refine ZV ?_|refine ZO (fun b=>?_)|refine YE (fun b=>?_)|refine ZL ?_|refine ZG ?_|refine Zj ?_|refine Zv ?_|refine r_one ?_|refine Yd ?_|refine XD ?_|refine r_ldN ?_|refine r_al (fun b=>?_)|refine r_bs (fun b=>?_)|refine r_st ?_|refine Zw ?_|refine ZA (k1) (fun _ _=>?_)|refine l_call0 (k1) (fun _ _=>?_)|refine ZH (k1) (fun _ _=>?_)|refine ZE (k1) (fun _ _=>?_)|refine ZA (k2) (fun _ _=>?_)|refine l_call0 (k2) (fun _ _=>?_)|refine ZH (k2) (fun _ _=>?_)|refine ZE (k2) (fun _ _=>?_)|refine ZA (m1 _ _) (fun _ _=>?_)|refine l_call0 (m1 _ _) (fun _ _=>?_)|refine ZH (m1 _ _) (fun _ _=>?_)|refine ZE (m1 _ _) (fun _ _=>?_)|refine ZA (m2 _ _) (fun _ _=>?_)|refine l_call0 (m2 _ _) (fun _ _=>?_)|refine ZH (m2 _ _) (fun _ _=>?_)|refine ZE (m2 _ _) (fun _ _=>?_)|refine ZA (ZP) (fun _ _=>?_)|refine l_call0 (ZP) (fun _ _=>?_)|refine ZH (ZP) (fun _ _=>?_)|refine ZE (ZP) (fun _ _=>?_)|refine ZA (m3 _ _) (fun _ _=>?_)|refine l_call0 (m3 _ _) (fun _ _=>?_)|refine ZH (m3 _ _) (fun _ _=>?_)|refine ZE (m3 _ _) (fun _ _=>?_)|refine ZA (m6 _ _ _ _) (fun _ _=>?_)|refine l_call0 (m6 _ _ _ _) (fun _ _=>?_)|refine ZH (m6 _ _ _ _) (fun _ _=>?_)|refine ZE (m6 _ _ _ _) (fun _ _=>?_)|refine ZA (m4 _ _ _ _) (fun _ _=>?_)|refine l_call0 (m4 _ _ _ _) (fun _ _=>?_)|refine ZH (m4 _ _ _ _) (fun _ _=>?_)|refine ZE (m4 _ _ _ _) (fun _ _=>?_)|refine ZA (m5 _ _ _ _) (fun _ _=>?_)|refine l_call0 (m5 _ _ _ _) (fun _ _=>?_)|refine ZH (m5 _ _ _ _) (fun _ _=>?_)|refine ZE (m5 _ _ _ _) (fun _ _=>?_)|refine ZA (m8) (fun _ _=>?_)|refine l_call0 (m8) (fun _ _=>?_)|refine ZH (m8) (fun _ _=>?_)|refine ZE (m8) (fun _ _=>?_)|refine ZA (m7 _ _) (fun _ _=>?_)|refine l_call0 (m7 _ _) (fun _ _=>?_)|refine ZH (m7 _ _) (fun _ _=>?_)|refine ZE (m7 _ _) (fun _ _=>?_)|refine ZA (m9 _ _ _ _) (fun _ _=>?_)|refine l_call0 (m9 _ _ _ _) (fun _ _=>?_)|refine ZH (m9 _ _ _ _) (fun _ _=>?_)|refine ZE (m9 _ _ _ _) (fun _ _=>?_)|refine ZA (m10) (fun _ _=>?_)|refine l_call0 (m10) (fun _ _=>?_)|refine ZH (m10) (fun _ _=>?_)|refine ZE (m10) (fun _ _=>?_)|refine ZA (n1 _ _) (fun _ _=>?_)|refine l_call0 (n1 _ _) (fun _ _=>?_)|refine ZH (n1 _ _) (fun _ _=>?_)|refine ZE (n1 _ _) (fun _ _=>?_)|refine YS 300 ?_|rw [ht]|refine r_up ?_|(refine ZN (fun hc=>?_) (fun hc=>?_)<;>(try simp at hc)<;>(try omega))|(refine Yn (fun hc=>?_) (fun hc=>?_)<;>(try simp at hc)<;>(try omega))|refine Zb 1 [Pt _ (.cells _ 44 _),Pt _ (.cells _ 44 _)] [(4,0),(5,0),(6,0),(7,0),(8,0),(0,3),(2,3),(1,5),(3,5),(9,4),(10,4),(11,0)] [] ?_|refine Zb 4 [] [(0,4),(1,0),(2,0),(3,0),(5,0),(4,4),(6,0),(7,0),(8,0),(9,0),(10,0),(11,0),(12,0),(13,0),(14,0),(15,0),(17,0),(18,0),(16,4),(19,4),(20,0),(21,0),(22,0),(23,0),(24,0),(25,4),(26,0),(27,0)] [] ?_|(refine ZJ (fun hc=>?_) (fun hc=>?_)<;>(try simp at hc)<;>(try omega)))
  all_goals (refine ZF () ?_ trivial;simp [RetV,resV])
 | some z=>
  simp only [hd,Option.getD_some,Option.isSome_some,if_true] at m10
  obtain ⟨i1,i2⟩:=XI hd
  obtain ⟨i3,i4⟩:=penc_big i2
  obtain ⟨q1,q2,q3,q4,q5,q6⟩:=Zs i1
  obtain ⟨q7,q8,q9⟩:=Z7 q4
  have n1:=fun o c=>Y4 z o c (by omega) (by omega) (by omega)
  rw [i1] at n1
  have n2:=fun o c=>Xj z o c i1 (by omega) (by omega)
  rw [pdec_canon hd] at n2
  clear i1 i2 i3 i4 q1 q2 q3 q4 q5 q6 q7 q8 q9 hd
  obtain ⟨x1,x2,x3,x4,x5,xs,x7,x8,⟨x9,x10⟩,x11⟩:=P
  obtain ⟨y1,y2,y3,y4,y5,ys,y7,y8,⟨y9,y10⟩,y11⟩:=Q
  obtain ⟨u1,u2,u3,u4,u5,us,u7,u8,⟨u9,u10⟩,u11⟩:=z
  simp only [Pr.v] at k1 k2 m1 m2 m3 m4 m5 m6 m7 m8 m9 m10 n1 n2
  refine ZI [_,_,_] func4 ntmps4 fun G w hp=>?_
  repeat' (first|refine ZC ?_|refine ZB ?_|refine ZS ?_|refine ZD ?_|refine ZR ?_|refine Zr ?_|refine ZV ?_|refine ZO (fun b=>?_)|refine YE (fun b=>?_)|refine ZL ?_|refine ZG ?_|refine Zj ?_|refine Zv ?_|refine r_one ?_|refine Yd ?_|refine XD ?_|refine r_ldN ?_|refine r_al (fun b=>?_)|refine r_bs (fun b=>?_)|refine r_st ?_|refine Zw ?_|refine ZA (k1) (fun _ _=>?_)|refine l_call0 (k1) (fun _ _=>?_)|refine ZH (k1) (fun _ _=>?_)|refine ZE (k1) (fun _ _=>?_)|refine ZA (k2) (fun _ _=>?_)|refine l_call0 (k2) (fun _ _=>?_)|refine ZH (k2) (fun _ _=>?_)|refine ZE (k2) (fun _ _=>?_)|refine ZA (m1 _ _) (fun _ _=>?_)|refine l_call0 (m1 _ _) (fun _ _=>?_)|refine ZH (m1 _ _) (fun _ _=>?_)|refine ZE (m1 _ _) (fun _ _=>?_)|refine ZA (m2 _ _) (fun _ _=>?_)|refine l_call0 (m2 _ _) (fun _ _=>?_)|refine ZH (m2 _ _) (fun _ _=>?_)|refine ZE (m2 _ _) (fun _ _=>?_)|refine ZA (ZP) (fun _ _=>?_)|refine l_call0 (ZP) (fun _ _=>?_)|refine ZH (ZP) (fun _ _=>?_)|refine ZE (ZP) (fun _ _=>?_)|refine ZA (m3 _ _) (fun _ _=>?_)|refine l_call0 (m3 _ _) (fun _ _=>?_)|refine ZH (m3 _ _) (fun _ _=>?_)|refine ZE (m3 _ _) (fun _ _=>?_)|refine ZA (m6 _ _ _ _) (fun _ _=>?_)|refine l_call0 (m6 _ _ _ _) (fun _ _=>?_)|refine ZH (m6 _ _ _ _) (fun _ _=>?_)|refine ZE (m6 _ _ _ _) (fun _ _=>?_)|refine ZA (m4 _ _ _ _) (fun _ _=>?_)|refine l_call0 (m4 _ _ _ _) (fun _ _=>?_)|refine ZH (m4 _ _ _ _) (fun _ _=>?_)|refine ZE (m4 _ _ _ _) (fun _ _=>?_)|refine ZA (m5 _ _ _ _) (fun _ _=>?_)|refine l_call0 (m5 _ _ _ _) (fun _ _=>?_)|refine ZH (m5 _ _ _ _) (fun _ _=>?_)|refine ZE (m5 _ _ _ _) (fun _ _=>?_)|refine ZA (m8) (fun _ _=>?_)|refine l_call0 (m8) (fun _ _=>?_)|refine ZH (m8) (fun _ _=>?_)|refine ZE (m8) (fun _ _=>?_)|refine ZA (m7 _ _) (fun _ _=>?_)|refine l_call0 (m7 _ _) (fun _ _=>?_)|refine ZH (m7 _ _) (fun _ _=>?_)|refine ZE (m7 _ _) (fun _ _=>?_)|refine ZA (m9 _ _ _ _) (fun _ _=>?_)|refine l_call0 (m9 _ _ _ _) (fun _ _=>?_)|refine ZH (m9 _ _ _ _) (fun _ _=>?_)|refine ZE (m9 _ _ _ _) (fun _ _=>?_)|refine ZA (m10) (fun _ _=>?_)|refine l_call0 (m10) (fun _ _=>?_)|refine ZH (m10) (fun _ _=>?_)|refine ZE (m10) (fun _ _=>?_)|refine ZA (n1 _ _) (fun _ _=>?_)|refine l_call0 (n1 _ _) (fun _ _=>?_)|refine ZH (n1 _ _) (fun _ _=>?_)|refine ZE (n1 _ _) (fun _ _=>?_)|refine ZA (n2 _ _) (fun _ _=>?_)|refine l_call0 (n2 _ _) (fun _ _=>?_)|refine ZH (n2 _ _) (fun _ _=>?_)|refine ZE (n2 _ _) (fun _ _=>?_)|refine YS 300 ?_|rw [ht]|refine r_up ?_|(refine ZN (fun hc=>?_) (fun hc=>?_)<;>(try simp at hc)<;>(try omega))|(refine Yn (fun hc=>?_) (fun hc=>?_)<;>(try simp at hc)<;>(try omega))|refine Zb 1 [Pt _ (.cells _ 44 _),Pt _ (.cells _ 44 _)] [(4,0),(5,0),(6,0),(7,0),(8,0),(0,3),(2,3),(1,5),(3,5),(9,4),(10,4),(11,0)] [] ?_|refine Zb 4 [] [(0,4),(1,0),(2,0),(3,0),(5,0),(4,4),(6,0),(7,0),(8,0),(9,0),(10,0),(11,0),(12,0),(13,0),(14,0),(15,0),(17,0),(18,0),(16,4),(19,4),(20,0),(21,0),(22,0),(23,0),(24,0),(25,4),(26,0),(27,0)] [] ?_|(refine ZJ (fun hc=>?_) (fun hc=>?_)<;>(try simp at hc)<;>(try omega)))
  all_goals (refine ZF () ?_ trivial;simp [RetV,resV])
set_option maxHeartbeats 8000000 in
theorem lpcBad (hl1:p.gs.length≤1099511627776) (hl2:q.gs.length≤1099511627776) (hr:r.size≤300) (ht:cutS raw 300=r) (h:pchk (shP p)≠0) :
  Enters 4∧Spec prog 4 #[p.v o1 c1,q.v o2 c2,.string raw] [Sl 3 zf o1 c1 p.gs,Sl 3 zf o2 c2 q.gs,Usg,P10] [] (RetV (.bool true)):=by
 have k1:=Ya p o1 c1 hl1
 have k2:=Ya q o2 c2 hl2
 have z1:(shP p).sp.size≤80:=Zl _ _
 have z2:(shP p).dr.mkr.size≤80:=Zl _ _
 have z3:(shP p).gs.length≤20:=by simp [shP];omega
 have z4:(shP q).gs.length≤20:=by simp [shP];omega
 generalize shP p=P at *
 generalize shP q=Q at *
 have m1:=fun o c=>Y4 P o c (by omega) (by omega) (by omega)
 have m2:=fun o c=>Wa P o c h (by omega) (by omega) (by omega)
 have m3:=fun o c=>YI P o c (by omega) (by omega) (by omega)
 have m4:=fun o c o' c'=>Yl P Q o o' c c' (by omega) (by omega)
 have m5:=fun o c o' c'=>YH P Q o o' c c' (by omega) (by omega)
 have m6:=fun o c o' c'=>Yl P P o o' c c' (by omega) (by omega)
 have m10:=Zu r (by omega)
 have e1:decide (P=P)=true:=by simp
 rw [e1] at m6
 generalize decide (P=Q)=B at *
 generalize pchk P=e at *
 clear z1 z2 z3 z4 e1
 cases hd:pdec r with
 | none=>
  simp only [hd,Option.getD_none,Option.isSome_none,Bool.false_eq_true,if_false] at m10
  have n1:=fun o c=>YH Pr.z Pr.z o none c 0 (by decide) (by decide)
  rw [show decide (Pr.z=Pr.z)=true by simp] at n1
  obtain ⟨x1,x2,x3,x4,x5,xs,x7,x8,⟨x9,x10⟩,x11⟩:=P
  obtain ⟨y1,y2,y3,y4,y5,ys,y7,y8,⟨y9,y10⟩,y11⟩:=Q
  simp only [Pr.v] at k1 k2 m1 m2 m3 m4 m5 m6
  refine ZI [_,_,_] func4 ntmps4 fun G w hp=>?_
  refine k_add (sl_nil 3 zf) ?_
  repeat' (first|refine ZC ?_|refine ZB ?_|refine ZS ?_|refine ZD ?_|refine ZR ?_|refine Zr ?_|refine ZV ?_|refine ZO (fun b=>?_)|refine YE (fun b=>?_)|refine ZL ?_|refine ZG ?_|refine Zj ?_|refine Zv ?_|refine r_one ?_|refine Yd ?_|refine XD ?_|refine r_ldN ?_|refine r_al (fun b=>?_)|refine r_bs (fun b=>?_)|refine r_st ?_|refine Zw ?_|refine ZA (k1) (fun _ _=>?_)|refine l_call0 (k1) (fun _ _=>?_)|refine ZH (k1) (fun _ _=>?_)|refine ZE (k1) (fun _ _=>?_)|refine ZA (k2) (fun _ _=>?_)|refine l_call0 (k2) (fun _ _=>?_)|refine ZH (k2) (fun _ _=>?_)|refine ZE (k2) (fun _ _=>?_)|refine ZA (m1 _ _) (fun _ _=>?_)|refine l_call0 (m1 _ _) (fun _ _=>?_)|refine ZH (m1 _ _) (fun _ _=>?_)|refine ZE (m1 _ _) (fun _ _=>?_)|refine ZA (m2 _ _) (fun _ _=>?_)|refine l_call0 (m2 _ _) (fun _ _=>?_)|refine ZH (m2 _ _) (fun _ _=>?_)|refine ZE (m2 _ _) (fun _ _=>?_)|refine ZA (ZP) (fun _ _=>?_)|refine l_call0 (ZP) (fun _ _=>?_)|refine ZH (ZP) (fun _ _=>?_)|refine ZE (ZP) (fun _ _=>?_)|refine ZA (m3 _ _) (fun _ _=>?_)|refine l_call0 (m3 _ _) (fun _ _=>?_)|refine ZH (m3 _ _) (fun _ _=>?_)|refine ZE (m3 _ _) (fun _ _=>?_)|refine ZA (m6 _ _ _ _) (fun _ _=>?_)|refine l_call0 (m6 _ _ _ _) (fun _ _=>?_)|refine ZH (m6 _ _ _ _) (fun _ _=>?_)|refine ZE (m6 _ _ _ _) (fun _ _=>?_)|refine ZA (m4 _ _ _ _) (fun _ _=>?_)|refine l_call0 (m4 _ _ _ _) (fun _ _=>?_)|refine ZH (m4 _ _ _ _) (fun _ _=>?_)|refine ZE (m4 _ _ _ _) (fun _ _=>?_)|refine ZA (m5 _ _ _ _) (fun _ _=>?_)|refine l_call0 (m5 _ _ _ _) (fun _ _=>?_)|refine ZH (m5 _ _ _ _) (fun _ _=>?_)|refine ZE (m5 _ _ _ _) (fun _ _=>?_)|refine ZA (m10) (fun _ _=>?_)|refine l_call0 (m10) (fun _ _=>?_)|refine ZH (m10) (fun _ _=>?_)|refine ZE (m10) (fun _ _=>?_)|refine ZA (n1 _ _) (fun _ _=>?_)|refine l_call0 (n1 _ _) (fun _ _=>?_)|refine ZH (n1 _ _) (fun _ _=>?_)|refine ZE (n1 _ _) (fun _ _=>?_)|refine YS 300 ?_|rw [ht]|refine r_up ?_|(refine ZN (fun hc=>?_) (fun hc=>?_)<;>(try simp at hc)<;>(try omega))|(refine Yn (fun hc=>?_) (fun hc=>?_)<;>(try simp at hc)<;>(try omega))|refine Zb 1 [Pt _ (.cells _ 44 _),Pt _ (.cells _ 44 _)] [(4,0),(5,0),(6,0),(7,0),(8,0),(0,3),(2,3),(1,5),(3,5),(9,4),(10,4),(11,0)] [] ?_|refine Zb 4 [] [(0,4),(1,0),(2,0),(3,0),(5,0),(4,4),(6,0),(7,0),(8,0),(9,0),(10,0),(11,0),(12,0),(13,0),(14,0),(15,0),(17,0),(18,0),(16,4),(19,4),(20,0),(21,0),(22,0),(23,0),(24,0),(25,4),(26,0),(27,0)] [] ?_|(refine ZJ (fun hc=>?_) (fun hc=>?_)<;>(try simp at hc)<;>(try omega)))
  all_goals (refine ZF () ?_ trivial;simp [RetV,resV])
 | some z=>
  simp only [hd,Option.getD_some,Option.isSome_some,if_true] at m10
  obtain ⟨i1,i2⟩:=XI hd
  obtain ⟨i3,i4⟩:=penc_big i2
  obtain ⟨q1,q2,q3,q4,q5,q6⟩:=Zs i1
  obtain ⟨q7,q8,q9⟩:=Z7 q4
  have n1:=fun o c=>Y4 z o c (by omega) (by omega) (by omega)
  rw [i1] at n1
  have n2:=fun o c=>Xj z o c i1 (by omega) (by omega)
  rw [pdec_canon hd] at n2
  clear i1 i2 i3 i4 q1 q2 q3 q4 q5 q6 q7 q8 q9 hd
  obtain ⟨x1,x2,x3,x4,x5,xs,x7,x8,⟨x9,x10⟩,x11⟩:=P
  obtain ⟨y1,y2,y3,y4,y5,ys,y7,y8,⟨y9,y10⟩,y11⟩:=Q
  obtain ⟨u1,u2,u3,u4,u5,us,u7,u8,⟨u9,u10⟩,u11⟩:=z
  simp only [Pr.v] at k1 k2 m1 m2 m3 m4 m5 m6 m10 n1 n2
  refine ZI [_,_,_] func4 ntmps4 fun G w hp=>?_
  repeat' (first|refine ZC ?_|refine ZB ?_|refine ZS ?_|refine ZD ?_|refine ZR ?_|refine Zr ?_|refine ZV ?_|refine ZO (fun b=>?_)|refine YE (fun b=>?_)|refine ZL ?_|refine ZG ?_|refine Zj ?_|refine Zv ?_|refine r_one ?_|refine Yd ?_|refine XD ?_|refine r_ldN ?_|refine r_al (fun b=>?_)|refine r_bs (fun b=>?_)|refine r_st ?_|refine Zw ?_|refine ZA (k1) (fun _ _=>?_)|refine l_call0 (k1) (fun _ _=>?_)|refine ZH (k1) (fun _ _=>?_)|refine ZE (k1) (fun _ _=>?_)|refine ZA (k2) (fun _ _=>?_)|refine l_call0 (k2) (fun _ _=>?_)|refine ZH (k2) (fun _ _=>?_)|refine ZE (k2) (fun _ _=>?_)|refine ZA (m1 _ _) (fun _ _=>?_)|refine l_call0 (m1 _ _) (fun _ _=>?_)|refine ZH (m1 _ _) (fun _ _=>?_)|refine ZE (m1 _ _) (fun _ _=>?_)|refine ZA (m2 _ _) (fun _ _=>?_)|refine l_call0 (m2 _ _) (fun _ _=>?_)|refine ZH (m2 _ _) (fun _ _=>?_)|refine ZE (m2 _ _) (fun _ _=>?_)|refine ZA (ZP) (fun _ _=>?_)|refine l_call0 (ZP) (fun _ _=>?_)|refine ZH (ZP) (fun _ _=>?_)|refine ZE (ZP) (fun _ _=>?_)|refine ZA (m3 _ _) (fun _ _=>?_)|refine l_call0 (m3 _ _) (fun _ _=>?_)|refine ZH (m3 _ _) (fun _ _=>?_)|refine ZE (m3 _ _) (fun _ _=>?_)|refine ZA (m6 _ _ _ _) (fun _ _=>?_)|refine l_call0 (m6 _ _ _ _) (fun _ _=>?_)|refine ZH (m6 _ _ _ _) (fun _ _=>?_)|refine ZE (m6 _ _ _ _) (fun _ _=>?_)|refine ZA (m4 _ _ _ _) (fun _ _=>?_)|refine l_call0 (m4 _ _ _ _) (fun _ _=>?_)|refine ZH (m4 _ _ _ _) (fun _ _=>?_)|refine ZE (m4 _ _ _ _) (fun _ _=>?_)|refine ZA (m5 _ _ _ _) (fun _ _=>?_)|refine l_call0 (m5 _ _ _ _) (fun _ _=>?_)|refine ZH (m5 _ _ _ _) (fun _ _=>?_)|refine ZE (m5 _ _ _ _) (fun _ _=>?_)|refine ZA (m10) (fun _ _=>?_)|refine l_call0 (m10) (fun _ _=>?_)|refine ZH (m10) (fun _ _=>?_)|refine ZE (m10) (fun _ _=>?_)|refine ZA (n1 _ _) (fun _ _=>?_)|refine l_call0 (n1 _ _) (fun _ _=>?_)|refine ZH (n1 _ _) (fun _ _=>?_)|refine ZE (n1 _ _) (fun _ _=>?_)|refine ZA (n2 _ _) (fun _ _=>?_)|refine l_call0 (n2 _ _) (fun _ _=>?_)|refine ZH (n2 _ _) (fun _ _=>?_)|refine ZE (n2 _ _) (fun _ _=>?_)|refine YS 300 ?_|rw [ht]|refine r_up ?_|(refine ZN (fun hc=>?_) (fun hc=>?_)<;>(try simp at hc)<;>(try omega))|(refine Yn (fun hc=>?_) (fun hc=>?_)<;>(try simp at hc)<;>(try omega))|refine Zb 1 [Pt _ (.cells _ 44 _),Pt _ (.cells _ 44 _)] [(4,0),(5,0),(6,0),(7,0),(8,0),(0,3),(2,3),(1,5),(3,5),(9,4),(10,4),(11,0)] [] ?_|refine Zb 4 [] [(0,4),(1,0),(2,0),(3,0),(5,0),(4,4),(6,0),(7,0),(8,0),(9,0),(10,0),(11,0),(12,0),(13,0),(14,0),(15,0),(17,0),(18,0),(16,4),(19,4),(20,0),(21,0),(22,0),(23,0),(24,0),(25,4),(26,0),(27,0)] [] ?_|(refine ZJ (fun hc=>?_) (fun hc=>?_)<;>(try simp at hc)<;>(try omega)))
  all_goals (refine ZF () ?_ trivial;simp [RetV,resV])
theorem lawPChecks_ok (hl1:p.gs.length≤1099511627776) (hl2:q.gs.length≤1099511627776) :
  Enters 4∧Spec prog 4 #[p.v o1 c1,q.v o2 c2,.string raw] [Sl 3 zf o1 c1 p.gs,Sl 3 zf o2 c2 q.gs,Usg,P10] [] (RetV (.bool true)):=by
 by_cases h:pchk (shP p)=0
 ·exact lpcFit p q o1 o2 c1 c2 raw (cutS raw 300) hl1 hl2 (Zl _ _) rfl h
 ·exact lpcBad p q o1 o2 c1 c2 raw (cutS raw 300) hl1 hl2 (Zl _ _) rfl h
end
section
open Go.ChangeShapes Go.WideShapes Go.ChangeAt
section
variable {H:Type} {enc:TypeId×Value→H} {P:Program} {W:World}
theorem trod_sl_keep {n k t e:Nat} {cs:List Value} {x:DataW H×List MemPlace} (hu:P.underlying t=some (.slice e)) (hpl:plainT P k e=true) (hc0:0<P.cellsOf e) (h:DataW.trod enc P W 0 (fun _=>true) true n t cs=some x) :
  (∃a len cap,cs=[.slice a len cap])∧∀(W':World) (sp:Nat→Bool),Kept W W'→(∀b<W.heap.size,sp b=true)→DataW.trod enc P W' 0 sp true n t cs=some x:=by
 cases n with
 | zero=>simp [DataW.trod] at h
 | succ n=>
  have hsl:∃a len cap,cs=[.slice a len cap]:=by
   rcases cs with _|⟨c,_|⟨c2,cs⟩⟩
   ·simp [DataW.trod,hu] at h
   ·cases c with
    | slice a len cap=>exact ⟨a,len,cap,rfl⟩
    | _=>simp [DataW.trod,hu] at h
   ·simp [DataW.trod,hu] at h
  refine ⟨hsl,fun W' sp hk hsp=>?_⟩
  obtain ⟨a,len,cap,rfl⟩:=hsl
  cases a with
  | none=>
   have h0:len=0∧cap=0:=by
    unfold DataW.trod at h
    rw [hu] at h
    split at h<;>simp_all
   obtain ⟨rfl,rfl⟩:=h0
   simp [DataW.trod,hu] at h ⊢
   exact h
  | some a=>
   simp only [DataW.trod,hu] at h ⊢
   split at h
   ·rename_i hb
    rw [if_pos hb]
    simp only [Option.bind_eq_some_iff,if_true,Option.map_eq_some_iff] at h ⊢
    obtain ⟨elems,he,rest,hr,hx⟩:=h
    have hel1:∀i x,((W.cells? 0 (a.add (i * P.cellsOf e)) (P.cellsOf e)).bind (DataW.trod enc P W 0 (fun _=>true) true n e))=some x→((W'.cells? 0 (a.add (i * P.cellsOf e)) (P.cellsOf e)).bind (DataW.trod enc P W' 0 sp true n e))=some x:=fun i x hx=>by
     simp only [Option.bind_eq_some_iff] at hx ⊢
     obtain ⟨cs,hcs,htr⟩:=hx
     exact ⟨cs,hk.cells hcs,(YM n _ _ W 0 _ _ _ _ hpl htr).2 W' 0 sp true⟩
    refine ⟨elems,Z9 (fun i _ x hx=>hel1 i x hx) he,rest,?_,hx⟩
    by_cases hcap:cap=len
    ·have hrest:rest=[]:=by
      subst hcap
      simp at hr
      exact hr
     subst hrest
     subst hcap
     split<;>simp
    ·have hlt:a.block<W.heap.size:=by
      obtain ⟨x,_,hx2⟩:=Z1 hr 0 0 (by rw [List.getElem?_range (by omega)])
      simp only [Option.bind_eq_some_iff] at hx2
      obtain ⟨cs,hcs,_⟩:=hx2
      obtain ⟨_,c,fz,hblk,_⟩:=Xn hcs hc0
      have h1:=(Array.getElem?_eq_some_iff.1 hblk).1
      have h2:(a.add ((len+0) * P.cellsOf e)).block=a.block:=by unfold Addr.add;split<;>rfl
      rwa [h2] at h1
     rw [if_pos (hsp _ hlt)]
     exact Z9 (fun j _ x hx=>hel1 (len+j) x hx) hr
   ·cases h
def okT (P:Program):Nat→TypeId→Bool
 | 0,_=>false
 | k+1,t=>plainT P (k+1) t || match P.underlying t with
  | some (.slice e)=>plainT P k e && decide (0<P.cellsOf e)
  | some (.struct fs)=>(fs.toList.all fun f=>okT P k f.type) && (contig P 0 fs.toList == some (P.cellsOf t))
  | _=>false
inductive SL where
 | p (k:SK)
 | l (t:Nat)
def slF (g:TypeId→Option (List SL)):List Field→Option (List SL)
 | []=>some []
 | f::fs=>match g f.type,slF g fs with
  | some a,some r=>some (a++r)
  | _,_=>none
def sls (P:Program):Nat→TypeId→Option (List SL)
 | 0,_=>none
 | k+1,t=>if plainT P (k+1) t then (sks P (k+1) t).map fun l=>l.map .p else match P.underlying t with
  | some (.slice _)=>some [.l t]
  | some (.struct fs)=>slF (sls P k) fs.toList
  | _=>none
def CellL (enc:TypeId×Value→H) (P:Program) (W:World) (M:Nat):SL→Value→Prop
 | .p k,v=>CellOK M k v
 | .l t,v=>(∃a len cap,v = .slice a len cap)∧∃n x,DataW.trod enc P W 0 (fun _=>true) true n t [v]=some x∧Rows.uptoBulk x.1≤M
def CellsL (enc:TypeId×Value→H) (P:Program) (W:World) (M:Nat):List SL→List Value→Prop
 | [],[]=>True
 | k::ks,v::vs=>CellL enc P W M k v∧CellsL enc P W M ks vs
 | _,_=>False
theorem Xa {M:Nat}:∀{a b:List SL} {x y:List Value},CellsL enc P W M a x→CellsL enc P W M b y→CellsL enc P W M (a++b) (x++y)
 | [],_,[],_,_,h=>h
 | _::_,_,_::_,_,⟨h1,h2⟩,h=>⟨h1,Xa h2 h⟩
theorem WQ {M M':Nat} (hM:M≤M'):∀{a:List SL} {x:List Value},CellsL enc P W M a x→CellsL enc P W M' a x
 | [],[],_=>trivial
 | k::_,_::_,⟨h1,h2⟩=>⟨by
   cases k with
   | p k=>exact (YV hM (a:=[k]) (x:=[_]) ⟨h1,trivial⟩).1
   | l t=>obtain ⟨ha,n,x,hx,hl⟩:=h1;exact ⟨ha,n,x,hx,Nat.le_trans hl hM⟩,WQ hM h2⟩
theorem cellsL_of {M:Nat}:∀{a:List SK} {x:List Value},CellsOK M a x→CellsL enc P W M (a.map .p) x
 | [],[],_=>trivial
 | _::_,_::_,⟨h1,h2⟩=>⟨h1,cellsL_of h2⟩
theorem slF_ok {M:Nat} {g:TypeId→Option (List SL)}:∀(fs:List Field) (o total:Nat) (cs:List Value) (ks:List SL),contig P o fs=some total→cs.length=total→slF g fs=some ks→
  (∀f ∈ fs,∀k,g f.type=some k→CellsL enc P W M k ((cs.drop f.offset).take (P.cellsOf f.type)))→CellsL enc P W M ks (cs.drop o)
 | [],o,total,cs,ks,h,h1,h2,_=>by
  simp only [contig,Option.some.injEq] at h
  simp only [slF,Option.some.injEq] at h2
  rw [←h2,List.drop_eq_nil_of_le (by omega)];trivial
 | f::fs,o,total,cs,ks,h,h1,h2,hp=>by
  unfold contig at h
  split at h
  ·rename_i ho
   unfold slF at h2
   split at h2
   ·rename_i a r ha hr
    obtain rfl:=Option.some.inj h2
    have ih:=slF_ok fs (o+P.cellsOf f.type) total cs r h h1 hr fun g hg=>hp g (by simp [hg])
    have h3:=hp f (by simp) a ha
    rw [ho] at h3
    rw [←List.take_append_drop (P.cellsOf f.type) (cs.drop o),List.drop_drop]
    exact Xa h3 ih
   ·cases h2
  ·cases h
theorem XY:∀(n k:Nat) (t:TypeId) (cs:List Value) (x:DataW H×List MemPlace) (ks:List SL),okT P k t=true→sls P k t=some ks→DataW.trod enc P W 0 (fun _=>true) true n t cs=some x→
  CellsL enc P W (Rows.uptoBulk x.1) ks cs∧∀(W':World) (sp:Nat→Bool),Kept W W'→(∀b<W.heap.size,sp b=true)→DataW.trod enc P W' 0 sp true n t cs=some x
 | 0,_,_,_,_,_,_,_,h=>by simp [DataW.trod] at h
 | n+1,0,_,_,_,_,hp,_,_=>by simp [okT] at hp
 | n+1,k+1,t,cs,x,ks,hp,hk,h=>by
  unfold okT at hp
  unfold sls at hk
  by_cases hpl:plainT P (k+1) t=true
  ·rw [if_pos hpl] at hk
   simp only [Option.map_eq_some_iff] at hk
   obtain ⟨l,hl,rfl⟩:=hk
   exact ⟨cellsL_of (Yz (n+1) (k+1) t W 0 _ _ cs x l hpl hl h),fun W' sp _ _=>(YM (n+1) (k+1) t W 0 _ _ cs x hpl h).2 W' 0 sp true⟩
  ·rw [if_neg hpl] at hk
   simp only [Bool.not_eq_true] at hpl
   rw [hpl,Bool.false_or] at hp
   split at hp
   ·rename_i e hu
    rw [hu] at hk
    obtain rfl:=Option.some.inj hk
    rw [Bool.and_eq_true,decide_eq_true_eq] at hp
    obtain ⟨⟨a,len,cap,rfl⟩,h2⟩:=trod_sl_keep hu hp.1 hp.2 h
    exact ⟨⟨⟨⟨a,len,cap,rfl⟩,n+1,x,h,Nat.le_refl _⟩,trivial⟩,h2⟩
   ·rename_i fs hu
    rw [hu] at hk
    rw [Bool.and_eq_true,List.all_eq_true,beq_iff_eq] at hp
    simp only [DataW.trod,hu] at h ⊢
    split at h
    ·rename_i hl
     simp only [Option.map_eq_some_iff] at h
     obtain ⟨xs,hxs,rfl⟩:=h
     refine ⟨?_,fun W' sp hkp hsp=>?_⟩
     ·have:=slF_ok (M:=Rows.uptoBulk (.agg (xs.map (·.1)))) (g:=sls P k) (enc:=enc) (W:=W) fs.toList 0 _ cs ks hp.2 hl hk fun f hf k' hk'=>by
       obtain ⟨i,hi,rfl⟩:=List.mem_iff_getElem.1 hf
       obtain ⟨y,hy1,hy2⟩:=Z1 hxs i _ (List.getElem?_eq_getElem hi)
       refine WQ ?_ (XY n k _ _ y k' (hp.1 _ hf) hk' hy2).1
       have hm:y.1 ∈ xs.map (·.1):=List.mem_map.2 ⟨y,List.mem_of_getElem? hy1,rfl⟩
       have:=XG hm
       simp only [Rows.uptoBulk];omega
      simpa using this
     ·rw [if_pos hl,Z9 (fun f hf y hy=>?_) hxs]
      ·rfl
      ·have hs:∃k',sls P k f.type=some k':=slF_mem hk hf
       obtain ⟨k',hk'⟩:=hs
       exact (XY n k _ _ y k' (hp.1 f hf) hk' hy).2 W' sp hkp hsp
    ·cases h
   ·cases hp
where slF_mem {g:TypeId→Option (List SL)}:∀{fs:List Field} {ks:List SL} {f:Field},slF g fs=some ks→f ∈ fs→∃k,g f.type=some k
 | [],_,_,_,h=>by cases h
 | f::fs,ks,f',h,hm=>by
  unfold slF at h
  split at h
  ·rename_i a r ha hr
   rcases List.mem_cons.1 hm with rfl|hm
   ·exact ⟨a,ha⟩
   ·exact slF_mem hr hm
  ·cases h
theorem ZX {M:Nat} {k:SK} {ks:List SL} {cs:List Value} (h:CellsL enc P W M (.p k::ks) cs):∃v cs',cs=v::cs'∧CellOK M k v∧CellsL enc P W M ks cs':=by
 obtain _|⟨v,cs⟩:=cs
 ·exact h.elim
 ·exact ⟨v,cs,rfl,h⟩
theorem cellsL_l {M t:Nat} {ks:List SL} {cs:List Value} (h:CellsL enc P W M (.l t::ks) cs):∃v cs',cs=v::cs'∧CellL enc P W M (.l t) v∧CellsL enc P W M ks cs':=by
 obtain _|⟨v,cs⟩:=cs
 ·exact h.elim
 ·exact ⟨v,cs,rfl,h⟩
theorem cellsL_nil {M:Nat} {cs:List Value} (h:CellsL enc P W M [] cs):cs=[]:=by
 cases cs
 ·rfl
 ·exact h.elim
end
theorem plI64:plainT prog 5 3=true:=by decide +kernel
theorem okPr:okT prog 5 44=true:=by decide +kernel
theorem slPr:sls prog 5 44=some [.p (.i .i64),.p (.i .i64),.p (.i .i64),.p (.i .i64),.p (.i .i64),.l 38,.p .s,.p (.i .i64),.p .s,.p (.i .i64),.p (.i .i64)]:=by kernel_rfl
section
variable {H:Type} {enc:TypeId×Value→H} {W:World} {base:Nat} {v:Value} {d:DataW H} {p:List MemPlace}
theorem open_pr (hv:Value.okWide prog W .any base 44 v) (h:DataW.Trod enc prog W 0 (fun _=>true) true 44 v d p) :
  ∃(q:Pr) (o:Option Addr) (cap:Nat),v=q.v o cap∧(Sl 3 zf o cap q.gs).p (fun b=>W.heap[b]?)∧q.gs.length≤Rows.uptoBulk d∧
   ∀(W':World) (sp:Nat→Bool),Kept W W'→(∀b<W.heap.size,sp b=true)→DataW.Trod enc prog W' 0 sp true 44 v d p:=by
 obtain ⟨cs,rfl⟩:=aggS underlying44 hv
 obtain ⟨n,hn⟩:=h
 obtain ⟨hc,hk⟩:=XY n 5 _ _ _ _ okPr slPr hn
 have hkeep:∀(W':World) (sp:Nat→Bool),Kept W W'→(∀b<W.heap.size,sp b=true)→DataW.Trod enc prog W' 0 sp true 44 (.agg cs) d p:=fun W' sp h1 h2=>⟨n,hk W' sp h1 h2⟩
 dsimp only at hc
 have hcl:(Value.agg cs).cells.toList=cs.toList:=rfl
 rw [hcl] at hc
 obtain ⟨v1,c,e1,⟨z1,rfl,_⟩,g1⟩:=ZX hc
 obtain ⟨v2,c,rfl,⟨z2,rfl,_⟩,g2⟩:=ZX g1
 obtain ⟨v3,c,rfl,⟨z3,rfl,_⟩,g3⟩:=ZX g2
 obtain ⟨v4,c,rfl,⟨z4,rfl,_⟩,g4⟩:=ZX g3
 obtain ⟨v5,c,rfl,⟨z5,rfl,_⟩,g5⟩:=ZX g4
 obtain ⟨v6,c,rfl,⟨⟨a,len,cap,rfl⟩,m,x,hx,hb⟩,g6⟩:=cellsL_l g5
 obtain ⟨v7,c,rfl,⟨s7,rfl,_⟩,g7⟩:=ZX g6
 obtain ⟨v8,c,rfl,⟨z8,rfl,_⟩,g8⟩:=ZX g7
 obtain ⟨v9,c,rfl,⟨s9,rfl,_⟩,g9⟩:=ZX g8
 obtain ⟨v10,c,rfl,⟨z10,rfl,_⟩,g10⟩:=ZX g9
 obtain ⟨v11,c,rfl,⟨z11,rfl,_⟩,g11⟩:=ZX g10
 obtain rfl:=cellsL_nil g11
 obtain ⟨o,cp,es,h1,h2,h3,_,_⟩:=open_slC (enc:=enc) (P:=prog) (W:=W) (v:=.slice a len cap) (d:=x.1) (p:=x.2) (fa:=zf) (Q:=fun _ _=>True) 3 underlying38 plI64 (by decide +kernel) (fun _=>show 1=_ by decide +kernel) (fun n cs x hx=>by
  cases n with
  | zero=>simp [DataW.trod] at hx
  | succ n=>
   obtain ⟨z,rfl,_,hz⟩:=DataW.trod_int underlying3 hx
   exact ⟨z,rfl,trivial⟩) (fun _ _ _ _ _=>trivial) ⟨a,len,cap,rfl⟩ ⟨m,hx⟩
 injection h1 with h4 h5 h6
 subst h4 h6
 have hcs:cs = #[.int .i64 z1,.int .i64 z2,.int .i64 z3,.int .i64 z4,.int .i64 z5,.slice a len cap,.string s7,.int .i64 z8,.string s9,.int .i64 z10,.int .i64 z11]:=by rw [←Array.toList_inj];exact e1
 exact ⟨⟨z1,z2,z3,z4,z5,es,s7,z8,⟨s9,z10⟩,z11⟩,a,cap,by rw [hcs,h5];rfl,h2,by show es.length≤_;omega,hkeep⟩
end
end
end Go.Proofs.YtgfohjbcccfolaaGreatDoor
