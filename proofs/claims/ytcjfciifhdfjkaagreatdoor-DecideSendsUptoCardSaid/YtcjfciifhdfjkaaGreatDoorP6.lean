/-
  The contracts of the statements' items, scenes, rules, beginnings.
  Deciding by no rules.
  The contracts of the statements' scenes, texts, rules, beginnings.
  The operations of the statements' world: repair, answer.
  The operations of the statements' world: what is ready leaves; a tick.
  The statements' beginning and play.
  The contract of the model's comparison with a book.
  Books of decisions: the first example of the chapter.
  The contract of the statements' first example.
  The bounds of what is played; contracts of a world's parts.
  The law DecidePlays.
  What the given cards of the laws about rules lay in memory.
  What the given cards of the laws about decisions lay in memory.
  Conditions: those that each theorem states.
-/
import Derived.Test.YtcjfciifhdfjkaaGreatDoorP5
import Derived.Test.YtcjfciifhdfjkaaGreatDoorP4
import Derived.Test.YtcjfciifhdfjkaaGreatDoorP2
import Derived.Test.YtcjfciifhdfjkaaGreatDoorP3
import Derived.Stop.LaidErr
import Derived.Deep.DeepWitnessRowRef
import Derived.Deep.DeepLaidRun
import Derived.Lib.LaidU8
import Derived.Lib.DecodeN
import Derived.Shelf.Vars
set_option maxRecDepth 10000
namespace Go.Proofs.YtcjfciifhdfjkaaGreatDoor
open Go.RowKit Go.Proofs.Tryz
section
variable {n:Nat} {C:Cx} {Q:Exit→Act→World→Prop} {E E':List (Nat×Value)} {F F' F1 Fs F0:List Pf} {R R' R0 Rs N N' A:List HP} {k k':List Fr} {ops l:List Oper} {L L':List (Nat×Nat)} {Tl:List Nat} {i d:Nat} {t t2 ty0:TypeId} {x y:Operand} {pos:String} {aft:Array Edge} {gd:Option (Nat×Bool)} {b:Nat}
theorem run_ixD {T sz m cap j:Nat} {kd:IntKind} {rs tr:TRow} {a:Act} {w:World} (hlt:j<m) (hx:a.eval x = .slice (some ⟨b,0,none⟩) m cap) (hy:a.eval y = .int kd (j:Int))
  (hts:lookT tab t=some rs) (hrs:rs.k = .slice T) (hT:lookT tab T=some tr) (hsz:tr.size=sz):(execOp a.eval ⟨some d,.indexAddr t x y,ty0,pos,aft,gd⟩).run prog w = .ok (.value (.pointer (some ⟨b,j * sz,none⟩))) w:=by
 have hs1:=ZR.sizeOf hT w
 rw [hsz] at hs1
 simp only [execOp,Instr.indexAt,asIntOf,hx,hy,Sem.run_bind,YG hts hrs,Result.andThen,Sem.run_pure]
 rw [if_pos ⟨by omega,by omega⟩]
 simp only [Sem.run_bind,hs1,Sem.run_pure,Result.andThen,Int.toNat_natCast]
 rw [Yu rfl,Nat.zero_add]
theorem l_ixD {T sz m cap:Nat} {z:Int} {kd:IntKind} {rs tr:TRow} (j:Nat) (hlt:j<m) (nx:Wl n C ops.toArray k Q l ((d,.pointer (some ⟨b,j * sz,none⟩))::E) F R)
  (hw:wantL ops E ⟨some d,.indexAddr t x y,ty0,pos,aft,gd⟩=some true:=by rfl) (hn:Nat.blt d n=true:=by rfl) (hx:ev E x=some (.slice (some ⟨b,0,none⟩) m cap):=by rfl) (hy:ev E y=some (.int kd z):=by rfl)
  (hts:lookT tab t=some rs:=by rfl) (hrs:rs.k = .slice T:=by rfl) (hT:lookT tab T=some tr:=by rfl) (hsz:tr.size=sz:=by rfl) (hz:z=(j:Int):=by first|rfl|omega):Wl n C ops.toArray k Q (⟨some d,.indexAddr t x y,ty0,pos,aft,gd⟩::l) E F R:=
 l_q (fun a w ha=>by
  subst hz
  exact run_ixD hlt (ha.ev (x:=x) (by rw [ZF];exact hx)) (ha.ev (x:=y) (by rw [ZF];exact hy)) hts hrs hT hsz) nx (by intro c h;cases h) hw hn
theorem r_ixD {T sz m cap:Nat} {z:Int} {kd:IntKind} {rs tr:TRow} (j:Nat) (hlt:j<m) (nx:Wr n C ops k Q Tl Fs R L ((d,.pointer (some ⟨b,j * sz,none⟩))::E) F N)
  (ho:nth ops i=some ⟨some d,.indexAddr t x y,ty0,pos,aft,gd⟩:=by rfl) (hw:wantL ops E ⟨some d,.indexAddr t x y,ty0,pos,aft,gd⟩=some true:=by rfl) (hx:ev E x=some (.slice (some ⟨b,0,none⟩) m cap):=by rfl) (hy:ev E y=some (.int kd z):=by rfl)
  (hts:lookT tab t=some rs:=by rfl) (hrs:rs.k = .slice T:=by rfl) (hT:lookT tab T=some tr:=by rfl) (hsz:tr.size=sz:=by rfl) (hz:z=(j:Int):=by first|rfl|omega):Wr n C ops k Q Tl Fs R ((i,0)::L) E F N:=
 r_q (fun a w ha=>by
  subst hz
  exact run_ixD hlt (ha.ev (x:=x) (by rw [ZF];exact hx)) (ha.ev (x:=y) (by rw [ZF];exact hy)) hts hrs hT hsz) nx ho hw
theorem r_bsx {T m ix dx ty1 il dl tyl sz:Nat} {op:Op} {z:Int} {kd:IntKind} {cs:Array Value} {ty tl:TypeId} {fzn:Nat×Nat} {v:Value} {rs tr:TRow} {pos1 pos2:String} {aft1 aft2:Array Edge} {gd1 gd2:Option (Nat×Bool)} (j:Nat) (hlt:j<m) (hv:ldv tl cs.toList (j * sz)=some v)
  (nx:∀b,Wr n C ops k Q Tl Fs R L ((dl,v)::(dx,.pointer (some ⟨b,j * sz,none⟩))::(d,.slice (some ⟨b,0,none⟩) m m)::E) F N)
  (ho:nth ops i=some ⟨some d,op,ty0,pos,aft,gd⟩:=by rfl) (hw:wantL ops E ⟨some d,op,ty0,pos,aft,gd⟩=some true:=by rfl)
  (ha:allocOf tab (look E) op=some (.cells cs ty fzn,fun b=>.slice (some ⟨b,0,none⟩) m m):=by rfl)
  (hox:nth ops ix=some ⟨some dx,.indexAddr t (.tmp d) y,ty1,pos1,aft1,gd1⟩:=by rfl) (hwx:∀b,wantL ops ((d,.slice (some ⟨b,0,none⟩) m m)::E) ⟨some dx,.indexAddr t (.tmp d) y,ty1,pos1,aft1,gd1⟩=some true:=by intro;rfl)
  (hol:nth ops il=some ⟨some dl,.load tl (.tmp dx),tyl,pos2,aft2,gd2⟩:=by rfl) (hwl:∀b,wantL ops ((dx,.pointer (some ⟨b,j * sz,none⟩))::(d,.slice (some ⟨b,0,none⟩) m m)::E) ⟨some dl,.load tl (.tmp dx),tyl,pos2,aft2,gd2⟩=some true:=by intro;rfl)
  (hy:∀b,ev ((d,.slice (some ⟨b,0,none⟩) m m)::E) y=some (.int kd z):=by intro;rfl)
  (hts:lookT tab t=some rs:=by rfl) (hrs:rs.k = .slice T:=by rfl) (hT:lookT tab T=some tr:=by rfl) (hsz:tr.size=sz:=by rfl) (hz:z=(j:Int):=by first|rfl|omega) :
  Wr n C ops k Q Tl Fs R ((i,2)::(ix,0)::(il,0)::L) E F N:=
 Z6 ho fun hp hr w st hz1 sb=>by
  subst hz
  simp only [ZW hw]
  refine ⟨_,_,ha,fun b hb=>?_⟩
  intro o' ho'
  rw [YW] at hox
  simp only [List.getElem?_toArray] at ho'
  obtain rfl:=Option.some.inj (ho'.symm.trans hox)
  have e:upd (look E) (some d) (.slice (some ⟨b,0,none⟩) m m)=look ((d,.slice (some ⟨b,0,none⟩) m m)::E):=rfl
  simp only [e,ZW (hwx b)]
  have hev:ev ((d,.slice (some ⟨b,0,none⟩) m m)::E) (.tmp d)=some (.slice (some ⟨b,0,none⟩) m m):=by simp [ev,look]
  refine ⟨.pointer (some ⟨b,j * sz,none⟩),fun a w ha2 hin=>run_ixD hlt (ha2.ev (x:=.tmp d) (by rw [ZF];exact hev)) (ha2.ev (x:=y) (by rw [ZF];exact hy b)) hts hrs hT hsz,?_⟩
  intro o2 ho2
  rw [YW] at hol
  simp only [List.getElem?_toArray] at ho2
  obtain rfl:=Option.some.inj (ho2.symm.trans hol)
  have e2:upd (look ((d,.slice (some ⟨b,0,none⟩) m m)::E)) (some dx) (.pointer (some ⟨b,j * sz,none⟩))=look ((dx,.pointer (some ⟨b,j * sz,none⟩))::(d,.slice (some ⟨b,0,none⟩) m m)::E):=rfl
  simp only [e2,ZW (hwl b)]
  have hev2:ev ((dx,.pointer (some ⟨b,j * sz,none⟩))::(d,.slice (some ⟨b,0,none⟩) m m)::E) (.tmp dx)=some (.pointer (some ⟨b,j * sz,none⟩)):=by simp [ev,look]
  refine ⟨v,fun a w ha2 hin=>?_,nx b hp hr w st _ (sb.trans (V6 hb))⟩
  have hr1:=Yp (w:=w) (hin b (.cells cs ty fzn) (by unfold un one;simp)) hv
  simp only [execOp,Instr.loadAt,ha2.ev (x:=.tmp dx) (by rw [ZF];exact hev2),Instr.sureAddr,Sem.run_bind,Sem.run_pure,Result.andThen,hr1]
end
def It.v6 (x:It):Value:=.agg #[.int .u8 x.b,.int .u8 x.n,.int .u8 x.t,.int .u8 x.c,.int .u8 x.g,.int .u8 x.x]
theorem tm3 (a:Nat):(a:Int).tmod 3=((a % 3:Nat):Int):=rfl
theorem tm4 (a:Nat):(a:Int).tmod 4=((a % 4:Nat):Int):=rfl
theorem tm8 (a:Nat):(a:Int).tmod 8=((a % 8:Nat):Int):=rfl
theorem wn_ld (k:Nat):ldv 36 [.string ⟨#[51]⟩,.string ⟨#[51,46,49]⟩,.string ⟨#[52]⟩] (k % 3 * 1)=some (.string (wn52 k)):=by
 unfold wn52
 have h:k % 3=0∨k % 3=1∨k % 3=2:=by omega
 rcases h with h|h|h<;>rw [h]<;>rfl
theorem tg_ld (k:Nat):ldv 9 [.string ⟨#[108,112]⟩,.string ⟨#[98,97,110,107]⟩,.string ⟨#[101,118,101,64,116,104,101,114,101]⟩] (k % 3 * 1)=some (.string (tg52 k)):=by
 unfold tg52
 have h:k % 3=0∨k % 3=1∨k % 3=2:=by omega
 rcases h with h|h|h<;>rw [h]<;>rfl
theorem tx_ld (k:Nat):ldv 9 [.string ⟨#[97]⟩,.string ⟨#[98]⟩,.string ⟨#[]⟩,.string ⟨#[111,114,100,101,114,32,53]⟩] (k % 4 * 1)=some (.string (tx52 k)):=by
 unfold tx52
 have h:k % 4=0∨k % 4=1∨k % 4=2∨k % 4=3:=by omega
 rcases h with h|h|h|h<;>rw [h]<;>rfl
def s1f (s:ByteArray):List Value:=[.string s]
set_option maxHeartbeats 4000000 in
theorem entry_ok (x:It) (h8:It8 x):Enters 51∧Spec prog 51 #[x.v6] [] [] (RetV (itE x).w):=by
 obtain ⟨xb,xn,xt,xc,xg,xx⟩:=x
 obtain ⟨h1,h2,h3,h4,h5,h6⟩:=h8
 unfold It.v6 itE
 dsimp only at *
 have g1:=wn_ld xb
 have g2:=tg_ld xg
 have g3:=tx_ld xx
 generalize wn52 xb=w1 at *
 generalize tg52 xg=w2 at *
 generalize tx52 xx=w3 at *
 refine ZE [_] func51 ntmps51 fun G w hp=>?_
 repeat' (first|refine ZC ?_|refine ZH (fun b=>?_)|refine l_ixD (m:=3) (xb % 3) (by omega) ?_|refine l_ld ?_ (hv:=g1)|refine r_ixD (m:=3) (xg % 3) (by omega) ?_|refine r_ldN ?_ (hv:=g2)|refine r_bsx (m:=4) (xx % 4) (by omega) g3 (fun b=>?_)|refine ZI 2 [] [(0,0),(1,0),(2,0),(3,0),(4,0),(6,0),(7,0),(8,0),(12,0),(13,0),(14,0),(5,1),(9,0),(10,3),(11,2),(15,0),(16,0),(17,0),(18,1)] [19] ?_|fail)
 rw [wrapi (z:=(xn:Int)) (by omega) (by omega),wrapi (z:=(xt:Int)) (by omega) (by omega),wrapi (z:=(xc:Int)) (by omega) (by omega),tm3,tm8,tm4,wrapi (z:=1+((xc % 4:Nat):Int)) (by omega) (by omega)]
 exact ZD () rfl trivial
theorem dec_nil (c:Cq):decideF [] c=if posF 5 c.kind=false then (⟨0,ofL []⟩,-1) else (⟨5,ofL []⟩,-1):=rfl
set_option maxHeartbeats 4000000 in
theorem Vb (c:Cq):Enters 59∧Spec prog 59 #[.pointer none,cqa c] [] [] (RetV (DeV (decideF [] c))):=by
 have n1:=ruLen0_ok
 have m1:=Yd 5 c.kind
 rw [dec_nil]
 cases hp5:posF 5 c.kind with
 | false=>
  rw [hp5] at m1
  rw [if_pos rfl]
  refine ZE [_,_] func59 ntmps59 fun G w hp=>?_
  repeat' (first|refine ZC ?_|refine ZH (fun b=>?_)|refine ZA (m1) (fun _ _=>?_)|fail)
  all_goals exact ZD () rfl trivial
 | true=>
  rw [hp5] at m1
  rw [if_neg (by decide)]
  refine ZE [_,_] func59 ntmps59 fun G w hp=>?_
  repeat' (first|refine ZC ?_|refine ZH (fun b=>?_)|refine ZA (m1) (fun _ _=>?_)|refine ZA (n1) (fun _ _=>?_)|fail)
  rename_i b3 _ _ _ _
  generalize b=b4 at *
  refine Zj (X:=Unit) (fun _=>[(3,pv0 b3),(4,pv0 b4),(16,.int .i64 0),(17,.int .i64 0)]) (fun _=>[]) (fun _=>[Pt b3 (.cells (cqf c).toArray 40),Pt b4 (.cells #[.int .i64 0,.string ⟨#[]⟩] 42)]) (fun _=>0) () ⟨rfl,rfl,rfl,rfl,trivial⟩ ?_
  intro _
  repeat' (first|refine ZC ?_|refine ZM ?_|fail)
  exact ZD () rfl trivial
def Od.sh (x:Od):Od:={x with a:=⟨x.a.k,cutS x.a.t 5000⟩}
theorem Wz (x:Od):Enters 46∧Spec prog 46 #[x.v] [] [] (RetV x.sh.v):=by
 obtain ⟨k,now,nq,ru,rq,at',ix,a⟩:=x
 unfold Od.v Od.sh
 dsimp only
 refine ZE [_] func46 ntmps46 fun G w hp=>?_
 repeat' (first|refine ZC ?_|refine ZH (fun b=>?_)|refine l_cutS 5000 ?_|fail)
 exact ZD () rfl trivial
def rl0:List ByteArray:=[⟨#[105,102,32,109,105,115,115,105,110,103,32,97,110,100,32,99,104,97,110,110,101,108,32,112,114,105,110,116,58,32,107,101,101,112]⟩,⟨#[105,102,32,99,104,97,110,103,101,100,58,32,115,101,110,100]⟩,⟨#[105,102,32,110,101,119,58,32,104,111,108,100]⟩,⟨#[105,102,32,110,101,119,32,97,110,100,32,116,97,114,103,101,116,32,105,115,32,34,108,112,34,58,32,115,101,110,100]⟩,⟨#[105,102,32,109,105,115,115,105,110,103,58,32,99,111,109,112,101,110,115,97,116,101,32,34,110,111,116,32,123,111,108,100,125,34]⟩,⟨#[105,102,32,98,121,32,51,46,49,58,32,97,115,107]⟩,⟨#[105,102,32,99,104,97,110,110,101,108,32,111,114,100,101,114,58,32,99,111,109,112,101,110,115,97,116,101,32,34,115,116,111,114,110,111,32,123,110,117,109,98,101,114,125,34]⟩,⟨#[107,101,101,112]⟩,⟨#[115,101,110,100]⟩,⟨#[105,102,32,116,105,99,107,32,62,32,51,58,32,104,111,108,100]⟩]
def rlC:Array Value:=#[.string ⟨#[105,102,32,109,105,115,115,105,110,103,32,97,110,100,32,99,104,97,110,110,101,108,32,112,114,105,110,116,58,32,107,101,101,112]⟩,.string ⟨#[105,102,32,99,104,97,110,103,101,100,58,32,115,101,110,100]⟩,.string ⟨#[105,102,32,110,101,119,58,32,104,111,108,100]⟩,.string ⟨#[105,102,32,110,101,119,32,97,110,100,32,116,97,114,103,101,116,32,105,115,32,34,108,112,34,58,32,115,101,110,100]⟩,.string ⟨#[105,102,32,109,105,115,115,105,110,103,58,32,99,111,109,112,101,110,115,97,116,101,32,34,110,111,116,32,123,111,108,100,125,34]⟩,.string ⟨#[105,102,32,98,121,32,51,46,49,58,32,97,115,107]⟩,.string ⟨#[105,102,32,99,104,97,110,110,101,108,32,111,114,100,101,114,58,32,99,111,109,112,101,110,115,97,116,101,32,34,115,116,111,114,110,111,32,123,110,117,109,98,101,114,125,34]⟩,.string ⟨#[107,101,101,112]⟩,.string ⟨#[115,101,110,100]⟩,.string ⟨#[105,102,32,116,105,99,107,32,62,32,51,58,32,104,111,108,100]⟩]
def rl (k:Nat):ByteArray:=rl0.getD (k % 10) ⟨#[]⟩
theorem rl_ld (k:Nat):ldv 9 rlC.toList (k % 10 * 1)=some (.string (rl k)):=by
 unfold rl
 have h:k % 10=0∨k % 10=1∨k % 10=2∨k % 10=3∨k % 10=4∨k % 10=5∨k % 10=6∨k % 10=7∨k % 10=8∨k % 10=9:=by omega
 rcases h with h|h|h|h|h|h|h|h|h|h<;>rw [h]<;>rfl
theorem rl_size (k:Nat):(rl k).size≤50:=by
 unfold rl
 have h:k % 10=0∨k % 10=1∨k % 10=2∨k % 10=3∨k % 10=4∨k % 10=5∨k % 10=6∨k % 10=7∨k % 10=8∨k % 10=9:=by omega
 rcases h with h|h|h|h|h|h|h|h|h|h<;>rw [h]<;>decide
def rtS (s:ByteArray) (k:Nat):ByteArray:=s++rl k++⟨#[10]⟩
def rtx (l:List Nat):ByteArray:=(l.take 6).foldl rtS ⟨#[]⟩
theorem rtS_size (s:ByteArray) (k:Nat):(rtS s k).size≤s.size+51:=by
 have:=rl_size k
 have h1:(ByteArray.mk #[10]).size=1:=rfl
 unfold rtS
 rw [ByteArray.size_append,ByteArray.size_append,h1]
 omega
theorem rtF_size:∀(l:List Nat) (s:ByteArray),(l.foldl rtS s).size≤s.size+51 * l.length
 | [],_=>Nat.le_refl _
 | k::l,s=>by
  have h:=rtF_size l (rtS s k)
  have:=rtS_size s k
  rw [List.foldl_cons,List.length_cons]
  omega
theorem rtx_size (l:List Nat):(rtx l).size≤306:=by
 have h:=rtF_size (l.take 6) ⟨#[]⟩
 have h1:(ByteArray.mk #[]).size=0:=rfl
 have h2:(l.take 6).length≤6:=by rw [List.length_take];omega
 unfold rtx
 omega
def ruL (l:List Nat):List Ru:=match parF (rtx l) with
 | .ok r=>r
 | .error _=>[]
theorem cq_ok {c:Cq} (hq:qchk c=0) (hw:c.who.size≤1000):CqI c∧CqS c:=by
 obtain ⟨-,h2,h3,h4,-,h6,h7⟩:=qchk_all hq
 have u1:0≤c.old.us∧c.old.us≤65535∧c.old.tg.size≤64∧c.old.tx.size≤4096:=by
  rcases h6 with h|h
  ·rw [h];decide
  ·obtain ⟨-,a1,a2,a3,a4⟩:=Wo h;exact ⟨a3,a4,a1,a2⟩
 have u2:0≤c.new.us∧c.new.us≤65535∧c.new.tg.size≤64∧c.new.tx.size≤4096:=by
  rcases h7 with h|h
  ·rw [h];decide
  ·obtain ⟨-,a1,a2,a3,a4⟩:=Wo h;exact ⟨a3,a4,a1,a2⟩
 have e1:0≤(subO c).us∧(subO c).us≤65535:=by unfold subO;split<;>omega
 have e2:0≤subT c∧subT c≤1073741824:=by unfold subT;split<;>omega
 exact ⟨⟨by omega,by omega,by omega,by omega,by omega,by omega⟩,⟨by omega,by omega,by omega,by omega,by omega⟩⟩
def DecOK (pr:Option Addr) (f:Pf) (l:List Ru):Prop:=∀c,qchk c=0→c.who.size≤1000→Enters 59∧Spec prog 59 #[.pointer pr,cqa c] [f] [] (RetV (DeV (decideF l c)))
theorem decOK_nil (f:Pf):DecOK none f []:=fun c _ _=>⟨(Vb c).1,(Vb c).2.more⟩
theorem decOK_par {s:ByteArray} {r:List Ru} (h:parF s = .ok r) (hs:s.size≤70000) (b:Nat):DecOK (some ⟨b,0,none⟩) (allF [RlsF b r,P10,MxL]) r:=fun c hq hw=>by
 obtain ⟨h1,h2⟩:=par_ok h
 obtain ⟨h3,h4⟩:=cq_ok hq hw
 have n:=ruDecide_ok b r c h3 h4 hs h2 h1
 exact ⟨n.1,Spec.allF (l:=[RlsF b r,P10,MxL]) (F:=[]) n.2⟩
abbrev RuPost (l:List Ru):Post:=⟨{y:Option Addr×Pf // DecOK y.1 y.2 l},fun y=>.pointer y.1.1,fun _=>True,fun y=>[y.1.2],fun _=>[]⟩
theorem ruL_D (l:List Nat):RuD (ruL l):=by
 unfold ruL
 split
 ·rename_i r hr
  obtain ⟨h1,h2⟩:=par_ok hr
  exact ruD_ok (fun x hx hk=>by rw [(h2 x hx).a.2.2.2 hk];simp [isE,ofL]) h1
 ·exact ruD_ok (fun x hx=>by cases hx) (by decide)
theorem u8w {z:Nat} (h:z<256):IntKind.i64.wrap ((z:Nat):Int)=(z:Int):=wrapi (by omega) (by omega)
set_option maxHeartbeats 4000000 in
theorem rules52_ok (q:Option Addr×Nat) (l:List Nat) (h8:∀z ∈ l,z<256) (hl:l.length≤1000000000):Enters 47∧Spec prog 47 #[.slice q.1 l.length q.2] [SlB q l,ErA,P10,MxL] [] (RuPost (ruL l)):=by
 have hrs:=rtx_size l
 have n1:=ruParse_ok (rtx l) (by omega)
 obtain ⟨qo,qc⟩:=q
 refine ZE [_] func47 ntmps47 fun G w hp=>?_
 refine XJ (Y:=Nat) 3 (fun b=>[(0,.slice qo l.length qc),(3,.slice (some ⟨b,0,none⟩) 10 10),(4,.string ⟨#[]⟩)]) (fun _=>[SlB (qo,qc) l,ErA,P10,MxL]) (fun b=>[Pt b (.cells rlC 9)]) ?_ ?_
 ·intro b
  repeat' (first|refine ZC ?_|fail)
  refine YD (X:={x:Nat // x≤l.length∧x≤6}) (Y:=Unit) (fun x=>[(0,.slice qo l.length qc),(3,.slice (some ⟨b,0,none⟩) 10 10),(4,.string ((l.take x.1).foldl rtS ⟨#[]⟩)),(5,.int .i64 (x.1:Int))]) (fun _=>[SlB (qo,qc) l,ErA,P10,MxL]) (fun _=>[Pt b (.cells rlC 9)]) (fun x=>6 - x.1)
   (fun _=>[(4,.string (rtx l))]) (fun _=>[ErA,P10,MxL]) (fun _=>[])
   ⟨0,Nat.zero_le _,Nat.zero_le _⟩ ⟨rfl,rfl,rfl,rfl,trivial⟩ ?_ ?_
  ·intro _
   unfold ruL
   cases hp:parF (rtx l) with
   | ok r=>
    rw [hp] at n1
    repeat' (first|refine ZC ?_|refine ZA (n1) (fun _ _=>?_)|fail)
    rename_i b2 _
    refine Zx (F1:=[RlsF b2 r,P10,MxL]) (f:=allF [RlsF b2 r,P10,MxL]) (fun _ h=>h) ?_
    exact ZD ⟨(some ⟨b2,0,none⟩,allF [RlsF b2 r,P10,MxL]),decOK_par hp (by omega) b2⟩ rfl trivial
   | error e=>
    rw [hp] at n1
    repeat' (first|refine ZC ?_|refine ZA (n1) (fun _ _=>?_)|fail)
    refine Yw (f:=⟨fun _=>True,fun _ _ _ h=>h⟩) (fun _=>trivial) ?_
    exact ZD ⟨(none,⟨fun _=>True,fun _ _ _ h=>h⟩),decOK_nil _⟩ rfl trivial
  ·rintro hx ⟨i,hi,hi6⟩
   dsimp only
   by_cases hlt:i<l.length∧i<6
   ·obtain ⟨z,hz⟩:∃z,l[i]? = some z:=⟨_,List.getElem?_eq_getElem hlt.1⟩
    have hz8:=h8 z (List.mem_of_getElem? hz)
    have htk:=ZT hz
    have g1:=rl_ld z
    have hs:=rtF_size (l.take i) ⟨#[]⟩
    have hs0:(ByteArray.mk #[]).size=0:=rfl
    have hsl:(l.take i).length≤6:=by rw [List.length_take];omega
    have hs2:=rl_size z
    have e1:(l.take (i+1)).foldl rtS ⟨#[]⟩=(l.take i).foldl rtS ⟨#[]⟩++rl z++⟨#[10]⟩:=by rw [htk,List.foldl_append];rfl
    generalize (l.take i).foldl rtS ⟨#[]⟩=s at *
    generalize rl z=rz at *
    have hs3:s.size+rz.size≤9223372036854775807:=by omega
    have hs4:(s++rz).size+(ByteArray.mk #[10]).size≤9223372036854775807:=by
     have h1:(ByteArray.mk #[10]).size=1:=rfl
     rw [ByteArray.size_append,h1];omega
    repeat' (first|refine ZC ?_|refine ZU (es:=l) i z hz (fun b off=>?_)|refine ZQ ?_|rw [u8w hz8]|refine l_ixD (m:=10) (z % 10) (by omega) ?_|refine l_ld ?_ (hv:=g1)|refine WR ?_ (h:=hs3)|refine WR ?_ (h:=hs4)|(refine ZG (fun hc=>?_) (fun hc=>?_)<;>(try simp at hc)<;>(try omega))|(refine ZB (fun hc=>?_) (fun hc=>?_)<;>(try simp at hc)<;>(try omega))|fail)
    rw [wrapi (z:=(i:Int)+1) (by omega) (by omega),←e1]
    exact ZJ ⟨i+1,by omega,by omega⟩ (by show 6 - (i+1)<6 - i;omega) ⟨rfl,rfl,rfl,rfl,trivial⟩
   ·have e:l.take i=l.take 6:=by
     by_cases h6:i=6
     ·rw [h6]
     ·rw [List.take_of_length_le (by omega),List.take_of_length_le (by omega)]
    rw [e]
    repeat' (first|refine ZC ?_|(refine ZG (fun hc=>?_) (fun hc=>?_)<;>(try simp at hc)<;>(try omega))|(refine ZB (fun hc=>?_) (fun hc=>?_)<;>(try simp at hc)<;>(try omega))|fail)
    all_goals exact Z2 hx () ⟨rfl,trivial⟩
 ·intro hx
  repeat' (first|refine k_to hx _ ⟨rfl,rfl,rfl,trivial⟩|refine ZC ?_|refine ZH (fun b=>?_)|fail)
set_option maxHeartbeats 4000000 in
theorem scene52_ok (q:Option Addr×Nat) (l:List It) (h8:∀x ∈ l,It8 x) (hl:l.length≤1000000000):Enters 45∧Spec prog 45 #[.slice q.1 l.length q.2] [SlI q l,Usg] [] ⟨Nat,fun b=>.pointer (some ⟨b,0,none⟩),fun _=>True,fun b=>[St (some ⟨b,0,none⟩) (scn l)],fun _=>[]⟩:=by
 have n0:=UW
 obtain ⟨qo,qc⟩:=q
 refine ZE [_] func45 ntmps45 fun G w hp=>?_
 repeat' (first|refine ZC ?_|refine ZA (n0) (fun _ _=>?_)|fail)
 rename_i b0 _
 refine Zj (X:={x:Nat×Nat // x.1≤l.length∧x.1≤8}) (fun x=>[(0,.slice qo l.length qc),(3,.pointer (some ⟨x.1.2,0,none⟩)),(4,.int .i64 (x.1.1:Int))]) (fun x=>[SlI (qo,qc) l,Usg,St (some ⟨x.1.2,0,none⟩) ((l.take x.1.1).foldl scS [])]) (fun _=>[]) (fun x=>8 - x.1.1)
  ⟨(0,b0),Nat.zero_le _,Nat.zero_le _⟩ ⟨rfl,rfl,rfl,trivial⟩ ?_
 rintro ⟨⟨i,bs⟩,hi,hi8⟩
 dsimp only at hi hi8 ⊢
 by_cases hlt:i<l.length∧i<8
 ·obtain ⟨x,hx⟩:∃x,l[i]? = some x:=⟨_,List.getElem?_eq_getElem hlt.1⟩
  have hx8:=h8 x (List.mem_of_getElem? hx)
  have htk:=ZT hx
  have n1:=entry_ok x hx8
  have n2:=VT (itE x).o
  have n3:=outName_ok (itE x).who (itE x).nu (itE x).tk
  obtain ⟨hw1,hw2,hw3⟩:=XV x.b
  have hw4:(itE x).who.size≤3:=hw3
  have hw5:lvalid (itE x).who.data.toList=true:=hw2
  obtain ⟨m1,m2⟩:=itE_n x
  have n4:=Ve (some ⟨bs,0,none⟩) ((l.take i).foldl scS []) (onD (itE x).who (itE x).nu (itE x).tk) (oencS (itE x).o) (by show (itE x).who.size≤_;omega) (by show (ByteArray.mk #[]).size≤_;decide)
  have e0:withE ((l.take i).foldl scS []) (onD (itE x).who (itE x).nu (itE x).tk) (oencS (itE x).o)=0:=by
   have h1:=(onD_chk (t:=(itE x).tk) hw5 (n:=(itE x).nu) (by omega)).2 (by omega)
   have h2:=(scL_ok (l.take i) esI_nil).2
   have h3:(l.take i).length≤8:=by rw [List.length_take];omega
   have h4:(oencS (itE x).o).size≤5000:=by
    rw [oencS,if_pos (itE_o x)]
    exact oenc_len (itE_o x)
   rw [List.length_nil] at h2
   rw [withE,if_neg (by simp [h1]),if_neg (by omega),if_neg (by omega)]
  have e1:(l.take (i+1)).foldl scS []=insO (onD (itE x).who (itE x).nu (itE x).tk) (oencS (itE x).o) ((l.take i).foldl scS []):=by rw [htk,List.foldl_append];rfl
  rw [e0] at n4
  rw [itE_o x] at n2
  generalize hes:(l.take i).foldl scS []=es at *
  generalize hes2:(l.take (i+1)).foldl scS []=es2 at *
  generalize itE x=e at *
  subst e1
  repeat' (first|refine ZC ?_|refine ZH (fun b=>?_)|refine ZA (n1) (fun _ _=>?_)|refine ZA (n2) (fun _ _=>?_)|refine ZA (n3) (fun _ _=>?_)|refine ZA (n4) (fun _ _=>?_)|refine ZU (es:=l) i x hx (fun b off=>?_)|refine ZQ ?_|(refine ZG (fun hc=>?_) (fun hc=>?_)<;>(try simp at hc)<;>(try omega))|(refine ZB (fun hc=>?_) (fun hc=>?_)<;>(try simp at hc)<;>(try omega))|fail)
  rename_i q2 _
  rw [wrapi (z:=(i:Int)+1) (by omega) (by omega)]
  refine Zm (X:=Nat) (Fx:=fun b=>[St (some ⟨b,0,none⟩) (insO (onD e.who e.nu e.tk) (oencS e.o) es)]) (p:=fun b=>q2=some ⟨b,0,none⟩) (f:=StR q2 0 (insO (onD e.who e.nu e.tk) (oencS e.o) es)) .here (fun h hh=>?_) (fun b2 hb2=>?_)
  ·have hh':(St q2 (insO (onD e.who e.nu e.tk) (oencS e.o) es)).p h:=hh
   obtain ⟨tr,g1,g2,b3,p3,g3,g4⟩:=hh'
   subst g3
   refine ⟨b3,rfl,fun g hg=>?_⟩
   obtain rfl:=List.mem_singleton.1 hg
   exact ⟨tr,g1,g2,b3,p3,rfl,g4⟩
  ·subst hb2
   exact ZJ ⟨(i+1,b2),by show i+1≤_;omega,by show i+1≤8;omega⟩ (by show 8 - (i+1)<8 - i;omega) ⟨rfl,rfl,rfl,trivial⟩ (hf:=by dsimp only;rw [hes2];(repeat (first|exact trivial|exact Sel.here|apply Sel.there|apply EntF.cons)))
 ·have e:l.take i=l.take 8:=by
   by_cases h6:i=8
   ·rw [h6]
   ·rw [List.take_of_length_le (by omega),List.take_of_length_le (by omega)]
  rw [e]
  repeat' (first|refine ZC ?_|refine ZM ?_|(refine ZG (fun hc=>?_) (fun hc=>?_)<;>(try simp at hc)<;>(try omega))|(refine ZB (fun hc=>?_) (fun hc=>?_)<;>(try simp at hc)<;>(try omega))|fail)
  all_goals exact ZD bs rfl trivial
abbrev wdT:Nat:=34
abbrev WdR (pw b m l s:Nat):HP:=Pt pw (.cells #[.pointer (some ⟨b,0,none⟩),.pointer (some ⟨m,0,none⟩),.pointer (some ⟨l,0,none⟩),.pointer (some ⟨s,0,none⟩)] wdT)
abbrev WdL (pw b m l s:Nat) (W:Wd):List HP:=[WdR pw b m l s,BkR bkT b W.B,BkR moT m W.B,Lg l W.ls]
abbrev DoPost (pw b m l:Nat) (W:Wd):Post:=⟨Nat,fun _=>.bool true,fun _=>True,fun s=>[St (some ⟨s,0,none⟩) W.es],fun s=>WdL pw b m l s W⟩
def opD (o:Od):OpD:=⟨o.k,o.now,ruL o.ru,o.at',o.ix,⟨o.a.k,cutS o.a.t 5000⟩⟩
theorem tm5 (a:Nat):(a:Int).tmod 5=((a % 5:Nat):Int):=rfl
theorem Spec.swap {P:Program} {f:FuncId} {args:Array Value} {x y:Pf} {A:List HP} {post:Post} (s:Spec P f args [x,y] A post):Spec P f args [y,x] A post:=fun G w hp hs=>
 s G w hp (hs.facts fun hp hF x hx=>hF x (by simp only [List.mem_cons,List.not_mem_nil,or_false] at hx ⊢;exact hx.symm))
theorem sameDec2_ok (o1:Option Addr) (c1:Nat) (us:List Dc) (m:Nat) (B:Bk) (q:Bq) (lo:Nat) (hlo:lo≤B.dn.length) (hl:us.length≤1000000) (hlb:B.dn.length≤1000000) :
  Enters 49∧Spec prog 49 #[.slice o1 us.length c1,slVd q.1.1 19 lo B.dn.length q.1.2] [SlD (o1,c1) us] (BkL moT m B q) ⟨Unit,fun _=>.bool (decide (us=B.dn.drop lo)),fun _=>True,fun _=>[],fun _=>BkL moT m B q⟩:=by
 have n:=sameDec_ok o1 (slO q.1.1 q.1.2 19 lo) c1 (q.1.2 - lo) us (B.dn.drop lo) hl (by rw [List.length_drop];omega)
 have n2:=lendLE (L:=BkL moT m B q) (g:=SlD (slO q.1.1 q.1.2 19 lo,q.1.2 - lo) (B.dn.drop lo)) (fun h hh=>by
  obtain ⟨h1,h2,d,s1,s2,hx,k1,k2,d',t1,t2,hy,l1,l2,d2,u1,u2,hz,-⟩:=hh
  exact Pf.m _ _ _ (t1.trans s2) (row_slD dcf_len hlo hy)) (⟨n.1,n.2.swap⟩:Enters _∧Spec _ _ _ _ _ _)
 rw [List.length_drop] at n2
 exact n2
theorem bdD_le:∀k<12,(bdD k).1≤13920∧(bdD k).2≤22500:=by decide +kernel
set_option maxHeartbeats 8000000 in
theorem do_rep (pw b m l s:Nat) {k:Nat} {W:Wd} (hI:WdI k W) (hk:k≤11) (o:Od) (h8:Od8 o) (hn:o.now.length≤1000000000) (hr:o.ru.length≤1000000000) (hm:o.k % 5=0∨o.k % 5=1) :
  Enters 18∧Spec prog 18 #[.pointer (some ⟨pw,0,none⟩),o.v] [St (some ⟨s,0,none⟩) W.es,OdF o,Usg,ErA,P10,MxL] (WdL pw b m l s W) (DoPost pw b m l (wdDo W (opD o))):=by
 have n0:=Wz o
 have e0:wdDo W (opD o)=wdRep W (opD o):=if_pos hm
 obtain ⟨s1,s2⟩:=scn_ok o.now
 have hal:=Xc (scn o.now)
 obtain ⟨b11,b12⟩:=hI.n1
 obtain ⟨hb1,hb2⟩:=bdD_le k (by omega)
 have hcl:=consE_len (allE (scn o.now)) W.ls
 have hcw:∀c ∈ consE (allE (scn o.now)) W.ls,c.who.size≤1000:=fun c hc=>by
  rcases consE_who hc with ⟨y,hy,e⟩|⟨x,hx,e⟩
  ·rw [e];exact hI.wd.2.2 y hy
  ·rw [e];exact s1.all.2 x hx
 have n1:=scene52_ok o.nq o.now h8.i hn
 have n2:=fun bs=>lendE (r:=Lg l W.ls) (fun _ hh=>lg_f hh) (WH l bs (scn o.now) W.ls (by omega) (by omega))
 have n3:=rules52_ok o.rq o.ru h8.r hr
 rw [e0]
 unfold wdRep opD
 dsimp only
 generalize hcs:consE (allE (scn o.now)) W.ls=cs at *
 obtain ⟨kk,now,nq,ru,rq,at',ix,⟨ak,tx0⟩⟩:=o
 unfold Od.v Od.sh at n0
 unfold Od.v
 dsimp only at *
 generalize cutS tx0 5000=tx at *
 have hk5:∃z:Int,(kk:Int).tmod 5=z∧(z=0∨z=1):=⟨_,rfl,by rw [tm5];omega⟩
 obtain ⟨z,hz,hz2⟩:=hk5
 generalize b=bb at *
 refine ZE [_,_] func18 ntmps18 fun G w hp=>?_
 refine Zm (X:=Unit) (Fx:=fun _=>[SlI nq now,SlB rq ru]) (p:=fun _=>True) (f:=OdF ⟨kk,now,nq,ru,rq,at',ix,⟨ak,tx0⟩⟩) (.there .here) (fun h hh=>⟨(),trivial,fun f hf=>by
  simp only [List.mem_cons,List.not_mem_nil,or_false] at hf
  rcases hf with rfl|rfl
  ·exact hh.1
  ·exact hh.2⟩) (fun _ _=>?_)
 rcases hz2 with rfl|rfl
 all_goals
  repeat' (first|refine ZC ?_|refine ZH (fun b=>?_)|refine ZA (n0) (fun _ _=>?_)|refine ZA (n1) (fun _ _=>?_)|refine ZA (n2 _) (fun _ _=>?_)|refine ZA (n3) (fun _ _=>?_)|rw [hz]|fail)
  rename_i bs _ q _ y _
  refine YA (T:=cqT) (sz:=14) (f:=cqf) (o:=q.1) (cap:=q.2) cs ?_ rfl rfl
  by_cases h0:rpE W.B cs at'=0
  ·rw [if_pos h0]
   obtain ⟨hq,ht,hs⟩:=Vm h0
   have hrd:=hI.rd
   have n4:=repair_ok bb W.B q.1 q.2 cs y.1.1 (ruL ru) at' y.1.2 (by omega) (by omega) ⟨hI.B.r0,by omega⟩ (fun c hc=>Nat.le_trans (hcw c hc) (by decide)) h0 (fun c hc=>y.2 c (hq c hc) (hcw c hc))
   have n5:=mrepair_ok m W.B hI.B q.1 q.2 cs y.1.1 (ruL ru) at' y.1.2 (by omega) (by omega) (by omega) (fun c hc=>Nat.le_trans (hcw c hc) (by decide)) h0 (fun c hc=>y.2 c (hq c hc) (hcw c hc))
   have hl:=rpF_len (ruL ru) (W.B.rd+1) at' cs ⟨knB W.B.dn,[],[]⟩
   have hdl:(rpB W.B (ruL ru) cs at').dn.length=W.B.dn.length+(rpL (ruL ru) (W.B.rd+1) at' W.B.dn cs).d.length:=List.length_append
   have hd2:(rpL (ruL ru) (W.B.rd+1) at' W.B.dn cs).d.length+(rpL (ruL ru) (W.B.rd+1) at' W.B.dn cs).o.length≤0+0+cs.length:=hl
   have e6:(rpB W.B (ruL ru) cs at').dn.drop W.B.dn.length=(rpL (ruL ru) (W.B.rd+1) at' W.B.dn cs).d:=List.drop_left
   have n6:=fun o1 c1 o2 c2 p2 d2=>sameDec2_ok o1 c1 (rpL (ruL ru) (W.B.rd+1) at' W.B.dn cs).d m (rpB W.B (ruL ru) cs at') ((o2,c2),(p2,d2)) W.B.dn.length (by omega) (by omega) (by omega)
   rw [e6] at n6
   simp only [decide_true] at n6
   generalize rpB W.B (ruL ru) cs at'=B' at *
   generalize rpL (ruL ru) (W.B.rd+1) at' W.B.dn cs=L' at *
   repeat' (first|refine ZC ?_|refine ZK (n4) (fun _ _=>?_)|refine ZK (n5) (fun _ _=>?_)|refine ZA (n6 _ _ _ _ _ _) (fun _ _=>?_)|refine ZI 10 [BkR bkT _ _] [(0,0),(1,0),(2,0),(3,0),(4,0),(5,0),(6,0),(7,0),(8,4),(9,0),(10,0),(11,0),(12,0),(13,0)] [] ?_|refine ZI 11 [BkR moT _ _] [(0,0),(1,0),(2,0),(3,0),(4,0),(5,0),(6,0),(7,0),(8,4),(9,0),(10,0),(11,0),(12,0),(13,0)] [] ?_|fail)
   refine Y4 (b:=m) (T:=moT) (B:=B') ?_ rfl rfl rfl rfl rfl rfl
   exact ZD bs rfl trivial
  ·rw [if_neg h0]
   have n4:=repair_bad bb W.B q.1 q.2 cs y.1.1 at' (by omega) (fun c hc=>Nat.le_trans (hcw c hc) (by decide)) h0
   have n5:=mrepair_bad m W.B q.1 q.2 cs y.1.1 at' (by omega) (fun c hc=>Nat.le_trans (hcw c hc) (by decide)) h0
   have n6:=sameDec_ok none none 0 0 [] [] (by decide) (by decide)
   refine Yw (f:=SlD (none,0) []) (fun h=>sl_nil _ _ h) ?_
   generalize rpE W.B cs at'=r at *
   repeat' (first|refine ZC ?_|refine ZK (n4) (fun _ _=>?_)|refine ZK (n5) (fun _ _=>?_)|refine ZA (n6) (fun _ _=>?_)|(refine ZG (fun hc=>?_) (fun hc=>?_)<;>(try simp at hc)<;>(try omega))|refine ZI 10 [BkR bkT _ _] [(0,0),(1,0),(2,0),(3,0),(4,0),(5,0),(6,0),(7,0),(8,4),(9,0),(10,0),(11,0),(12,0),(13,0)] [] ?_|refine ZI 11 [BkR moT _ _] [(0,0),(1,0),(2,0),(3,0),(4,0),(5,0),(6,0),(7,0),(8,4),(9,0),(10,0),(11,0),(12,0),(13,0)] [] ?_|(refine ZB (fun hc=>?_) (fun hc=>?_)<;>(try simp at hc)<;>(try omega))|fail)
   exact ZD s rfl trivial
set_option maxHeartbeats 8000000 in
theorem do_ans (pw b m l s:Nat) {k:Nat} {W:Wd} (hI:WdI k W) (hk:k≤11) (o:Od) (h8:Od8 o) (hm:o.k % 5=2) :
  Enters 18∧Spec prog 18 #[.pointer (some ⟨pw,0,none⟩),o.v] [St (some ⟨s,0,none⟩) W.es,OdF o,Usg,ErA,P10,MxL] (WdL pw b m l s W) (DoPost pw b m l (wdDo W (opD o))):=by
 have n0:=Wz o
 have e0:wdDo W (opD o)=wdAns W (opD o):=by
  unfold wdDo
  rw [if_neg (by show ¬(o.k % 5=0∨o.k % 5=1);omega),if_pos (show (opD o).k % 5=2 from hm)]
 obtain ⟨hb1,hb2⟩:=bdD_le k (by omega)
 obtain ⟨b11,b12⟩:=hI.n1
 have b3:=hI.n3
 rw [e0]
 unfold wdAns opD
 dsimp only
 obtain ⟨kk,now,nq,ru,rq,at',ix,⟨ak,tx0⟩⟩:=o
 unfold Od.v Od.sh at n0
 unfold Od.v
 dsimp only at *
 generalize cutS tx0 5000=tx at *
 have hz:(kk:Int).tmod 5=2:=by rw [tm5,hm];rfl
 by_cases h0:ansE W.B ix ⟨ak,tx⟩ at'=0
 ·rw [if_pos h0]
  obtain ⟨i0,ht,hs,c,hc,hp⟩:=UU h0
  obtain ⟨j,rfl⟩:∃j:Nat,ix=(j:Int):=⟨ix.toNat,by omega⟩
  rw [Int.toNat_natCast] at hc ⊢
  rw [hc]
  dsimp only
  have n4:=answer_ok b W.B j c ⟨ak,tx⟩ at' hc ht hs hp (by omega) (by omega)
  have n5:=manswer_ok m W.B j c ⟨ak,tx⟩ at' hc ht hs hp (by omega) (by omega)
  generalize ansB W.B j c ⟨ak,tx⟩ at'=B' at *
  generalize ansD W.B c ⟨ak,tx⟩ at'=D' at *
  have hee:=eqD D' D'
  rw [decide_eq_true rfl] at hee
  refine ZE [_,_] func18 ntmps18 fun G w hp=>?_
  repeat' (first|refine ZC ?_|refine ZH (fun b=>?_)|refine ZA (n0) (fun _ _=>?_)|refine ZK (n4) (fun _ _=>?_)|refine ZK (n5) (fun _ _=>?_)|rw [hz]|refine l_seq (b:=true) ?_ (he:=hee)|refine ZI 17 [BkR bkT _ _] [(0,0),(1,0),(2,0),(3,0),(4,0),(5,0),(6,0),(7,0),(8,0),(9,0),(10,4),(11,0),(12,0),(13,0),(14,1),(15,4),(16,0)] [] ?_|refine ZI 18 [BkR moT _ _] [(0,0),(1,0),(2,0),(3,0),(4,0),(5,0),(6,0),(7,0),(8,0),(9,0),(10,4),(11,0),(12,0),(13,0),(14,1),(15,4),(16,0)] [] ?_|fail)
  exact ZD s rfl trivial
 ·rw [if_neg h0]
  have n4:=lendE (r:=BkR bkT b W.B) (fun h hh=>bk_f h hh) (answer_bad b W.B ix ⟨ak,tx⟩ at' h0)
  have n5:=lendE (r:=BkR moT m W.B) (fun h hh=>bk_f h hh) (manswer_bad m W.B ix ⟨ak,tx⟩ at' h0)
  generalize ansE W.B ix ⟨ak,tx⟩ at'=r at *
  have hee:=eqD Dc.z Dc.z
  rw [decide_eq_true rfl] at hee
  refine ZE [_,_] func18 ntmps18 fun G w hp=>?_
  repeat' (first|refine ZC ?_|refine ZH (fun b=>?_)|refine ZA (n0) (fun _ _=>?_)|refine ZK (n4) (fun _ _=>?_)|refine ZK (n5) (fun _ _=>?_)|rw [hz]|refine l_seq (b:=true) ?_ (he:=hee)|(refine ZG (fun hc=>?_) (fun hc=>?_)<;>(try simp at hc)<;>(try omega))|refine ZI 17 [BkR bkT _ _] [(0,0),(1,0),(2,0),(3,0),(4,0),(5,0),(6,0),(7,0),(8,0),(9,0),(10,4),(11,0),(12,0),(13,0),(14,1),(15,4),(16,0)] [] ?_|refine ZI 18 [BkR moT _ _] [(0,0),(1,0),(2,0),(3,0),(4,0),(5,0),(6,0),(7,0),(8,0),(9,0),(10,4),(11,0),(12,0),(13,0),(14,1),(15,4),(16,0)] [] ?_|fail)
  all_goals exact ZD s rfl trivial
set_option maxHeartbeats 8000000 in
theorem do_rdy (pw b m l s:Nat) {k:Nat} {W:Wd} (hI:WdI k W) (hk:k≤11) (o:Od) (hm:o.k % 5=3) :
  Enters 18∧Spec prog 18 #[.pointer (some ⟨pw,0,none⟩),o.v] [St (some ⟨s,0,none⟩) W.es,OdF o,Usg,ErA,P10,MxL] (WdL pw b m l s W) (DoPost pw b m l (wdDo W (opD o))):=by
 have n0:=Wz o
 have e0:wdDo W (opD o)=wdRdy W:=by
  unfold wdDo
  rw [if_neg (by show ¬(o.k % 5=0∨o.k % 5=1);omega),if_neg (show ¬(opD o).k % 5=2 by show ¬o.k % 5=2;omega),if_pos (show (opD o).k % 5=3 from hm)]
 obtain ⟨hb1,hb2⟩:=bdD_le k (by omega)
 obtain ⟨b11,b12⟩:=hI.n1
 have b2:=hI.el
 have b4:=hI.rd
 have hal:=Xc W.es
 have hrl:=rdy_len (allE W.es) W.ls W.B
 have hll:(W.ls++lvL W.B (rdyF (allE W.es) W.ls W.B)).length≤100000:=by
  unfold lvL
  rw [List.length_append,List.length_map]
  omega
 have hlv:∀(i:Nat) (x:En),(rdyF (allE W.es) W.ls W.B)[i]? = some x→leaveE (W.ls++lvL W.B ((rdyF (allE W.es) W.ls W.B).take i)) ⟨x,W.B.si,W.B.rd⟩=0:=fun i x hx=>rdy_leave hI.B (by omega) (by omega) hI.E.all.1 hI.L hll hx
 have hwho:∀x ∈ rdyF (allE W.es) W.ls W.B,x.who.size≤1099511627776:=fun x hx=>by
  rcases Yj.1 hx with hx|hx
  ·exact Nat.le_trans (hI.E.all.2 x hx.1) (by decide)
  ·obtain ⟨d,i,-,-,-,rfl⟩:=XB hx.1
   exact Nat.zero_le _
 have n4:=lendE (r:=Lg l W.ls) (fun _ hh=>lg_f hh) (lendE (r:=BkR bkT b W.B) (fun h hh=>bk_f h hh) (V2 b l s W.B W.ls W.es (by omega) (by omega) (by omega)))
 have n5:=lendE (r:=Lg l W.ls) (fun _ hh=>lg_f hh) (lendE (r:=BkR moT m W.B) (fun h hh=>bk_f h hh) (mready_ok m l s W.B W.ls W.es (by omega) (by omega) (by omega)))
 rw [e0]
 unfold wdRdy
 generalize rdyF (allE W.es) W.ls W.B=rd at *
 have n6:=fun o1 c1 o2 c2=>lendE (r:=RowE (o2,c2) rd) (g:=SlE (o2,c2) rd) (fun h hh=>row_sl rfl rfl hh) (⟨(VL o1 o2 c1 c2 rd rd (by omega) (by omega)).1,(VL o1 o2 c1 c2 rd rd (by omega) (by omega)).2.swap⟩:Enters _∧Spec _ _ _ _ _ _)
 rw [decide_eq_true (rfl:rd=rd)] at n6
 obtain ⟨kk,now,nq,ru,rq,at',ix,⟨ak,tx0⟩⟩:=o
 unfold Od.v Od.sh at n0
 unfold Od.v
 dsimp only at *
 generalize cutS tx0 5000=tx at *
 have hz:(kk:Int).tmod 5=3:=by rw [tm5,hm];rfl
 generalize b=bb at *
 refine ZE [_,_] func18 ntmps18 fun G w hp=>?_
 repeat' (first|refine ZC ?_|refine ZH (fun b=>?_)|refine ZA (n0) (fun _ _=>?_)|refine ZK (n4) (fun _ _=>?_)|rw [hz]|refine ZI 21 [Lg _ _,BkR bkT _ _] [(0,0),(1,0),(2,0),(3,0),(4,0),(5,0),(6,0),(7,0),(8,0),(9,0),(10,0),(11,0),(12,4),(13,0),(14,0),(15,0),(16,0),(17,0)] [] ?_|fail)
 rename_i q _
 refine YA (T:=50) (sz:=7) (f:=enf) (o:=q.1) (cap:=q.2) rd ?_ rfl rfl
 repeat' (first|refine ZC ?_|refine ZK (n5) (fun _ _=>?_)|refine ZK (n6 _ _ _ _) (fun _ _=>?_)|refine ZI 22 [Lg _ _,BkR moT _ _] [(0,0),(1,0),(2,0),(3,0),(4,0),(5,0),(6,0),(7,0),(8,0),(9,0),(10,0),(11,0),(12,0),(13,0),(14,0),(15,0),(16,4),(17,4),(18,0),(19,0)] [] ?_|fail)
 refine k_bk (T:=moT) (b:=m) fun qm=>?_
 obtain ⟨⟨od,cd⟩,⟨oo,co⟩⟩:=qm
 dsimp only [BkL]
 have e00:Lg l W.ls=Lg l (W.ls++lvL W.B (rd.take 0)):=by simp [lvL]
 rw [e00]
 refine Zj (X:={i:Nat // i≤rd.length}) (fun i=>[(0,.pointer (some ⟨pw,0,none⟩)),(17,.slice q.1 rd.length q.2),(19,.int .i64 (i.1:Int))]) (fun _=>[SlE q rd,St (some ⟨s,0,none⟩) W.es]) (fun i=>[WdR pw bb m l s,BkR bkT bb W.B,Pt m (.cells #[.int .i64 W.B.rd,.int .i64 W.B.si,.slice od W.B.dn.length cd,.slice oo W.B.op.length co] moT),RowD (od,cd) W.B.dn,RowQ (oo,co) W.B.op,Lg l (W.ls++lvL W.B (rd.take i.1))]) (fun i=>rd.length - i.1)
  ⟨0,Nat.zero_le _⟩ ⟨rfl,rfl,rfl,trivial⟩ ?_
 rintro ⟨i,hi⟩
 dsimp only
 by_cases hlt:i<rd.length
 ·obtain ⟨e,he⟩:∃e,rd[i]? = some e:=⟨_,List.getElem?_eq_getElem hlt⟩
  have hln:(W.ls++lvL W.B (rd.take i)).length≤1000000:=by
   have h1:(rd.take i).length≤rd.length:=by rw [List.length_take];omega
   unfold lvL at hll ⊢
   rw [List.length_append,List.length_map] at hll ⊢
   omega
  have n7:=leave_ok l (W.ls++lvL W.B (rd.take i)) ⟨e,W.B.si,W.B.rd⟩ (hwho e (List.mem_of_getElem? he)) hln
  rw [Xi (hlv i e he)] at n7
  have e1:W.ls++lvL W.B (rd.take i)++[⟨e,W.B.si,W.B.rd⟩]=W.ls++lvL W.B (rd.take (i+1)):=by
   rw [ZT he]
   simp [lvL]
  rw [e1] at n7
  generalize W.ls++lvL W.B (rd.take i)=L1 at *
  repeat' (first|refine ZC ?_|refine ZK (n7) (fun _ _=>?_)|refine Zo (es:=rd) i e he (fun b off=>?_)|refine YE ?_|refine ZI 27 [Lg _ _] [(0,0),(1,0),(2,0),(3,0),(4,0),(5,0),(6,0),(7,0),(8,0),(9,0),(10,0),(11,0),(12,0),(13,0),(14,0),(15,0),(16,0),(17,0),(18,0),(19,0),(20,0),(21,0),(22,0),(23,4),(24,0),(25,0),(26,0),(27,0),(28,0)] [] ?_|(refine ZB (fun hc=>?_) (fun hc=>?_)<;>(try simp at hc)<;>(try omega))|fail)
  rw [wrapi (z:=(i:Int)+1) (by omega) (by omega)]
  exact ZJ ⟨i+1,by omega⟩ (by show rd.length - (i+1)<rd.length - i;omega) ⟨rfl,rfl,rfl,trivial⟩
 ·have e:rd.take i=rd:=List.take_of_length_le (by omega)
  rw [e]
  repeat' (first|refine ZC ?_|refine ZM ?_|(refine ZB (fun hc=>?_) (fun hc=>?_)<;>(try simp at hc)<;>(try omega))|fail)
  refine Y4 (b:=m) (T:=moT) (B:=W.B) ?_ rfl rfl rfl rfl rfl rfl
  exact ZD s rfl trivial
theorem itE_len (x:It):(oencS (itE x).o).size≤5000:=by
 rw [oencS,if_pos (itE_o x)]
 exact oenc_len (itE_o x)
set_option maxHeartbeats 8000000 in
theorem do_tik (pw b m l s:Nat) {k:Nat} {W:Wd} (hI:WdI k W) (hk:k≤11) (o:Od) (h8:Od8 o) (hn:o.now.length≤1000000000) (hm:o.k % 5=4) :
  Enters 18∧Spec prog 18 #[.pointer (some ⟨pw,0,none⟩),o.v] [St (some ⟨s,0,none⟩) W.es,OdF o,Usg,ErA,P10,MxL] (WdL pw b m l s W) (DoPost pw b m l (wdDo W (opD o))):=by
 have n0:=Wz o
 have e0:wdDo W (opD o)=wdTik W (opD o):=by
  unfold wdDo
  rw [if_neg (by show ¬(o.k % 5=0∨o.k % 5=1);omega),if_neg (show ¬(opD o).k % 5=2 by show ¬o.k % 5=2;omega),if_neg (show ¬(opD o).k % 5=3 by show ¬o.k % 5=3;omega)]
 have b2:=hI.el
 have hs0:=hI.B.s0
 have hs1:=hI.B.s1
 have hEs:=hI.E
 rw [e0]
 unfold wdTik opD
 obtain ⟨kk,now,nq,ru,rq,at',ix,⟨ak,tx0⟩⟩:=o
 unfold Od.v Od.sh at n0
 unfold Od.v
 have hi8:=h8.i
 dsimp only at *
 generalize cutS tx0 5000=tx at *
 have hz:(kk:Int).tmod 5=4:=by rw [tm5,hm];rfl
 obtain ⟨⟨rd,si,dn,op⟩,ls,es⟩:=W
 dsimp only at *
 generalize b=bb at *
 refine ZE [_,_] func18 ntmps18 fun G w hp=>?_
 refine Zm (X:=Unit) (Fx:=fun _=>[SlI nq now,SlB rq ru]) (p:=fun _=>True) (f:=OdF ⟨kk,now,nq,ru,rq,at',ix,⟨ak,tx0⟩⟩) (.there .here) (fun h hh=>⟨(),trivial,fun f hf=>by
  simp only [List.mem_cons,List.not_mem_nil,or_false] at hf
  rcases hf with rfl|rfl
  ·exact hh.1
  ·exact hh.2⟩) (fun _ _=>?_)
 repeat' (first|refine ZC ?_|refine ZH (fun b=>?_)|refine ZA (n0) (fun _ _=>?_)|rw [hz]|fail)
 generalize b=b3
 refine k_bk (T:=moT) (b:=m) fun qm=>?_
 obtain ⟨⟨od,cd⟩,⟨oo,co⟩⟩:=qm
 dsimp only [BkL]
 refine Zj (X:={x:Nat×Nat×Al // x.1≤now.length∧x.1≤4∧tkL si ((now.take 4).drop x.1) x.2.2=tkL si (now.take 4) es∧x.2.2.length≤60+x.1}) (fun x=>[(0,.pointer (some ⟨pw,0,none⟩)),(3,.pointer (some ⟨b3,0,none⟩)),(22,.int .i64 (x.1.1:Int))]) (fun x=>[SlI nq now,Usg,St (some ⟨x.1.2.1,0,none⟩) x.1.2.2])
  (fun x=>[WdR pw bb m l x.1.2.1,Pt b3 (.cells #[.int .u8 kk,.slice nq.1 now.length nq.2,.slice rq.1 ru.length rq.2,.int .i64 at',.int .i64 ix,.int .i64 ak,.string tx] 66),BkR bkT bb ⟨rd,si,dn,op⟩,Pt m (.cells #[.int .i64 rd,.int .i64 si,.slice od dn.length cd,.slice oo op.length co] moT),RowD (od,cd) dn,RowQ (oo,co) op,Lg l ls]) (fun x=>4 - x.1.1)
  ⟨(0,s,es),Nat.zero_le _,Nat.zero_le _,rfl,by dsimp only;omega⟩ ⟨rfl,rfl,rfl,trivial⟩ ?_
 rintro ⟨⟨i,s2,es2⟩,hi,hi4,htk,hln⟩
 dsimp only at hi hi4 htk hln ⊢
 by_cases hlt:i<now.length∧i<4
 ·obtain ⟨x,hx⟩:∃x,now[i]? = some x:=⟨_,List.getElem?_eq_getElem hlt.1⟩
  have hx8:=hi8 x (List.mem_of_getElem? hx)
  have hdr:(now.take 4).drop i=x::(now.take 4).drop (i+1):=by
   have h4:i<(now.take 4).length:=by rw [List.length_take];omega
   rw [List.drop_eq_getElem_cons h4,List.getElem_take]
   rw [List.getElem?_eq_getElem hlt.1] at hx
   rw [Option.some.inj hx]
  rw [hdr,tkL] at htk
  have n1:=entry_ok x hx8
  have n2:=VT (itE x).o
  have n3:=outName_ok (itE x).who ((itE x).nu+3) (si+(itE x).tk)
  have hw4:(itE x).who.size≤3:=(XV x.b).2.2
  have hw5:lvalid (itE x).who.data.toList=true:=(XV x.b).2.1
  obtain ⟨m1,m2⟩:=itE_n x
  have m3:=itE_len x
  have n4:=Ve (some ⟨s2,0,none⟩) es2 (onD (itE x).who ((itE x).nu+3) (si+(itE x).tk)) (oencS (itE x).o) (by show (itE x).who.size≤_;omega) (by show (ByteArray.mk #[]).size≤_;decide)
  have hch:=onD_chk (t:=si+(itE x).tk) hw5 (n:=(itE x).nu+3) (by omega)
  rw [itE_o x] at n2
  by_cases hle:si+(itE x).tk≤1073741824
  ·rw [if_pos hle] at htk
   have h1:=hch.2 (by omega)
   have e9:withE es2 (onD (itE x).who ((itE x).nu+3) (si+(itE x).tk)) (oencS (itE x).o)=0:=by rw [withE,if_neg (by simp [h1]),if_neg (by omega),if_neg (by omega)]
   rw [e9] at n4
   have hil:=WU (onD (itE x).who ((itE x).nu+3) (si+(itE x).tk)) (oencS (itE x).o) es2
   generalize itE x=e at *
   have w1:IntKind.i64.wrap (e.nu+3)=e.nu+3:=wrapi (by omega) (by omega)
   have w2:IntKind.i64.wrap (si+e.tk)=si+e.tk:=wrapi (by omega) (by omega)
   repeat' (first|refine ZC ?_|refine ZH (fun b=>?_)|refine ZA (n1) (fun _ _=>?_)|refine ZA (n2) (fun _ _=>?_)|refine ZK (n3) (fun _ _=>?_)|refine ZK (n4) (fun _ _=>?_)|refine ZU (es:=now) i x hx (fun b off=>?_)|refine ZQ ?_|rw [w1]|rw [w2]|(refine ZG (fun hc=>?_) (fun hc=>?_)<;>(try simp at hc)<;>(try omega))|refine ZI 36 [] [(0,0),(1,0),(2,0),(3,0),(4,0),(5,0),(6,0),(7,0),(8,0),(9,0),(10,0),(11,0),(12,0),(13,0),(14,0),(15,0),(16,0),(17,0),(18,0),(20,0),(19,4),(21,4),(22,0),(23,0),(24,0),(25,0),(26,0)] [] ?_|(refine ZB (fun hc=>?_) (fun hc=>?_)<;>(try simp at hc)<;>(try omega))|fail)
   rename_i q2 _
   rw [wrapi (z:=(i:Int)+1) (by omega) (by omega)]
   refine Zm (X:=Nat) (Fx:=fun b=>[St (some ⟨b,0,none⟩) (insO (onD e.who (e.nu+3) (si+e.tk)) (oencS e.o) es2)]) (p:=fun b=>q2=some ⟨b,0,none⟩) (f:=StR q2 0 (insO (onD e.who (e.nu+3) (si+e.tk)) (oencS e.o) es2)) .here (fun h hh=>?_) (fun b2 hb2=>?_)
   ·have hh':(St q2 (insO (onD e.who (e.nu+3) (si+e.tk)) (oencS e.o) es2)).p h:=hh
    obtain ⟨tr,g1,g2,b3,p3,g3,g4⟩:=hh'
    subst g3
    refine ⟨b3,rfl,fun g hg=>?_⟩
    obtain rfl:=List.mem_singleton.1 hg
    exact ⟨tr,g1,g2,b3,p3,rfl,g4⟩
   ·subst hb2
    exact ZJ ⟨(i+1,b2,insO (onD e.who (e.nu+3) (si+e.tk)) (oencS e.o) es2),by show i+1≤_;omega,by show i+1≤4;omega,htk,by dsimp only;omega⟩ (by show 4 - (i+1)<4 - i;omega) ⟨rfl,rfl,rfl,trivial⟩
  ·rw [if_neg hle] at htk
   have h1:nchk (onD (itE x).who ((itE x).nu+3) (si+(itE x).tk))≠0:=fun h=>by have:=hch.1 h;omega
   have e9:withE es2 (onD (itE x).who ((itE x).nu+3) (si+(itE x).tk)) (oencS (itE x).o)=12:=by rw [withE,if_pos h1]
   rw [e9] at n4
   generalize itE x=e at *
   have w1:IntKind.i64.wrap (e.nu+3)=e.nu+3:=wrapi (by omega) (by omega)
   have w2:IntKind.i64.wrap (si+e.tk)=si+e.tk:=wrapi (by omega) (by omega)
   subst htk
   repeat' (first|refine ZC ?_|refine ZH (fun b=>?_)|refine ZA (n1) (fun _ _=>?_)|refine ZA (n2) (fun _ _=>?_)|refine ZK (n3) (fun _ _=>?_)|refine ZK (n4) (fun _ _=>?_)|refine ZU (es:=now) i x hx (fun b off=>?_)|refine ZQ ?_|rw [w1]|rw [w2]|(refine ZG (fun hc=>?_) (fun hc=>?_)<;>(try simp at hc)<;>(try omega))|refine ZI 36 [] [(0,0),(1,0),(2,0),(3,0),(4,0),(5,0),(6,0),(7,0),(8,0),(9,0),(10,0),(11,0),(12,0),(13,0),(14,0),(15,0),(16,0),(17,0),(18,0),(20,0),(19,4),(21,4),(22,0),(23,0),(24,0),(25,0),(26,0)] [] ?_|refine ZI 38 [] [(0,0),(1,0),(2,0),(3,0),(4,0),(5,0),(6,0),(7,0),(8,0),(9,0),(10,0),(11,0)] [] ?_|(refine ZB (fun hc=>?_) (fun hc=>?_)<;>(try simp at hc)<;>(try omega))|fail)
   refine Y4 (b:=m) (T:=moT) (B:=⟨rd,si,dn,op⟩) ?_ rfl rfl rfl rfl rfl rfl
   rw [decide_eq_true (p:=1073741824<si+e.tk) (by omega)]
   exact Zz (Z5 (Zg s2 rfl trivial))
 ·have e:(now.take 4).drop i=[]:=List.drop_of_length_le (by rw [List.length_take];omega)
  rw [e,tkL] at htk
  subst htk
  repeat' (first|refine ZC ?_|refine ZM ?_|(refine ZG (fun hc=>?_) (fun hc=>?_)<;>(try simp at hc)<;>(try omega))|(refine ZB (fun hc=>?_) (fun hc=>?_)<;>(try simp at hc)<;>(try omega))|fail)
  all_goals
   refine Y4 (b:=m) (T:=moT) (B:=⟨rd,si,dn,op⟩) ?_ rfl rfl rfl rfl rfl rfl
   exact ZD s2 rfl trivial
theorem do_ok (pw b m l s:Nat) {k:Nat} {W:Wd} (hI:WdI k W) (hk:k≤11) (o:Od) (h8:Od8 o) (hn:o.now.length≤1000000000) (hr:o.ru.length≤1000000000) :
  Enters 18∧Spec prog 18 #[.pointer (some ⟨pw,0,none⟩),o.v] [St (some ⟨s,0,none⟩) W.es,OdF o,Usg,ErA,P10,MxL] (WdL pw b m l s W) (DoPost pw b m l (wdDo W (opD o))):=by
 have h:o.k % 5=0∨o.k % 5=1∨o.k % 5=2∨o.k % 5=3∨o.k % 5=4:=by omega
 rcases h with h|h|h|h|h
 ·exact do_rep pw b m l s hI hk o h8 hn hr (.inl h)
 ·exact do_rep pw b m l s hI hk o h8 hn hr (.inr h)
 ·exact do_ans pw b m l s hI hk o h8 h
 ·exact do_rdy pw b m l s hI hk o h
 ·exact do_tik pw b m l s hI hk o h8 hn h
def wd0 (l:List It):Wd:=⟨⟨0,0,[],[]⟩,[],scn l⟩
theorem wd0_ok (l:List It):WdI 0 (wd0 l):=by
 obtain ⟨h1,h2⟩:=scn_ok l
 exact ⟨bkI_new,⟨(fun y h=>by cases h),List.nodup_nil⟩,h1,Int.le_refl _,h2,⟨Nat.zero_le _,Nat.zero_le _⟩,Nat.zero_le _,Nat.zero_le _,(fun d h=>by cases h),(fun c h=>by cases h),(fun y h=>by cases h)⟩
abbrev Wq:=Nat×Nat×Nat×Nat×Nat
set_option maxHeartbeats 4000000 in
theorem begin_ok (q:Option Addr×Nat) (l:List It) (h8:∀x ∈ l,It8 x) (hl:l.length≤1000000000):Enters 17∧Spec prog 17 #[.slice q.1 l.length q.2] [SlI q l,Usg] []
  ⟨Wq,fun x=>.pointer (some ⟨x.1,0,none⟩),fun _=>True,fun x=>[St (some ⟨x.2.2.2.2,0,none⟩) (wd0 l).es],fun x=>WdL x.1 x.2.1 x.2.2.1 x.2.2.2.1 x.2.2.2.2 (wd0 l)⟩:=by
 have n1:=bookNew_ok
 have n2:=Vs
 have n3:=scene52_ok q l h8 hl
 obtain ⟨qo,qc⟩:=q
 unfold wd0
 dsimp only
 refine ZE [_] func17 ntmps17 fun G w hp=>?_
 repeat' (first|refine ZC ?_|refine ZH (fun b=>?_)|refine ZM ?_|refine ZA (n1) (fun _ _=>?_)|refine ZP (n1) (fun _ _=>?_)|refine ZA (n2) (fun _ _=>?_)|refine ZP (n2) (fun _ _=>?_)|refine ZA (n3) (fun _ _=>?_)|refine ZP (n3) (fun _ _=>?_)|(refine ZG (fun hc=>?_) (fun hc=>?_)<;>(try simp at hc))|(refine ZB (fun hc=>?_) (fun hc=>?_)<;>(try simp at hc)))
 rename_i bk _ bm lg _ s _
 refine ZO (Lx:=[]) (r:=Row dcT 19 none 0 0 []) (fun h _=>Zb _ _ h) ?_
 refine ZO (Lx:=[]) (r:=Row cqT 14 none 0 0 []) (fun h _=>Zb _ _ h) ?_
 refine Y4 (B:=⟨0,0,[],[]⟩) (T:=moT) (b:=bm) (o:=none) (p:=none) (c1:=0) (c2:=0) ?_ rfl rfl rfl rfl rfl rfl
 exact ZD (b,bk,bm,lg,s) rfl trivial
def plA (l:List It) (os:List Od) (i:Nat):Wd:=(os.take i).foldl (fun W o=>wdDo W (opD o)) (wd0 l)
def plF (l:List It) (os:List Od):Wd:=plA l os 12
theorem plI:∀(os:List Od) {k:Nat} {W:Wd},WdI k W→k+os.length≤12→WdI (k+os.length) (os.foldl (fun W o=>wdDo W (opD o)) W)
 | [],_,_,h,_=>h
 | o::os,k,W,h,hk=>by
  rw [List.length_cons] at hk ⊢
  have:=plI os (h.step (by omega) (o:=opD o) (ruL_D o.ru)) (by omega)
  rw [List.foldl_cons,show k+(os.length+1)=k+1+os.length by omega]
  exact this
theorem WdI.upTo {k n:Nat} {W:Wd} (h:WdI k W) (hk:k≤n):WdI n W:=by
 obtain ⟨d,rfl⟩:=Nat.le.dest hk
 clear hk
 induction d with
 | zero=>exact h
 | succ d ih=>exact ih.more
theorem plF_ok (l:List It) (os:List Od):WdI 12 (plF l os):=by
 have h:=plI (os.take 12) (wd0_ok l) (by rw [List.length_take];omega)
 exact h.upTo (by rw [List.length_take];omega)
theorem plA_ok (l:List It) (os:List Od) {i:Nat} (hi:i≤12):WdI i (plA l os i):=by
 have h1:(os.take i).length≤i:=by rw [List.length_take];omega
 have h:=plI (os.take i) (wd0_ok l) (by omega)
 exact h.upTo (by omega)
theorem plA_step (l:List It) (os:List Od) {i:Nat} {o:Od} (h:os[i]? = some o):plA l os (i+1)=wdDo (plA l os i) (opD o):=by
 unfold plA
 rw [ZT h,List.foldl_append]
 rfl
theorem plA_end (l:List It) (os:List Od) {i:Nat} (hi:i≤os.length) (h12:i≤12) (h:¬(i<os.length∧i<12)):plA l os i=plF l os:=by
 unfold plF plA
 by_cases h6:i=12
 ·rw [h6]
 ·rw [List.take_of_length_le (by omega),List.take_of_length_le (by omega)]
structure PlI (l:List It) (os:List Od):Prop where
 i:∀x ∈ l,It8 x
 n:l.length≤1000000000
 o:∀x ∈ os,Od8 x∧x.now.length≤1000000000∧x.ru.length≤1000000000
 m:os.length≤1000000000
abbrev SlO (q:Option Addr×Nat) (l:List Od):Pf:=Sl 66 odf q.1 q.2 l
set_option maxHeartbeats 4000000 in
theorem play_ok (q p:Option Addr×Nat) (l:List It) (os:List Od) (h:PlI l os):Enters 7∧Spec prog 7 #[.slice q.1 l.length q.2,.slice p.1 os.length p.2] [SlI q l,SlO p os,OdsF os,Usg,ErA,P10,MxL] []
  ⟨Wq,fun x=>.tuple #[.pointer (some ⟨x.1,0,none⟩),.bool true],fun _=>True,fun x=>[St (some ⟨x.2.2.2.2,0,none⟩) (plF l os).es],fun x=>WdL x.1 x.2.1 x.2.2.1 x.2.2.2.1 x.2.2.2.2 (plF l os)⟩:=by
 have n1:=begin_ok q l h.i h.n
 obtain ⟨po,pc⟩:=p
 have hom:=h.m
 refine ZE [_,_] func7 ntmps7 fun G w hp=>?_
 repeat' (first|refine ZC ?_|refine ZH (fun b=>?_)|refine ZA (n1) (fun _ _=>?_)|refine ZP (n1) (fun _ _=>?_)|(refine ZG (fun hc=>?_) (fun hc=>?_)<;>(try simp at hc)<;>(try omega))|(refine ZB (fun hc=>?_) (fun hc=>?_)<;>(try simp at hc)<;>(try omega)))
 rename_i x _
 obtain ⟨pw,b,m,g,s⟩:=x
 dsimp only
 refine Zj (X:={x:Nat×Nat // x.1≤os.length∧x.1≤12}) (fun x=>[(1,.slice po os.length pc),(4,.pointer (some ⟨pw,0,none⟩)),(5,.bool true),(6,.int .i64 (x.1.1:Int))]) (fun x=>[SlO (po,pc) os,OdsF os,Usg,ErA,P10,MxL,St (some ⟨x.1.2,0,none⟩) (plA l os x.1.1).es])
  (fun x=>WdL pw b m g x.1.2 (plA l os x.1.1)) (fun x=>12 - x.1.1) ⟨(0,s),Nat.zero_le _,Nat.zero_le _⟩ ⟨rfl,rfl,rfl,rfl,trivial⟩ ?_
 rintro ⟨⟨i,s2⟩,hi,hi12⟩
 dsimp only at hi hi12 ⊢
 by_cases hlt:i<os.length∧i<12
 ·obtain ⟨o,ho⟩:∃o,os[i]? = some o:=⟨_,List.getElem?_eq_getElem hlt.1⟩
  have hom:=List.mem_of_getElem? ho
  obtain ⟨g1,g2,g3⟩:=h.o o hom
  have n2:=do_ok pw b m g s2 (plA_ok l os hi12) (by omega) o g1 g2 g3
  rw [←plA_step l os ho] at n2
  refine Zx (F1:=[OdsF os]) (f:=OdF o) (fun hp hF=>hF (OdsF os) (by simp) o hom) ?_
  repeat' (first|refine ZC ?_|refine ZH (fun b=>?_)|refine ZA (n2) (fun _ _=>?_)|refine ZP (n2) (fun _ _=>?_)|refine ZU (es:=os) i o ho (fun b off=>?_)|refine ZQ ?_|(refine ZG (fun hc=>?_) (fun hc=>?_)<;>(try simp at hc)<;>(try omega))|(refine ZB (fun hc=>?_) (fun hc=>?_)<;>(try simp at hc)<;>(try omega)))
  rename_i s3 _
  rw [wrapi (z:=(i:Int)+1) (by omega) (by omega)]
  exact ZJ ⟨(i+1,s3),by show i+1≤_;omega,by show i+1≤12;omega⟩ (by show 12 - (i+1)<12 - i;omega) ⟨rfl,rfl,rfl,rfl,trivial⟩
 ·rw [plA_end l os hi hi12 hlt]
  repeat' (first|refine ZC ?_|refine ZH (fun b=>?_)|refine ZM ?_|(refine ZG (fun hc=>?_) (fun hc=>?_)<;>(try simp at hc)<;>(try omega))|(refine ZB (fun hc=>?_) (fun hc=>?_)<;>(try simp at hc)<;>(try omega)))
  all_goals exact ZD (pw,b,m,g,s2) rfl trivial
set_option maxHeartbeats 8000000 in
theorem is_ok (m b:Nat) (B:Bk) (h1:B.dn.length≤1000000) (h2:B.op.length≤1000000):Enters 19∧Spec prog 19 #[.pointer (some ⟨m,0,none⟩),.pointer (some ⟨b,0,none⟩)] [BkF moT m B,BkF bkT b B] [] (RetV (.bool true)):=by
 have n1:=Ym b B h1
 have n2:=WO b B (by omega)
 have n3:=comps_ok b B h1
 have n4:=mcomps_ok m B h1
 have n5:=Vd b B
 have n6:=VW b B
 have hcl:(compF B.dn).length≤1000000:=by
  unfold compF
  rw [List.length_mapIdx]
  exact Nat.le_trans (List.length_filter_le ..) h1
 generalize compF B.dn=cm at *
 generalize b=bb at *
 refine ZE [_,_] func19 ntmps19 fun G w hp=>?_
 repeat' (first|refine ZC ?_|refine ZA (n1) (fun _ _=>?_)|refine ZA (n2) (fun _ _=>?_)|refine ZA (n3) (fun _ _=>?_)|refine ZA (n4) (fun _ _=>?_)|fail)
 rename_i q1 _ q2 _ q3 _ q4 _
 refine YA (T:=dcT) (sz:=19) (f:=dcf) (o:=q1.1) (cap:=q1.2) B.dn ?_ rfl rfl
 refine YA (T:=cqT) (sz:=14) (f:=cqf) (o:=q2.1) (cap:=q2.2) B.op ?_ rfl rfl
 refine YA (T:=50) (sz:=7) (f:=enf) (o:=q3.1) (cap:=q3.2) cm ?_ rfl rfl
 refine YA (T:=50) (sz:=7) (f:=enf) (o:=q4.1) (cap:=q4.2) cm ?_ rfl rfl
 refine Ye (T:=moT) (b:=m) fun q=>?_
 obtain ⟨⟨od,cd⟩,⟨oo,co⟩⟩:=q
 dsimp only
 repeat' (first|refine ZC ?_|refine ZK (n5) (fun _ _=>?_)|refine ZK (n6) (fun _ _=>?_)|(refine ZS (fun hc=>?_) (fun hc=>?_)<;>(try simp at hc)<;>(try omega))|refine ZI 2 [] [(0,0),(2,0),(3,0),(4,0),(5,0),(1,4),(6,0),(7,0),(8,0),(10,0),(11,0),(12,0),(13,0),(9,4),(14,0),(15,0),(16,0),(17,0),(18,0),(19,0),(20,0),(21,0),(22,0),(23,0),(24,0),(25,0),(26,0),(27,0),(28,0),(29,0),(30,0),(31,0),(32,0),(33,0),(34,0),(35,0),(36,0),(37,0),(38,0),(39,0),(40,0),(41,0),(42,0)] [] ?_|(refine ZB (fun hc=>?_) (fun hc=>?_)<;>(try simp at hc)<;>(try omega))|fail)
 refine YD (X:={i:Nat // i≤B.dn.length}) (Y:=Unit) (fun i=>[(0,.pointer (some ⟨m,0,none⟩)),(5,.slice q1.1 B.dn.length q1.2),(6,.slice q2.1 B.op.length q2.2),(7,.slice q3.1 cm.length q3.2),(8,.slice q4.1 cm.length q4.2),(9,.int .i64 (i.1:Int))])
  (fun _=>[SlD q1 B.dn,SlQ q2 B.op,SlE q3 cm,SlE q4 cm,Blk m (.cells #[.int .i64 B.rd,.int .i64 B.si,.slice od B.dn.length cd,.slice oo B.op.length co] moT),SlD (od,cd) B.dn,SlQ (oo,co) B.op]) (fun _=>[]) (fun i=>B.dn.length - i.1)
  (fun _=>[(0,.pointer (some ⟨m,0,none⟩)),(6,.slice q2.1 B.op.length q2.2),(7,.slice q3.1 cm.length q3.2),(8,.slice q4.1 cm.length q4.2)]) (fun _=>[SlQ q2 B.op,SlE q3 cm,SlE q4 cm,Blk m (.cells #[.int .i64 B.rd,.int .i64 B.si,.slice od B.dn.length cd,.slice oo B.op.length co] moT),SlQ (oo,co) B.op]) (fun _=>[])
  ⟨0,Nat.zero_le _⟩ ⟨rfl,rfl,rfl,rfl,rfl,rfl,trivial⟩ ?_ ?_
 ·intro _
  repeat' (first|refine ZC ?_|fail)
  refine YD (X:={i:Nat // i≤B.op.length}) (Y:=Unit) (fun i=>[(0,.pointer (some ⟨m,0,none⟩)),(6,.slice q2.1 B.op.length q2.2),(7,.slice q3.1 cm.length q3.2),(8,.slice q4.1 cm.length q4.2),(10,.int .i64 (i.1:Int))])
   (fun _=>[SlQ q2 B.op,SlE q3 cm,SlE q4 cm,Blk m (.cells #[.int .i64 B.rd,.int .i64 B.si,.slice od B.dn.length cd,.slice oo B.op.length co] moT),SlQ (oo,co) B.op]) (fun _=>[]) (fun i=>B.op.length - i.1)
   (fun _=>[(7,.slice q3.1 cm.length q3.2),(8,.slice q4.1 cm.length q4.2)]) (fun _=>[SlE q3 cm,SlE q4 cm]) (fun _=>[])
   ⟨0,Nat.zero_le _⟩ ⟨rfl,rfl,rfl,rfl,rfl,trivial⟩ ?_ ?_
  ·intro _
   repeat' (first|refine ZC ?_|fail)
   refine Zj (X:={i:Nat // i≤cm.length}) (fun i=>[(7,.slice q3.1 cm.length q3.2),(8,.slice q4.1 cm.length q4.2),(11,.int .i64 (i.1:Int))]) (fun _=>[SlE q3 cm,SlE q4 cm]) (fun _=>[]) (fun i=>cm.length - i.1)
    ⟨0,Nat.zero_le _⟩ ⟨rfl,rfl,rfl,trivial⟩ ?_
   rintro ⟨i,hi⟩
   dsimp only
   by_cases hlt:i<cm.length
   ·obtain ⟨e,he⟩:∃e,cm[i]? = some e:=⟨_,List.getElem?_eq_getElem hlt⟩
    have hee:=eqEnD e e
    rw [decide_eq_true rfl] at hee
    repeat' (first|refine ZC ?_|refine Zo (es:=cm) i e he (fun b off=>?_)|refine YE ?_|refine VI (b:=true) ?_ (he:=hee)|refine ZI 17 [] [(0,0),(1,0),(2,0),(3,0),(4,0),(5,0),(6,0),(7,0),(8,0)] [] ?_|(refine ZB (fun hc=>?_) (fun hc=>?_)<;>(try simp at hc)<;>(try omega))|fail)
    rw [wrapi (z:=(i:Int)+1) (by omega) (by omega)]
    exact ZJ ⟨i+1,by omega⟩ (by show cm.length - (i+1)<cm.length - i;omega) ⟨rfl,rfl,rfl,trivial⟩
   ·repeat' (first|refine ZC ?_|refine ZM ?_|(refine ZB (fun hc=>?_) (fun hc=>?_)<;>(try simp at hc)<;>(try omega))|fail)
    exact ZD () rfl trivial
  ·rintro hx ⟨i,hi⟩
   dsimp only
   by_cases hlt:i<B.op.length
   ·obtain ⟨e,he⟩:∃e,B.op[i]? = some e:=⟨_,List.getElem?_eq_getElem hlt⟩
    have n7:=equalC_ok e e
    rw [decide_eq_true rfl] at n7
    repeat' (first|refine ZC ?_|refine ZK (n7) (fun _ _=>?_)|refine Zo (es:=B.op) i e he (fun b off=>?_)|refine YE ?_|refine ZI 12 [] [(0,0),(1,0),(2,0),(3,0),(4,0),(5,0),(6,0),(7,0),(8,0),(9,0),(10,0),(11,4),(12,0)] [] ?_|(refine ZB (fun hc=>?_) (fun hc=>?_)<;>(try simp at hc)<;>(try omega))|fail)
    rw [wrapi (z:=(i:Int)+1) (by omega) (by omega)]
    exact ZJ ⟨i+1,by omega⟩ (by show B.op.length - (i+1)<B.op.length - i;omega) ⟨rfl,rfl,rfl,rfl,rfl,trivial⟩
   ·repeat' (first|refine ZC ?_|(refine ZB (fun hc=>?_) (fun hc=>?_)<;>(try simp at hc)<;>(try omega))|fail)
    exact Z2 hx () ⟨rfl,rfl,trivial⟩
 ·rintro hx ⟨i,hi⟩
  dsimp only
  by_cases hlt:i<B.dn.length
  ·obtain ⟨e,he⟩:∃e,B.dn[i]? = some e:=⟨_,List.getElem?_eq_getElem hlt⟩
   have hee:=eqD e e
   rw [decide_eq_true rfl] at hee
   repeat' (first|refine ZC ?_|refine Zo (es:=B.dn) i e he (fun b off=>?_)|refine YE ?_|refine VI (b:=true) ?_ (he:=hee)|refine ZI 7 [] [(0,0),(1,0),(2,0),(3,0),(4,0),(5,0),(6,0),(7,0),(8,0),(9,0),(10,0),(11,0)] [] ?_|(refine ZB (fun hc=>?_) (fun hc=>?_)<;>(try simp at hc)<;>(try omega))|fail)
   rw [wrapi (z:=(i:Int)+1) (by omega) (by omega)]
   exact ZJ ⟨i+1,by omega⟩ (by show B.dn.length - (i+1)<B.dn.length - i;omega) ⟨rfl,rfl,rfl,rfl,rfl,rfl,trivial⟩
  ·repeat' (first|refine ZC ?_|(refine ZB (fun hc=>?_) (fun hc=>?_)<;>(try simp at hc)<;>(try omega))|fail)
   exact Z2 hx () ⟨rfl,rfl,rfl,rfl,trivial⟩
def kwho:ByteArray:=⟨#[51]⟩
def ktxt:ByteArray:=⟨#[105,103,110,111,114,101,32,112,97,103,101,32,48]⟩
def kO5:Ou:=⟨2,⟨#[108,112]⟩,⟨#[112,97,103,101]⟩,5⟩
def kE5:En:=⟨kwho,0,0,kO5⟩
def kL5:Lf:=⟨kE5,0,0⟩
def kC5:Cq:=⟨2,kwho,0,0,kO5,0,Ou.z,0⟩
def kA5:Ac:=⟨2,ktxt⟩
def kD5:Dc:=⟨1,5,kC5,kA5,-1⟩
def kR5:En:=⟨⟨#[]⟩,0,5,⟨2,⟨#[108,112]⟩,ktxt,5⟩⟩
theorem k5_who:lvalid kwho.data.toList=true:=(XV 0).2.1
theorem k5_o:ochk kO5=0:=by
 have h1:isE kO5.tg=false:=by simp [kO5,isE,toList_data]
 have h2:kO5.tg.data.toList.any bad2=false:=by simp [kO5,bad2]
 have h3:¬64<kO5.tg.size:=by decide
 have h4:¬4096<kO5.tx.size:=by decide
 unfold ochk
 rw [if_neg (by decide),if_neg (by simp [h1]),if_neg h3,if_neg (by simp [h2]),if_neg h4,if_neg (by decide)]
theorem k5_l:leaveE [] kL5=0:=by
 have h1:lvalid kL5.e.who.data.toList=true:=k5_who
 have h2:tick kL5.e.tk=true:=by decide
 have h3:tick kL5.tm=true:=by decide
 have h4:ochk kL5.e.o=0:=k5_o
 have h5:lchk kL5=0:=by
  unfold lchk
  rw [if_neg (by simp [h1]),if_neg (by simp [h2,h3];decide)]
  exact h4
 unfold leaveE
 rw [if_neg (by simp [h5]),if_neg (by simp [late]),if_neg (by decide)]
theorem k5_cons:consE [] [kL5]=[kC5]:=by
 simp [consE,Z7,Z9,con1,kC5,kL5,kE5]
theorem k5_q:qchk kC5=0:=by
 have h1:lvalid kC5.who.data.toList=true:=k5_who
 have h2:ochk kC5.old=0:=k5_o
 have h3:qok kC5=true:=by
  unfold qok
  rw [h1,if_neg (by decide),if_pos (by decide),decide_eq_true (p:=0≤kC5.place∧kC5.place<100000∧ochk kC5.old=0) ⟨by decide,by decide,h2⟩]
  decide
 unfold qchk
 rw [if_neg (by decide),if_pos h3]
theorem k5_cn:cnts kC5=true:=by
 have h:isE kC5.who=false:=by simp [kC5,kwho,isE,toList_data]
 unfold cnts
 rw [h]
 decide
theorem k5_rp:rpE ⟨0,0,[],[]⟩ [kC5] 4=0:=by
 have h:fstQ [kC5]=0:=by simp [fstQ,k5_q]
 unfold rpE
 rw [if_neg (by simp [h]),if_neg (by decide),if_neg (by decide)]
theorem k5_rl:rpL [] 1 4 [] [kC5]=⟨mset (mtr kC5) true [],[],[kC5]⟩:=by
 have h:(decideF [] kC5).1.k=5:=rfl
 unfold rpL
 rw [List.foldl_cons,List.foldl_nil]
 unfold rpS
 rw [if_neg (by simp [k5_cn,knB,mget]),if_pos h]
 rfl
theorem k5_rb:rpB ⟨0,0,[],[]⟩ [] [kC5] 4=⟨1,4,[],[kC5]⟩:=by
 unfold rpB
 rw [show (⟨0,0,[],[]⟩:Bk).rd+1=1 from rfl,show (⟨0,0,[],[]⟩:Bk).dn=[] from rfl,k5_rl]
 rfl
theorem k5_an:ansE ⟨1,4,[],[kC5]⟩ 0 kA5 5=0:=rfl
theorem k5_ab:ansB ⟨1,4,[],[kC5]⟩ 0 kC5 kA5 5=⟨1,4,[kD5],[]⟩:=rfl
theorem k5_rdy:rdyF [] [kL5] ⟨1,4,[kD5],[]⟩=[kR5]:=by
 have h:¬kE5.who=⟨#[]⟩:=by decide
 simp [rdyF,rdyA,rdyC,compF,kD5,kA5,cpE,kL5,h,kR5,isR,kC5,kO5]
abbrev tT:Pf:=⟨fun _=>True,fun _ _ _ h=>h⟩
theorem kall:allE []=[]:=rfl
theorem kleave_ok (l:Nat):Enters 15∧Spec prog 15 #[.pointer (some ⟨l,0,none⟩),kL5.v] [] [Lg l []] ⟨Unit,fun _=>.tuple #[.int .i64 0,.int .i64 0],fun _=>True,fun _=>[],fun _=>[Lg l [kL5]]⟩:=by
 have n:=leave_ok l [] kL5 (by decide) (by decide)
 rw [Xi k5_l] at n
 exact n
theorem kcomp_ok (l s:Nat):Enters 25∧Spec prog 25 #[.pointer (some ⟨l,0,none⟩),.pointer (some ⟨s,0,none⟩)] [St (some ⟨s,0,none⟩) []] [Lg l [kL5]]
  ⟨Option Addr×Nat,fun q=>.tuple #[.slice q.1 1 q.2,.int .i64 0],fun _=>True,fun _=>[],fun q=>[Lg l [kL5],RowQ q [kC5]]⟩:=by
 have n:=lendE (r:=Lg l [kL5]) (fun _ hh=>lg_f hh) (WH l s [] [kL5] (by decide) (by rw [kall];decide))
 rw [kall,k5_cons] at n
 exact n
theorem krep_ok (b:Nat) (o:Option Addr) (cap:Nat):Enters 26∧Spec prog 26 #[.pointer (some ⟨b,0,none⟩),.slice o 1 cap,.pointer none,.int .i64 4] [SlQ (o,cap) [kC5],tT] [BkR bkT b ⟨0,0,[],[]⟩]
  ⟨Option Addr×Nat,fun q=>.tuple #[.slice q.1 0 q.2,.int .i64 0],fun _=>True,fun q=>[SlD q []],fun _=>[BkR bkT b ⟨1,4,[],[kC5]⟩]⟩:=by
 have n:=repair_ok b ⟨0,0,[],[]⟩ o cap [kC5] none [] 4 tT (by decide) (by decide) (by decide) (fun c hc=>by rw [List.mem_singleton.1 hc];decide) k5_rp (fun c hc=>decOK_nil tT c (by rw [List.mem_singleton.1 hc];exact k5_q) (by rw [List.mem_singleton.1 hc];decide))
 have e:rpL [] ((⟨0,0,[],[]⟩:Bk).rd+1) 4 (⟨0,0,[],[]⟩:Bk).dn [kC5]=⟨mset (mtr kC5) true [],[],[kC5]⟩:=k5_rl
 rw [k5_rb,e] at n
 exact n
theorem kans_ok (b:Nat):Enters 28∧Spec prog 28 #[.pointer (some ⟨b,0,none⟩),.int .i64 0,acV kA5,.int .i64 5] [] [BkR bkT b ⟨1,4,[],[kC5]⟩] ⟨Unit,fun _=>.tuple #[kD5.v,.int .i64 0],fun _=>True,fun _=>[],fun _=>[BkR bkT b ⟨1,4,[kD5],[]⟩]⟩:=by
 obtain ⟨-,-,-,c,hc,hp⟩:=UU k5_an
 have hc':c=kC5:=(Option.some.inj hc).symm
 subst hc'
 have n:=answer_ok b ⟨1,4,[],[kC5]⟩ 0 kC5 kA5 5 rfl (by decide) (by decide) hp (by decide) (by decide)
 rw [k5_ab] at n
 exact n
theorem krdy_ok (b l s:Nat):Enters 13∧Spec prog 13 #[.pointer (some ⟨b,0,none⟩),.pointer (some ⟨l,0,none⟩),.pointer (some ⟨s,0,none⟩)] [St (some ⟨s,0,none⟩) []] [Lg l [kL5],BkR bkT b ⟨1,4,[kD5],[]⟩]
  ⟨Option Addr×Nat,fun q=>.tuple #[.slice q.1 1 q.2,.int .i64 0],fun _=>True,fun _=>[],fun q=>[Lg l [kL5],BkR bkT b ⟨1,4,[kD5],[]⟩,RowE q [kR5]]⟩:=by
 have n:=lendE (r:=Lg l [kL5]) (fun _ hh=>lg_f hh) (lendE (r:=BkR bkT b ⟨1,4,[kD5],[]⟩) (fun h hh=>bk_f h hh) (V2 b l s ⟨1,4,[kD5],[]⟩ [kL5] [] (by decide) (by decide) (by decide)))
 rw [kall,k5_rdy] at n
 exact n
theorem kopen1_ok (b:Nat):Enters 27∧Spec prog 27 #[.pointer (some ⟨b,0,none⟩)] [] [BkR bkT b ⟨1,4,[],[kC5]⟩] ⟨Option Addr×Nat,fun q=>.slice q.1 1 q.2,fun _=>True,fun _=>[],fun q=>[BkR bkT b ⟨1,4,[],[kC5]⟩,RowQ q [kC5]]⟩:=
 lendE (r:=BkR bkT b ⟨1,4,[],[kC5]⟩) (fun h hh=>bk_f h hh) (WO b ⟨1,4,[],[kC5]⟩ (by decide))
theorem kopen2_ok (b:Nat):Enters 27∧Spec prog 27 #[.pointer (some ⟨b,0,none⟩)] [] [BkR bkT b ⟨1,4,[kD5],[]⟩] ⟨Option Addr×Nat,fun q=>.slice q.1 0 q.2,fun _=>True,fun _=>[],fun q=>[BkR bkT b ⟨1,4,[kD5],[]⟩,RowQ q []]⟩:=
 lendE (r:=BkR bkT b ⟨1,4,[kD5],[]⟩) (fun h hh=>bk_f h hh) (WO b ⟨1,4,[kD5],[]⟩ (by decide))
set_option maxHeartbeats 8000000 in
theorem VK:Enters 6∧Spec prog 6 #[] [] [] (RetV (.bool true)):=by
 have n1:=bookNew_ok
 have n2:=UW
 have n3:=Vs
 have n4:=kleave_ok
 have n5:=kcomp_ok
 have n6:=krep_ok
 have n7:=kans_ok
 have n8:=krdy_ok
 have n9:=kopen1_ok
 have n10:=kopen2_ok
 refine ZE [] func6 ntmps6 fun G w hp=>?_
 refine Yw (f:=tT) (fun _=>trivial) ?_
 repeat' (first|refine ZC ?_|refine ZH (fun b=>?_)|refine ZA (n1) (fun _ _=>?_)|refine ZA (n2) (fun _ _=>?_)|refine ZA (n3) (fun _ _=>?_)|refine ZA (n4 _) (fun _ _=>?_)|refine ZA (n5 _ _) (fun _ _=>?_)|fail)
 rename_i bk _ s _ l _ _ _ q _
 refine l_frz (T:=cqT) (sz:=14) (f:=cqf) (o:=q.1) (cap:=q.2) [kC5] ?_ rfl rfl
 repeat' (first|refine ZC ?_|refine ZH (fun b=>?_)|refine ZA (n6 _ _ _) (fun _ _=>?_)|refine ZA (n7 _) (fun _ _=>?_)|refine ZA (n8 _ _ _) (fun _ _=>?_)|refine ZA (n9 _) (fun _ _=>?_)|fail)
 rename_i q2 _
 refine l_frz (T:=50) (sz:=7) (f:=enf) (o:=q2.1) (cap:=q2.2) [kR5] ?_ rfl rfl
 repeat' (first|refine ZC ?_|refine ZA (n10 _) (fun _ _=>?_)|refine ZU (es:=[kR5]) 0 kR5 rfl (fun b off=>?_)|refine ZQ ?_|(refine ZG (fun hc=>?_) (fun hc=>?_)<;>(try simp at hc)<;>(try omega))|fail)
 all_goals first
  | exact ZD () rfl trivial
  | (exfalso;simp [kR5,kO5,kC5,kD5,kA5,toList_data] at hc;done)
theorem bdD_l2:∀k<13,(bdD k).1≤22560∧(bdD k).2≤36480:=by decide +kernel
theorem WdI.bds {k:Nat} {W:Wd} (h:WdI k W) (hk:k≤12):W.ls.length≤22560∧W.B.dn.length≤22560∧W.B.op.length≤36540∧W.es.length≤56:=by
 obtain ⟨h1,h2⟩:=bdD_l2 k (by omega)
 obtain ⟨a1,a2⟩:=h.n1
 have:=h.n3
 have:=h.el
 exact ⟨by omega,by omega,by omega,by omega⟩
theorem readyW_ok (b l s:Nat) {k:Nat} {W:Wd} (h:WdI k W) (hk:k≤12):Enters 13∧Spec prog 13 #[.pointer (some ⟨b,0,none⟩),.pointer (some ⟨l,0,none⟩),.pointer (some ⟨s,0,none⟩)] [St (some ⟨s,0,none⟩) W.es] [Lg l W.ls,BkR bkT b W.B]
  ⟨Option Addr×Nat,fun q=>.tuple #[.slice q.1 (rdyF (allE W.es) W.ls W.B).length q.2,.int .i64 0],fun _=>True,fun _=>[],fun q=>[Lg l W.ls,BkR bkT b W.B,RowE q (rdyF (allE W.es) W.ls W.B)]⟩:=by
 obtain ⟨h1,h2,h3,h4⟩:=h.bds hk
 exact lendE (r:=Lg l W.ls) (fun _ hh=>lg_f hh) (lendE (r:=BkR bkT b W.B) (fun h hh=>bk_f h hh) (V2 b l s W.B W.ls W.es (by omega) (by omega) (by omega)))
theorem mreadyW_ok (m l s:Nat) {k:Nat} {W:Wd} (h:WdI k W) (hk:k≤12):Enters 21∧Spec prog 21 #[.pointer (some ⟨m,0,none⟩),.pointer (some ⟨l,0,none⟩),.pointer (some ⟨s,0,none⟩)] [St (some ⟨s,0,none⟩) W.es] [Lg l W.ls,BkR moT m W.B]
  ⟨Option Addr×Nat,fun q=>.slice q.1 (rdyF (allE W.es) W.ls W.B).length q.2,fun _=>True,fun _=>[],fun q=>[Lg l W.ls,BkR moT m W.B,RowE q (rdyF (allE W.es) W.ls W.B)]⟩:=by
 obtain ⟨h1,h2,h3,h4⟩:=h.bds hk
 exact lendE (r:=Lg l W.ls) (fun _ hh=>lg_f hh) (lendE (r:=BkR moT m W.B) (fun h hh=>bk_f h hh) (mready_ok m l s W.B W.ls W.es (by omega) (by omega) (by omega)))
theorem isW_ok (m b:Nat) {k:Nat} {W:Wd} (h:WdI k W) (hk:k≤12):Enters 19∧Spec prog 19 #[.pointer (some ⟨m,0,none⟩),.pointer (some ⟨b,0,none⟩)] [] [BkR bkT b W.B,BkR moT m W.B] ⟨Unit,fun _=>.bool true,fun _=>True,fun _=>[],fun _=>[BkR bkT b W.B,BkR moT m W.B]⟩:=by
 obtain ⟨h1,h2,h3,h4⟩:=h.bds hk
 exact lendE (r:=BkR bkT b W.B) (fun h hh=>bk_f h hh) (lendE (r:=BkR moT m W.B) (fun h hh=>bk_f h hh) (is_ok m b W.B (by omega) (by omega)))
theorem sameRdy_ok (o1:Option Addr) (c1:Nat) (o2:Option Addr) (c2:Nat) (rd:List En) (hl:rd.length≤1000000):Enters 20∧Spec prog 20 #[.slice o1 rd.length c1,.slice o2 rd.length c2]
  [SlE (o1,c1) rd] [RowE (o2,c2) rd] ⟨Unit,fun _=>.bool true,fun _=>True,fun _=>[],fun _=>[RowE (o2,c2) rd]⟩:=by
 have n:=VL o1 o2 c1 c2 rd rd hl hl
 rw [decide_eq_true (rfl:rd=rd)] at n
 exact lendE (r:=RowE (o2,c2) rd) (g:=SlE (o2,c2) rd) (fun h hh=>row_sl rfl rfl hh) (⟨n.1,n.2.swap⟩:Enters _∧Spec _ _ _ _ _ _)
set_option maxHeartbeats 8000000 in
theorem lawPlays_ok (q p:Option Addr×Nat) (l:List It) (os:List Od) (h:PlI l os):Enters 5∧Spec prog 5 #[.slice q.1 l.length q.2,.slice p.1 os.length p.2] [SlI q l,SlO p os,OdsF os,Usg,ErA,P10,MxL] [] (RetV (.bool true)):=by
 have n0:=VK
 have n1:=begin_ok q l h.i h.n
 obtain ⟨po,pc⟩:=p
 have hom:=h.m
 refine ZE [_,_] func5 ntmps5 fun G w hp=>?_
 repeat' (first|refine ZC ?_|refine ZH (fun b=>?_)|refine ZA (n0) (fun _ _=>?_)|refine ZP (n0) (fun _ _=>?_)|refine ZA (n1) (fun _ _=>?_)|refine ZP (n1) (fun _ _=>?_)|(refine ZG (fun hc=>?_) (fun hc=>?_)<;>(try simp at hc)<;>(try omega))|(refine ZB (fun hc=>?_) (fun hc=>?_)<;>(try simp at hc)<;>(try omega)))
 rename_i x _
 obtain ⟨pw,bb,m,g,s⟩:=x
 dsimp only
 refine Zj (X:={x:Nat×Nat // x.1≤os.length∧x.1≤12}) (fun x=>[(1,.slice po os.length pc),(5,.pointer (some ⟨pw,0,none⟩)),(6,.int .i64 (x.1.1:Int))]) (fun x=>[SlO (po,pc) os,OdsF os,Usg,ErA,P10,MxL,St (some ⟨x.1.2,0,none⟩) (plA l os x.1.1).es])
  (fun x=>WdL pw bb m g x.1.2 (plA l os x.1.1)) (fun x=>12 - x.1.1) ⟨(0,s),Nat.zero_le _,Nat.zero_le _⟩ ⟨rfl,rfl,rfl,trivial⟩ ?_
 rintro ⟨⟨i,s2⟩,hi,hi12⟩
 dsimp only at hi hi12 ⊢
 by_cases hlt:i<os.length∧i<12
 ·obtain ⟨o,ho⟩:∃o,os[i]? = some o:=⟨_,List.getElem?_eq_getElem hlt.1⟩
  have hom:=List.mem_of_getElem? ho
  obtain ⟨g1,g2,g3⟩:=h.o o hom
  have n2:=do_ok pw bb m g s2 (plA_ok l os hi12) (by omega) o g1 g2 g3
  have hI:=plA_ok l os (i:=i+1) (by omega)
  rw [←plA_step l os ho] at n2
  generalize hW:plA l os (i+1)=W' at *
  have n3:=isW_ok m bb hI (by omega)
  have n4:=fun s=>readyW_ok bb g s hI (by omega)
  have n5:=fun s=>mreadyW_ok m g s hI (by omega)
  have hrl:=rdy_len (allE W'.es) W'.ls W'.B
  have hal:=Xc W'.es
  obtain ⟨b1,b2,b3,b4⟩:=hI.bds (by omega)
  generalize rdyF (allE W'.es) W'.ls W'.B=rd at *
  have n6:=fun o1 c1 o2 c2=>sameRdy_ok o1 c1 o2 c2 rd (by omega)
  refine Zx (F1:=[OdsF os]) (f:=OdF o) (fun hp hF=>hF (OdsF os) (by simp) o hom) ?_
  repeat' (first|refine ZC ?_|refine ZH (fun b=>?_)|refine ZA (n2) (fun _ _=>?_)|refine ZP (n2) (fun _ _=>?_)|refine ZK (n2) (fun _ _=>?_)|refine ZA (n3) (fun _ _=>?_)|refine ZP (n3) (fun _ _=>?_)|refine ZK (n3) (fun _ _=>?_)|refine ZA (n4 _) (fun _ _=>?_)|refine ZP (n4 _) (fun _ _=>?_)|refine ZK (n4 _) (fun _ _=>?_)|refine Zo (es:=os) i o ho (fun b off=>?_)|refine YE ?_|(refine ZG (fun hc=>?_) (fun hc=>?_)<;>(try simp at hc)<;>(try omega))|(refine ZS (fun hc=>?_) (fun hc=>?_)<;>(try simp at hc)<;>(try omega))|refine ZI 7 [Pt pw _,BkR bkT _ _,BkR moT _ _,Lg _ _] [(0,0),(1,0),(2,0),(3,0),(4,0),(5,4),(6,0),(7,0),(8,0),(9,0),(10,0),(12,0),(13,0),(14,0),(11,3),(15,3),(16,4),(17,0),(18,0)] [] ?_|refine ZI 9 [Lg _ _,BkR bkT _ _] [(0,0),(1,0),(2,0),(3,0),(4,0),(5,0),(6,0),(7,0),(8,0),(9,0),(10,0),(11,0),(12,4),(13,0),(14,0),(15,0),(16,0),(17,0)] [] ?_|(refine ZB (fun hc=>?_) (fun hc=>?_)<;>(try simp at hc)<;>(try omega)))
  rename_i s3 _ _ _ q2 _
  refine YA (T:=50) (sz:=7) (f:=enf) (o:=q2.1) (cap:=q2.2) rd ?_ rfl rfl
  repeat' (first|refine ZC ?_|refine ZH (fun b=>?_)|refine ZA (n5 _) (fun _ _=>?_)|refine ZP (n5 _) (fun _ _=>?_)|refine ZK (n5 _) (fun _ _=>?_)|refine ZA (n6 _ _ _ _) (fun _ _=>?_)|refine ZP (n6 _ _ _ _) (fun _ _=>?_)|refine ZK (n6 _ _ _ _) (fun _ _=>?_)|(refine ZG (fun hc=>?_) (fun hc=>?_)<;>(try simp at hc)<;>(try omega))|(refine ZS (fun hc=>?_) (fun hc=>?_)<;>(try simp at hc)<;>(try omega))|refine ZI 10 [Lg _ _,BkR moT _ _] [(0,0),(1,0),(2,0),(3,0),(4,0),(5,0),(6,0),(7,0),(8,0),(9,0),(10,0),(11,0),(12,0),(13,0),(14,0),(15,0),(16,4),(17,4),(18,0),(19,0)] [] ?_|(refine ZB (fun hc=>?_) (fun hc=>?_)<;>(try simp at hc)<;>(try omega)))
  subst hW
  rw [wrapi (z:=(i:Int)+1) (by omega) (by omega)]
  exact ZJ ⟨(i+1,s3),by show i+1≤_;omega,by show i+1≤12;omega⟩ (by show 12 - (i+1)<12 - i;omega) ⟨rfl,rfl,rfl,trivial⟩
 ·repeat' (first|refine ZC ?_|refine ZH (fun b=>?_)|refine ZM ?_|(refine ZG (fun hc=>?_) (fun hc=>?_)<;>(try simp at hc)<;>(try omega))|(refine ZB (fun hc=>?_) (fun hc=>?_)<;>(try simp at hc)<;>(try omega)))
  all_goals exact ZD () rfl trivial
section
open Go.ChangeShapes Go.WideShapes Go.ChangeAt
def laidR : List (String × DataW Unit) := [("math/bits.deBruijn32tab", Rows.laid_math_bits_deBruijn32tab), ("math/bits.deBruijn64tab", Rows.laid_math_bits_deBruijn64tab), ("internal/strconv.uint64pow10", Rows.laid_internal_strconv_uint64pow10), ("unicode/utf8.acceptRanges", Rows.laid_unicode_utf8_acceptRanges), ("strconv.ErrRange", Rows.laid_strconv_ErrRange), ("strconv.ErrSyntax", Rows.laid_strconv_ErrSyntax), ("unicode/utf8.first", Rows.laid_unicode_utf8_first)]
theorem tP10:(prog.globals[4]?).map (·.type)=some 322:=by kernel_rfl
theorem plP10:plainT prog 5 322=true:=by decide +kernel
theorem rdP10 (w:World):DataW.trod (fun _=>()) prog w 0 (fun _=>true) false 8 322 (Lib.pow10Tab.map fun z=>Value.int .u64 z)=some (Rows.laid_internal_strconv_uint64pow10,[]):=by kernel_rfl
theorem star_err : "*" ++ "errors.errorString" = "*errors.errorString" := by decide
theorem row_err (u : TypeId) (h : prog.typeName? 3 u = some "*errors.errorString") : u = 340 :=
 typeName_ptr_named (nm := "errors.errorString") (by rw [star_err]; kernel_rfl) (by kernel_rfl) (by decide) u (by rw [star_err]; exact h)
theorem var_one {W:World} {g:Nat} {n:String} {v:Value} (hg:prog.globalNamed n=some g) (h:W.var? prog n=some #[v]):∃T fz,W.heap[g]? = some (.cells #[v] T fz):=by
 simp only [World.var?,hg,Option.bind_some] at h
 split at h
 ·rename_i cs t fr hb
  obtain rfl:=Option.some.inj h
  exact ⟨t,fr,hb⟩
 ·cases h
theorem mxlR {W:World} (h:W.ShapedOpen prog):MxL.p fun b=>W.heap[b]?:=by
 obtain ⟨cs,hh,hs,hr⟩:=h.1 3 #[.int .i64 0] 3 (of_decide_eq_true (by kernel_rfl)) (by kernel_rfl)
 obtain ⟨ts,hts,_,hall⟩:=hr (by kernel_rfl)
 rw [show prog.cellTypes prog.depth 3=some [3] by kernel_rfl] at hts
 cases hts
 have hs:cs.size=1:=hs
 have h1:0<cs.size:=by omega
 obtain ⟨u,hu',hok⟩:=hall 0 cs[0] (by simp [h1])
 have:u=3:=by simpa using hu'.symm
 subst this
 have e:cs = #[cs[0]]:=by
  apply Array.ext
  ·simp [hs]
  ·intro i hi hj
   obtain rfl:i=0:=by simp at hj;omega
   rfl
 unfold Cell.ok at hok
 rw [underlying3] at hok
 cases hv:cs[0]<;>rw [hv] at hok<;>simp at hok
 case int k n=>
  rw [hv,hok.1] at e
  exact ⟨n,3,(0,0),by show W.heap[_]? = _;rw [hh,e]⟩
def bits (l:List Int):List Value:=l.map fun z=>Value.int .u8 z
def b32:List Int:=[0,1,28,2,29,14,24,3,30,22,20,15,25,17,4,8,31,27,13,23,21,19,16,7,26,12,18,6,11,5,10,9]
def b64:List Int:=[0,1,56,2,57,49,28,3,61,58,42,50,38,29,17,4,62,47,59,36,45,43,51,22,53,39,33,30,24,18,12,5,63,55,48,27,60,41,37,16,46,35,44,21,52,32,23,11,54,26,40,15,34,20,31,10,25,14,19,9,13,8,7,6]
noncomputable def laidWorldR (os:Os):World:=
 let N:=(World.settled prog os).heap.size
 let w0:=World.holding prog os ⟨#[.cells #[.string ⟨#[118,97,108,117,101,32,111,117,116,32,111,102,32,114,97,110,103,101]⟩] 342,.cells #[.string ⟨#[105,110,118,97,108,105,100,32,115,121,110,116,97,120]⟩] 342],#[],[]⟩
 let put (h:Array Obj) (g:Nat) (cs:Array Value):Array Obj:=h.modify g fun
  | .cells _ t frozen=>.cells cs t frozen
  | o=>o
 let h1:=put w0.heap 7 (bits b32).toArray
 let h2:=put h1 8 (bits b64).toArray
 let h3:=put h2 4 (Lib.pow10Tab.map fun z=>Value.int .u64 z).toArray
 let h4:=put h3 2 ((List.range 16).flatMap fun i=>[Value.int .u8 (Lib.accLo i),Value.int .u8 (Lib.accHi i)]).toArray
 let h5:=put h4 6 #[.iface 340 (.pointer (some ⟨N,0,none⟩))]
 let h6:=put h5 5 #[.iface 340 (.pointer (some ⟨N+1,0,none⟩))]
 let h7:=put h6 1 (Lib.firstTab.map fun z=>Value.int .u8 z).toArray
 {w0 with heap:=h7}
end
section
open Go.ChangeShapes Go.WideShapes Go.ChangeAt
def laidD : List (String × DataW Unit) := [("math/bits.deBruijn32tab", Rows.laid_math_bits_deBruijn32tab), ("math/bits.deBruijn64tab", Rows.laid_math_bits_deBruijn64tab), ("internal/strconv.uint64pow10", Rows.laid_internal_strconv_uint64pow10), ("unicode/utf8.acceptRanges", Rows.laid_unicode_utf8_acceptRanges), ("strconv.ErrRange", Rows.laid_strconv_ErrRange), ("strconv.ErrSyntax", Rows.laid_strconv_ErrSyntax), ("replevin/object.usages", Rows.laid_replevin_object_usages), ("unicode/utf8.first", Rows.laid_unicode_utf8_first)]
theorem tabsD {W:World} (h:laidMetH prog laidD W):(ErA.p fun b=>W.heap[b]?)∧P10.p fun b=>W.heap[b]?:=by
 rw [MakeChecks.laidMetH_plain _ _ _ (by kernel_rfl)] at h
 have h3:=h.tail.tail
 have h5:=h3.tail.tail
 have h6:=h5.tail
 refine ⟨?_,?_⟩
 ·obtain ⟨a1, s1, hv1, _⟩ := laid_sentinel h5 (show prog.globalNamed "strconv.ErrRange" = some 6 by kernel_rfl) (show (prog.globals[6]?).map (·.type) = some 207 by kernel_rfl) underlying207 row_err underlying340 underlying342 rfl rfl underlying9 (by kernel_rfl) (by kernel_rfl)
  obtain ⟨a2, s2, hv2, _⟩ := laid_sentinel h6 (show prog.globalNamed "strconv.ErrSyntax" = some 5 by kernel_rfl) (show (prog.globals[5]?).map (·.type) = some 207 by kernel_rfl) underlying207 row_err underlying340 underlying342 rfl rfl underlying9 (by kernel_rfl) (by kernel_rfl)
  obtain ⟨T1, f1, e1⟩ := var_one (show prog.globalNamed "strconv.ErrRange" = some 6 by kernel_rfl) hv1
  obtain ⟨T2, f2, e2⟩ := var_one (show prog.globalNamed "strconv.ErrSyntax" = some 5 by kernel_rfl) hv2
  exact ⟨⟨_,T2,f2,.inr ⟨_,_,rfl⟩,e2⟩,⟨_,T1,f1,.inr ⟨_,_,rfl⟩,e1⟩⟩
 ·obtain ⟨ps,⟨g1,t1,cs1,f1,p1,q1,hg1,ht1,hv1,hd1,_⟩,_⟩:=h3
  obtain rfl := Option.some.inj ((show prog.globalNamed "internal/strconv.uint64pow10" = some 4 by kernel_rfl).symm.trans hg1)
  obtain rfl:=Option.some.inj (tP10.symm.trans ht1)
  have hcs:cs1.toList=Lib.pow10Tab.map fun z=>Value.int .u64 z:=VV (enc':=fun _=>()) _ _ _ _ W W _ _ _ _ _ _ _ _ _ _ plP10 hd1 (rdP10 W) rfl
  unfold World.var? at hv1
  rw [hg1] at hv1
  simp only [Option.bind_some] at hv1
  split at hv1
  ·rename_i cs t fr hb
   obtain rfl:=Option.some.inj hv1
   exact ⟨t,fr,by rw [←hcs];simpa using hb⟩
  ·cases hv1
theorem usgD {W:World} (h:laidMetH prog laidD W):Usg.p fun b=>W.heap[b]?:=by
 rw [MakeChecks.laidMetH_plain _ _ _ (by kernel_rfl)] at h
 have h:=h.tail.tail.tail.tail.tail.tail
 obtain ⟨ps,⟨g0,t0,cs0,f0,p0,q0,hg0,ht0,hv0,hd0,_⟩,_⟩:=h
 obtain rfl:=Option.some.inj (gUsg.symm.trans hg0)
 obtain rfl:=Option.some.inj (tUsg.symm.trans ht0)
 have hcs:cs0.toList=usages.flatMap uf:=VV (enc':=fun _=>()) _ _ _ _ W W _ _ _ _ _ _ _ _ _ _ plUsg hd0 (rdUsg W) rfl
 unfold World.var? at hv0
 rw [hg0] at hv0
 simp only [Option.bind_some] at hv0
 split at hv0
 ·rename_i cs t fr hb
  obtain rfl:=Option.some.inj hv0
  exact ⟨t,fr,by rw [←hcs];simpa using hb⟩
 ·cases hv0
noncomputable def laidWorldD (os:Os):World:=
 let N:=(World.settled prog os).heap.size
 let w0:=World.holding prog os ⟨#[.cells #[.string ⟨#[118,97,108,117,101,32,111,117,116,32,111,102,32,114,97,110,103,101]⟩] 342,.cells #[.string ⟨#[105,110,118,97,108,105,100,32,115,121,110,116,97,120]⟩] 342],#[],[]⟩
 let put (h:Array Obj) (g:Nat) (cs:Array Value):Array Obj:=h.modify g fun
  | .cells _ t frozen=>.cells cs t frozen
  | o=>o
 let h1:=put w0.heap 7 (bits b32).toArray
 let h2:=put h1 8 (bits b64).toArray
 let h3:=put h2 4 (Lib.pow10Tab.map fun z=>Value.int .u64 z).toArray
 let h4:=put h3 2 ((List.range 16).flatMap fun i=>[Value.int .u8 (Lib.accLo i),Value.int .u8 (Lib.accHi i)]).toArray
 let h5:=put h4 6 #[.iface 340 (.pointer (some ⟨N,0,none⟩))]
 let h6:=put h5 5 #[.iface 340 (.pointer (some ⟨N+1,0,none⟩))]
 let h7:=put h6 1 (Lib.firstTab.map fun z=>Value.int .u8 z).toArray
 let h8:=put h7 0 (usages.flatMap uf).toArray
 {w0 with heap:=h8}
end
end Go.Proofs.YtcjfciifhdfjkaaGreatDoor
