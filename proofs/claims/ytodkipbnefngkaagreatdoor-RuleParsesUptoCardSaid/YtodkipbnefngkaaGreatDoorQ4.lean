/-
  The model's parser of rules: terms and conditions.
  Package rule: terms and conditions.
  Package rule: Check, Expand, expandedSize.
  Package rule: actions, rules.
  Package rule: a line.
  The parser of rules: where its errors are; the lines of a text. No program in sight.
  The program's and the model's reading of a text of rules agree; no program in sight.
  What the trees of the model and the conditions of the program say of a consequence is the same; what the actions of parsed rules are. No program in sight.
  Conditions that the parser makes: their shape and the sizes of their texts. No program in sight.
  How long a template becomes. No program in sight.
  Package rule: the tests of conditions.
  Package rule: what conditions say of a consequence.
  Rules for the literals of maps in regions that draw their order.
  The statements' model of the language of rules: shortened consequences, expanded templates.
  Regions that draw their order, by what holds after any part of them.
  The statements' model of the language of rules: expanded templates.
  The statements' model of the language of rules: what a tree says of a consequence.
  Two texts of rules, one behind the other: what they are read as, and what they decide. No program in sight.
  Conditions that stand in other conditions: what the scanner and the model's parser make of them. No program in sight.
  Conditions that stand in other conditions: what the scanner makes of texts that are put together, and what such rules say. No program in sight.
  Two conditions, and those that combine them by not, and, or: what the rules of the combined text say. No program in sight.
  Conditions that a parser makes, as they are written: what they are, and how many parentheses stand in one another. No program in sight.
  Conditions that were read are in the parser's form. No program in sight.
  Package rule: the canonical text of conditions.
  What is written of a condition is read as that condition. No program in sight.
  What is written of a condition is read as that condition: conditions with operands. No program in sight.
  The range over a function, whose rounds leave facts and hand something on.
  strings.SplitSeq at the ends of lines.
  Package rule: Parse.
  Conditions: those that each theorem states.
-/
import Derived.Test.YtodkipbnefngkaaGreatDoorQ3
import Derived.Test.YtodkipbnefngkaaGreatDoorQ2
import Derived.Shelf.Strings.Prefix
set_option maxRecDepth 10000
namespace Go.Proofs.YtodkipbnefngkaaGreatDoor
open Go.RowKit Go.Proofs.Tryz
def LoM (m m':Mq):Prop:=m'.tk.length≤m.tk.length∧m'.op=m.op
namespace LoM
theorem rfl' (m:Mq):LoM m m:=⟨Nat.le_refl _,rfl⟩
theorem trans {a b c:Mq} (h:LoM a b) (k:LoM b c):LoM a c:=⟨Nat.le_trans k.1 h.1,k.2.trans h.2⟩
theorem fail (m:Mq) (e:Int):LoM m (m.fail e):=by
 unfold Mq.fail
 split<;>exact ⟨Nat.le_refl _,rfl⟩
theorem pass (m:Mq):LoM m m.pass:=⟨by show m.tk.tail.length≤_;rw [List.length_tail];omega,rfl⟩
theorem take (m:Mq) (q:Tk→Bool):LoM m (m.take q).2:=by
 unfold Mq.take
 split
 ·exact fail m 30
 ·exact pass m
theorem num (m:Mq):LoM m (numM m).2:=by
 unfold numM
 split
 ·exact fail m 30
 ·split
  ·exact fail m 3
  ·split
   ·exact fail m 2
   ·exact pass m
theorem tst (w:ByteArray) (m:Mq):LoM m (tstM w m).2:=by
 unfold tstM
 split
 ·exact rfl' m
 ·split
  ·split
   ·exact pass m
   ·exact fail m 30
  ·split
   ·split
    ·exact (pass m).trans (take _ _)
    ·exact fail m 30
   ·split
    ·split
     ·exact (pass m).trans (num _)
     ·exact fail m 30
    ·refine trans ?_ (take _ _)
     split
     ·exact fail m 12
     ·exact rfl' m
theorem test (m:Mq):LoM m (testM m).2:=by
 unfold testM
 split
 ·exact (pass m).trans (tst _ _)
 ·exact fail m 30
theorem all:∀n:Nat,(∀m,LoM m (factorM n m).2)∧(∀m,LoM m (termM n m).2)∧(∀l m,LoM m (termN n l m).2)∧(∀m,LoM m (condM n m).2)∧(∀l m,LoM m (condN n l m).2)
 | 0=>⟨fun m=>by rw [factorM];exact fail m 99,fun m=>by rw [termM];exact fail m 99,fun l m=>by rw [termN];exact fail m 99,fun m=>by rw [condM];exact fail m 99,fun l m=>by rw [condN];exact fail m 99⟩
 | n+1=>by
  obtain ⟨h1,h2,h3,h4,h5⟩:=all n
  refine ⟨fun m=>?_,fun m=>?_,fun l m=>?_,fun m=>?_,fun l m=>?_⟩
  ·rw [factorM]
   split
   ·exact (pass m).trans (h1 _)
   ·split
    ·split
     ·exact fail m 9
     ·have a1:=h4 {m.pass with op:=m.op+1}
      have a2:=take (condM n {m.pass with op:=m.op+1}).2 (Mq.isS yCls)
      have a3:=a1.trans a2
      refine ⟨Nat.le_trans a3.1 (pass m).1,?_⟩
      show (((condM n {m.pass with op:=m.op+1}).2.take (Mq.isS yCls)).2).op - 1=m.op
      rw [a3.2]
      show m.op+1 - 1=m.op
      omega
    ·split
     ·exact (pass m).trans (tst _ _)
     ·exact fail m 30
  ·rw [termM]
   exact (h1 m).trans (h3 _ _)
  ·rw [termN]
   split
   ·exact (pass m).trans ((h1 _).trans (h3 _ _))
   ·exact rfl' m
  ·rw [condM]
   exact (h2 m).trans (h5 _ _)
  ·rw [condN]
   split
   ·exact (pass m).trans ((h2 _).trans (h5 _ _))
   ·exact rfl' m
end LoM
def SpM (F:FuncId) (bp:Nat) (l:List Tk) (o:Option Addr) (cap:Nat) (m:Mq) (y:Tr5×Mq):Prop:=∀q:Kx l m,Enters F∧Spec prog F #[.pointer (some ⟨bp,0,none⟩)] [TmS o cap l] [Pt bp (mqC m l.length q.1 o cap)] (TmP bp l y o cap)
theorem row_of {T sz b m:Nat} {xs:List Value} (hx:xs.length=m * sz) {h:H} (hh:Sep [Pt b (.cells xs.toArray T)] h):Row T sz (some ⟨b,0,none⟩) m m xs h:=by
 obtain ⟨h1,_,_,s1,_,hp,_⟩:=hh
 exact .inr ⟨b,[],(0,0),rfl,by rw [List.append_nil];exact s1 _ _ hp,hx,by rw [List.append_nil];exact hx,Nat.le_refl _,.inl rfl⟩
theorem Xk {m:Mq} {w:ByteArray} (h:m.word w=true):m.pass.tk.length+1=m.tk.length:=by
 obtain ⟨_,_,t,ts,h1,_,_⟩:=Y1 h
 show m.tk.tail.length+1=_
 rw [h1];rfl
theorem kx_len {l:List Tk} {m:Mq} (q:Kx l m):m.tk.length≤l.length:=by
 have:=congrArg List.length q.2
 rw [List.length_drop] at this;omega
set_option maxHeartbeats 4000000 in
theorem mpTerm_step (bp:Nat) (l:List Tk) (o:Option Addr) (cap:Nat) (hl:LOK l) (n:Nat) (ihf:∀k,k≤n→∀m:Mq,0≤m.op→m.op≤32→4 * m.tk.length+1≤k→SpM 146 bp l o cap m (factorM k m)) (m:Mq) (ho1:0≤m.op) (ho2:m.op≤32) (hn:4 * m.tk.length+2≤n+1):SpM 114 bp l o cap m (termM (n+1) m):=by
 intro q
 have hlm:=kx_len q
 have hl1:=hl.2.1
 have n0:=ihf n (Nat.le_refl _) m ho1 ho2 (by omega) q
 have s0:=(LoM.all n).1 m
 rw [termM]
 generalize hfin:termN n [(factorM n m).1] (factorM n m).2=fin
 generalize factorM n m=y1 at *
 obtain ⟨c1,m1⟩:=y1
 obtain ⟨lf,sf⟩:=fin
 dsimp only at s0 n0 hfin ⊢
 refine ZR [_] func114 ntmps114 fun G w hp=>?_
 repeat' (first|refine ZF ?_|refine ZI ?_|refine ZG ?_|refine ZH ?_|refine ZL ?_|refine ZJ ?_|refine ZN ?_|refine ZK (fun b=>?_)|refine ZM (fun b=>?_)|refine ZC ?_|refine ZA ?_|refine Zb ?_|refine Zc ?_|refine Zq ?_|refine Zd ?_|refine r_ldN ?_|refine Zr (fun b=>?_)|refine Zo (fun b=>?_)|refine Zp ?_|refine Za ?_|refine ZD (n0) (fun _ _=>?_)|refine l_call0 (n0) (fun _ _=>?_)|refine ZQ (n0) (fun _ _=>?_)|(refine ZB (fun hc=>?_) (fun hc=>?_)<;>(try simp at hc))|(refine ZU (fun hc=>?_) (fun hc=>?_)<;>(try simp at hc))|refine ZT 3 [] [(0,0),(1,0),(2,0),(3,4),(4,1),(5,4),(6,0)] [7] ?_|(refine ZE (fun hc=>?_) (fun hc=>?_)<;>(try simp at hc)))
 rename_i b0 q1 _ bs
 obtain ⟨v1,k1⟩:=q1
 refine Z1 (Lx:=[Pt bs (.cells (tcf v1).toArray 65)]) (r:=Row 65 5 (some ⟨bs,0,none⟩) 1 1 (tcf v1)) (fun h hh=>row_of rfl hh) ?_
 refine Zn (F1:=[TcF c1 v1]) (f:=TcsF [c1] [v1]) (fun hp hF=>Y6.2 (hF _ (.head _))) ?_
 refine YK (X:={q:(Nat×List Tr5×Mq)×List TC×(Option Addr×Nat)×Nat // termN q.1.1 q.1.2.1 q.1.2.2=(lf,sf)∧q.1.1≤n∧4 * q.1.2.2.tk.length+1≤q.1.1∧q.1.2.2.op=m.op∧q.2.1.length=q.1.2.1.length∧q.2.1.length+q.1.2.2.tk.length≤100001∧l.drop q.2.2.2=q.1.2.2.tk})
  (fun q=>[(0,.pointer (some ⟨bp,0,none⟩)),(2,.pointer (some ⟨b0,0,none⟩)),(3,.pointer (some ⟨b,0,none⟩))]) (fun q=>[TmS o cap l,TcsF q.1.1.2.1 q.1.2.1]) (fun q=>[Pt bp (mqC q.1.1.2.2 l.length q.1.2.2.2 o cap),Pt b0 (.cells #[.string ⟨#[]⟩,.slice none 0 0,.string ⟨#[]⟩,.string ⟨#[]⟩,.int .i64 0] 65),Pt b (.cells #[.string wAnd,.slice q.1.2.2.1.1 q.1.2.1.length q.1.2.2.1.2,.string ⟨#[]⟩,.string ⟨#[]⟩,.int .i64 0] 65),Row 65 5 q.1.2.2.1.1 q.1.2.1.length q.1.2.2.1.2 (q.1.2.1.flatMap tcf)]) (fun q=>q.1.1.1)
  ⟨((n,[c1],m1),[v1],(some ⟨bs,0,none⟩,1),k1.1),hfin,Nat.le_refl _,by show 4 * m1.tk.length+1≤n;have:=s0.1;omega,s0.2,rfl,by show 1+m1.tk.length≤100001;have:=s0.1;omega,k1.2⟩ ⟨rfl,rfl,rfl,trivial⟩ ?_
 rintro ⟨⟨⟨f,cs,s⟩,vs,⟨o1,cap1⟩,kk⟩,i1,i2,i3,i4,i5,i6,i7⟩
 dsimp only at i1 i2 i3 i4 i5 i6 i7 ⊢
 obtain ⟨f,rfl⟩:∃k,f=k+1:=⟨f - 1,by omega⟩
 have n1:=YS bp l o cap hl s ⟨kk,i7⟩ wAnd
 rw [termN] at i1
 cases hi:s.word wAnd with
 | true=>
  rw [hi] at n1 i1
  rw [if_pos rfl] at n1 i1
  have hpl:=Xk hi
  have hpo:s.pass.op=m.op:=i4
  have n2:=fun (q:Kx l s.pass)=>ihf f (by omega) s.pass (by omega) (by omega) (by omega) q
  have a1:=(LoM.all f).1 s.pass
  generalize factorM f s.pass=y at *
  obtain ⟨c,s2⟩:=y
  dsimp only at i1 a1 n2
  have hroom:(2 * (vs.length+1)+200) * 80≤281474976710656:=by omega
  repeat' (first|refine ZF ?_|refine ZI ?_|refine ZG ?_|refine ZH ?_|refine ZL ?_|refine ZJ ?_|refine ZN ?_|refine ZK (fun b=>?_)|refine ZM (fun b=>?_)|refine ZC ?_|refine ZA ?_|refine Zb ?_|refine Zc ?_|refine Zq ?_|refine Zd ?_|refine r_ldN ?_|refine Zr (fun b=>?_)|refine Zo (fun b=>?_)|refine Zp ?_|refine Za ?_|refine ZD (n1) (fun _ _=>?_)|refine l_call0 (n1) (fun _ _=>?_)|refine ZQ (n1) (fun _ _=>?_)|refine ZD (n2 _) (fun _ _=>?_)|refine l_call0 (n2 _) (fun _ _=>?_)|refine ZQ (n2 _) (fun _ _=>?_)|refine r_app1 (m:=vs.length) (m2:=1) (fun o3 cap3=>?_) (hroom:=hroom)|(refine ZB (fun hc=>?_) (fun hc=>?_)<;>(try simp at hc)<;>(try omega))|(refine ZU (fun hc=>?_) (fun hc=>?_)<;>(try simp at hc)<;>(try omega))|refine ZT 3 [Pt _ (.cells _ 113 _),Row _ _ _ _ _ _] [(0,0),(1,0),(2,0),(3,4),(4,1),(5,4),(6,0)] [7] ?_|(refine ZE (fun hc=>?_) (fun hc=>?_)<;>(try simp at hc)<;>(try omega)))
  rename_i q1 _
  obtain ⟨v2,k2⟩:=q1
  have e1:vs.length+1=(vs++[v2]).length:=by simp
  have e2:vs.flatMap tcf++tcf v2=(vs++[v2]).flatMap tcf:=by simp
  refine YD (T:=65) (sz:=5) (o:=o3) (cap:=cap3) (m:=vs.length+1) _ _ e1 e2 ?_
  rw [e1]
  refine Zn (F1:=[TcsF cs vs,TcF c v2]) (f:=TcsF (cs++[c]) (vs++[v2])) (fun hp hF=>Vl (hF _ (.head _)) (Y6.2 (hF _ (.tail _ (.head _))))) ?_
  exact ZV ⟨((f,cs++[c],s2),vs++[v2],(o3,cap3),k2.1),i1,by show f≤n;omega,by show 4 * s2.tk.length+1≤f;have:=a1.1;omega,a1.2.trans hpo,by show (vs++[_]).length=(cs++[_]).length;simp [i5],by show (vs++[_]).length+s2.tk.length≤_;have:=a1.1;simp only [List.length_append,List.length_cons,List.length_nil];omega,k2.2⟩ (Nat.lt_succ_self f) ⟨rfl,rfl,rfl,trivial⟩
 | false=>
  rw [hi] at n1 i1
  rw [if_neg (by decide)] at n1 i1
  obtain ⟨rfl,rfl⟩:=Prod.mk.inj i1
  repeat' (first|refine ZF ?_|refine ZI ?_|refine ZG ?_|refine ZH ?_|refine ZL ?_|refine ZJ ?_|refine ZN ?_|refine ZK (fun b=>?_)|refine ZM (fun b=>?_)|refine ZC ?_|refine ZA ?_|refine ZO ?_|refine Zb ?_|refine Zc ?_|refine Zq ?_|refine Zd ?_|refine r_ldN ?_|refine Zr (fun b=>?_)|refine Zo (fun b=>?_)|refine Zp ?_|refine Za ?_|refine ZD (n1) (fun _ _=>?_)|refine l_call0 (n1) (fun _ _=>?_)|refine ZQ (n1) (fun _ _=>?_)|(refine ZB (fun hc=>?_) (fun hc=>?_)<;>(try simp at hc)<;>(try omega))|(refine ZU (fun hc=>?_) (fun hc=>?_)<;>(try simp at hc)<;>(try omega))|refine ZT 3 [] [(0,0),(1,0),(2,0),(3,4),(4,1),(5,4),(6,0)] [7] ?_|(refine ZE (fun hc=>?_) (fun hc=>?_)<;>(try simp at hc)<;>(try omega)))
  rename_i k2 _
  refine Xc (T:=65) (sz:=5) (f:=tcf) (o:=o1) (cap:=cap1) vs ?_ rfl rfl
  refine Zn (F1:=[TcS o1 cap1 vs,TcsF cs vs]) (f:=TcF (.mk wAnd cs eB eB 0) ⟨wAnd,o1,vs.length,cap1,eB,eB,0⟩) (fun hp hF=>WH (hF _ (.head _)) (hF _ (.tail _ (.head _)))) ?_
  exact ZP (⟨wAnd,o1,vs.length,cap1,eB,eB,0⟩,k2) rfl trivial
set_option maxHeartbeats 4000000 in
theorem mpCond_step (bp:Nat) (l:List Tk) (o:Option Addr) (cap:Nat) (hl:LOK l) (n:Nat) (ihf:∀k,k≤n→∀m:Mq,0≤m.op→m.op≤32→4 * m.tk.length+2≤k→SpM 114 bp l o cap m (termM k m)) (m:Mq) (ho1:0≤m.op) (ho2:m.op≤32) (hn:4 * m.tk.length+3≤n+1):SpM 77 bp l o cap m (condM (n+1) m):=by
 intro q
 have hlm:=kx_len q
 have hl1:=hl.2.1
 have n0:=ihf n (Nat.le_refl _) m ho1 ho2 (by omega) q
 have s0:=(LoM.all n).2.1 m
 rw [condM]
 generalize hfin:condN n [(termM n m).1] (termM n m).2=fin
 generalize termM n m=y1 at *
 obtain ⟨c1,m1⟩:=y1
 obtain ⟨lf,sf⟩:=fin
 dsimp only at s0 n0 hfin ⊢
 refine ZR [_] func77 ntmps77 fun G w hp=>?_
 repeat' (first|refine ZF ?_|refine ZI ?_|refine ZG ?_|refine ZH ?_|refine ZL ?_|refine ZJ ?_|refine ZN ?_|refine ZK (fun b=>?_)|refine ZM (fun b=>?_)|refine ZC ?_|refine ZA ?_|refine Zb ?_|refine Zc ?_|refine Zq ?_|refine Zd ?_|refine r_ldN ?_|refine Zr (fun b=>?_)|refine Zo (fun b=>?_)|refine Zp ?_|refine Za ?_|refine ZD (n0) (fun _ _=>?_)|refine l_call0 (n0) (fun _ _=>?_)|refine ZQ (n0) (fun _ _=>?_)|(refine ZB (fun hc=>?_) (fun hc=>?_)<;>(try simp at hc))|(refine ZU (fun hc=>?_) (fun hc=>?_)<;>(try simp at hc))|refine ZT 3 [] [(0,0),(1,0),(2,0),(3,4),(4,1),(5,4),(6,0)] [7] ?_|(refine ZE (fun hc=>?_) (fun hc=>?_)<;>(try simp at hc)))
 rename_i b0 q1 _ bs
 obtain ⟨v1,k1⟩:=q1
 refine Z1 (Lx:=[Pt bs (.cells (tcf v1).toArray 65)]) (r:=Row 65 5 (some ⟨bs,0,none⟩) 1 1 (tcf v1)) (fun h hh=>row_of rfl hh) ?_
 refine Zn (F1:=[TcF c1 v1]) (f:=TcsF [c1] [v1]) (fun hp hF=>Y6.2 (hF _ (.head _))) ?_
 refine YK (X:={q:(Nat×List Tr5×Mq)×List TC×(Option Addr×Nat)×Nat // condN q.1.1 q.1.2.1 q.1.2.2=(lf,sf)∧q.1.1≤n∧4 * q.1.2.2.tk.length+2≤q.1.1∧q.1.2.2.op=m.op∧q.2.1.length=q.1.2.1.length∧q.2.1.length+q.1.2.2.tk.length≤100001∧l.drop q.2.2.2=q.1.2.2.tk})
  (fun q=>[(0,.pointer (some ⟨bp,0,none⟩)),(2,.pointer (some ⟨b0,0,none⟩)),(3,.pointer (some ⟨b,0,none⟩))]) (fun q=>[TmS o cap l,TcsF q.1.1.2.1 q.1.2.1]) (fun q=>[Pt bp (mqC q.1.1.2.2 l.length q.1.2.2.2 o cap),Pt b0 (.cells #[.string ⟨#[]⟩,.slice none 0 0,.string ⟨#[]⟩,.string ⟨#[]⟩,.int .i64 0] 65),Pt b (.cells #[.string wOr,.slice q.1.2.2.1.1 q.1.2.1.length q.1.2.2.1.2,.string ⟨#[]⟩,.string ⟨#[]⟩,.int .i64 0] 65),Row 65 5 q.1.2.2.1.1 q.1.2.1.length q.1.2.2.1.2 (q.1.2.1.flatMap tcf)]) (fun q=>q.1.1.1)
  ⟨((n,[c1],m1),[v1],(some ⟨bs,0,none⟩,1),k1.1),hfin,Nat.le_refl _,by show 4 * m1.tk.length+2≤n;have:=s0.1;omega,s0.2,rfl,by show 1+m1.tk.length≤100001;have:=s0.1;omega,k1.2⟩ ⟨rfl,rfl,rfl,trivial⟩ ?_
 rintro ⟨⟨⟨f,cs,s⟩,vs,⟨o1,cap1⟩,kk⟩,i1,i2,i3,i4,i5,i6,i7⟩
 dsimp only at i1 i2 i3 i4 i5 i6 i7 ⊢
 obtain ⟨f,rfl⟩:∃k,f=k+1:=⟨f - 1,by omega⟩
 have n1:=YS bp l o cap hl s ⟨kk,i7⟩ wOr
 rw [condN] at i1
 cases hi:s.word wOr with
 | true=>
  rw [hi] at n1 i1
  rw [if_pos rfl] at n1 i1
  have hpl:=Xk hi
  have hpo:s.pass.op=m.op:=i4
  have n2:=fun (q:Kx l s.pass)=>ihf f (by omega) s.pass (by omega) (by omega) (by omega) q
  have a1:=(LoM.all f).2.1 s.pass
  generalize termM f s.pass=y at *
  obtain ⟨c,s2⟩:=y
  dsimp only at i1 a1 n2
  have hroom:(2 * (vs.length+1)+200) * 80≤281474976710656:=by omega
  repeat' (first|refine ZF ?_|refine ZI ?_|refine ZG ?_|refine ZH ?_|refine ZL ?_|refine ZJ ?_|refine ZN ?_|refine ZK (fun b=>?_)|refine ZM (fun b=>?_)|refine ZC ?_|refine ZA ?_|refine Zb ?_|refine Zc ?_|refine Zq ?_|refine Zd ?_|refine r_ldN ?_|refine Zr (fun b=>?_)|refine Zo (fun b=>?_)|refine Zp ?_|refine Za ?_|refine ZD (n1) (fun _ _=>?_)|refine l_call0 (n1) (fun _ _=>?_)|refine ZQ (n1) (fun _ _=>?_)|refine ZD (n2 _) (fun _ _=>?_)|refine l_call0 (n2 _) (fun _ _=>?_)|refine ZQ (n2 _) (fun _ _=>?_)|refine r_app1 (m:=vs.length) (m2:=1) (fun o3 cap3=>?_) (hroom:=hroom)|(refine ZB (fun hc=>?_) (fun hc=>?_)<;>(try simp at hc)<;>(try omega))|(refine ZU (fun hc=>?_) (fun hc=>?_)<;>(try simp at hc)<;>(try omega))|refine ZT 3 [Pt _ (.cells _ 113 _),Row _ _ _ _ _ _] [(0,0),(1,0),(2,0),(3,4),(4,1),(5,4),(6,0)] [7] ?_|(refine ZE (fun hc=>?_) (fun hc=>?_)<;>(try simp at hc)<;>(try omega)))
  rename_i q1 _
  obtain ⟨v2,k2⟩:=q1
  have e1:vs.length+1=(vs++[v2]).length:=by simp
  have e2:vs.flatMap tcf++tcf v2=(vs++[v2]).flatMap tcf:=by simp
  refine YD (T:=65) (sz:=5) (o:=o3) (cap:=cap3) (m:=vs.length+1) _ _ e1 e2 ?_
  rw [e1]
  refine Zn (F1:=[TcsF cs vs,TcF c v2]) (f:=TcsF (cs++[c]) (vs++[v2])) (fun hp hF=>Vl (hF _ (.head _)) (Y6.2 (hF _ (.tail _ (.head _))))) ?_
  exact ZV ⟨((f,cs++[c],s2),vs++[v2],(o3,cap3),k2.1),i1,by show f≤n;omega,by show 4 * s2.tk.length+2≤f;have:=a1.1;omega,a1.2.trans hpo,by show (vs++[_]).length=(cs++[_]).length;simp [i5],by show (vs++[_]).length+s2.tk.length≤_;have:=a1.1;simp only [List.length_append,List.length_cons,List.length_nil];omega,k2.2⟩ (Nat.lt_succ_self f) ⟨rfl,rfl,rfl,trivial⟩
 | false=>
  rw [hi] at n1 i1
  rw [if_neg (by decide)] at n1 i1
  obtain ⟨rfl,rfl⟩:=Prod.mk.inj i1
  repeat' (first|refine ZF ?_|refine ZI ?_|refine ZG ?_|refine ZH ?_|refine ZL ?_|refine ZJ ?_|refine ZN ?_|refine ZK (fun b=>?_)|refine ZM (fun b=>?_)|refine ZC ?_|refine ZA ?_|refine ZO ?_|refine Zb ?_|refine Zc ?_|refine Zq ?_|refine Zd ?_|refine r_ldN ?_|refine Zr (fun b=>?_)|refine Zo (fun b=>?_)|refine Zp ?_|refine Za ?_|refine ZD (n1) (fun _ _=>?_)|refine l_call0 (n1) (fun _ _=>?_)|refine ZQ (n1) (fun _ _=>?_)|(refine ZB (fun hc=>?_) (fun hc=>?_)<;>(try simp at hc)<;>(try omega))|(refine ZU (fun hc=>?_) (fun hc=>?_)<;>(try simp at hc)<;>(try omega))|refine ZT 3 [] [(0,0),(1,0),(2,0),(3,4),(4,1),(5,4),(6,0)] [7] ?_|(refine ZE (fun hc=>?_) (fun hc=>?_)<;>(try simp at hc)<;>(try omega)))
  rename_i k2 _
  refine Xc (T:=65) (sz:=5) (f:=tcf) (o:=o1) (cap:=cap1) vs ?_ rfl rfl
  refine Zn (F1:=[TcS o1 cap1 vs,TcsF cs vs]) (f:=TcF (.mk wOr cs eB eB 0) ⟨wOr,o1,vs.length,cap1,eB,eB,0⟩) (fun hp hF=>WH (hF _ (.head _)) (hF _ (.tail _ (.head _)))) ?_
  exact ZP (⟨wOr,o1,vs.length,cap1,eB,eB,0⟩,k2) rfl trivial
theorem row_of1 {T b:Nat} {v:Value} {h:H} (hh:Sep [Pt b (.cells #[v] T)] h):Row T 1 (some ⟨b,0,none⟩) 1 1 [v] h:=by
 obtain ⟨h1,_,_,s1,_,hp,_⟩:=hh
 exact .inr ⟨b,[],(0,0),rfl,s1 _ _ hp,rfl,rfl,Nat.le_refl _,.inl rfl⟩
set_option maxHeartbeats 4000000 in
theorem ruTerm_step (n b r:Nat) (ihf:∀m,m≤n→∀x o cap,PkOK x→4 * x.tk.length+1≤m→SpF 154 b r x o cap (factorF m x)) (x:Ps) (o:Option Addr) (cap:Nat) (hx:PkOK x) (hn:4 * x.tk.length+2≤n+1) :
  SpF 142 b r x o cap (termF (n+1) x):=by
 have n0:=ihf n (Nat.le_refl _) x o cap hx (by omega)
 have hlv:=(lv_all n).1 x
 have s0:=(Yq n).1 x
 have hy1:PkOK (factorF n x).2:=hx.sfx s0 ((X6 n).1 x)
 have l0:=s0.len
 have hln:=hx.ln
 rw [termF]
 generalize hfin:termL n [(factorF n x).1] (factorF n x).2=fin
 generalize factorF n x=y1 at *
 obtain ⟨c1,x1⟩:=y1
 obtain ⟨lf,sf⟩:=fin
 dsimp only at hlv hy1 l0 hfin ⊢
 unfold SpF at n0 ⊢
 generalize b=bp at *
 refine ZR [_] func142 ntmps142 fun G w hp=>?_
 repeat' (first|refine ZF ?_|refine ZI ?_|refine ZG ?_|refine ZH ?_|refine ZL ?_|refine ZJ ?_|refine ZN ?_|refine ZK (fun b=>?_)|refine ZM (fun b=>?_)|refine ZC ?_|refine ZA ?_|refine ZD (n0) (fun _ _=>?_)|refine l_call0 (n0) (fun _ _=>?_)|(refine ZB (fun hc=>?_) (fun hc=>?_)<;>(try simp at hc))|(refine ZE (fun hc=>?_) (fun hc=>?_)<;>(try simp at hc)))
 rename_i q _
 obtain ⟨⟨T,u⟩,q2⟩:=q
 refine Z1 (Lx:=[Pt b (.cells #[ivOf (T,u)] 100)]) (r:=Row 100 1 (some ⟨b,0,none⟩) 1 1 [ivOf (T,u)]) (fun h hh=>row_of1 hh) ?_
 refine Zn (F1:=[CdF c1 (ivOf (T,u))]) (f:=CdsF [c1] [ivOf (T,u)]) (fun hp hF=>Y7.2 (hF _ (.head _))) ?_
 refine YK (X:={q:(Nat×List Cnd×Ps)×List IV×(Option Addr×Nat)×(Option Addr×Nat) // termL q.1.1 q.1.2.1 q.1.2.2=(lf,sf)∧q.1.1≤n∧4 * q.1.2.2.tk.length+1≤q.1.1∧PkOK q.1.2.2∧q.2.1.length=q.1.2.1.length∧lvs q.1.2.1+3 * q.1.2.2.tk.length≤300010})
  (fun q=>[(0,.pointer (some ⟨bp,0,none⟩)),(3,.slice q.1.2.2.2.1 q.1.2.1.length q.1.2.2.2.2)]) (fun q=>[TkS q.1.2.2.1 q.1.1.2.2.tk,ErA,P10,CdsF q.1.1.2.1 (q.1.2.1.map ivOf)]) (fun q=>[Pt bp (psC q.1.1.2.2 q.1.2.2.1.1 q.1.2.2.1.2 r),Mp skv vid r tstL,Row 100 1 q.1.2.2.2.1 q.1.2.1.length q.1.2.2.2.2 (q.1.2.1.flatMap ivl)]) (fun q=>q.1.1.1)
  ⟨((n,[c1],x1),[(T,u)],q2,(some ⟨b,0,none⟩,1)),hfin,Nat.le_refl _,by show 4 * x1.tk.length+1≤n;omega,hy1,rfl,by show lvs [c1]+3 * x1.tk.length≤_;simp only [lvs];omega⟩ ⟨rfl,rfl,trivial⟩ ?_
 rintro ⟨⟨⟨m,l,s⟩,vs,⟨o1,cap1⟩,⟨o2,cap2⟩⟩,i1,i2,i3,i4,i5,i6⟩
 dsimp only at i1 i2 i3 i4 i5 i6 ⊢
 obtain ⟨m,rfl⟩:∃k,m=k+1:=⟨m - 1,by omega⟩
 have n1:=Xe bp r s o1 cap1 i4.kd 1 wAnd
 have hll:=XD l
 rw [termL] at i1
 cases hi:s.is 1 wAnd with
 | true=>
  rw [hi] at n1 i1
  rw [if_pos rfl] at n1 i1
  have hpl:=is_pass (by decide) hi
  have hps:PkOK s.pass:=i4.sfx (Sfx.pass s) (Sop.pass s)
  have n2:=fun (q:Option Addr×Nat)=>ihf m (by omega) s.pass q.1 q.2 hps (by omega)
  have a1:=(lv_all m).1 s.pass
  have a2:=((Yq m).1 s.pass).len
  have a3:PkOK (factorF m s.pass).2:=hps.sfx ((Yq m).1 s.pass) ((X6 m).1 s.pass)
  unfold SpF at n2
  generalize factorF m s.pass=y at *
  obtain ⟨c,s2⟩:=y
  dsimp only at i1 a1 a2 a3 n2
  have hroom:(2 * (vs.length+1)+200) * 16≤281474976710656:=by omega
  repeat' (first|refine YY (m:=vs.length) (m2:=1) (fun o3 cap3=>?_) (hroom:=hroom)|refine ZF ?_|refine ZI ?_|refine ZG ?_|refine ZH ?_|refine ZL ?_|refine ZJ ?_|refine ZN ?_|refine ZK (fun b=>?_)|refine ZM (fun b=>?_)|refine ZC ?_|refine ZA ?_|refine ZD (n1) (fun _ _=>?_)|refine l_call0 (n1) (fun _ _=>?_)|refine ZD (n2 _) (fun _ _=>?_)|refine l_call0 (n2 _) (fun _ _=>?_)|(refine ZB (fun hc=>?_) (fun hc=>?_)<;>(try simp at hc)<;>(try omega))|(refine ZE (fun hc=>?_) (fun hc=>?_)<;>(try simp at hc)<;>(try omega)))
  rename_i q0 _ iv _
  obtain ⟨⟨T2,u2⟩,q3⟩:=iv
  have e1:vs.length+1=(vs++[(T2,u2)]).length:=by simp
  have e2:vs.flatMap ivl++[ivOf (T2,u2)]=(vs++[(T2,u2)]).flatMap ivl:=by simp
  refine YD (T:=100) (sz:=1) (o:=o3) (cap:=cap3) (m:=vs.length+1) _ _ e1 e2 ?_
  rw [e1]
  refine Zn (F1:=[CdsF l (vs.map ivOf),CdF c (ivOf (T2,u2))]) (f:=CdsF (l++[c]) ((vs++[(T2,u2)]).map ivOf)) (fun hp hF=>?_) ?_
  ·show CdsP hp _ _
   rw [List.map_append]
   exact XQ (hF _ (.head _)) (Y7.2 (hF _ (.tail _ (.head _))))
  exact ZV ⟨((m,l++[c],s2),vs++[(T2,u2)],q3,(o3,cap3)),i1,by show m≤n;omega,by show 4 * s2.tk.length+1≤m;omega,a3,by show (vs++[_]).length=(l++[c]).length;simp [i5],by show lvs (l++[c])+3 * s2.tk.length≤_;rw [X0];simp only [lvs];omega⟩ (Nat.lt_succ_self m) ⟨rfl,rfl,trivial⟩
 | false=>
  rw [hi] at n1 i1
  rw [if_neg (by decide)] at n1 i1
  obtain ⟨rfl,rfl⟩:=Prod.mk.inj i1
  have hb1:=lvs_alls l
  have hb2:=XD (l.flatMap allP)
  have n3:=ruBoth_ok o2 cap2 l vs i5 (by omega) (by omega)
  refine Xc (T:=100) (sz:=1) (f:=ivl) (o:=o2) (cap:=cap2) vs ?_ rfl rfl
  repeat' (first|refine ZF ?_|refine ZI ?_|refine ZG ?_|refine ZH ?_|refine ZL ?_|refine ZJ ?_|refine ZN ?_|refine ZK (fun b=>?_)|refine ZM (fun b=>?_)|refine ZC ?_|refine ZA ?_|refine ZO ?_|refine ZD (n1) (fun _ _=>?_)|refine l_call0 (n1) (fun _ _=>?_)|refine ZD (n3) (fun _ _=>?_)|refine l_call0 (n3) (fun _ _=>?_)|(refine ZB (fun hc=>?_) (fun hc=>?_)<;>(try simp at hc)<;>(try omega))|(refine ZE (fun hc=>?_) (fun hc=>?_)<;>(try simp at hc)<;>(try omega)))
  rename_i q0 _ iv _
  exact ZP (iv,q0) rfl trivial
set_option maxHeartbeats 4000000 in
theorem ruCond_step (n b r:Nat) (iht:∀m,m≤n→∀x o cap,PkOK x→4 * x.tk.length+2≤m→SpF 142 b r x o cap (termF m x)) (x:Ps) (o:Option Addr) (cap:Nat) (hx:PkOK x) (hn:4 * x.tk.length+3≤n+1) :
  SpF 107 b r x o cap (condF (n+1) x):=by
 have n0:=iht n (Nat.le_refl _) x o cap hx (by omega)
 have hlv:=(lv_all n).2.1 x
 have s0:=(Yq n).2.1 x
 have hy1:PkOK (termF n x).2:=hx.sfx s0 ((X6 n).2.1 x)
 have l0:=s0.len
 have hln:=hx.ln
 rw [condF]
 generalize hfin:condL n [(termF n x).1] (termF n x).2=fin
 generalize termF n x=y1 at *
 obtain ⟨c1,x1⟩:=y1
 obtain ⟨lf,sf⟩:=fin
 dsimp only at hlv hy1 l0 hfin ⊢
 unfold SpF at n0 ⊢
 generalize b=bp at *
 refine ZR [_] func107 ntmps107 fun G w hp=>?_
 repeat' (first|refine ZF ?_|refine ZI ?_|refine ZG ?_|refine ZH ?_|refine ZL ?_|refine ZJ ?_|refine ZN ?_|refine ZK (fun b=>?_)|refine ZM (fun b=>?_)|refine ZC ?_|refine ZA ?_|refine ZD (n0) (fun _ _=>?_)|refine l_call0 (n0) (fun _ _=>?_)|(refine ZB (fun hc=>?_) (fun hc=>?_)<;>(try simp at hc))|(refine ZE (fun hc=>?_) (fun hc=>?_)<;>(try simp at hc)))
 rename_i q _
 obtain ⟨⟨T,u⟩,q2⟩:=q
 refine Z1 (Lx:=[Pt b (.cells #[ivOf (T,u)] 100)]) (r:=Row 100 1 (some ⟨b,0,none⟩) 1 1 [ivOf (T,u)]) (fun h hh=>row_of1 hh) ?_
 refine Zn (F1:=[CdF c1 (ivOf (T,u))]) (f:=CdsF [c1] [ivOf (T,u)]) (fun hp hF=>Y7.2 (hF _ (.head _))) ?_
 refine YK (X:={q:(Nat×List Cnd×Ps)×List IV×(Option Addr×Nat)×(Option Addr×Nat) // condL q.1.1 q.1.2.1 q.1.2.2=(lf,sf)∧q.1.1≤n∧4 * q.1.2.2.tk.length+2≤q.1.1∧PkOK q.1.2.2∧q.2.1.length=q.1.2.1.length∧lvs q.1.2.1+3 * q.1.2.2.tk.length≤300010})
  (fun q=>[(0,.pointer (some ⟨bp,0,none⟩)),(3,.slice q.1.2.2.2.1 q.1.2.1.length q.1.2.2.2.2)]) (fun q=>[TkS q.1.2.2.1 q.1.1.2.2.tk,ErA,P10,CdsF q.1.1.2.1 (q.1.2.1.map ivOf)]) (fun q=>[Pt bp (psC q.1.1.2.2 q.1.2.2.1.1 q.1.2.2.1.2 r),Mp skv vid r tstL,Row 100 1 q.1.2.2.2.1 q.1.2.1.length q.1.2.2.2.2 (q.1.2.1.flatMap ivl)]) (fun q=>q.1.1.1)
  ⟨((n,[c1],x1),[(T,u)],q2,(some ⟨b,0,none⟩,1)),hfin,Nat.le_refl _,by show 4 * x1.tk.length+2≤n;omega,hy1,rfl,by show lvs [c1]+3 * x1.tk.length≤_;simp only [lvs];omega⟩ ⟨rfl,rfl,trivial⟩ ?_
 rintro ⟨⟨⟨m,l,s⟩,vs,⟨o1,cap1⟩,⟨o2,cap2⟩⟩,i1,i2,i3,i4,i5,i6⟩
 dsimp only at i1 i2 i3 i4 i5 i6 ⊢
 obtain ⟨m,rfl⟩:∃k,m=k+1:=⟨m - 1,by omega⟩
 have n1:=Xe bp r s o1 cap1 i4.kd 1 wOr
 have hll:=XD l
 rw [condL] at i1
 cases hi:s.is 1 wOr with
 | true=>
  rw [hi] at n1 i1
  rw [if_pos rfl] at n1 i1
  have hpl:=is_pass (by decide) hi
  have hps:PkOK s.pass:=i4.sfx (Sfx.pass s) (Sop.pass s)
  have n2:=fun (q:Option Addr×Nat)=>iht m (by omega) s.pass q.1 q.2 hps (by omega)
  have a1:=(lv_all m).2.1 s.pass
  have a2:=((Yq m).2.1 s.pass).len
  have a3:PkOK (termF m s.pass).2:=hps.sfx ((Yq m).2.1 s.pass) ((X6 m).2.1 s.pass)
  unfold SpF at n2
  generalize termF m s.pass=y at *
  obtain ⟨c,s2⟩:=y
  dsimp only at i1 a1 a2 a3 n2
  have hroom:(2 * (vs.length+1)+200) * 16≤281474976710656:=by omega
  repeat' (first|refine YY (m:=vs.length) (m2:=1) (fun o3 cap3=>?_) (hroom:=hroom)|refine ZF ?_|refine ZI ?_|refine ZG ?_|refine ZH ?_|refine ZL ?_|refine ZJ ?_|refine ZN ?_|refine ZK (fun b=>?_)|refine ZM (fun b=>?_)|refine ZC ?_|refine ZA ?_|refine ZD (n1) (fun _ _=>?_)|refine l_call0 (n1) (fun _ _=>?_)|refine ZD (n2 _) (fun _ _=>?_)|refine l_call0 (n2 _) (fun _ _=>?_)|(refine ZB (fun hc=>?_) (fun hc=>?_)<;>(try simp at hc)<;>(try omega))|(refine ZE (fun hc=>?_) (fun hc=>?_)<;>(try simp at hc)<;>(try omega)))
  rename_i q0 _ iv _
  obtain ⟨⟨T2,u2⟩,q3⟩:=iv
  have e1:vs.length+1=(vs++[(T2,u2)]).length:=by simp
  have e2:vs.flatMap ivl++[ivOf (T2,u2)]=(vs++[(T2,u2)]).flatMap ivl:=by simp
  refine YD (T:=100) (sz:=1) (o:=o3) (cap:=cap3) (m:=vs.length+1) _ _ e1 e2 ?_
  rw [e1]
  refine Zn (F1:=[CdsF l (vs.map ivOf),CdF c (ivOf (T2,u2))]) (f:=CdsF (l++[c]) ((vs++[(T2,u2)]).map ivOf)) (fun hp hF=>?_) ?_
  ·show CdsP hp _ _
   rw [List.map_append]
   exact XQ (hF _ (.head _)) (Y7.2 (hF _ (.tail _ (.head _))))
  exact ZV ⟨((m,l++[c],s2),vs++[(T2,u2)],q3,(o3,cap3)),i1,by show m≤n;omega,by show 4 * s2.tk.length+2≤m;omega,a3,by show (vs++[_]).length=(l++[c]).length;simp [i5],by show lvs (l++[c])+3 * s2.tk.length≤_;rw [X0];simp only [lvs];omega⟩ (Nat.lt_succ_self m) ⟨rfl,rfl,trivial⟩
 | false=>
  rw [hi] at n1 i1
  rw [if_neg (by decide)] at n1 i1
  obtain ⟨rfl,rfl⟩:=Prod.mk.inj i1
  have hb1:=lvs_anys l
  have hb2:=XD (l.flatMap anyP)
  have n3:=ruEither_ok o2 cap2 l vs i5 (by omega) (by omega)
  refine Xc (T:=100) (sz:=1) (f:=ivl) (o:=o2) (cap:=cap2) vs ?_ rfl rfl
  repeat' (first|refine ZF ?_|refine ZI ?_|refine ZG ?_|refine ZH ?_|refine ZL ?_|refine ZJ ?_|refine ZN ?_|refine ZK (fun b=>?_)|refine ZM (fun b=>?_)|refine ZC ?_|refine ZA ?_|refine ZO ?_|refine ZD (n1) (fun _ _=>?_)|refine l_call0 (n1) (fun _ _=>?_)|refine ZD (n3) (fun _ _=>?_)|refine l_call0 (n3) (fun _ _=>?_)|(refine ZB (fun hc=>?_) (fun hc=>?_)<;>(try simp at hc)<;>(try omega))|(refine ZE (fun hc=>?_) (fun hc=>?_)<;>(try simp at hc)<;>(try omega)))
  rename_i q0 _ iv _
  exact ZP (iv,q0) rfl trivial
theorem ruAll (b r:Nat):∀n:Nat,
  (∀m,m≤n→∀x o cap,PkOK x→4 * x.tk.length+1≤m→SpF 154 b r x o cap (factorF m x))∧
  (∀m,m≤n→∀x o cap,PkOK x→4 * x.tk.length+2≤m→SpF 142 b r x o cap (termF m x))∧
  (∀m,m≤n→∀x o cap,PkOK x→4 * x.tk.length+3≤m→SpF 107 b r x o cap (condF m x))
 | 0=>⟨fun m hm x o cap _ h=>absurd h (by omega),fun m hm x o cap _ h=>absurd h (by omega),fun m hm x o cap _ h=>absurd h (by omega)⟩
 | n+1=>by
  obtain ⟨h1,h2,h3⟩:=ruAll b r n
  refine ⟨fun m hm x o cap hx hl=>?_,fun m hm x o cap hx hl=>?_,fun m hm x o cap hx hl=>?_⟩
  ·by_cases hmn:m≤n
   ·exact h1 m hmn x o cap hx hl
   ·obtain rfl:m=n+1:=by omega
    by_cases c1:x.peek.kd=1∧x.peek.tx=wNot
    ·have hp:=Xq (p:=x) (by rw [c1.1];decide)
     exact ruFactor_not n b r x o cap hx c1.1 c1.2 fun o cap=>h1 n (Nat.le_refl _) x.pass o cap (hx.sfx (Sfx.pass x) (Sop.pass x)) (by omega)
    ·by_cases c2:x.peek.kd=4∧x.peek.tx=yOpn
     ·have hp:=Xq (p:=x) (by rw [c2.1];decide)
      exact ruFactor_par n b r x o cap hx c2.1 c2.2 fun q o cap hq hl=>h3 n (Nat.le_refl _) q o cap hq (by omega)
     ·by_cases c3:x.peek.kd=1∧isTst x.peek.tx=true
      ·exact ruFactor_test n b r x o cap hx c3.1 c3.2
      ·exact ruFactor_bad n b r x o cap hx c1 c2 c3
  ·by_cases hmn:m≤n
   ·exact h2 m hmn x o cap hx hl
   ·obtain rfl:m=n+1:=by omega
    exact ruTerm_step n b r h1 x o cap hx hl
  ·by_cases hmn:m≤n
   ·exact h3 m hmn x o cap hx hl
   ·obtain rfl:m=n+1:=by omega
    exact ruCond_step n b r h2 x o cap hx hl
theorem ruCond_ok (b r:Nat) (x:Ps) (o:Option Addr) (cap:Nat) (hx:PkOK x):SpF 107 b r x o cap (condF (fuP x) x):=
 (ruAll b r (fuP x)).2.2 _ (Nat.le_refl _) x o cap hx (by unfold fuP;omega)
theorem Zy {f:FuncId} {cs:Array Value} {vs:List Value} {F:List Pf} {R:List HP} {post:Post} (spec:Enters f∧Spec prog f (vs.toArray++cs) F R post):SpecV (.func (.func f) #[] cs) vs F R post:=by
 intro G w hp hsat
 unfold CallsV OpRes
 have e1:(invoke (.fn (.func f) cs) (#[]++vs.toArray)).run prog w = .ok (.enter f (vs.toArray++cs)) w:=by
  simp only [invoke]
  rw [show (#[]++vs.toArray:Array Value)=vs.toArray by rw [←Array.toList_inj];simp]
  exact spec.1 _ w
 simp only [e1]
 refine Calls.mono (spec.2 G w hp hsat) ?_
 rintro e w' ⟨x,rfl,hx,hs⟩
 exact ⟨x,rfl,hx,hs⟩
theorem check1_ok (t:ByteArray) (r:HP):Enters 35∧Spec prog 35 #[.string t] [P10] [r] ⟨Unit,fun _=>.tuple #[],fun _=>True,fun _=>[],fun _=>[r]⟩:=by
 refine ZR [_] func35 ntmps35 fun G w hp=>?_
 repeat' (first|refine ZF ?_|refine ZI ?_|refine ZG ?_|refine ZH ?_|refine ZL ?_|refine ZJ ?_|refine ZN ?_|refine ZK (fun b=>?_)|refine ZM (fun b=>?_)|refine ZC ?_|refine ZA ?_|refine ZO ?_|(refine ZB (fun hc=>?_) (fun hc=>?_)<;>(try simp at hc))|(refine ZE (fun hc=>?_) (fun hc=>?_)<;>(try simp at hc)))
 exact YR () rfl trivial
def Nil0:HP:=fun _=>True
theorem tplV_ge (s:ByteArray) (i:Nat) (h:(tplF s).2=some i):tplV s=(i:Int):=by unfold tplV;rw [h]
theorem tplV_no (s:ByteArray) (h:(tplF s).2=none):tplV s = -1:=by unfold tplV;rw [h]
theorem ruCheck_ok (s:ByteArray) (hs:s.size≤1000000):Enters 14∧Spec prog 14 #[.string s] [P10] [] (RetV (.tuple #[.int .i64 (if (tplF s).2.isSome then tplV s else 0),.int .i64 (if (tplF s).2.isSome then 3 else 0)])):=by
 have n1:=Vr s hs (fnv 35) (fnv 35) (fun _=>Nil0) (fun acc t _=>Zy (check1_ok t _)) (fun acc n _=>Zy (check1_ok n _))
 cases h:(tplF s).2 with
 | none=>
  rw [tplV_no s h] at n1 ⊢
  simp only [Option.isSome_none,Bool.false_eq_true,if_false]
  refine ZR [_] func14 ntmps14 fun G w hp=>?_
  refine Z1 (Lx:=[]) (r:=Nil0) (fun _ _=>trivial) ?_
  repeat' (first|refine ZF ?_|refine ZI ?_|refine ZG ?_|refine ZH ?_|refine ZL ?_|refine ZJ ?_|refine ZN ?_|refine ZK (fun b=>?_)|refine ZM (fun b=>?_)|refine ZC ?_|refine ZA ?_|refine ZO ?_|refine ZD (n1) (fun _ _=>?_)|refine l_call0 (n1) (fun _ _=>?_)|(refine ZB (fun hc=>?_) (fun hc=>?_)<;>(try simp at hc)<;>(try omega))|(refine ZE (fun hc=>?_) (fun hc=>?_)<;>(try simp at hc)<;>(try omega)))
  exact ZP () rfl trivial
 | some i=>
  rw [tplV_ge s i h] at n1 ⊢
  simp only [Option.isSome_some,if_true]
  refine ZR [_] func14 ntmps14 fun G w hp=>?_
  refine Z1 (Lx:=[]) (r:=Nil0) (fun _ _=>trivial) ?_
  repeat' (first|refine ZF ?_|refine ZI ?_|refine ZG ?_|refine ZH ?_|refine ZL ?_|refine ZJ ?_|refine ZN ?_|refine ZK (fun b=>?_)|refine ZM (fun b=>?_)|refine ZC ?_|refine ZA ?_|refine ZO ?_|refine ZD (n1) (fun _ _=>?_)|refine l_call0 (n1) (fun _ _=>?_)|(refine ZB (fun hc=>?_) (fun hc=>?_)<;>(try simp at hc)<;>(try omega))|(refine ZE (fun hc=>?_) (fun hc=>?_)<;>(try simp at hc)<;>(try omega)))
  exact ZP () rfl trivial
theorem pt_both {a b:Nat} {o u:Obj} {h:H} (hh:Sep [Pt b u,Pt a o] h):both (Pt a o) (Pt b u) h:=by
 obtain ⟨h1,h2,dj,s1,s2,hp,k1,k2,_,t1,_,hq,_⟩:=hh
 exact ⟨h2,h1,fun x=>(dj x).symm,s2,s1,t1 _ _ hq,h1,emp,fun _=>.inr rfl,fun _ _ e=>e,fun _ _ e=>(by cases e),hp,trivial⟩
theorem bd_both {a b:Nat} {o:Obj} {h:H} (hh:Sep [Pt b (.cells #[.pointer none,.slice none 0 0] 82),Pt a o] h):both (Pt a o) (Bdr b []) h:=by
 obtain ⟨h1,h2,dj,s1,s2,hp,k1,k2,_,t1,_,hq,_⟩:=hh
 exact ⟨h2,h1,fun x=>(dj x).symm,s2,s1,t1 _ _ hq,h1,emp,fun _=>.inr rfl,fun _ _ e=>e,fun _ _ e=>(by cases e),bd_new ⟨h1,emp,fun _=>.inr rfl,fun _ _ e=>e,fun _ _ e=>(by cases e),hp,trivial⟩,trivial⟩
theorem expand1_ok (b a:Nat) (bs:List UInt8) (t:ByteArray) (c:Cq) (h1:bs.length≤1000000000) (h2:t.size≤1000000000):Enters 37∧Spec prog 37 #[.string t,.pointer (some ⟨b,0,none⟩)] [P10] [both (Pt a (.cells (cqf c).toArray 26)) (Bdr b bs)]
  ⟨Unit,fun _=>.tuple #[],fun _=>True,fun _=>[],fun _=>[both (Pt a (.cells (cqf c).toArray 26)) (Bdr b (bs++t.data.toList))]⟩:=by
 have n1:=ZY b bs t h1 h2
 generalize b=bp at *
 generalize a=ap at *
 refine ZR [_,_] func37 ntmps37 fun G w hp=>?_
 refine Yu (X:=Unit) (Lx:=fun _=>[Pt ap (.cells (cqf c).toArray 26),Bdr bp bs]) (p:=fun _=>True) (r:=both (Pt ap (.cells (cqf c).toArray 26)) (Bdr bp bs)) .here (fun h hh=>⟨(),trivial,hh⟩) (fun _ _=>?_)
 repeat' (first|refine ZF ?_|refine ZI ?_|refine ZG ?_|refine ZH ?_|refine ZL ?_|refine ZJ ?_|refine ZN ?_|refine ZK (fun b=>?_)|refine ZM (fun b=>?_)|refine ZC ?_|refine ZA ?_|refine ZO ?_|refine ZD (n1) (fun _ _=>?_)|refine l_call0 (n1) (fun _ _=>?_)|(refine ZB (fun hc=>?_) (fun hc=>?_)<;>(try simp at hc))|(refine ZE (fun hc=>?_) (fun hc=>?_)<;>(try simp at hc)))
 refine Z1 (Lx:=[Pt ap (.cells (cqf c).toArray 26),Bdr bp (bs++t.data.toList)]) (r:=both (Pt ap (.cells (cqf c).toArray 26)) (Bdr bp (bs++t.data.toList))) (fun h hh=>hh) ?_
 exact YR () rfl trivial
theorem expand2_ok (b a:Nat) (bs:List UInt8) (n:ByteArray) (c:Cq) (hc:CqI c) (h1:bs.length≤1000000000) (h2:(valF n c).size≤1000000000):Enters 39∧Spec prog 39 #[.string n,.pointer (some ⟨a,0,none⟩),.pointer (some ⟨b,0,none⟩)] [P10] [both (Pt a (.cells (cqf c).toArray 26)) (Bdr b bs)]
  ⟨Unit,fun _=>.tuple #[],fun _=>True,fun _=>[],fun _=>[both (Pt a (.cells (cqf c).toArray 26)) (Bdr b (bs++(valF n c).data.toList))]⟩:=by
 have n0:=VL n c hc
 have n1:=ZY b bs (valF n c) h1 h2
 generalize valF n c=z at *
 generalize b=bp at *
 generalize a=ap at *
 refine ZR [_,_,_] func39 ntmps39 fun G w hp=>?_
 refine Yu (X:=Unit) (Lx:=fun _=>[Pt ap (.cells (cqf c).toArray 26),Bdr bp bs]) (p:=fun _=>True) (r:=both (Pt ap (.cells (cqf c).toArray 26)) (Bdr bp bs)) .here (fun h hh=>⟨(),trivial,hh⟩) (fun _ _=>?_)
 repeat' (first|refine ZF ?_|refine ZI ?_|refine ZG ?_|refine ZH ?_|refine ZL ?_|refine ZJ ?_|refine ZN ?_|refine ZK (fun b=>?_)|refine ZM (fun b=>?_)|refine ZC ?_|refine ZA ?_|refine ZO ?_|refine ZD (n0) (fun _ _=>?_)|refine l_call0 (n0) (fun _ _=>?_)|refine ZD (n1) (fun _ _=>?_)|refine l_call0 (n1) (fun _ _=>?_)|(refine ZB (fun hc=>?_) (fun hc=>?_)<;>(try simp at hc))|(refine ZE (fun hc=>?_) (fun hc=>?_)<;>(try simp at hc)))
 refine Z1 (Lx:=[Pt ap (.cells (cqf c).toArray 26),Bdr bp (bs++z.data.toList)]) (r:=both (Pt ap (.cells (cqf c).toArray 26)) (Bdr bp (bs++z.data.toList))) (fun h hh=>hh) ?_
 exact YR () rfl trivial
def flat (c:Cq) (l:List Seg):List UInt8:=l.flatMap fun x=>(segF c x).data.toList
theorem Wf (c:Cq) (a b:List Seg):flat c (a++b)=flat c a++flat c b:=List.flatMap_append
theorem Vd (c:Cq) (x:Seg):flat c [x]=(segF c x).data.toList:=by simp [flat]
theorem flt_pre {c:Cq} {a:List Seg} {x:Seg} {l:List Seg} (h:a++[x] <+: l):(flat c a).length+(segF c x).size≤(flat c l).length:=by
 obtain ⟨r,rfl⟩:=h
 have:=lsz (segF c x)
 rw [Wf,Wf,Vd,List.length_append,List.length_append]
 omega
theorem expF_flat (s:ByteArray) (c:Cq):expF s c=ofL (flat c (tplF s).1):=rfl
theorem expF_sz (s:ByteArray) (c:Cq):(expF s c).size=(flat c (tplF s).1).length:=by rw [expF_flat,Zs]
set_option maxHeartbeats 1000000 in
theorem ruExpand_ok (s:ByteArray) (c:Cq) (hs:s.size≤1000000) (hc:CqI c) (he:(expF s c).size≤1000000000):Enters 15∧Spec prog 15 #[.string s,cqa c] [P10] [] (RetV (.tuple #[.string (if (tplF s).2.isSome then ⟨#[]⟩ else expF s c),.int .i64 (if (tplF s).2.isSome then 3 else 0)])):=by
 rw [expF_sz] at he
 have n0:=fun (ap bp:Nat)=>Vr s hs (.func (.func 37) #[] #[.pointer (some ⟨bp,0,none⟩)]) (.func (.func 39) #[] #[.pointer (some ⟨ap,0,none⟩),.pointer (some ⟨bp,0,none⟩)]) (fun acc=>both (Pt ap (.cells (cqf c).toArray 26)) (Bdr bp (flat c acc)))
  (fun acc t h=>by
   have:=flt_pre (c:=c) h
   have h2:=expand1_ok bp ap (flat c acc) t c (by omega) (by simp only [segF] at this;omega)
   rw [show flat c acc++t.data.toList=flat c (acc++[.lit t]) by rw [Wf,Vd];rfl] at h2
   exact Zy h2)
  (fun acc n h=>by
   have:=flt_pre (c:=c) h
   have h2:=expand2_ok bp ap (flat c acc) n c hc (by omega) (by simp only [segF] at this;omega)
   rw [show flat c acc++(valF n c).data.toList=flat c (acc++[.fld n]) by rw [Wf,Vd];rfl] at h2
   exact Zy h2)
 obtain ⟨V,hV⟩:∃V,tplV s=V:=⟨_,rfl⟩
 rw [expF_flat]
 have hV':=hV
 unfold tplV at hV'
 simp only [hV] at n0
 generalize tplF s=T at *
 obtain ⟨L,o⟩:=T
 dsimp only at *
 have hn:flat c []=[]:=rfl
 simp only [hn] at n0
 have n1:=fun (ap bp:Nat)=>V2 (L:=[Pt bp (.cells #[.pointer none,.slice none 0 0] 82),Pt ap (.cells (cqf c).toArray 26)]) (fun _ hh=>bd_both hh) (n0 ap bp)
 have n2:=fun (bp:Nat)=>Xb bp (flat c L) (by omega)
 cases o with
 | none=>
  subst hV'
  simp only [Option.isSome_none,Bool.false_eq_true,if_false]
  refine ZR [_,_] func15 ntmps15 fun G w hp=>?_
  repeat' (first|refine Yu (X:=Unit) (Lx:=fun _=>[Pt _ (.cells (cqf c).toArray 26),Bdr _ (flat c L)]) (p:=fun _=>True) (r:=both (Pt _ (.cells (cqf c).toArray 26)) (Bdr _ (flat c L))) .here (fun h hh=>⟨(),trivial,hh⟩) (fun _ _=>?_)|refine ZF ?_|refine ZI ?_|refine ZG ?_|refine ZH ?_|refine ZL ?_|refine ZJ ?_|refine ZN ?_|refine ZK (fun b=>?_)|refine ZM (fun b=>?_)|refine ZC ?_|refine ZA ?_|refine ZO ?_|refine ZD (n1 _ _) (fun _ _=>?_)|refine l_call0 (n1 _ _) (fun _ _=>?_)|refine ZD (n2 _) (fun _ _=>?_)|refine l_call0 (n2 _) (fun _ _=>?_)|(refine ZB (fun hc=>?_) (fun hc=>?_)<;>(try simp at hc))|(refine ZE (fun hc=>?_) (fun hc=>?_)<;>(try simp at hc)))
  exact ZP () rfl trivial
 | some i=>
  subst hV'
  simp only [Option.isSome_some,if_true]
  refine ZR [_,_] func15 ntmps15 fun G w hp=>?_
  repeat' (first|refine ZF ?_|refine ZI ?_|refine ZG ?_|refine ZH ?_|refine ZL ?_|refine ZJ ?_|refine ZN ?_|refine ZK (fun b=>?_)|refine ZM (fun b=>?_)|refine ZC ?_|refine ZA ?_|refine ZO ?_|refine ZD (n1 _ _) (fun _ _=>?_)|refine l_call0 (n1 _ _) (fun _ _=>?_)|(refine ZB (fun hc=>?_) (fun hc=>?_)<;>(try simp at hc)<;>(try omega))|(refine ZE (fun hc=>?_) (fun hc=>?_)<;>(try simp at hc)<;>(try omega)))
  exact ZP () rfl trivial
theorem esize1_ok (b a:Nat) (z:Nat) (t:ByteArray) (c:Cq) (h1:z+t.size≤1000000000000):Enters 72∧Spec prog 72 #[.string t,.pointer (some ⟨b,0,none⟩)] [P10] [both (Pt a (.cells (cqf c).toArray 26)) (Pt b (.cells #[.int .i64 z] 3))]
  ⟨Unit,fun _=>.tuple #[],fun _=>True,fun _=>[],fun _=>[both (Pt a (.cells (cqf c).toArray 26)) (Pt b (.cells #[.int .i64 ((z+t.size:Nat):Int)] 3))]⟩:=by
 have w1:=wrapi (z:=(z:Int)+(t.size:Int)) (by omega) (by omega)
 rw [←Int.natCast_add] at w1
 generalize b=bp at *
 generalize a=ap at *
 refine ZR [_,_] func72 ntmps72 fun G w hp=>?_
 refine Yu (X:=Unit) (Lx:=fun _=>[Pt ap (.cells (cqf c).toArray 26),Pt bp (.cells #[.int .i64 z] 3)]) (p:=fun _=>True) (r:=both (Pt ap (.cells (cqf c).toArray 26)) (Pt bp (.cells #[.int .i64 z] 3))) .here (fun h hh=>⟨(),trivial,hh⟩) (fun _ _=>?_)
 repeat' (first|refine ZF ?_|refine ZI ?_|refine ZG ?_|refine ZH ?_|refine ZL ?_|refine ZJ ?_|refine ZN ?_|refine ZK (fun b=>?_)|refine ZM (fun b=>?_)|refine ZC ?_|refine ZA ?_|refine ZO ?_|rw [←Int.natCast_add]|rw [w1]|(refine ZB (fun hc=>?_) (fun hc=>?_)<;>(try simp at hc))|(refine ZE (fun hc=>?_) (fun hc=>?_)<;>(try simp at hc)))
 refine Z1 (Lx:=[Pt ap (.cells (cqf c).toArray 26),Pt bp (.cells #[.int .i64 ((z+t.size:Nat):Int)] 3)]) (r:=both (Pt ap (.cells (cqf c).toArray 26)) (Pt bp (.cells #[.int .i64 ((z+t.size:Nat):Int)] 3))) (fun h hh=>hh) ?_
 exact YR () rfl trivial
theorem esize2_ok (b a:Nat) (z:Nat) (n:ByteArray) (c:Cq) (hc:CqI c) (h1:z+(valF n c).size≤1000000000000):Enters 73∧Spec prog 73 #[.string n,.pointer (some ⟨a,0,none⟩),.pointer (some ⟨b,0,none⟩)] [P10] [both (Pt a (.cells (cqf c).toArray 26)) (Pt b (.cells #[.int .i64 z] 3))]
  ⟨Unit,fun _=>.tuple #[],fun _=>True,fun _=>[],fun _=>[both (Pt a (.cells (cqf c).toArray 26)) (Pt b (.cells #[.int .i64 ((z+(valF n c).size:Nat):Int)] 3))]⟩:=by
 have n0:=VL n c hc
 generalize valF n c=t at *
 have w1:=wrapi (z:=(z:Int)+(t.size:Int)) (by omega) (by omega)
 rw [←Int.natCast_add] at w1
 generalize b=bp at *
 generalize a=ap at *
 refine ZR [_,_,_] func73 ntmps73 fun G w hp=>?_
 refine Yu (X:=Unit) (Lx:=fun _=>[Pt ap (.cells (cqf c).toArray 26),Pt bp (.cells #[.int .i64 z] 3)]) (p:=fun _=>True) (r:=both (Pt ap (.cells (cqf c).toArray 26)) (Pt bp (.cells #[.int .i64 z] 3))) .here (fun h hh=>⟨(),trivial,hh⟩) (fun _ _=>?_)
 repeat' (first|refine ZF ?_|refine ZI ?_|refine ZG ?_|refine ZH ?_|refine ZL ?_|refine ZJ ?_|refine ZN ?_|refine ZK (fun b=>?_)|refine ZM (fun b=>?_)|refine ZC ?_|refine ZA ?_|refine ZO ?_|refine ZD (n0) (fun _ _=>?_)|refine l_call0 (n0) (fun _ _=>?_)|rw [←Int.natCast_add]|rw [w1]|(refine ZB (fun hc=>?_) (fun hc=>?_)<;>(try simp at hc))|(refine ZE (fun hc=>?_) (fun hc=>?_)<;>(try simp at hc)))
 refine Z1 (Lx:=[Pt ap (.cells (cqf c).toArray 26),Pt bp (.cells #[.int .i64 ((z+t.size:Nat):Int)] 3)]) (r:=both (Pt ap (.cells (cqf c).toArray 26)) (Pt bp (.cells #[.int .i64 ((z+t.size:Nat):Int)] 3))) (fun h hh=>hh) ?_
 exact YR () rfl trivial
set_option maxHeartbeats 1000000 in
theorem ruSize_ok (s:ByteArray) (c:Cq) (hs:s.size≤1000000) (hc:CqI c) (he:(expF s c).size≤1000000000000):Enters 47∧Spec prog 47 #[.string s,cqa c] [P10] [] (RetV (.int .i64 ((expF s c).size:Nat))):=by
 rw [expF_sz] at he ⊢
 have n0:=fun (ap bp:Nat)=>Vr s hs (.func (.func 72) #[] #[.pointer (some ⟨bp,0,none⟩)]) (.func (.func 73) #[] #[.pointer (some ⟨ap,0,none⟩),.pointer (some ⟨bp,0,none⟩)]) (fun acc=>both (Pt ap (.cells (cqf c).toArray 26)) (Pt bp (.cells #[.int .i64 ((flat c acc).length:Nat)] 3)))
  (fun acc t h=>by
   have:=flt_pre (c:=c) h
   have ht:=lsz t
   have h2:=esize1_ok bp ap (flat c acc).length t c (by simp only [segF] at this;omega)
   rw [show (flat c acc).length+t.size=(flat c (acc++[.lit t])).length by rw [Wf,Vd,List.length_append];simp only [segF];omega] at h2
   exact Zy h2)
  (fun acc n h=>by
   have:=flt_pre (c:=c) h
   have ht:=lsz (valF n c)
   have h2:=esize2_ok bp ap (flat c acc).length n c hc (by simp only [segF] at this;omega)
   rw [show (flat c acc).length+(valF n c).size=(flat c (acc++[.fld n])).length by rw [Wf,Vd,List.length_append];simp only [segF];omega] at h2
   exact Zy h2)
 generalize (flat c (tplF s).1).length=m at *
 generalize tplV s=V at *
 have hn:(((flat c []).length:Nat):Int)=0:=rfl
 simp only [hn] at n0
 have n1:=fun (ap bp:Nat)=>V2 (L:=[Pt bp (.cells #[.int .i64 0] 3),Pt ap (.cells (cqf c).toArray 26)]) (fun _ hh=>pt_both hh) (n0 ap bp)
 refine ZR [_,_] func47 ntmps47 fun G w hp=>?_
 repeat' (first|refine Yu (X:=Unit) (Lx:=fun _=>[Pt _ (.cells (cqf c).toArray 26),Pt _ (.cells #[.int .i64 (m:Nat)] 3)]) (p:=fun _=>True) (r:=both (Pt _ (.cells (cqf c).toArray 26)) (Pt _ (.cells #[.int .i64 (m:Nat)] 3))) .here (fun h hh=>⟨(),trivial,hh⟩) (fun _ _=>?_)|refine ZF ?_|refine ZI ?_|refine ZG ?_|refine ZH ?_|refine ZL ?_|refine ZJ ?_|refine ZN ?_|refine ZK (fun b=>?_)|refine ZM (fun b=>?_)|refine ZC ?_|refine ZA ?_|refine ZO ?_|refine ZD (n1 _ _) (fun _ _=>?_)|refine l_call0 (n1 _ _) (fun _ _=>?_)|(refine ZB (fun hc=>?_) (fun hc=>?_)<;>(try simp at hc))|(refine ZE (fun hc=>?_) (fun hc=>?_)<;>(try simp at hc)))
 exact ZP () rfl trivial
theorem mget_act (w:ByteArray):(mget w (mset (⟨#[97,115,107]⟩:ByteArray) (5:Int) (mset (⟨#[104,111,108,100]⟩:ByteArray) (4:Int) (mset (⟨#[115,101,110,100]⟩:ByteArray) 3 (mset (⟨#[99,111,109,112,101,110,115,97,116,101]⟩:ByteArray) 2 (mset (⟨#[107,101,101,112]⟩:ByteArray) 1 []))))))=if idx w wActs<5 then some ((idx w wActs:Nat)+1:Int) else none:=by
 have e:(mset (⟨#[97,115,107]⟩:ByteArray) (5:Int) (mset (⟨#[104,111,108,100]⟩:ByteArray) (4:Int) (mset (⟨#[115,101,110,100]⟩:ByteArray) 3 (mset (⟨#[99,111,109,112,101,110,115,97,116,101]⟩:ByteArray) 2 (mset (⟨#[107,101,101,112]⟩:ByteArray) 1 [])))))=[(⟨#[107,101,101,112]⟩,1),(⟨#[99,111,109,112,101,110,115,97,116,101]⟩,2),(⟨#[115,101,110,100]⟩,3),(⟨#[104,111,108,100]⟩,4),(⟨#[97,115,107]⟩,5)]:=by decide
 rw [e]
 by_cases h1:w=⟨#[107,101,101,112]⟩
 ·subst h1;decide
 by_cases h2:w=⟨#[99,111,109,112,101,110,115,97,116,101]⟩
 ·subst h2;decide
 by_cases h3:w=⟨#[115,101,110,100]⟩
 ·subst h3;decide
 by_cases h4:w=⟨#[104,111,108,100]⟩
 ·subst h4;decide
 by_cases h5:w=⟨#[97,115,107]⟩
 ·subst h5;decide
 have e2:idx w wActs=5:=by simp [wActs,idx,Ne.symm h1,Ne.symm h2,Ne.symm h3,Ne.symm h4,Ne.symm h5]
 rw [e2]
 simp [mget,h1,h2,h3,h4,h5]
abbrev acV (a:Ac):Value:=.agg #[.int .i64 a.k,.string a.t]
set_option maxHeartbeats 2000000 in
theorem UA (b r:Nat) (x:Ps) (o:Option Addr) (cap:Nat) (hk:KdOK x):Enters 109∧Spec prog 109 #[.pointer (some ⟨b,0,none⟩)] [TkS (o,cap) x.tk,P10] [Pt b (psC x o cap r)] (PsP (acV (actF x).1) b r (actF x).2):=by
 have n1:=Yg b r x o cap hk 1
 have n2:=fun (q:Option Addr×Nat)=>Z8 b r (x.need 1) q.1 q.2 x.peek.pl 30
 have hg:=mget_act x.peek.tx
 have hk1:=hk.need 1
 unfold actF
 generalize x.need 1=x1 at *
 generalize hp:x.peek=t at *
 obtain ⟨kd,tx,pl⟩:=t
 dsimp only at hg ⊢
 generalize b=bp at *
 by_cases hi:idx tx wActs<5
 ·rw [if_pos hi] at hg
  by_cases h1:idx tx wActs=1
  ·rw [if_pos h1,if_pos hi]
   rw [h1] at hg
   have n3:=fun (q:Option Addr×Nat)=>Yg bp r x1 q.1 q.2 hk1 3
   have hz:=hk1.peek
   have n4:=ruCheck_ok x1.peek.tx (by omega)
   have n5:=fun (q:Option Addr×Nat)=>Z8 bp r (x1.need 3) q.1 q.2 x1.peek.pl 3
   generalize x1.peek=u at *
   obtain ⟨kd2,tx2,pl2⟩:=u
   dsimp only at n4 n5 ⊢
   generalize x1.need 3=x3 at *
   generalize tplV tx2=V at *
   cases ho:(tplF tx2).2.isSome with
   | true=>
    rw [ho] at n4
    rw [if_pos rfl,if_pos rfl] at n4
    rw [if_pos rfl]
    refine ZR [_] func109 ntmps109 fun G w hp=>?_
    repeat' (first|refine Yc (V:=ivv) Zl tx (some 2) hg ?_|refine Y9 Zl _ _ ?_|refine WC Zl ivv (fun r=>?_)|refine ZF ?_|refine ZI ?_|refine ZG ?_|refine ZH ?_|refine ZL ?_|refine ZJ ?_|refine ZN ?_|refine ZK (fun b=>?_)|refine ZM (fun b=>?_)|refine ZC ?_|refine ZA ?_|refine ZO ?_|refine ZD (n1) (fun _ _=>?_)|refine l_call0 (n1) (fun _ _=>?_)|refine ZD (n3 _) (fun _ _=>?_)|refine l_call0 (n3 _) (fun _ _=>?_)|refine ZD (n4) (fun _ _=>?_)|refine l_call0 (n4) (fun _ _=>?_)|refine ZD (n5 _) (fun _ _=>?_)|refine l_call0 (n5 _) (fun _ _=>?_)|(refine ZB (fun hc=>?_) (fun hc=>?_)<;>(try simp at hc)<;>(try omega))|(refine ZE (fun hc=>?_) (fun hc=>?_)<;>(try simp at hc)<;>(try omega)))
    rename_i q _
    exact ZP q rfl trivial
   | false=>
    rw [ho] at n4
    rw [if_neg (by decide),if_neg (by decide)] at n4
    rw [if_neg (by decide)]
    refine ZR [_] func109 ntmps109 fun G w hp=>?_
    repeat' (first|refine Yc (V:=ivv) Zl tx (some 2) hg ?_|refine Y9 Zl _ _ ?_|refine WC Zl ivv (fun r=>?_)|refine ZF ?_|refine ZI ?_|refine ZG ?_|refine ZH ?_|refine ZL ?_|refine ZJ ?_|refine ZN ?_|refine ZK (fun b=>?_)|refine ZM (fun b=>?_)|refine ZC ?_|refine ZA ?_|refine ZO ?_|refine ZD (n1) (fun _ _=>?_)|refine l_call0 (n1) (fun _ _=>?_)|refine ZD (n3 _) (fun _ _=>?_)|refine l_call0 (n3 _) (fun _ _=>?_)|refine ZD (n4) (fun _ _=>?_)|refine l_call0 (n4) (fun _ _=>?_)|(refine ZB (fun hc=>?_) (fun hc=>?_)<;>(try simp at hc)<;>(try omega))|(refine ZE (fun hc=>?_) (fun hc=>?_)<;>(try simp at hc)<;>(try omega)))
    rename_i q _ _ _
    exact ZP q rfl trivial
  ·rw [if_neg h1,if_pos hi,if_pos hi]
   have hz2:¬((idx tx wActs:Nat)+1:Int)=2:=by omega
   generalize ((idx tx wActs:Nat)+1:Int)=z at hg hz2 ⊢
   refine ZR [_] func109 ntmps109 fun G w hp=>?_
   repeat' (first|refine Yc (V:=ivv) Zl tx (some z) hg ?_|refine Y9 Zl _ _ ?_|refine WC Zl ivv (fun r=>?_)|refine ZF ?_|refine ZI ?_|refine ZG ?_|refine ZH ?_|refine ZL ?_|refine ZJ ?_|refine ZN ?_|refine ZK (fun b=>?_)|refine ZM (fun b=>?_)|refine ZC ?_|refine ZA ?_|refine ZO ?_|refine ZD (n1) (fun _ _=>?_)|refine l_call0 (n1) (fun _ _=>?_)|(refine ZB (fun hc=>?_) (fun hc=>?_)<;>(try simp at hc)<;>(try omega))|(refine ZE (fun hc=>?_) (fun hc=>?_)<;>(try simp at hc)<;>(try omega)))
   rename_i q _
   exact ZP q rfl trivial
 ·rw [if_neg hi] at hg
  rw [if_neg (show ¬idx tx wActs=1 by omega),if_neg hi,if_neg hi]
  refine ZR [_] func109 ntmps109 fun G w hp=>?_
  repeat' (first|refine Yc (V:=ivv) Zl tx none hg ?_|refine Y9 Zl _ _ ?_|refine WC Zl ivv (fun r=>?_)|refine ZF ?_|refine ZI ?_|refine ZG ?_|refine ZH ?_|refine ZL ?_|refine ZJ ?_|refine ZN ?_|refine ZK (fun b=>?_)|refine ZM (fun b=>?_)|refine ZC ?_|refine ZA ?_|refine ZO ?_|refine ZD (n1) (fun _ _=>?_)|refine l_call0 (n1) (fun _ _=>?_)|refine ZD (n2 _) (fun _ _=>?_)|refine l_call0 (n2 _) (fun _ _=>?_)|(refine ZB (fun hc=>?_) (fun hc=>?_)<;>(try simp at hc)<;>(try omega))|(refine ZE (fun hc=>?_) (fun hc=>?_)<;>(try simp at hc)<;>(try omega)))
  rename_i q _
  exact ZP q rfl trivial
abbrev ovl (x:Option IV):Value:=match x with
 | none=>.nilIface
 | some i=>ivOf i
def OcP (h:H) (c:Option Cnd) (x:Option IV):Prop:=match c,x with
 | none,none=>True
 | some c,some i=>CdP h c (ivOf i)
 | _,_=>False
def OcF (c:Option Cnd) (x:Option IV):Pf:=⟨fun h=>OcP h c x,fun h k s hh=>by
 unfold OcP at *
 split
 ·trivial
 ·exact VM s _ _ hh
 ·rename_i a b
  revert hh
  split
  ·exact fun _=>a rfl rfl
  ·exact fun _=>b _ _ rfl rfl
  ·exact id⟩
abbrev ruV (i:Option IV) (a:Ac):Value:=.agg #[ovl i,.int .i64 a.k,.string a.t]
abbrev RlQ (b r:Nat) (y:Ru×Ps):Post:=⟨Option IV×Option Addr×Nat,fun q=>ruV q.1 y.1.a,fun _=>True,fun q=>[OcF y.1.c q.1,TkS q.2 y.2.tk],fun q=>[Pt b (psC y.2 q.2.1 q.2.2 r),Mp skv vid r tstL]⟩
set_option maxHeartbeats 4000000 in
theorem ruRule_ok (b r:Nat) (x:Ps) (o:Option Addr) (cap:Nat) (hx:PkOK x):Enters 71∧Spec prog 71 #[.pointer (some ⟨b,0,none⟩)] [TkS (o,cap) x.tk,ErA,P10] [Pt b (psC x o cap r),Mp skv vid r tstL] (RlQ b r (ruleF x)):=by
 have n1:=Xe b r x o cap hx.kd 1 wIf
 unfold ruleF
 dsimp only
 cases hi:x.is 1 wIf with
 | true=>
  rw [hi] at n1
  rw [if_pos rfl] at n1 ⊢
  have hps:PkOK x.pass:=hx.sfx (Sfx.pass x) (Sop.pass x)
  have n2:=fun (q:Option Addr×Nat)=>ruCond_ok b r x.pass q.1 q.2 hps
  have k1:KdOK (condF (fuP x.pass) x.pass).2:=(hps.sfx ((Yq _).2.2.2.1 x.pass) ((X6 _).2.2.2.1 x.pass)).kd
  unfold SpF at n2
  generalize condF (fuP x.pass) x.pass=y at *
  obtain ⟨c,y⟩:=y
  dsimp only at n2 k1 ⊢
  have n3:=fun (q:Option Addr×Nat)=>WZ b r y q.1 q.2 k1 yCol
  have k2:=k1.symb yCol
  generalize y.symb yCol=s at *
  have n4:=fun (q:Option Addr×Nat)=>UA b r s q.1 q.2 k2
  generalize actF s=z at *
  obtain ⟨⟨ak,atx⟩,z⟩:=z
  dsimp only at n4 ⊢
  have n5:=fun (q:Option Addr×Nat)=>Xo b r z q.1 q.2
  have n6:=fun (q:Option Addr×Nat)=>Z8 b r z q.1 q.2 z.peek.pl 30
  generalize z.peek=t at *
  obtain ⟨kd,tx,pl⟩:=t
  dsimp only at n6 ⊢
  generalize b=bp at *
  by_cases h0:kd=0
  ·rw [if_neg (by simpa using h0)]
   refine ZR [_] func71 ntmps71 fun G w hp=>?_
   repeat' (first|refine ZF ?_|refine ZI ?_|refine ZG ?_|refine ZH ?_|refine ZL ?_|refine ZJ ?_|refine ZN ?_|refine ZK (fun b=>?_)|refine ZM (fun b=>?_)|refine ZC ?_|refine ZA ?_|refine ZO ?_|refine ZD (n1) (fun _ _=>?_)|refine l_call0 (n1) (fun _ _=>?_)|refine ZD (n2 _) (fun _ _=>?_)|refine l_call0 (n2 _) (fun _ _=>?_)|refine ZD (n3 _) (fun _ _=>?_)|refine l_call0 (n3 _) (fun _ _=>?_)|refine ZD (n4 _) (fun _ _=>?_)|refine l_call0 (n4 _) (fun _ _=>?_)|refine ZD (n5 _) (fun _ _=>?_)|refine l_call0 (n5 _) (fun _ _=>?_)|(refine ZB (fun hc=>?_) (fun hc=>?_)<;>(try simp at hc)<;>(try omega))|(refine ZE (fun hc=>?_) (fun hc=>?_)<;>(try simp at hc)<;>(try omega)))
   rename_i iv _ _ _ q _ _ _
   refine Zn (F1:=[CdF c (ivOf iv.1)]) (f:=OcF (some c) (some iv.1)) (fun hp hF=>hF _ (.head _)) ?_
   exact ZP (some iv.1,q) rfl trivial
  ·rw [if_pos h0]
   refine ZR [_] func71 ntmps71 fun G w hp=>?_
   repeat' (first|refine ZF ?_|refine ZI ?_|refine ZG ?_|refine ZH ?_|refine ZL ?_|refine ZJ ?_|refine ZN ?_|refine ZK (fun b=>?_)|refine ZM (fun b=>?_)|refine ZC ?_|refine ZA ?_|refine ZO ?_|refine ZD (n1) (fun _ _=>?_)|refine l_call0 (n1) (fun _ _=>?_)|refine ZD (n2 _) (fun _ _=>?_)|refine l_call0 (n2 _) (fun _ _=>?_)|refine ZD (n3 _) (fun _ _=>?_)|refine l_call0 (n3 _) (fun _ _=>?_)|refine ZD (n4 _) (fun _ _=>?_)|refine l_call0 (n4 _) (fun _ _=>?_)|refine ZD (n5 _) (fun _ _=>?_)|refine l_call0 (n5 _) (fun _ _=>?_)|refine ZD (n6 _) (fun _ _=>?_)|refine l_call0 (n6 _) (fun _ _=>?_)|(refine ZB (fun hc=>?_) (fun hc=>?_)<;>(try simp at hc)<;>(try omega))|(refine ZE (fun hc=>?_) (fun hc=>?_)<;>(try simp at hc)<;>(try omega)))
   rename_i iv _ _ _ _ _ _ _ q _
   refine Zn (F1:=[CdF c (ivOf iv.1)]) (f:=OcF (some c) (some iv.1)) (fun hp hF=>hF _ (.head _)) ?_
   exact ZP (some iv.1,q) rfl trivial
 | false=>
  rw [hi] at n1
  rw [if_neg (by decide)] at n1 ⊢
  have n4:=fun (q:Option Addr×Nat)=>UA b r x q.1 q.2 hx.kd
  dsimp only
  generalize actF x=z at *
  obtain ⟨⟨ak,atx⟩,z⟩:=z
  dsimp only at n4 ⊢
  have n5:=fun (q:Option Addr×Nat)=>Xo b r z q.1 q.2
  have n6:=fun (q:Option Addr×Nat)=>Z8 b r z q.1 q.2 z.peek.pl 30
  generalize z.peek=t at *
  obtain ⟨kd,tx,pl⟩:=t
  dsimp only at n6 ⊢
  generalize b=bp at *
  by_cases h0:kd=0
  ·rw [if_neg (by simpa using h0)]
   refine ZR [_] func71 ntmps71 fun G w hp=>?_
   repeat' (first|refine ZF ?_|refine ZI ?_|refine ZG ?_|refine ZH ?_|refine ZL ?_|refine ZJ ?_|refine ZN ?_|refine ZK (fun b=>?_)|refine ZM (fun b=>?_)|refine ZC ?_|refine ZA ?_|refine ZO ?_|refine ZD (n1) (fun _ _=>?_)|refine l_call0 (n1) (fun _ _=>?_)|refine ZD (n4 _) (fun _ _=>?_)|refine l_call0 (n4 _) (fun _ _=>?_)|refine ZD (n5 _) (fun _ _=>?_)|refine l_call0 (n5 _) (fun _ _=>?_)|(refine ZB (fun hc=>?_) (fun hc=>?_)<;>(try simp at hc)<;>(try omega))|(refine ZE (fun hc=>?_) (fun hc=>?_)<;>(try simp at hc)<;>(try omega)))
   rename_i q _ _ _
   refine k_add (f:=OcF none none) (fun _=>trivial) ?_
   exact ZP (none,q) rfl trivial
  ·rw [if_pos h0]
   refine ZR [_] func71 ntmps71 fun G w hp=>?_
   repeat' (first|refine ZF ?_|refine ZI ?_|refine ZG ?_|refine ZH ?_|refine ZL ?_|refine ZJ ?_|refine ZN ?_|refine ZK (fun b=>?_)|refine ZM (fun b=>?_)|refine ZC ?_|refine ZA ?_|refine ZO ?_|refine ZD (n1) (fun _ _=>?_)|refine l_call0 (n1) (fun _ _=>?_)|refine ZD (n4 _) (fun _ _=>?_)|refine l_call0 (n4 _) (fun _ _=>?_)|refine ZD (n5 _) (fun _ _=>?_)|refine l_call0 (n5 _) (fun _ _=>?_)|refine ZD (n6 _) (fun _ _=>?_)|refine l_call0 (n6 _) (fun _ _=>?_)|(refine ZB (fun hc=>?_) (fun hc=>?_)<;>(try simp at hc)<;>(try omega))|(refine ZE (fun hc=>?_) (fun hc=>?_)<;>(try simp at hc)<;>(try omega)))
   rename_i q _
   refine k_add (f:=OcF none none) (fun _=>trivial) ?_
   exact ZP (none,q) rfl trivial
theorem unq_sz:∀(l:List UInt8) (i:Nat) (acc t:List UInt8) (k:Nat),unqF l i acc=some (t,k)→t.length≤acc.length+l.length
 | [],_,_,_,_,h=>by simp [unqF] at h
 | [c],i,acc,t,k,h=>by
  rw [unqF] at h
  split at h
  ·cases h;simp
  ·cases h
 | c::d::r,i,acc,t,k,h=>by
  rw [unqF] at h
  simp only [List.length_cons]
  split at h
  ·cases h;omega
  ·split at h
   ·split at h
    ·have:=unq_sz r _ _ _ _ h;simp only [List.length_append,List.length_cons,List.length_nil] at this;omega
    ·split at h
     ·have:=unq_sz r _ _ _ _ h;simp only [List.length_append,List.length_cons,List.length_nil] at this;omega
     ·cases h
   ·have:=unq_sz (d::r) _ _ _ _ h
    simp only [List.length_append,List.length_cons,List.length_nil] at this;omega
theorem VJ (l:List UInt8):(ofL l).size=l.length:=Zs l
theorem scan_sz:∀(n:Nat) (l:List UInt8) (i:Nat) (acc:List Tk) (M:Nat),l.length≤M→(∀t ∈ acc,t.kd≠0∧t.tx.size≤M)→(∀t ∈ (scanF n l i acc).1,t.kd≠0∧t.tx.size≤M)∧(scanF n l i acc).1.length≤acc.length+l.length
 | 0,_,_,acc,_,_,h=>⟨h,by show acc.length≤_;omega⟩
 | _+1,[],_,acc,_,_,h=>⟨h,by show acc.length≤_;omega⟩
 | n+1,c::r,i,acc,M,hM,h=>by
  have add:∀t:Tk,(t.kd≠0∧t.tx.size≤M)→∀x ∈ acc++[t],x.kd≠0∧x.tx.size≤M:=fun t ht x hx=>by
   rcases List.mem_append.1 hx with hx|hx
   ·exact h x hx
   ·rcases List.mem_singleton.1 hx with rfl
    exact ht
  have hM':r.length+1≤M:=by simpa using hM
  have key:∀(l':List UInt8) (i':Nat) (t:Tk),l'.length+1≤(c::r).length→(t.kd≠0∧t.tx.size≤M)→(∀x ∈ (scanF n l' i' (acc++[t])).1,x.kd≠0∧x.tx.size≤M)∧(scanF n l' i' (acc++[t])).1.length≤acc.length+(c::r).length:=fun l' i' t hl ht=>by
   obtain ⟨a,b⟩:=scan_sz n l' i' (acc++[t]) M (by simp only [List.length_cons] at hl;omega) (add t ht)
   refine ⟨a,?_⟩
   rw [List.length_append] at b
   simp only [List.length_cons,List.length_nil] at b hl ⊢
   omega
  unfold scanF
  split
  ·exact ⟨h,by show acc.length≤_;omega⟩
  ·split
   ·obtain ⟨a,b⟩:=scan_sz n r (i+1) acc M (by omega) h
    exact ⟨a,by simp only [List.length_cons];omega⟩
   ·split
    ·rename_i hd
     have e:spanF isLet (c::r)=spanF isLet r+1:=by simp [spanF,hd]
     exact key _ _ _ (by rw [e];simp only [List.drop_succ_cons,List.length_drop,List.length_cons];omega) ⟨show (1:Int)≠0 by decide,by show (ofL _).size≤M;rw [VJ,List.length_take];simp only [List.length_cons];omega⟩
    ·split
     ·rename_i hd
      have e:spanF inNum (c::r)=spanF inNum r+1:=by simp [spanF,inNum,hd]
      exact key _ _ _ (by rw [e];simp only [List.drop_succ_cons,List.length_drop,List.length_cons];omega) ⟨show (2:Int)≠0 by decide,by show (ofL _).size≤M;rw [VJ,List.length_take];simp only [List.length_cons];omega⟩
     ·split
      ·split
       ·rename_i t k hu
        have u1:=WK _ _ _ _ _ hu
        have u2:=unq_sz _ _ _ _ _ hu
        exact key _ _ _ (by simp only [List.length_drop,List.length_cons];omega) ⟨show (3:Int)≠0 by decide,by show (ofL _).size≤M;rw [VJ];simp only [List.length_nil] at u2;omega⟩
       ·exact ⟨fun t ht=>(by cases ht),Nat.zero_le _⟩
      ·split
       ·exact key _ _ _ (by simp) ⟨show (4:Int)≠0 by decide,by show (ofL _).size≤M;rw [VJ];simp;omega⟩
       ·exact ⟨fun t ht=>(by cases ht),Nat.zero_le _⟩
abbrev RI:=Option IV×Ac
abbrev rul (x:RI):List Value:=[ovl x.1,.int .i64 x.2.k,.string x.2.t]
def RusP (h:H):List Ru→List RI→Prop
 | [],[]=>True
 | x::l,y::ys=>(OcP h x.c y.1∧x.a=y.2)∧RusP h l ys
 | _,_=>False
theorem V4 {h k:H} (s:Sub h k):∀(l:List Ru) (xs:List RI),RusP h l xs→RusP k l xs
 | [],[],_=>trivial
 | x::l,y::ys,hh=>⟨⟨(OcF x.c y.1).m _ _ s hh.1.1,hh.1.2⟩,V4 s l ys hh.2⟩
 | [],_::_,hh=>hh.elim
 | _::_,[],hh=>hh.elim
def RusF (l:List Ru) (xs:List RI):Pf:=⟨fun h=>RusP h l xs,fun _ _ s hh=>V4 s l xs hh⟩
theorem rusP_len {h:H}:∀{l:List Ru} {xs:List RI},RusP h l xs→xs.length=l.length
 | [],[],_=>rfl
 | x::l,y::ys,hh=>by simp [rusP_len hh.2]
 | [],_::_,hh=>hh.elim
 | _::_,[],hh=>hh.elim
theorem rusP_add {h:H} {x:Ru} {y:RI}:∀{l:List Ru} {xs:List RI},RusP h l xs→OcP h x.c y.1→x.a=y.2→RusP h (l++[x]) (xs++[y])
 | [],[],_,h1,h2=>⟨⟨h1,h2⟩,trivial⟩
 | _::_,_::_,hh,h1,h2=>⟨hh.1,rusP_add hh.2 h1 h2⟩
 | [],_::_,hh,_,_=>hh.elim
 | _::_,[],hh,_,_=>hh.elim
theorem rusP_get {h:H}:∀{l:List Ru} {xs:List RI} {j:Nat} {x:Ru} {y:RI},RusP h l xs→l[j]? = some x→xs[j]? = some y→OcP h x.c y.1∧x.a=y.2
 | [],[],j,_,_,_,h1,_=>by simp at h1
 | _::_,_::_,0,_,_,hh,h1,h2=>by simp at h1 h2;subst h1 h2;exact hh.1
 | _::_,_::_,j+1,_,_,hh,h1,h2=>rusP_get (j:=j) hh.2 (by simpa using h1) (by simpa using h2)
 | [],_::_,_,_,_,hh,_,_=>hh.elim
 | _::_,[],_,_,_,hh,_,_=>hh.elim
def addF (s:List UInt8) (l:List Ru):List Ru:=match (lineF s l.length).1 with
 | some x=>l++[x]
 | none=>l
abbrev RlR (b:Nat) (xs:List RI) (o:Option Addr) (cap:Nat):List HP:=[Pt b (.cells #[.slice o xs.length cap] 95),Row 102 3 o xs.length cap (xs.flatMap rul)]
abbrev AdP (b:Nat) (s:List UInt8) (l:List Ru):Post:=⟨List RI×Option Addr×Nat,fun _=>.tuple #[.int .i64 (lineF s l.length).2.1,.int .i64 (lineF s l.length).2.2],fun q=>q.1.length=(addF s l).length,fun q=>[RusF (addF s l) q.1],fun q=>RlR b q.1 q.2.1 q.2.2⟩
set_option maxHeartbeats 4000000 in
theorem ruAdd_ok (b:Nat) (s:ByteArray) (hs:s.size≤70000) (l:List Ru) (xs:List RI) (o:Option Addr) (cap:Nat) (hl:xs.length=l.length) (hn:l.length≤256):Enters 45∧Spec prog 45 #[.pointer (some ⟨b,0,none⟩),.string s] [RusF l xs,ErA,P10] (RlR b xs o cap) (AdP b s.data.toList l):=by
 have n1:=ruScan_ok s hs
 have hsz:=lsz s
 obtain ⟨hk,hkl⟩:=scan_sz (s.data.toList.length+1) s.data.toList 0 [] 100000 (by omega) (fun t ht=>by cases ht)
 obtain ⟨L,hL⟩:∃L,lineF s.data.toList l.length=L:=⟨_,rfl⟩
 unfold AdP addF
 rw [hL]
 unfold lineF at hL
 dsimp only at hL
 generalize scanF (s.data.toList.length+1) s.data.toList 0 []=r at *
 obtain ⟨tk,en,is⟩:=r
 dsimp only at *
 generalize b=bp at *
 cases is with
 | false=>
  rw [if_pos rfl] at hL
  subst hL
  refine ZR [_,_] func45 ntmps45 fun G w hp=>?_
  repeat' (first|refine ZF ?_|refine ZI ?_|refine ZG ?_|refine ZH ?_|refine ZL ?_|refine ZJ ?_|refine ZN ?_|refine ZK (fun b=>?_)|refine ZM (fun b=>?_)|refine ZC ?_|refine ZA ?_|refine ZO ?_|refine ZD (n1) (fun _ _=>?_)|refine l_call0 (n1) (fun _ _=>?_)|(refine ZB (fun hc=>?_) (fun hc=>?_)<;>(try simp at hc)<;>(try omega))|(refine ZE (fun hc=>?_) (fun hc=>?_)<;>(try simp at hc)<;>(try omega)))
  exact ZP (xs,o,cap) rfl hl
 | true=>
  rw [if_neg (by decide)] at hL
  cases tk with
  | nil=>
   dsimp only at hL
   subst hL
   refine ZR [_,_] func45 ntmps45 fun G w hp=>?_
   repeat' (first|refine ZF ?_|refine ZI ?_|refine ZG ?_|refine ZH ?_|refine ZL ?_|refine ZJ ?_|refine ZN ?_|refine ZK (fun b=>?_)|refine ZM (fun b=>?_)|refine ZC ?_|refine ZA ?_|refine ZO ?_|refine ZD (n1) (fun _ _=>?_)|refine l_call0 (n1) (fun _ _=>?_)|(refine ZB (fun hc=>?_) (fun hc=>?_)<;>(try simp at hc)<;>(try omega))|(refine ZE (fun hc=>?_) (fun hc=>?_)<;>(try simp at hc)<;>(try omega)))
   exact ZP (xs,o,cap) rfl hl
  | cons t tk=>
   dsimp only at hL
   by_cases h256:l.length=256
   ·rw [if_pos h256] at hL
    subst hL
    have h0:(t::tk)[0]? = some t:=rfl
    refine ZR [_,_] func45 ntmps45 fun G w hp=>?_
    repeat' (first|refine ZF ?_|refine ZI ?_|refine ZG ?_|refine ZH ?_|refine ZL ?_|refine ZJ ?_|refine ZN ?_|refine ZK (fun b=>?_)|refine ZM (fun b=>?_)|refine ZC ?_|refine ZA ?_|refine ZO ?_|refine ZD (n1) (fun _ _=>?_)|refine l_call0 (n1) (fun _ _=>?_)|refine ZW (es:=t::tk) (f:=tkf) 0 t h0 (fun b off=>?_)|refine ZX ?_|(refine ZB (fun hc=>?_) (fun hc=>?_)<;>(try simp at hc)<;>(try omega))|(refine ZE (fun hc=>?_) (fun hc=>?_)<;>(try simp at hc)<;>(try omega)))
    exact ZP (xs,o,cap) rfl hl
   ·rw [if_neg h256] at hL
    have hpk:PkOK ⟨t::tk,(en:Int),0,0,0⟩:=⟨hk,⟨Int.le_refl 0,by simp only [List.length_nil] at hkl;show (0:Int)+((t::tk).length:Int)≤_;omega⟩,by simp only [List.length_nil] at hkl;show (t::tk).length≤_;omega⟩
    have n2:=ruTests_ok
    have n3:=fun (b r:Nat) (q:Option Addr×Nat)=>ruRule_ok b r ⟨t::tk,(en:Int),0,0,0⟩ q.1 q.2 hpk
    generalize ruleF ⟨t::tk,(en:Int),0,0,0⟩=y at *
    obtain ⟨⟨yc,ya⟩,yp⟩:=y
    dsimp only at hL n3
    by_cases he:yp.e≠0
    ·rw [if_pos he] at hL
     subst hL
     refine ZR [_,_] func45 ntmps45 fun G w hp=>?_
     repeat' (first|refine ZF ?_|refine ZI ?_|refine ZG ?_|refine ZH ?_|refine ZL ?_|refine ZJ ?_|refine ZN ?_|refine ZK (fun b=>?_)|refine ZM (fun b=>?_)|refine ZC ?_|refine ZA ?_|refine ZO ?_|refine Zb ?_|refine Zc ?_|refine Zq ?_|refine Zd ?_|refine r_ldN ?_|refine Zr (fun b=>?_)|refine Zo (fun b=>?_)|refine Zp ?_|refine Za ?_|refine ZD (n1) (fun _ _=>?_)|refine l_call0 (n1) (fun _ _=>?_)|refine ZQ (n1) (fun _ _=>?_)|refine ZD (n2) (fun _ _=>?_)|refine l_call0 (n2) (fun _ _=>?_)|refine ZQ (n2) (fun _ _=>?_)|refine ZD (n3 _ _ _) (fun _ _=>?_)|refine l_call0 (n3 _ _ _) (fun _ _=>?_)|refine ZQ (n3 _ _ _) (fun _ _=>?_)|(refine ZB (fun hc=>?_) (fun hc=>?_)<;>(try simp at hc)<;>(try omega))|(refine ZU (fun hc=>?_) (fun hc=>?_)<;>(try simp at hc)<;>(try omega))|refine ZT 11 [] [(0,0),(1,0),(2,0),(3,0),(4,0),(5,0),(6,0),(7,0),(8,0),(9,0)] [] ?_|(refine ZE (fun hc=>?_) (fun hc=>?_)<;>(try simp at hc)<;>(try omega)))
     rename_i rr _ b1 q _
     obtain ⟨oc,q2,q3⟩:=q
     obtain _|⟨T,u⟩:=oc
     ·repeat' (first|refine ZF ?_|refine ZI ?_|refine ZG ?_|refine ZH ?_|refine ZL ?_|refine ZJ ?_|refine ZN ?_|refine ZK (fun b=>?_)|refine ZM (fun b=>?_)|refine ZC ?_|refine ZA ?_|refine ZO ?_|refine Zb ?_|refine Zc ?_|refine Zq ?_|refine Zd ?_|refine r_ldN ?_|refine Zr (fun b=>?_)|refine Zo (fun b=>?_)|refine Zp ?_|refine Za ?_|refine ZD (n1) (fun _ _=>?_)|refine l_call0 (n1) (fun _ _=>?_)|refine ZQ (n1) (fun _ _=>?_)|refine ZD (n2) (fun _ _=>?_)|refine l_call0 (n2) (fun _ _=>?_)|refine ZQ (n2) (fun _ _=>?_)|refine ZD (n3 _ _ _) (fun _ _=>?_)|refine l_call0 (n3 _ _ _) (fun _ _=>?_)|refine ZQ (n3 _ _ _) (fun _ _=>?_)|(refine ZB (fun hc=>?_) (fun hc=>?_)<;>(try simp at hc)<;>(try omega))|(refine ZU (fun hc=>?_) (fun hc=>?_)<;>(try simp at hc)<;>(try omega))|refine ZT 11 [] [(0,0),(1,0),(2,0),(3,0),(4,0),(5,0),(6,0),(7,0),(8,0),(9,0)] [] ?_|(refine ZE (fun hc=>?_) (fun hc=>?_)<;>(try simp at hc)<;>(try omega)))
      exact ZP (xs,o,cap) rfl hl
     ·repeat' (first|refine ZF ?_|refine ZI ?_|refine ZG ?_|refine ZH ?_|refine ZL ?_|refine ZJ ?_|refine ZN ?_|refine ZK (fun b=>?_)|refine ZM (fun b=>?_)|refine ZC ?_|refine ZA ?_|refine ZO ?_|refine Zb ?_|refine Zc ?_|refine Zq ?_|refine Zd ?_|refine r_ldN ?_|refine Zr (fun b=>?_)|refine Zo (fun b=>?_)|refine Zp ?_|refine Za ?_|refine ZD (n1) (fun _ _=>?_)|refine l_call0 (n1) (fun _ _=>?_)|refine ZQ (n1) (fun _ _=>?_)|refine ZD (n2) (fun _ _=>?_)|refine l_call0 (n2) (fun _ _=>?_)|refine ZQ (n2) (fun _ _=>?_)|refine ZD (n3 _ _ _) (fun _ _=>?_)|refine l_call0 (n3 _ _ _) (fun _ _=>?_)|refine ZQ (n3 _ _ _) (fun _ _=>?_)|(refine ZB (fun hc=>?_) (fun hc=>?_)<;>(try simp at hc)<;>(try omega))|(refine ZU (fun hc=>?_) (fun hc=>?_)<;>(try simp at hc)<;>(try omega))|refine ZT 11 [] [(0,0),(1,0),(2,0),(3,0),(4,0),(5,0),(6,0),(7,0),(8,0),(9,0)] [] ?_|(refine ZE (fun hc=>?_) (fun hc=>?_)<;>(try simp at hc)<;>(try omega)))
      exact ZP (xs,o,cap) rfl hl
    ·rw [if_neg he] at hL
     subst hL
     have he:yp.e=0:=by simpa using he
     refine ZR [_,_] func45 ntmps45 fun G w hp=>?_
     repeat' (first|refine ZF ?_|refine ZI ?_|refine ZG ?_|refine ZH ?_|refine ZL ?_|refine ZJ ?_|refine ZN ?_|refine ZK (fun b=>?_)|refine ZM (fun b=>?_)|refine ZC ?_|refine ZA ?_|refine ZO ?_|refine ZD (n1) (fun _ _=>?_)|refine l_call0 (n1) (fun _ _=>?_)|refine ZD (n2) (fun _ _=>?_)|refine l_call0 (n2) (fun _ _=>?_)|refine ZD (n3 _ _ _) (fun _ _=>?_)|refine l_call0 (n3 _ _ _) (fun _ _=>?_)|(refine ZB (fun hc=>?_) (fun hc=>?_)<;>(try simp at hc)<;>(try omega))|(refine ZE (fun hc=>?_) (fun hc=>?_)<;>(try simp at hc)<;>(try omega)))
     rename_i rr _ b1 q _
     obtain ⟨oc,q2,q3⟩:=q
     dsimp only
     have hroom:(2 * (xs.length+1)+200) * 40≤281474976710656:=by omega
     have e1:∀oc:Option IV,xs.length+1=(xs++[(oc,ya)]).length:=fun oc=>by simp
     have e2:∀oc:Option IV,xs.flatMap rul++rul (oc,ya)=(xs++[(oc,ya)]).flatMap rul:=fun oc=>by simp
     obtain _|⟨T,u⟩:=oc
     ·repeat' (first|refine ZF ?_|refine ZI ?_|refine ZG ?_|refine ZH ?_|refine ZL ?_|refine ZJ ?_|refine ZN ?_|refine ZK (fun b=>?_)|refine ZM (fun b=>?_)|refine ZC ?_|refine ZA ?_|refine ZO ?_|refine Zb ?_|refine Zc ?_|refine Zq ?_|refine Zd ?_|refine r_ldN ?_|refine Zr (fun b=>?_)|refine Zo (fun b=>?_)|refine Zp ?_|refine Za ?_|refine ZD (n1) (fun _ _=>?_)|refine l_call0 (n1) (fun _ _=>?_)|refine ZQ (n1) (fun _ _=>?_)|refine ZD (n2) (fun _ _=>?_)|refine l_call0 (n2) (fun _ _=>?_)|refine ZQ (n2) (fun _ _=>?_)|refine ZD (n3 _ _ _) (fun _ _=>?_)|refine l_call0 (n3 _ _ _) (fun _ _=>?_)|refine ZQ (n3 _ _ _) (fun _ _=>?_)|refine r_app1 (fun o' cap'=>?_)|(refine ZB (fun hc=>?_) (fun hc=>?_)<;>(try simp at hc)<;>(try omega))|(refine ZU (fun hc=>?_) (fun hc=>?_)<;>(try simp at hc)<;>(try omega))|refine ZT 12 [Row _ _ _ _ _ _] [(0,0),(1,0),(2,0),(3,0),(4,0),(5,0),(6,1),(7,4),(8,0),(9,0)] [10] ?_|(refine ZE (fun hc=>?_) (fun hc=>?_)<;>(try simp at hc)<;>(try omega)))
      refine YD (T:=102) (sz:=3) (o:=o') (cap:=cap') (m:=xs.length+1) _ _ (e1 none) (e2 none) ?_
      rw [e1 none]
      refine Zn (F1:=[OcF yc none,RusF l xs]) (f:=RusF (l++[Ru.mk yc ya]) (xs++[(none,ya)])) (fun hp hF=>rusP_add (x:=Ru.mk yc ya) (y:=(none,ya)) (hF _ (.tail _ (.head _))) (hF _ (.head _)) rfl) ?_
      exact ZP (xs++[(none,ya)],o',cap') rfl (by show (xs++[_]).length=(l++[_]).length;simp [hl])
     ·repeat' (first|refine ZF ?_|refine ZI ?_|refine ZG ?_|refine ZH ?_|refine ZL ?_|refine ZJ ?_|refine ZN ?_|refine ZK (fun b=>?_)|refine ZM (fun b=>?_)|refine ZC ?_|refine ZA ?_|refine ZO ?_|refine Zb ?_|refine Zc ?_|refine Zq ?_|refine Zd ?_|refine r_ldN ?_|refine Zr (fun b=>?_)|refine Zo (fun b=>?_)|refine Zp ?_|refine Za ?_|refine ZD (n1) (fun _ _=>?_)|refine l_call0 (n1) (fun _ _=>?_)|refine ZQ (n1) (fun _ _=>?_)|refine ZD (n2) (fun _ _=>?_)|refine l_call0 (n2) (fun _ _=>?_)|refine ZQ (n2) (fun _ _=>?_)|refine ZD (n3 _ _ _) (fun _ _=>?_)|refine l_call0 (n3 _ _ _) (fun _ _=>?_)|refine ZQ (n3 _ _ _) (fun _ _=>?_)|refine r_app1 (fun o' cap'=>?_)|(refine ZB (fun hc=>?_) (fun hc=>?_)<;>(try simp at hc)<;>(try omega))|(refine ZU (fun hc=>?_) (fun hc=>?_)<;>(try simp at hc)<;>(try omega))|refine ZT 12 [Row _ _ _ _ _ _] [(0,0),(1,0),(2,0),(3,0),(4,0),(5,0),(6,1),(7,4),(8,0),(9,0)] [10] ?_|(refine ZE (fun hc=>?_) (fun hc=>?_)<;>(try simp at hc)<;>(try omega)))
      refine YD (T:=102) (sz:=3) (o:=o') (cap:=cap') (m:=xs.length+1) _ _ (e1 (some (T,u))) (e2 (some (T,u))) ?_
      rw [e1 (some (T,u))]
      refine Zn (F1:=[OcF yc (some (T,u)),RusF l xs]) (f:=RusF (l++[Ru.mk yc ya]) (xs++[((some (T,u)),ya)])) (fun hp hF=>rusP_add (x:=Ru.mk yc ya) (y:=(some (T,u),ya)) (hF _ (.tail _ (.head _))) (hF _ (.head _)) rfl) ?_
      exact ZP (xs++[((some (T,u)),ya)],o',cap') rfl (by show (xs++[_]).length=(l++[_]).length;simp [hl])
section
structure PB (M:Int) (x:Ps):Prop where
 t:∀t ∈ x.tk,0≤t.pl∧t.pl≤M
 n:0≤x.en∧x.en≤M
 p:0≤x.pl∧x.pl≤M
namespace PB
variable {M:Int} {x:Ps}
theorem peek (h:PB M x):0≤x.peek.pl∧x.peek.pl≤M:=by
 unfold Ps.peek
 split
 ·exact h.n
 ·rename_i t l ht;exact h.t t (by rw [ht];exact .head _)
theorem pass (h:PB M x):PB M x.pass:=⟨fun t ht=>h.t t (List.mem_of_mem_tail ht),h.n,h.p⟩
theorem fail (h:PB M x) {i:Int} (hi:0≤i∧i≤M) (e:Int):PB M (x.fail i e):=by
 unfold Ps.fail
 split
 ·exact ⟨fun t ht=>(by cases ht),h.n,hi⟩
 ·exact h
theorem need (h:PB M x) (k:Int):PB M (x.need k):=by
 unfold Ps.need
 split
 ·exact h.pass
 ·exact h.pass.fail h.peek _
theorem symb (h:PB M x) (s:ByteArray):PB M (x.symb s):=by
 unfold Ps.symb
 split
 ·exact h.pass
 ·exact h.fail h.peek _
theorem ite {c:Prop} [Decidable c] {q r:Ps} (h:PB M q) (k:PB M r):PB M (if c then q else r):=by split<;>assumption
theorem num (h:PB M x):PB M (numF x).2:=by
 unfold numF
 dsimp only
 have a:=h.need 2
 exact ite ((ite (a.fail h.peek _) a).fail h.peek _) (ite (a.fail h.peek _) a)
theorem test (h:PB M x) (w:ByteArray):PB M (testF w x).2:=by
 unfold testF
 split
 ·exact h
 ·split
  ·dsimp only
   exact ite (h.need 1) ((h.need 1).fail h.peek _)
  ·split
   ·dsimp only
    exact (ite (h.need 1) ((h.need 1).fail h.peek _)).need 3
   ·split
    ·dsimp only
     exact (ite (h.need 4) ((h.need 4).fail h.peek _)).num
    ·dsimp only
     exact ite (h.need 2) ((h.need 2).fail h.peek _)
theorem op (h:PB M x) (d:Int):PB M {x with op:=d}:=⟨h.t,h.n,h.p⟩
end PB
theorem pb_all (M:Int):∀n:Nat,(∀p,PB M p→PB M (factorF n p).2)∧(∀p,PB M p→PB M (termF n p).2)∧(∀l p,PB M p→PB M (termL n l p).2)∧(∀p,PB M p→PB M (condF n p).2)∧(∀l p,PB M p→PB M (condL n l p).2)
 | 0=>⟨fun _ h=>h.fail h.peek _,fun _ h=>h.fail h.peek _,fun _ _ h=>h.fail h.peek _,fun _ h=>h.fail h.peek _,fun _ _ h=>h.fail h.peek _⟩
 | n+1=>by
  obtain ⟨h1,h2,h3,h4,h5⟩:=pb_all M n
  refine ⟨fun p h=>?_,fun p h=>?_,fun l p h=>?_,fun p h=>?_,fun l p h=>?_⟩
  ·unfold factorF
   dsimp only
   split
   ·exact h1 _ h.pass
   ·split
    ·have a:PB M (if p.pass.op=32 then p.pass.fail p.peek.pl 9 else p.pass):=PB.ite (h.pass.fail h.peek _) h.pass
     generalize (if p.pass.op=32 then p.pass.fail p.peek.pl 9 else p.pass)=q at a
     exact ((h4 _ (a.op _)).symb _).op _
    ·split
     ·exact h.pass.test _
     ·exact h.pass.fail h.peek _
  ·exact h3 _ _ (h1 p h)
  ·unfold termL
   split
   ·exact h3 _ _ (h1 _ h.pass)
   ·exact h
  ·exact h5 _ _ (h2 p h)
  ·unfold condL
   split
   ·exact h5 _ _ (h2 _ h.pass)
   ·exact h
theorem PB.act {M:Int} {x:Ps} (h:PB M x):PB M (actF x).2:=by
 unfold actF
 dsimp only
 have a:PB M (if idx x.peek.tx wActs<5 then x.need 1 else (x.need 1).fail x.peek.pl 30):=PB.ite (h.need 1) ((h.need 1).fail h.peek _)
 generalize (if idx x.peek.tx wActs<5 then x.need 1 else (x.need 1).fail x.peek.pl 30)=q at a ⊢
 split
 ·exact PB.ite ((a.need 3).fail a.peek _) (a.need 3)
 ·exact a
theorem PB.rule {M:Int} {x:Ps} (h:PB M x):PB M (ruleF x).2:=by
 unfold ruleF
 dsimp only
 have a:PB M (if x.is 1 wIf=true then ((some (condF (fuP x.pass) x.pass).1:Option Cnd),(condF (fuP x.pass) x.pass).2.symb yCol) else (none,x)).2:=by
  split
  ·exact ((pb_all M _).2.2.2.1 _ h.pass).symb _
  ·exact h
 exact PB.ite (a.act.fail a.act.peek _) a.act
theorem scan_pl:∀(n:Nat) (l:List UInt8) (i:Nat) (acc:List Tk) (M:Int),(i:Int)+l.length≤M→(∀t ∈ acc,0≤t.pl∧t.pl≤M)→(∀t ∈ (scanF n l i acc).1,0≤t.pl∧t.pl≤M)∧((scanF n l i acc).2.1:Int)≤M
 | 0,_,i,acc,M,hM,h=>⟨h,by show (i:Int)≤M;omega⟩
 | _+1,[],i,acc,M,hM,h=>⟨h,by show (i:Int)≤M;simp at hM;omega⟩
 | n+1,c::r,i,acc,M,hM,h=>by
  have add:∀t:Tk,(0≤t.pl∧t.pl≤M)→∀x ∈ acc++[t],0≤x.pl∧x.pl≤M:=fun t ht x hx=>by
   rcases List.mem_append.1 hx with hx|hx
   ·exact h x hx
   ·rcases List.mem_singleton.1 hx with rfl
    exact ht
  have hM':(i:Int)+r.length+1≤M:=by simp at hM;omega
  have key:∀(k:Nat) (t:Tk),1≤k→k≤(c::r).length→t.pl=(i:Int)→(∀x ∈ (scanF n ((c::r).drop k) (i+k) (acc++[t])).1,0≤x.pl∧x.pl≤M)∧((scanF n ((c::r).drop k) (i+k) (acc++[t])).2.1:Int)≤M:=fun k t h1 h2 ht=>
   scan_pl n _ _ _ M (by rw [List.length_drop];simp only [List.length_cons] at h2 ⊢;omega) (add t (by rw [ht];omega))
  unfold scanF
  split
  ·exact ⟨h,by show (i:Int)≤M;omega⟩
  ·split
   ·exact scan_pl n r (i+1) acc M (by omega) h
   ·split
    ·rename_i hd
     have e:spanF isLet (c::r)=spanF isLet r+1:=by simp [spanF,hd]
     exact key _ _ (by omega) (YB _ _) rfl
    ·split
     ·rename_i hd
      have e:spanF inNum (c::r)=spanF inNum r+1:=by simp [spanF,inNum,hd]
      exact key _ _ (by omega) (YB _ _) rfl
     ·split
      ·split
       ·rename_i t k hu
        have u1:=WK _ _ _ _ _ hu
        exact key _ _ (by omega) (by simp only [List.length_cons];omega) rfl
       ·exact ⟨fun t ht=>(by cases ht),by show (i:Int)≤M;omega⟩
      ·split
       ·exact key 1 _ (by omega) (by simp) rfl
       ·exact ⟨fun t ht=>(by cases ht),by show (i:Int)≤M;omega⟩
theorem lineF_pl (s:List UInt8) (n:Nat):0≤(lineF s n).2.1∧(lineF s n).2.1≤s.length:=by
 obtain ⟨h1,h2⟩:=scan_pl (s.length+1) s 0 [] s.length (by omega) (fun t ht=>by cases ht)
 unfold lineF
 dsimp only
 generalize scanF (s.length+1) s 0 []=r at *
 obtain ⟨tk,en,is⟩:=r
 dsimp only at *
 split
 ·exact ⟨by show (0:Int)≤(en:Int);omega,h2⟩
 ·split
  ·exact ⟨by show (0:Int)≤0;omega,by show (0:Int)≤_;omega⟩
  ·rename_i t tk
   split
   ·exact h1 t (.head _)
   ·have hp:PB s.length (⟨t::tk,(en:Int),0,0,0⟩:Ps):=⟨h1,⟨by show (0:Int)≤(en:Int);omega,h2⟩,⟨Int.le_refl 0,by show (0:Int)≤_;omega⟩⟩
    split
    ·exact hp.rule.p
    ·exact ⟨by show (0:Int)≤0;omega,by show (0:Int)≤_;omega⟩
theorem lineF_ok {s:List UInt8} {n:Nat} {x:Ru} (h:(lineF s n).1=some x):(lineF s n).2.2=0∧n≠256:=by
 revert h
 unfold lineF
 dsimp only
 generalize scanF (s.length+1) s 0 []=r
 obtain ⟨tk,en,is⟩:=r
 dsimp only
 split
 ·intro h;cases h
 ·split
  ·intro h;cases h
  ·split
   ·intro h;cases h
   ·rename_i hn
    split
    ·intro h;cases h
    ·intro _;exact ⟨rfl,hn⟩
theorem addF_len {s:List UInt8} {l:List Ru} (h:l.length≤256):(addF s l).length≤256:=by
 unfold addF
 split
 ·rename_i x hx
  have:=(lineF_ok hx).2
  simp only [List.length_append,List.length_cons,List.length_nil];omega
 ·exact h
theorem rows_step {s:List UInt8} {rest:List (List UInt8)} {i:Nat} {acc:List Ru} (h:(lineF s acc.length).2.2=0):rowsF (s::rest) i acc=rowsF rest (i+1) (addF s acc):=by
 unfold addF
 generalize hq:lineF s acc.length=q at *
 obtain ⟨o,a,e⟩:=q
 dsimp only at h
 cases o with
 | some x=>simp [rowsF,hq]
 | none=>simp [rowsF,hq,h]
theorem rows_bad {s:List UInt8} {rest:List (List UInt8)} {i:Nat} {acc:List Ru} (h:(lineF s acc.length).2.2≠0):rowsF (s::rest) i acc = .error ((i:Int)+1,(lineF s acc.length).2.1+1,(lineF s acc.length).2.2):=by
 generalize hq:lineF s acc.length=q at *
 obtain ⟨o,a,e⟩:=q
 dsimp only at h
 cases o with
 | some x=>
  have:=lineF_ok (s:=s) (n:=acc.length) (x:=x) (by rw [hq])
  rw [hq] at this
  exact absurd this.1 h
 | none=>simp [rowsF,hq,h]
theorem WT:∀(l:List UInt8),(linesF l).length≤l.length+1∧∀x ∈ linesF l,x.length≤l.length
 | []=>⟨by simp [linesF],fun x hx=>by simp [linesF] at hx;subst hx;simp⟩
 | c::r=>by
  obtain ⟨h1,h2⟩:=WT r
  rw [linesF]
  split
  ·refine ⟨by simp;omega,fun x hx=>?_⟩
   rcases List.mem_cons.1 hx with rfl|hx
   ·simp
   ·have:=h2 x hx;simp;omega
  ·generalize linesF r=m at *
   cases m with
   | nil=>exact ⟨by simp,fun x hx=>by simp at hx;subst hx;simp⟩
   | cons y m=>
    refine ⟨by simp at h1 ⊢;omega,fun x hx=>?_⟩
    rcases List.mem_cons.1 hx with rfl|hx
    ·have:=h2 y (.head _);simp;omega
    ·have:=h2 x (.tail _ hx);simp;omega
end
theorem X7:∀(n:Nat) (l:List UInt8) (i:Nat) (acc:List Tk),(∀t ∈ acc,TkOK t)→∀t ∈ (scanF n l i acc).1,TkOK t
 | 0,_,_,_,h=>h
 | _+1,[],_,_,h=>h
 | n+1,c::r,i,acc,h=>by
  have add:∀t,TkOK t→∀x ∈ acc++[t],TkOK x:=fun t ht x hx=>by
   rcases List.mem_append.1 hx with hx|hx
   ·exact h x hx
   ·rcases List.mem_singleton.1 hx with rfl
    exact ht
  unfold scanF
  split
  ·exact h
  ·split
   ·exact X7 n _ _ _ h
   ·split
    ·exact X7 n _ _ _ (add _ ⟨.inl rfl,fun h=>absurd h (by show ¬(1:Int)=2;decide)⟩)
    ·split
     ·rename_i hd
      refine X7 n _ _ _ (add _ ⟨.inr (.inl rfl),fun _=>⟨?_,?_⟩⟩)
      ·have:spanF inNum (c::r)=spanF inNum r+1:=by simp [spanF,inNum,hd]
       show (ofL ((c::r).take (spanF inNum (c::r)))).data.toList≠[]
       rw [this];simp
      ·intro x hx
       exact X1 inNum (c::r) x (by simpa using hx)
     ·split
      ·split
       ·exact X7 n _ _ _ (add _ ⟨.inr (.inr (.inl rfl)),fun h=>absurd h (by show ¬(3:Int)=2;decide)⟩)
       ·intro t ht;cases ht
      ·split
       ·exact X7 n _ _ _ (add _ ⟨.inr (.inr (.inr rfl)),fun h=>absurd h (by show ¬(4:Int)=2;decide)⟩)
       ·intro t ht;cases ht
def ruC (x:RuM):Ru:=⟨x.c.map toC,x.a⟩
def WfR (x:RuM):Prop:=∀t,x.c=some t→WfT t
def actM (m1:Mq):Ac×Mq:=
 if m1.e=0∧m1.has (fun t=>decide (t.kd=1) && decide (idx t.tx wActs<5))=true then
  let k:=idx m1.hd wActs
  let m2:=m1.pass
  let y:ByteArray×Mq:=if k=1 then (let m3:=if m2.has (fun t=>decide (t.kd=3) && (tplF t.tx).2.isSome) then m2.fail 3 else m2;m3.take (fun t=>decide (t.kd=3))) else (eB,m2)
  (⟨(k:Int)+1,y.1⟩,if y.2.tk≠[] then y.2.fail 30 else y.2)
 else (⟨0,eB⟩,m1.fail 30)
def actE (p:Ps):Ac×Ps:=let y:=actF p;(y.1,if y.2.peek.kd≠0 then y.2.fail y.2.peek.pl 30 else y.2)
theorem end_ok {ts:List Tk} {en op pl cl:Int} (h:∀t ∈ ts,TkOK t) :
  Sim (if (⟨ts,en,op,pl,0⟩:Ps).peek.kd≠0 then (⟨ts,en,op,pl,0⟩:Ps).fail (⟨ts,en,op,pl,0⟩:Ps).peek.pl 30 else ⟨ts,en,op,pl,0⟩) (if (⟨ts,en+1,op,0,cl⟩:Mq).tk≠[] then (⟨ts,en+1,op,0,cl⟩:Mq).fail 30 else ⟨ts,en+1,op,0,cl⟩):=by
 cases ts with
 | nil=>exact Xy h
 | cons t ts=>
  have h1:=(h t (.head _)).1
  have h2:t.kd≠0:=by omega
  rw [if_pos (show (⟨t::ts,en,op,pl,0⟩:Ps).peek.kd≠0 from h2),if_pos (by simp)]
  exact Zk rfl rfl rfl rfl (by decide)
theorem end_err {p:Ps} {m:Mq} (h:Sim p m) (he:p.e≠0):Sim (if p.peek.kd≠0 then p.fail p.peek.pl 30 else p) (if m.tk≠[] then m.fail 30 else m):=by
 obtain ⟨h1,h2,h3⟩:=h.err he
 rw [Yh h3]
 simp only [ne_eq,not_true_eq_false,if_false]
 rw [Yk (by rw [←h1];exact he)]
 simpa using h
theorem end_e {p:Ps} (he:p.e≠0):(if p.peek.kd≠0 then p.fail p.peek.pl 30 else p).e≠0:=by
 rw [Zx he,ite_self];exact he
theorem sim_act {p:Ps} {m:Mq} (h:Sim p m):Sim (actE p).2 (actM m).2∧((actE p).2.e=0→(actE p).1=(actM m).1):=by
 by_cases he:p.e≠0
 ·obtain ⟨h1,h2,h3⟩:=h.err he
  have hm:m.e≠0:=by rw [←h1];exact he
  have e1:(actF p).2=p:=by
   unfold actF
   simp only [Yh h3,Y3 he h3,Zx he,ite_self]
   rw [if_neg (by decide)]
  have e2:actM m=(⟨0,eB⟩,m):=by
   unfold actM
   rw [if_neg (fun h=>hm h.1),Yk hm]
  unfold actE
  simp only [e1,e2,Yh h3]
  exact ⟨h,fun hz=>absurd hz he⟩
 have he:p.e=0:=by omega
 obtain ⟨h1,h2,h3⟩:=h.ok he
 obtain ⟨ts,en,op,pl,e⟩:=p
 obtain ⟨tk,en2,op2,e2,cl⟩:=m
 have h4:=h.2.1
 have h0:=h.1
 dsimp only at he h1 h2 h3 h4 h0
 subst he;subst h1;subst h2;subst h3;subst h4
 have bad:∀{q:Ps} {a:Ac} {i:Int} {m':Mq},actF ⟨ts,en,op,pl,0⟩=(a,q.fail i 30)→Sim (q.fail i 30) m'→(actM ⟨ts,en+1,op,0,cl⟩).2=m'→Sim (actE ⟨ts,en,op,pl,0⟩).2 (actM ⟨ts,en+1,op,0,cl⟩).2∧((actE ⟨ts,en,op,pl,0⟩).2.e=0→(actE ⟨ts,en,op,pl,0⟩).1=(actM ⟨ts,en+1,op,0,cl⟩).1):=by
  intro q a i m' g1 g2 g3
  have hz:(q.fail i 30).e≠0:=Z3 (by decide)
  obtain ⟨_,_,k3⟩:=g2.err hz
  unfold actE
  rw [g1,g3]
  simp only [Yh k3]
  exact ⟨g2,fun h=>absurd h hz⟩
 cases ts with
 | nil=>
  refine bad (a:=⟨0,ofL []⟩) (q:=⟨[],en,op,pl,0⟩) (i:=en) (m':=(⟨[],en+1,op,0,cl⟩:Mq).fail 30) ?_ (Zk rfl rfl rfl rfl (by decide)) ?_
  ·unfold actF
   simp only [XY,XO (show (1:Int)≠0 by decide),ff (show (30:Int)≠0 by decide),ite_self]
   rfl
  ·unfold actM
   rw [if_neg (by simp [Mq.has])]
 | cons t ts=>
  by_cases hk:t.kd=1
  ·by_cases hi:idx t.tx wActs<5
   ·have e3:(⟨t::ts,en+1,op,0,cl⟩:Mq).has (fun t=>decide (t.kd=1) && decide (idx t.tx wActs<5))=true:=by simp [Mq.has,hk,hi]
    have em:(⟨t::ts,en+1,op,0,cl⟩:Mq).pass=⟨ts,en+1,op,0,cl⟩:=rfl
    have eh:(⟨t::ts,en+1,op,0,cl⟩:Mq).hd=t.tx:=rfl
    unfold actE actF actM
    rw [Xd hk]
    simp only [Yi,e3,em,eh,hi,and_self,if_true]
    by_cases hc:idx t.tx wActs=1
    ·simp only [hc,if_true]
     cases ts with
     | nil=>
      rw [XO (by decide)]
      have q1:(⟨[],en+1,op,0,cl⟩:Mq).has (fun t=>decide (t.kd=3) && (tplF t.tx).2.isSome)=false:=rfl
      have q2:(⟨[],en+1,op,0,cl⟩:Mq).take (fun t=>decide (t.kd=3))=(eB,(⟨[],en+1,op,0,cl⟩:Mq).fail 30):=by simp [Mq.take,Mq.has]
      simp only [q1,Bool.false_eq_true,if_false,q2,XY]
      have q3:(tplF (ofL [])).2.isSome=false:=by decide
      simp only [q3,Bool.false_eq_true,if_false]
      have s:Sim ((⟨[],en,op,pl,0⟩:Ps).fail en 30) ((⟨[],en+1,op,0,cl⟩:Mq).fail 30):=Zk rfl rfl rfl rfl (by decide)
      exact ⟨end_err s (Z3 (by decide)),fun hz=>absurd hz (end_e (Z3 (by decide)))⟩
     | cons u ts=>
      by_cases hu:u.kd=3
      ·rw [Xd hu]
       simp only [Yi]
       by_cases hq:(tplF u.tx).2.isSome=true
       ·have q1:(⟨u::ts,en+1,op,0,cl⟩:Mq).has (fun t=>decide (t.kd=3) && (tplF t.tx).2.isSome)=true:=by simp [Mq.has,hu,hq]
        have q0:((⟨u::ts,en+1,op,0,cl⟩:Mq).fail 3).e≠0:=by simp [Mq.fail]
        simp only [q1,hq,if_true,Wp q0]
        have s:Sim ((⟨ts,en,op,pl,0⟩:Ps).fail u.pl 3) ((⟨u::ts,en+1,op,0,cl⟩:Mq).fail 3):=Zk rfl rfl rfl rfl (by decide)
        exact ⟨end_err s (Z3 (by decide)),fun hz=>absurd hz (end_e (Z3 (by decide)))⟩
       ·have hq:(tplF u.tx).2.isSome=false:=by simpa using hq
        have q1:(⟨u::ts,en+1,op,0,cl⟩:Mq).has (fun t=>decide (t.kd=3) && (tplF t.tx).2.isSome)=false:=by simp [Mq.has,hq]
        have q2:(⟨u::ts,en+1,op,0,cl⟩:Mq).take (fun t=>decide (t.kd=3))=(u.tx,⟨ts,en+1,op,0,cl⟩):=by simp [Mq.take,Mq.has,hu,Mq.hd,Mq.pass]
        simp only [q1,hq,Bool.false_eq_true,if_false,q2]
        exact ⟨end_ok fun t ht=>h0 t (.tail _ (.tail _ ht)),fun _=>rfl⟩
      ·rw [X5 hu]
       have q1:(⟨u::ts,en+1,op,0,cl⟩:Mq).has (fun t=>decide (t.kd=3) && (tplF t.tx).2.isSome)=false:=by simp [Mq.has,hu]
       have q2:(⟨u::ts,en+1,op,0,cl⟩:Mq).take (fun t=>decide (t.kd=3))=(eB,(⟨u::ts,en+1,op,0,cl⟩:Mq).fail 30):=by simp [Mq.take,Mq.has,hu]
       simp only [q1,q2,Bool.false_eq_true,if_false,ff (show (30:Int)≠0 by decide),ite_self]
       have s:Sim ((⟨ts,en,op,pl,0⟩:Ps).fail u.pl 30) ((⟨u::ts,en+1,op,0,cl⟩:Mq).fail 30):=Zk rfl rfl rfl rfl (by decide)
       exact ⟨end_err s (Z3 (by decide)),fun hz=>absurd hz (by first|exact Z3 (by decide)|exact end_e (Z3 (by decide)))⟩
    ·simp only [eq_false hc,if_false]
     refine ⟨end_ok fun t ht=>h0 t (.tail _ ht),fun _=>rfl⟩
   ·refine bad (a:=⟨0,ofL []⟩) (q:=⟨ts,en,op,pl,0⟩) (i:=t.pl) (m':=(⟨t::ts,en+1,op,0,cl⟩:Mq).fail 30) ?_ (Zk rfl rfl rfl rfl (by decide)) ?_
    ·unfold actF
     rw [Xd hk]
     have hc:¬idx t.tx wActs=1:=by omega
     simp only [Yi,eq_false hi,eq_false hc,if_false]
    ·unfold actM
     rw [if_neg (by simp [Mq.has,hi])]
  ·have hf:((⟨ts,en,op,pl,0⟩:Ps).fail t.pl 30).e≠0:=Z3 (by decide)
   have ht:((⟨ts,en,op,pl,0⟩:Ps).fail t.pl 30).tk=[]:=Wq rfl
   have e1:(actF ⟨t::ts,en,op,pl,0⟩).2=(⟨ts,en,op,pl,0⟩:Ps).fail t.pl 30:=by
    unfold actF
    rw [X5 hk]
    simp only [Zx hf,ite_self,Y3 hf ht]
    split<;>rfl
   refine bad (a:=(actF ⟨t::ts,en,op,pl,0⟩).1) (q:=⟨ts,en,op,pl,0⟩) (i:=t.pl) (m':=(⟨t::ts,en+1,op,0,cl⟩:Mq).fail 30) (by rw [←e1]) (Zk rfl rfl rfl rfl (by decide)) ?_
   unfold actM
   rw [if_neg (by simp [Mq.has,hk])]
theorem rule_eq (p:Ps):ruleF p=(let x:Option Cnd×Ps:=if p.is 1 wIf then let r:=condF (fuP p.pass) p.pass;(some r.1,r.2.symb yCol) else (none,p);(⟨x.1,(actE x.2).1⟩,(actE x.2).2)):=rfl
theorem XL (m:Mq):ruleM m=(let x:Option Tr5×Mq:=if m.word wIf then let r:=condM (fuM m.pass) m.pass;(some r.1,(r.2.take (Mq.isS yCol)).2) else (none,m);(⟨x.1,(actM x.2).1⟩,(actM x.2).2)):=by
 unfold ruleM actM
 dsimp only
 generalize (if m.word wIf=true then (some (condM (fuM m.pass) m.pass).1,((condM (fuM m.pass) m.pass).2.take (Mq.isS yCol)).2) else (none,m))=x
 by_cases hc:x.2.e=0∧x.2.has (fun t=>decide (t.kd=1) && decide (idx t.tx wActs<5))=true
 ·rw [if_pos hc,if_pos hc]
 ·rw [if_neg hc,if_neg hc]
theorem act_err {p:Ps} (he:p.e≠0) (ht:p.tk=[]):(actE p).2=p:=by
 unfold actE actF
 simp only [Yh ht,Y3 he ht,Zx he,ite_self]
 rw [if_neg (show ¬idx (ofL []) wActs=1 by decide)]
 simp only [Yh ht,ne_eq,not_true_eq_false,if_false]
theorem sim_rule {p:Ps} {m:Mq} (h:Sim p m) (he:p.e=0):Sim (ruleF p).2 (ruleM m).2∧((ruleF p).2.e=0→(ruleF p).1=ruC (ruleM m).1∧WfR (ruleM m).1):=by
 rw [rule_eq,XL,sim_word h]
 by_cases hw:m.word wIf=true
 ·simp only [hw,if_true]
  have hp:=VG h
  have ef:fuP p.pass=fuM m.pass:=by
   unfold fuP fuM Ps.pass Mq.pass
   rw [(h.ok he).2.1]
  rw [ef]
  have ih:=(sim_all (fuM m.pass)).2.2.2.1 _ _ hp
  have s:=sim_symb ih.1 yCol
  have g:=sim_act s
  refine ⟨g.1,fun hz=>?_⟩
  have h1:=g.2 hz
  have h2:(condF (fuM m.pass) p.pass).2.e=0:=by
   by_cases hc:(condF (fuM m.pass) p.pass).2.e=0
   ·exact hc
   ·have ht:=(ih.1.err hc).2.2
    have hz':(actE ((condF (fuM m.pass) p.pass).2.symb yCol)).2.e=0:=hz
    rw [We hc ht,act_err hc ht] at hz'
    exact absurd hz' hc
  obtain ⟨i1,i2⟩:=ih.2 h2
  refine ⟨?_,fun t ht=>?_⟩
  ·show (⟨some _,_⟩:Ru)=_
   rw [i1,h1];rfl
  ·cases ht;exact i2
 ·simp only [eq_false hw,if_false]
  have g:=sim_act h
  refine ⟨g.1,fun hz=>⟨?_,fun t ht=>by cases ht⟩⟩
  show (⟨none,_⟩:Ru)=_
  rw [g.2 hz];rfl
theorem sim_line (s:List UInt8) (n:Nat):match lineF s n,lineM s n with
  | (some x,_,_),(some y,_,_)=>x=ruC y∧WfR y
  | (none,a,e),(none,b,f)=>e=f∧(e≠0→a+1=b)
  | _,_=>False:=by
 unfold lineF lineM
 have htk:=X7 (s.length+1) s 0 [] (fun t ht=>by cases ht)
 generalize scanF (s.length+1) s 0 []=r at *
 obtain ⟨ts,e,ok⟩:=r
 dsimp only at htk ⊢
 by_cases hb:ok=false
 ·simp only [hb,if_true]
  exact ⟨trivial,fun _=>trivial⟩
 ·have hb:ok=true:=by simpa using hb
  simp only [hb,Bool.true_eq_false,if_false]
  cases ts with
  | nil=>exact ⟨rfl,fun h=>absurd rfl h⟩
  | cons t ts=>
   dsimp only
   by_cases hn:n=256
   ·simp only [hn,if_true]
    exact ⟨trivial,fun _=>trivial⟩
   ·simp only [hn,if_false]
    have g:=sim_rule (p:=⟨t::ts,(e:Int),0,0,0⟩) (m:=⟨t::ts,(e:Int)+1,0,0,0⟩) (Xy htk) rfl
    generalize ruleF ⟨t::ts,(e:Int),0,0,0⟩=p at *
    generalize ruleM ⟨t::ts,(e:Int)+1,0,0,0⟩=m at *
    have g0:=g.1.e0
    by_cases hz:p.2.e=0
    ·have hz2:m.2.e=0:=by rw [←g0];exact hz
     simp only [hz,hz2,ne_eq,not_true_eq_false,if_false]
     exact g.2 hz
    ·have hz2:m.2.e≠0:=by rw [←g0];exact hz
     simp only [hz,hz2,ne_eq,not_false_eq_true,if_true]
     exact ⟨g0,fun _=>(g.1.err hz).2.1⟩
theorem sim_rows:∀(l:List (List UInt8)) (i:Nat) (acc:List RuM),(∀x ∈ acc,WfR x)→match rowsF l i (acc.map ruC),rowsM l i acc with
  | .ok a,.ok b=>a=b.map ruC∧∀x ∈ b,WfR x
  | .error a,.error b=>a=b
  | _,_=>False
 | [],_,acc,h=>⟨rfl,h⟩
 | s::l,i,acc,h=>by
  have g:=sim_line s acc.length
  unfold rowsF rowsM
  rw [List.length_map]
  generalize lineF s acc.length=a at *
  generalize lineM s acc.length=b at *
  obtain ⟨a1,a2,a3⟩:=a
  obtain ⟨b1,b2,b3⟩:=b
  cases a1 with
  | some x=>cases b1 with
   | none=>exact g.elim
   | some y=>
    obtain ⟨rfl,g2⟩:=g
    have:=sim_rows l (i+1) (acc++[y]) (fun z hz=>by
     rcases List.mem_append.1 hz with hz|hz
     ·exact h z hz
     ·rcases List.mem_singleton.1 hz with rfl
      exact g2)
    rw [List.map_append] at this
    exact this
  | none=>cases b1 with
   | some y=>exact g.elim
   | none=>
    obtain ⟨rfl,g2⟩:=g
    by_cases hz:a3=0
    ·simp only [hz,if_true]
     exact sim_rows l (i+1) acc h
    ·simp only [hz,if_false]
     rw [g2 hz]
theorem par_sim (s:ByteArray):match parF s,parM s with
  | .ok a,.ok b=>a=b.map ruC∧∀x ∈ b,WfR x
  | .error a,.error b=>a=b
  | _,_=>False:=by
 unfold parF parM
 by_cases h:65536<s.size
 ·simp only [h,if_true]
 ·simp only [h,if_false]
  exact sim_rows _ 0 [] (fun x hx=>by cases hx)
mutual
def holM (c:Cq):Tr5→Bool
 | .mk op args rel tx n=>
  if op=wOr then anyM c args else if op=wAnd then allM c args else if op=wNot then !headM c args
  else if idx op wKinds<3 then c.kind == ((idx op wKinds:Nat)+2:Int)
  else if op=wChan then (subO c).ch == n
  else if op=wBy then lwith c.who tx
  else if idx op wTxs<3 then cmpB (idx rel wCts) (fldT (idx op wTxs) c) tx
  else cmpZ (idx rel yCns) (fldN (idx op wNms) c) n
def anyM (c:Cq):List Tr5→Bool
 | []=>false
 | t::l=>holM c t || anyM c l
def allM (c:Cq):List Tr5→Bool
 | []=>true
 | t::l=>holM c t && allM c l
def headM (c:Cq):List Tr5→Bool
 | []=>false
 | t::_=>holM c t
end
def AcOK (a:Ac):Prop:=1≤a.k∧a.k≤5∧(a.k=2→(tplF a.t).2=none)∧(a.k≠2→a.t=ofL [])
theorem act_tpl {p:Ps} (h:(actE p).2.e=0):AcOK (actE p).1:=by
 have h1:(actF p).2.e=0:=by
  by_cases hz:(actF p).2.e=0
  ·exact hz
  ·exact absurd h (end_e hz)
 show AcOK (actF p).1
 unfold actF at h1 ⊢
 dsimp only at h1 ⊢
 by_cases hk:idx p.peek.tx wActs=1
 ·simp only [hk,if_true] at h1 ⊢
  refine ⟨show (1:Int)≤2 by decide,show (2:Int)≤5 by decide,fun _=>?_,fun h=>absurd rfl h⟩
  by_cases hq:(tplF (if 1<5 then p.need 1 else (p.need 1).fail p.peek.pl 30).peek.tx).2.isSome=true
  ·rw [if_pos hq] at h1
   exact absurd h1 (Z3 (by decide))
  ·simpa using hq
 ·simp only [eq_false hk,if_false] at h1 ⊢
  by_cases h5:idx p.peek.tx wActs<5
  ·simp only [h5,if_true]
   exact ⟨show (1:Int)≤(idx p.peek.tx wActs:Int)+1 by omega,show (idx p.peek.tx wActs:Int)+1≤5 by omega,fun h=>absurd (show (idx p.peek.tx wActs:Int)+1=2 from h) (by omega),fun _=>rfl⟩
  ·simp only [h5,if_false] at h1
   exact absurd h1 (Z3 (by decide))
theorem rule_ac {p:Ps} (h:(ruleF p).2.e=0):AcOK (ruleF p).1.a:=by
 rw [rule_eq] at h ⊢
 exact act_tpl h
theorem line_ac {s:List UInt8} {n:Nat} {x:Ru} {a e:Int} (h:lineF s n=(some x,a,e)):AcOK x.a:=by
 unfold lineF at h
 dsimp only at h
 split at h
 ·cases h
 ·split at h
  ·cases h
  ·split at h
   ·cases h
   ·split at h
    ·cases h
    ·rename_i hz
     cases h
     exact rule_ac (by omega)
theorem rows_ac:∀(l:List (List UInt8)) (i:Nat) (acc:List Ru),(∀x ∈ acc,AcOK x.a)→∀r,rowsF l i acc = .ok r→∀x ∈ r,AcOK x.a
 | [],_,acc,h,r,hr=>by cases hr;exact h
 | s::l,i,acc,h,r,hr=>by
  unfold rowsF at hr
  split at hr
  ·rename_i x a e hx
   refine rows_ac l (i+1) _ (fun z hz=>?_) r hr
   rcases List.mem_append.1 hz with hz|hz
   ·exact h z hz
   ·rcases List.mem_singleton.1 hz with rfl
    exact line_ac hx
  ·split at hr
   ·exact rows_ac l (i+1) acc h r hr
   ·cases hr
theorem par_ac {s:ByteArray} {r:List Ru} (h:parF s = .ok r):∀x ∈ r,AcOK x.a:=by
 unfold parF at h
 split at h
 ·cases h
 ·exact rows_ac _ 0 [] (fun x hx=>by cases hx) r h
section
mutual
def WfC:Cnd→Prop
 | .any l=>WfCs l
 | .all l=>WfCs l
 | .nt c=>WfC c
 | .nul=>False
 | .kd _ _=>True
 | .ch _ _=>True
 | .tx _ f k _=>f<3∧k<3
 | .nm _ f k _=>f<4∧k<3
 | .by_ _ _=>True
def WfCs:List Cnd→Prop
 | []=>True
 | c::l=>WfC c∧WfCs l
end
theorem XP:∀l:List Cnd,WfCs l↔∀c ∈ l,WfC c
 | []=>by simp [WfCs]
 | c::l=>by simp [WfCs,XP l]
theorem wf_anyP {c:Cnd} (h:WfC c):∀x ∈ anyP c,WfC x:=by
 cases c with
 | any l=>intro x hx;rw [WfC] at h;exact (XP l).1 h x hx
 | _=>intro x hx;rcases List.mem_singleton.1 hx with rfl;exact h
theorem wf_allP {c:Cnd} (h:WfC c):∀x ∈ allP c,WfC x:=by
 cases c with
 | all l=>intro x hx;rw [WfC] at h;exact (XP l).1 h x hx
 | _=>intro x hx;rcases List.mem_singleton.1 hx with rfl;exact h
theorem wf_either {l:List Cnd} (h:WfCs l):WfC (eitherF l):=by
 have k:∀x ∈ l.flatMap anyP,WfC x:=fun x hx=>by
  obtain ⟨c,hc,hx⟩:=List.mem_flatMap.1 hx
  exact wf_anyP ((XP l).1 h c hc) x hx
 unfold eitherF
 split
 ·rename_i c hc;exact k c (by rw [hc];exact .head _)
 ·rw [WfC];exact (XP _).2 k
theorem wf_both {l:List Cnd} (h:WfCs l):WfC (bothF l):=by
 have k:∀x ∈ l.flatMap allP,WfC x:=fun x hx=>by
  obtain ⟨c,hc,hx⟩:=List.mem_flatMap.1 hx
  exact wf_allP ((XP l).1 h c hc) x hx
 unfold bothF
 split
 ·rename_i c hc;exact k c (by rw [hc];exact .head _)
 ·rw [WfC];exact (XP _).2 k
mutual
theorem wf_tree:∀t:Tr5,WfT t→WfC (toC t)
 | .mk op args rel tx n,h=>by
  rw [WfT] at h
  rw [toC]
  by_cases h1:op=wOr
  ·rw [if_pos (.inl h1)] at h
   rw [if_pos h1];exact wf_either (wf_trees args h.2)
  rw [if_neg h1]
  by_cases h2:op=wAnd
  ·rw [if_pos (.inr h2)] at h
   rw [if_pos h2];exact wf_both (wf_trees args h.2)
  rw [if_neg h2]
  by_cases h3:op=wNot
  ·rw [if_neg (by rintro (h|h);exact h1 h;exact h2 h),if_pos h3] at h
   rw [if_pos h3]
   obtain ⟨⟨t,rfl⟩,h4,_⟩:=h
   show WfC (.nt (toC t))
   rw [WfC];exact wf_tree t h4
  rw [if_neg h3]
  rw [if_neg (by rintro (h|h);exact h1 h;exact h2 h),if_neg h3] at h
  obtain ⟨_,_,h6,h7⟩:=h
  split
  ·rw [WfC];trivial
  ·split
   ·rw [WfC];trivial
   ·split
    ·rename_i a;rw [WfC];exact ⟨a,h6 a⟩
    ·split
     ·rename_i a;rw [WfC];exact ⟨a,h7 a⟩
     ·rw [WfC];trivial
theorem wf_trees:∀l:List Tr5,WfTs l→WfCs (toCs l)
 | [],_=>by simp [toCs,WfCs]
 | t::l,h=>by rw [WfTs] at h;rw [toCs,WfCs];exact ⟨wf_tree t h.1,wf_trees l h.2⟩
end
mutual
def SzC (M:Nat):Cnd→Prop
 | .any l=>SzCs M l
 | .all l=>SzCs M l
 | .nt c=>SzC M c
 | .nul=>True
 | .kd w _=>w.size≤4 * M+400
 | .ch w _=>w.size≤4 * M+400
 | .tx w _ _ s=>w.size≤4 * M+400∧s.size≤M
 | .nm w _ _ _=>w.size≤4 * M+400
 | .by_ w s=>w.size≤4 * M+400∧s.size≤M
def SzCs (M:Nat):List Cnd→Prop
 | []=>True
 | c::l=>SzC M c∧SzCs M l
end
theorem Ym (M:Nat):∀l:List Cnd,SzCs M l↔∀c ∈ l,SzC M c
 | []=>by simp [SzCs]
 | c::l=>by simp [SzCs,Ym M l]
theorem sz_anyP {M:Nat} {c:Cnd} (h:SzC M c):∀x ∈ anyP c,SzC M x:=by
 cases c with
 | any l=>intro x hx;rw [SzC] at h;exact (Ym M l).1 h x hx
 | _=>intro x hx;rcases List.mem_singleton.1 hx with rfl;exact h
theorem sz_allP {M:Nat} {c:Cnd} (h:SzC M c):∀x ∈ allP c,SzC M x:=by
 cases c with
 | all l=>intro x hx;rw [SzC] at h;exact (Ym M l).1 h x hx
 | _=>intro x hx;rcases List.mem_singleton.1 hx with rfl;exact h
theorem sz_either {M:Nat} {l:List Cnd} (h:SzCs M l):SzC M (eitherF l):=by
 have k:∀x ∈ l.flatMap anyP,SzC M x:=fun x hx=>by
  obtain ⟨c,hc,hx⟩:=List.mem_flatMap.1 hx
  exact sz_anyP ((Ym M l).1 h c hc) x hx
 unfold eitherF
 split
 ·rename_i c hc;exact k c (by rw [hc];exact .head _)
 ·rw [SzC];exact (Ym M _).2 k
theorem sz_both {M:Nat} {l:List Cnd} (h:SzCs M l):SzC M (bothF l):=by
 have k:∀x ∈ l.flatMap allP,SzC M x:=fun x hx=>by
  obtain ⟨c,hc,hx⟩:=List.mem_flatMap.1 hx
  exact sz_allP ((Ym M l).1 h c hc) x hx
 unfold bothF
 split
 ·rename_i c hc;exact k c (by rw [hc];exact .head _)
 ·rw [SzC];exact (Ym M _).2 k
theorem szs_add {M:Nat} {l:List Cnd} {c:Cnd} (h:SzCs M l) (k:SzC M c):SzCs M (l++[c]):=(Ym M _).2 fun x hx=>by
 rcases List.mem_append.1 hx with hx|hx
 ·exact (Ym M l).1 h x hx
 ·rcases List.mem_singleton.1 hx with rfl;exact k
def TB (M:Nat) (p:Ps):Prop:=∀t ∈ p.tk,t.tx.size≤M
namespace TB
variable {M:Nat} {x:Ps}
theorem peek (h:TB M x):x.peek.tx.size≤M:=by
 unfold Ps.peek
 split
 ·exact Nat.zero_le _
 ·rename_i t l ht;exact h t (by rw [ht];exact .head _)
theorem sfx {y:Ps} (h:TB M x) (s:Sfx x y):TB M y:=fun t ht=>h t (s.subset ht)
end TB
theorem Yn (a b:ByteArray):(a++b).size=a.size+b.size:=by
 have h:=congrArg List.length (W9 a b)
 rw [List.length_append,lsz,lsz,lsz] at h
 exact h
theorem wSp_sz:wSp.size=1:=rfl
theorem sz_test {M:Nat} {x:Ps} (h:TB M x) {w:ByteArray} (hw:w.size≤M):SzC M (testF w x).1:=by
 unfold testF
 have hp:=h.peek
 split
 ·rw [SzC];omega
 ·split
  ·dsimp only
   rw [SzC,Yn,Yn,wSp_sz];omega
  ·split
   ·dsimp only
    have a:TB M (if idx x.peek.tx wCts<3 then x.need 1 else (x.need 1).fail x.peek.pl 30):=h.sfx (Sfx.ite (Sfx.need _ _) ((Sfx.need _ _).trans (Sfx.fail _ _ _)))
    have b:=a.peek
    have c:=Xp (if idx x.peek.tx wCts<3 then x.need 1 else (x.need 1).fail x.peek.pl 30).peek.tx
    rw [SzC,Yn,Yn,Yn,Yn,wSp_sz]
    exact ⟨by omega,b⟩
   ·split
    ·dsimp only
     have b:=numF_bd (if idx x.peek.tx yCns<3 then x.need 4 else (x.need 4).fail x.peek.pl 30)
     have c:=VU _ b.1 b.2
     rw [SzC,Yn,Yn,Yn,Yn,wSp_sz]
     omega
    ·dsimp only
     rw [SzC,Yn,Yn,wSp_sz]
     exact ⟨by omega,hp⟩
theorem sz_all (M:Nat):∀n:Nat,(∀p,TB M p→SzC M (factorF n p).1)∧(∀p,TB M p→SzC M (termF n p).1)∧(∀l p,TB M p→SzCs M l→SzCs M (termL n l p).1)∧(∀p,TB M p→SzC M (condF n p).1)∧(∀l p,TB M p→SzCs M l→SzCs M (condL n l p).1)
 | 0=>by
  have a:SzC M (.nt .nul):=by rw [SzC,SzC];trivial
  exact ⟨fun _ _=>a,fun _ _=>a,fun _ _ _ h=>h,fun _ _=>a,fun _ _ _ h=>h⟩
 | n+1=>by
  obtain ⟨h1,h2,h3,h4,h5⟩:=sz_all M n
  obtain ⟨g1,g2,_,_,_⟩:=Yq n
  refine ⟨fun p h=>?_,fun p h=>?_,fun l p h hl=>?_,fun p h=>?_,fun l p h hl=>?_⟩
  ·have hq:TB M p.pass:=h.sfx (Sfx.pass _)
   unfold factorF
   dsimp only
   split
   ·rw [SzC];exact h1 _ hq
   ·split
    ·exact h4 _ (h.sfx (Sfx.ite ((Sfx.pass _).trans (Sfx.fail _ _ _)) (Sfx.pass _)))
    ·split
     ·exact sz_test hq h.peek
     ·rw [SzC,SzC];trivial
  ·unfold termF
   dsimp only
   exact sz_both (h3 _ _ (h.sfx (g1 p)) (by rw [SzCs,SzCs];exact ⟨h1 p h,trivial⟩))
  ·unfold termL
   split
   ·exact h3 _ _ (h.sfx ((Sfx.pass _).trans (g1 _))) (szs_add hl (h1 _ (h.sfx (Sfx.pass _))))
   ·exact hl
  ·unfold condF
   dsimp only
   exact sz_either (h5 _ _ (h.sfx (g2 p)) (by rw [SzCs,SzCs];exact ⟨h2 p h,trivial⟩))
  ·unfold condL
   split
   ·exact h5 _ _ (h.sfx ((Sfx.pass _).trans (g2 _))) (szs_add hl (h2 _ (h.sfx (Sfx.pass _))))
   ·exact hl
structure RuOK (M:Nat) (x:Ru):Prop where
 a:AcOK x.a
 t:x.a.t.size≤M
 c:∀d,x.c=some d→WfC d∧SzC M d∧lv d≤3 * M+10
def RuSz (M:Nat) (x:Ru):Prop:=x.a.t.size≤M∧∀d,x.c=some d→SzC M d∧lv d≤3 * M+10
theorem act_sz {M:Nat} {x:Ps} (h:TB M x):(actF x).1.t.size≤M:=by
 unfold actF
 dsimp only
 have a:TB M (if idx x.peek.tx wActs<5 then x.need 1 else (x.need 1).fail x.peek.pl 30):=h.sfx (Sfx.ite (Sfx.need _ _) ((Sfx.need _ _).trans (Sfx.fail _ _ _)))
 generalize (if idx x.peek.tx wActs<5 then x.need 1 else (x.need 1).fail x.peek.pl 30)=q at a ⊢
 split
 ·exact a.peek
 ·exact Nat.zero_le _
theorem rule_sz {M:Nat} {x:Ps} (h:TB M x) (hn:x.tk.length≤M):RuSz M (ruleF x).1:=by
 unfold ruleF
 dsimp only
 have hp:TB M x.pass:=h.sfx (Sfx.pass _)
 split
 ·exact ⟨act_sz (hp.sfx (((Yq _).2.2.2.1 _).trans (Sfx.symb _ _))),fun d hd=>by
   cases hd
   have h1:=(lv_all (fuP x.pass)).2.2.2.1 x.pass
   have h2:x.pass.tk.length≤x.tk.length:=(Sfx.pass x).len
   exact ⟨(sz_all M _).2.2.2.1 _ hp,by omega⟩⟩
 ·exact ⟨act_sz h,fun d hd=>by cases hd⟩
theorem line_sz {s:List UInt8} {n M:Nat} (hM:s.length≤M) {x:Ru} {a e:Int} (h:lineF s n=(some x,a,e)):RuSz M x:=by
 obtain ⟨g,g2⟩:=scan_sz (s.length+1) s 0 [] M hM (fun t ht=>by cases ht)
 unfold lineF at h
 dsimp only at h
 split at h
 ·cases h
 ·split at h
  ·cases h
  ·split at h
   ·cases h
   ·split at h
    ·cases h
    ·cases h
     exact rule_sz (fun t ht=>(g t ht).2) (by simp only [List.length_nil] at g2;show (scanF _ _ _ _).1.length≤M;omega)
theorem rows_szs {M:Nat}:∀(l:List (List UInt8)) (i:Nat) (acc:List Ru),(∀x ∈ l,x.length≤M)→(∀x ∈ acc,RuSz M x)→∀r,rowsF l i acc = .ok r→∀x ∈ r,RuSz M x
 | [],_,acc,_,h,r,hr=>by cases hr;exact h
 | s::l,i,acc,hl,h,r,hr=>by
  have hl':∀x ∈ l,x.length≤M:=fun x hx=>hl x (.tail _ hx)
  unfold rowsF at hr
  split at hr
  ·rename_i x a e hx
   refine rows_szs l (i+1) _ hl' (fun z hz=>?_) r hr
   rcases List.mem_append.1 hz with hz|hz
   ·exact h z hz
   ·rcases List.mem_singleton.1 hz with rfl
    exact line_sz (hl s (.head _)) hx
  ·split at hr
   ·exact rows_szs l (i+1) acc hl' h r hr
   ·cases hr
theorem par_ok {s:ByteArray} {r:List Ru} (h:parF s = .ok r):r.length≤256∧∀x ∈ r,RuOK s.size x:=by
 have h1:=par_ac h
 have h2:=par_sim s
 rw [h] at h2
 cases hm:parM s with
 | error e=>rw [hm] at h2;exact absurd h2 id
 | ok b=>
  rw [hm] at h2
  obtain ⟨h3,h4⟩:=h2
  have h0:rowsF (linesF s.data.toList) 0 [] = .ok r:=by
   unfold parF at h
   split at h
   ·cases h
   ·exact h
  have h5:=rows_szs (M:=s.size) (linesF s.data.toList) 0 [] (fun x hx=>by rw [←lsz];exact (WT _).2 x hx) (fun x hx=>by cases hx) r h0
  refine ⟨?_,fun x hx=>⟨h1 x hx,(h5 x hx).1,fun d hd=>⟨?_,(h5 x hx).2 d hd⟩⟩⟩
  ·have go:∀(l:List (List UInt8)) (i:Nat) (acc:List Ru),acc.length≤256→∀r,rowsF l i acc = .ok r→r.length≤256:=by
    intro l
    induction l with
    | nil=>intro i acc ha r hr;cases hr;exact ha
    | cons s l ih=>
     intro i acc ha r hr
     unfold rowsF at hr
     split at hr
     ·rename_i x a e hx
      refine ih _ _ ?_ r hr
      have:=(lineF_ok (x:=x) (by rw [hx])).2
      rw [List.length_append,List.length_singleton];omega
     ·split at hr
      ·exact ih _ _ ha r hr
      ·cases hr
   exact go _ _ _ (by decide) r h0
  ·subst h3
   obtain ⟨y,hy,rfl⟩:=List.mem_map.1 hx
   have hd:y.c.map toC=some d:=hd
   cases hc:y.c with
   | none=>rw [hc] at hd;cases hd
   | some t=>
    rw [hc] at hd
    obtain rfl:toC t=d:=Option.some.inj hd
    exact wf_tree t (h4 y hy t hc)
end
structure CqS (c:Cq):Prop where
 ot:c.old.tg.size≤5000
 ox:c.old.tx.size≤5000
 nt:c.new.tg.size≤5000
 nx:c.new.tx.size≤5000
 wh:c.who.size≤5000
theorem CqS.tg {c:Cq} (h:CqS c):(subO c).tg.size≤5000:=by
 unfold subO;split
 ·exact h.nt
 ·exact h.ot
theorem CqS.fld {c:Cq} (h:CqS c) (f:Nat):(fldT f c).size≤5000:=by
 unfold fldT;split
 ·exact h.tg
 ·split
  ·exact h.ox
  ·exact h.nx
theorem CqS.val {c:Cq} (h:CqS c) (hi:CqI c) (n:ByteArray):(valF n c).size≤5000:=by
 have i1:=VU (subO c).us hi.u0 hi.u1
 have i2:=VU (subT c) hi.t0 hi.t1
 have i3:=VU c.nu hi.n0 hi.n1
 unfold valF
 dsimp only
 split
 ·exact h.tg
 split
 ·omega
 split
 ·omega
 split
 ·exact h.wh
 split
 ·omega
 split
 ·exact h.ox
 split
 ·exact h.nx
 ·exact Nat.zero_le _
theorem divF_sz:∀(n:Nat) (l:List UInt8) (i:Nat) (acc:List Seg) (M:Nat),l.length≤M→1≤M→(∀t,Seg.lit t ∈ acc→t.size≤M)→
  (∀t,Seg.lit t ∈ (divF n l i acc).1→t.size≤M)∧(divF n l i acc).1.length≤acc.length+n
 | 0,_,i,acc,M,_,_,h=>⟨h,by show acc.length≤_;omega⟩
 | n+1,[],i,acc,M,_,_,h=>⟨h,by show acc.length≤_;omega⟩
 | n+1,c::r,i,acc,M,hM,h1,h=>by
  have add:∀s:Seg,(∀t,s = .lit t→t.size≤M)→∀t,Seg.lit t ∈ acc++[s]→t.size≤M:=fun s hs t ht=>by
   rcases List.mem_append.1 ht with ht|ht
   ·exact h t ht
   ·exact hs t (List.mem_singleton.1 ht).symm
  have len:∀s:Seg,(acc++[s]).length=acc.length+1:=fun s=>by simp
  have go:∀(l:List UInt8) (i:Nat) (s:Seg),l.length≤M→(∀t,s = .lit t→t.size≤M)→(∀t,Seg.lit t ∈ (divF n l i (acc++[s])).1→t.size≤M)∧(divF n l i (acc++[s])).1.length≤acc.length+(n+1):=fun l i s hl hs=>by
   obtain ⟨a,b⟩:=divF_sz n l i (acc++[s]) M hl h1 (add s hs)
   exact ⟨a,by rw [len] at b;omega⟩
  rw [divF]
  dsimp only
  split
  ·refine ⟨add _ fun t ht=>?_,by rw [len];omega⟩
   obtain rfl:=Seg.lit.inj ht
   rw [Zs];exact hM
  ·split
   ·refine go _ _ _ (by rw [List.length_drop];omega) fun t ht=>?_
    obtain rfl:=Seg.lit.inj ht
    rw [Zs,List.length_take];omega
   ·split
    ·refine go _ _ _ (by rw [List.length_drop];simp only [List.length_cons] at hM;omega) fun t ht=>?_
     obtain rfl:=Seg.lit.inj ht
     exact h1
    ·split
     ·exact go _ _ _ (by rw [List.length_drop];simp only [List.length_cons] at hM;omega) (fun t ht=>by cases ht)
     ·exact ⟨h,by show acc.length≤_;omega⟩
theorem flat_le (c:Cq) (K:Nat):∀l:List Seg,(∀x ∈ l,(segF c x).size≤K)→(flat c l).length≤l.length * K
 | [],_=>by simp [flat]
 | x::l,h=>by
  have ih:=flat_le c K l fun y hy=>h y (.tail _ hy)
  have hx:=h x (.head _)
  have e:flat c (x::l)=(segF c x).data.toList++flat c l:=rfl
  rw [e,List.length_append,lsz,List.length_cons,Nat.succ_mul]
  omega
theorem exp_sz {s:ByteArray} {c:Cq} {M:Nat} (hs:s.size≤M) (h:CqS c) (hi:CqI c):(expF s c).size≤(M+1) * (M+5000):=by
 obtain ⟨a,b⟩:=divF_sz (s.size+1) s.data.toList 0 [] (s.size+1) (by rw [lsz];omega) (by omega) (fun t ht=>by cases ht)
 rw [expF_sz]
 refine Nat.le_trans (flat_le c (M+5000) _ fun x hx=>?_) (Nat.mul_le_mul_right _ ?_)
 ·cases x with
  | lit t=>have:=a t hx;show t.size≤_;omega
  | fld n=>have:=h.val hi n;show (valF n c).size≤_;omega
 ·simp only [List.length_nil] at b
  show (divF (s.size+1) s.data.toList 0 []).1.length≤_
  omega
end Go.Proofs.YtodkipbnefngkaaGreatDoor
set_option maxRecDepth 10000
namespace Go.Proofs
open Go.Shelf
def Tryz.lays99_ren:Go.Shelf.Ren:=⟨fun|99=>55|206=>85|n=>n,fun|9=>9|4=>4|3=>3|n=>n,fun|n=>n⟩
theorem Tryz.lays99:Go.Proofs.Lays.n99 Tryz.prog Tryz.lays99_ren:={
 mixed:=by kernel_rfl
 f99:=Tryz.func55.trans (congrArg some (by kernel_rfl))
 f206:=Tryz.func85.trans (congrArg some (by kernel_rfl))
 t3:=Tryz.underlying3
 a3:=Tryz.isAgg3
 z3:=Tryz.sizeOf3
 v3:=Tryz.zeroValue3
 t4:=Tryz.underlying4
 a4:=Tryz.isAgg4
 z4:=Tryz.sizeOf4
 v4:=Tryz.zeroValue4
 t9:=Tryz.underlying9
 a9:=Tryz.isAgg9
 z9:=Tryz.sizeOf9
 v9:=Tryz.zeroValue9}
end Go.Proofs
namespace Go.Proofs.YtodkipbnefngkaaGreatDoor
open Go.Proofs.Tryz
open Go.RowKit
variable {n:Nat} {C:Cx} {Q:Exit→Act→World→Prop} {E E':List (Nat×Value)} {F F' F1 Fs F0:List Pf} {R R' R0 Rs N N' A:List HP} {k k':List Fr} {ops l:List Oper} {L L':List (Nat×Nat)} {Tl:List Nat} {i d:Nat} {t ty0:TypeId} {x y z:Operand} {pos:String} {aft:Array Edge} {gd:Option (Nat×Bool)}
section
variable {t2:TypeId}
theorem r_callV {v:Value} {args:Array Operand} {tys:Array TypeId} {vs:List Value} {post:Post} (spec:SpecV v vs F1 A post)
  (nx:∀x,post.pure x→Wr n C ops k Q Tl Fs R L ((d,post.val x)::E) (post.F x++F) (post.R x++N')) (ho:nth ops i=some ⟨some d,.call ⟨.value x,args,tys⟩,ty0,pos,aft,gd⟩:=by rfl)
  (hw:wantL ops E ⟨some d,.call ⟨.value x,args,tys⟩,ty0,pos,aft,gd⟩=some true:=by rfl) (hx:ev E x=some v:=by rfl) (hargs:evs (ev E) args.toList some=some vs:=by rfl)
  (sel:Sels A N N':=by (repeat (first|exact Sels.nil|exact Sel.here|apply Sel.there|apply Sels.cons));first|done|fail)
  (hF:EntF F F1:=by (repeat (first|exact trivial|exact Sel.here|apply Sel.there|apply EntF.cons));first|done|fail):Wr n C ops k Q Tl Fs R ((i,4)::L) E F N:=
 Yx ho fun hp hr w st hz sb=>by
  simp only [Z0 hw]
  refine ⟨⟨post.X,post.val,post.pure,fun x=>post.F x++F,fun x=>post.R x++N'⟩,fun a G w hp' ha hsub hsat=>?_,fun x hx=>nx x hx hp hr w st hz sb⟩
  obtain ⟨G',hp2,h1,h2⟩:=Wg hsat sel hF.all
  have h3:=spec G' w hp2 h1
  obtain ⟨us,_,e2,e3⟩:=X9 _ _ _ hargs
  obtain rfl:=Option.some.inj e2
  have e1:=e3 a.eval fun x _ u hu=>ha.ev (by rw [ZS];exact hu)
  have e4:args.map a.eval=us.toArray:=by rw [←Array.toList_inj];simpa using e1
  have e5:(args.map fun x=>a.eval x)=us.toArray:=e4
  have e0:=ha.ev (x:=x) (by rw [ZS];exact hx)
  unfold CallsV at h3
  split at h3
  ·rename_i fn fs cs
   have h4:=h3.mono (R':=fun v w'=>∃x,v=post.val x∧post.pure x∧Sat G w hp' (post.F x++F) (post.R x++N') w') (by
    rintro v w' ⟨x,rfl,hx,hs⟩
    exact ⟨x,rfl,hx,h2 _ _ _ hs⟩)
   unfold OpRes at h4 ⊢
   have er:(execOp a.eval ⟨some d,.call ⟨.value x,args,tys⟩,ty0,pos,aft,gd⟩).run prog w=(invoke (.fn fn cs) (fs++us.toArray)).run prog w:=by
    simp only [execOp,resolve,e0,Deferred.ofValue,Sem.run_bind,Sem.run_pure,Result.andThen]
    rw [e5]
   rw [er]
   exact h4
  ·exact h3.elim
end
theorem sPrefix_ok (s p:ByteArray):Enters 55∧Spec prog 55 #[.string s,.string p] [] [] (RetV (.bool (Lib.hasPrefix s.data.toList p.data.toList))):=by
 refine ⟨enters_of func55 (by kernel_rfl) rfl,fun G w hp hs=>?_⟩
 refine (Any.strings_HasPrefix Tryz.lays99 s p w).mono ?_
 rintro e w' ⟨rfl,rfl⟩
 exact ⟨(),rfl,trivial,hs⟩
def MxL:Pf:=⟨fun h=>∃m T fz,h 0=some (.cells #[.int .i64 m] T fz),fun _ _ s ⟨m,T,fz,h1⟩=>⟨m,T,fz,s _ _ h1⟩⟩
theorem sContains_ok (s u:ByteArray) (hs:s.size≤1000000):Enters 53∧Spec prog 53 #[.string s,.string u] [MxL] [] (RetV (.bool (Lib.contains s.data.toList u.data.toList))):=by
 refine ⟨enters_of func53 (by kernel_rfl) rfl,fun G w hp hs0=>?_⟩
 obtain ⟨hp',hr,st⟩:=hs0
 obtain ⟨m,T,fz,h1⟩:=st.f MxL (by simp)
 refine (Any.strings_Contains Tryz.lays144 s u m w (by omega) (cell_of (st.inp _ _ h1))).mono ?_
 rintro e w' ⟨rfl,rfl⟩
 exact ⟨(),rfl,trivial,(show Sat G _ hp [MxL] [] _ from ⟨hp',hr,st⟩).facts fun _ _ x hx=>by cases hx⟩
theorem ruWithin_ok (s a:ByteArray) (hs:s.size≤1000000) (ha:a.size≤1000000):Enters 52∧Spec prog 52 #[.string s,.string a] [] [] (RetV (.bool (lwith s a))):=by
 have n1:=Vk s (by omega)
 have n2:=Vk a (by omega)
 have e:(a++(⟨#[46]⟩:ByteArray)).data.toList=a.data.toList++[46]:=W9 _ _
 have n3:=sPrefix_ok s (a++⟨#[46]⟩)
 rw [e] at n3
 obtain ⟨R,hR⟩:∃R,lwith s a=R:=⟨_,rfl⟩
 rw [hR]
 unfold lwith isE at hR
 generalize lvalid s.data.toList=v1 at *
 generalize lvalid a.data.toList=v2 at *
 generalize Lib.hasPrefix s.data.toList (a.data.toList++[46])=v3 at *
 cases v1
 ·obtain rfl:R=false:=by rw [←hR];rfl
  refine ZR [_,_] func52 ntmps52 fun G w hp=>?_
  repeat' (first|refine ZF ?_|refine ZI ?_|refine ZG ?_|refine ZH ?_|refine ZL ?_|refine ZJ ?_|refine ZN ?_|refine ZK (fun b=>?_)|refine ZM (fun b=>?_)|refine ZC ?_|refine ZA ?_|refine ZO ?_|refine ZD (n1) (fun _ _=>?_)|refine l_call0 (n1) (fun _ _=>?_)|refine ZD (n2) (fun _ _=>?_)|refine l_call0 (n2) (fun _ _=>?_)|(refine ZB (fun hc=>?_) (fun hc=>?_)<;>(try simp at hc)<;>(try omega))|(refine ZE (fun hc=>?_) (fun hc=>?_)<;>(try simp at hc)<;>(try omega)))
  all_goals exact ZP () rfl trivial
 cases v2
 ·obtain rfl:R=false:=by rw [←hR];rfl
  refine ZR [_,_] func52 ntmps52 fun G w hp=>?_
  repeat' (first|refine ZF ?_|refine ZI ?_|refine ZG ?_|refine ZH ?_|refine ZL ?_|refine ZJ ?_|refine ZN ?_|refine ZK (fun b=>?_)|refine ZM (fun b=>?_)|refine ZC ?_|refine ZA ?_|refine ZO ?_|refine ZD (n1) (fun _ _=>?_)|refine l_call0 (n1) (fun _ _=>?_)|refine ZD (n2) (fun _ _=>?_)|refine l_call0 (n2) (fun _ _=>?_)|(refine ZB (fun hc=>?_) (fun hc=>?_)<;>(try simp at hc)<;>(try omega))|(refine ZE (fun hc=>?_) (fun hc=>?_)<;>(try simp at hc)<;>(try omega)))
  all_goals exact ZP () rfl trivial
 by_cases h1:s=a
 ·have b1:=beqT h1
  obtain rfl:R=true:=by rw [←hR,b1];rfl
  refine ZR [_,_] func52 ntmps52 fun G w hp=>?_
  repeat' (first|rw [b1]|refine ZF ?_|refine ZI ?_|refine ZG ?_|refine ZH ?_|refine ZL ?_|refine ZJ ?_|refine ZN ?_|refine ZK (fun b=>?_)|refine ZM (fun b=>?_)|refine ZC ?_|refine ZA ?_|refine ZO ?_|refine ZD (n1) (fun _ _=>?_)|refine l_call0 (n1) (fun _ _=>?_)|refine ZD (n2) (fun _ _=>?_)|refine l_call0 (n2) (fun _ _=>?_)|refine ZD (n3) (fun _ _=>?_)|refine l_call0 (n3) (fun _ _=>?_)|refine Zj ?_|(refine ZB (fun hc=>?_) (fun hc=>?_)<;>(try simp at hc)<;>(try omega))|(refine ZE (fun hc=>?_) (fun hc=>?_)<;>(try simp at hc)<;>(try omega)))
  all_goals exact ZP () rfl trivial
 have b1:=beqF h1
 by_cases h2:a=⟨#[]⟩
 ·have b2:=beqT h2
  obtain rfl:R=true:=by rw [←hR,b1,b2];rfl
  refine ZR [_,_] func52 ntmps52 fun G w hp=>?_
  repeat' (first|rw [b2]|rw [b1]|refine ZF ?_|refine ZI ?_|refine ZG ?_|refine ZH ?_|refine ZL ?_|refine ZJ ?_|refine ZN ?_|refine ZK (fun b=>?_)|refine ZM (fun b=>?_)|refine ZC ?_|refine ZA ?_|refine ZO ?_|refine ZD (n1) (fun _ _=>?_)|refine l_call0 (n1) (fun _ _=>?_)|refine ZD (n2) (fun _ _=>?_)|refine l_call0 (n2) (fun _ _=>?_)|refine ZD (n3) (fun _ _=>?_)|refine l_call0 (n3) (fun _ _=>?_)|refine Zj ?_|(refine ZB (fun hc=>?_) (fun hc=>?_)<;>(try simp at hc)<;>(try omega))|(refine ZE (fun hc=>?_) (fun hc=>?_)<;>(try simp at hc)<;>(try omega)))
  all_goals exact ZP () rfl trivial
 ·have b2:=beqF h2
  obtain rfl:R=v3:=by rw [←hR,b1,b2];cases v3<;>rfl
  refine ZR [_,_] func52 ntmps52 fun G w hp=>?_
  repeat' (first|rw [b2]|rw [b1]|refine ZF ?_|refine ZI ?_|refine ZG ?_|refine ZH ?_|refine ZL ?_|refine ZJ ?_|refine ZN ?_|refine ZK (fun b=>?_)|refine ZM (fun b=>?_)|refine ZC ?_|refine ZA ?_|refine ZO ?_|refine ZD (n1) (fun _ _=>?_)|refine l_call0 (n1) (fun _ _=>?_)|refine ZD (n2) (fun _ _=>?_)|refine l_call0 (n2) (fun _ _=>?_)|refine ZD (n3) (fun _ _=>?_)|refine l_call0 (n3) (fun _ _=>?_)|refine Zj ?_|(refine ZB (fun hc=>?_) (fun hc=>?_)<;>(try simp at hc)<;>(try omega))|(refine ZE (fun hc=>?_) (fun hc=>?_)<;>(try simp at hc)<;>(try omega)))
  all_goals exact ZP () rfl trivial
section
variable {c:Cq}
theorem kind1_ok (c:Cq) (b:Nat) (k:Int):Enters 123∧Spec prog 123 #[cqa c,pv0 b] [Blk b (.cells #[.int .i64 k] 3)] [] (RetV (.bool (c.kind == k))):=by
 refine ZR [_,_] func123 ntmps123 fun G w hp=>?_
 repeat' (first|refine ZF ?_|refine ZI ?_|refine ZG ?_|refine ZH ?_|refine ZL ?_|refine ZJ ?_|refine ZN ?_|refine ZK (fun b=>?_)|refine ZM (fun b=>?_)|refine ZC ?_|refine ZA ?_|refine ZO ?_|(refine ZB (fun hc=>?_) (fun hc=>?_)<;>(try simp at hc))|(refine ZE (fun hc=>?_) (fun hc=>?_)<;>(try simp at hc)))
 exact ZP () rfl trivial
theorem channel1_ok (c:Cq) (b:Nat) (k:Int):Enters 125∧Spec prog 125 #[cqa c,pv0 b] [Blk b (.cells #[.int .i64 k] 3)] [] (RetV (.bool ((subO c).ch == k))):=by
 have n1:=Xz c
 refine ZR [_,_] func125 ntmps125 fun G w hp=>?_
 repeat' (first|refine ZF ?_|refine ZI ?_|refine ZG ?_|refine ZH ?_|refine ZL ?_|refine ZJ ?_|refine ZN ?_|refine ZK (fun b=>?_)|refine ZM (fun b=>?_)|refine ZC ?_|refine ZA ?_|refine ZO ?_|refine ZD (n1) (fun _ _=>?_)|refine l_call0 (n1) (fun _ _=>?_)|(refine ZB (fun hc=>?_) (fun hc=>?_)<;>(try simp at hc))|(refine ZE (fun hc=>?_) (fun hc=>?_)<;>(try simp at hc)))
 exact ZP () rfl trivial
theorem by1_ok (c:Cq) (hc:CqS c) (b:Nat) (a:ByteArray) (ha:a.size≤1000000):Enters 140∧Spec prog 140 #[cqa c,pv0 b] [Blk b (.cells #[.string a] 22)] [] (RetV (.bool (lwith c.who a))):=by
 have n1:=ruWithin_ok c.who a (by have:=hc.wh;omega) ha
 refine ZR [_,_] func140 ntmps140 fun G w hp=>?_
 repeat' (first|refine ZF ?_|refine ZI ?_|refine ZG ?_|refine ZH ?_|refine ZL ?_|refine ZJ ?_|refine ZN ?_|refine ZK (fun b=>?_)|refine ZM (fun b=>?_)|refine ZC ?_|refine ZA ?_|refine ZO ?_|refine ZD (n1) (fun _ _=>?_)|refine l_call0 (n1) (fun _ _=>?_)|(refine ZB (fun hc=>?_) (fun hc=>?_)<;>(try simp at hc))|(refine ZE (fun hc=>?_) (fun hc=>?_)<;>(try simp at hc)))
 exact ZP () rfl trivial
theorem fldT_ok (c:Cq) (f:Nat) (hf:f<3):SpecV (fdT f) [cqa c] [] [] (RetV (.string (fldT f c))):=by
 have n1:=Xz c
 match f,hf with
 | 0,_=>
  refine Zy (f:=126) ?_
  refine ZR [_] func126 ntmps126 fun G w hp=>?_
  repeat' (first|refine ZF ?_|refine ZI ?_|refine ZG ?_|refine ZH ?_|refine ZL ?_|refine ZJ ?_|refine ZN ?_|refine ZK (fun b=>?_)|refine ZM (fun b=>?_)|refine ZC ?_|refine ZA ?_|refine ZO ?_|refine ZD (n1) (fun _ _=>?_)|refine l_call0 (n1) (fun _ _=>?_)|(refine ZB (fun hc=>?_) (fun hc=>?_)<;>(try simp at hc))|(refine ZE (fun hc=>?_) (fun hc=>?_)<;>(try simp at hc)))
  exact ZP () rfl trivial
 | 1,_=>
  refine Zy (f:=127) ?_
  refine ZR [_] func127 ntmps127 fun G w hp=>?_
  repeat' (first|refine ZF ?_|refine ZI ?_|refine ZG ?_|refine ZH ?_|refine ZL ?_|refine ZJ ?_|refine ZN ?_|refine ZK (fun b=>?_)|refine ZM (fun b=>?_)|refine ZC ?_|refine ZA ?_|refine ZO ?_|(refine ZB (fun hc=>?_) (fun hc=>?_)<;>(try simp at hc))|(refine ZE (fun hc=>?_) (fun hc=>?_)<;>(try simp at hc)))
  exact ZP () rfl trivial
 | 2,_=>
  refine Zy (f:=128) ?_
  refine ZR [_] func128 ntmps128 fun G w hp=>?_
  repeat' (first|refine ZF ?_|refine ZI ?_|refine ZG ?_|refine ZH ?_|refine ZL ?_|refine ZJ ?_|refine ZN ?_|refine ZK (fun b=>?_)|refine ZM (fun b=>?_)|refine ZC ?_|refine ZA ?_|refine ZO ?_|(refine ZB (fun hc=>?_) (fun hc=>?_)<;>(try simp at hc))|(refine ZE (fun hc=>?_) (fun hc=>?_)<;>(try simp at hc)))
  exact ZP () rfl trivial
theorem fldN_ok (c:Cq) (f:Nat) (hf:f<4):SpecV (fdN f) [cqa c] [] [] (RetV (.int .i64 (fldN f c))):=by
 have n1:=Xz c
 match f,hf with
 | 0,_=>
  refine Zy (f:=131) ?_
  refine ZR [_] func131 ntmps131 fun G w hp=>?_
  repeat' (first|refine ZF ?_|refine ZI ?_|refine ZG ?_|refine ZH ?_|refine ZL ?_|refine ZJ ?_|refine ZN ?_|refine ZK (fun b=>?_)|refine ZM (fun b=>?_)|refine ZC ?_|refine ZA ?_|refine ZO ?_|refine ZD (n1) (fun _ _=>?_)|refine l_call0 (n1) (fun _ _=>?_)|(refine ZB (fun hc=>?_) (fun hc=>?_)<;>(try simp at hc))|(refine ZE (fun hc=>?_) (fun hc=>?_)<;>(try simp at hc)))
  exact ZP () rfl trivial
 | 1,_=>
  refine Zy (f:=132) ?_
  refine ZR [_] func132 ntmps132 fun G w hp=>?_
  repeat' (first|refine ZF ?_|refine ZI ?_|refine ZG ?_|refine ZH ?_|refine ZL ?_|refine ZJ ?_|refine ZN ?_|refine ZK (fun b=>?_)|refine ZM (fun b=>?_)|refine ZC ?_|refine ZA ?_|refine ZO ?_|(refine ZB (fun hc=>?_) (fun hc=>?_)<;>(try simp at hc))|(refine ZE (fun hc=>?_) (fun hc=>?_)<;>(try simp at hc)))
  exact ZP () rfl trivial
 | 2,_=>
  refine Zy (f:=133) ?_
  refine ZR [_] func133 ntmps133 fun G w hp=>?_
  repeat' (first|refine ZF ?_|refine ZI ?_|refine ZG ?_|refine ZH ?_|refine ZL ?_|refine ZJ ?_|refine ZN ?_|refine ZK (fun b=>?_)|refine ZM (fun b=>?_)|refine ZC ?_|refine ZA ?_|refine ZO ?_|refine ZD (n1) (fun _ _=>?_)|refine l_call0 (n1) (fun _ _=>?_)|(refine ZB (fun hc=>?_) (fun hc=>?_)<;>(try simp at hc))|(refine ZE (fun hc=>?_) (fun hc=>?_)<;>(try simp at hc)))
  exact ZP () rfl trivial
 | 3,_=>
  refine Zy (f:=134) ?_
  refine ZR [_] func134 ntmps134 fun G w hp=>?_
  repeat' (first|refine ZF ?_|refine ZI ?_|refine ZG ?_|refine ZH ?_|refine ZL ?_|refine ZJ ?_|refine ZN ?_|refine ZK (fun b=>?_)|refine ZM (fun b=>?_)|refine ZC ?_|refine ZA ?_|refine ZO ?_|refine ZD (n1) (fun _ _=>?_)|refine l_call0 (n1) (fun _ _=>?_)|(refine ZB (fun hc=>?_) (fun hc=>?_)<;>(try simp at hc))|(refine ZE (fun hc=>?_) (fun hc=>?_)<;>(try simp at hc)))
  exact ZP () rfl trivial
theorem cmpT_ok (k:Nat) (hk:k<3) (s u:ByteArray) (hs:s.size≤1000000):SpecV (cmT k) [.string s,.string u] [MxL] [] (RetV (.bool (cmpB k s u))):=by
 match k,hk with
 | 0,_=>
  refine Zy (f:=129) ?_
  refine ZR [_,_] func129 ntmps129 fun G w hp=>?_
  repeat' (first|refine ZF ?_|refine ZI ?_|refine ZG ?_|refine ZH ?_|refine ZL ?_|refine ZJ ?_|refine ZN ?_|refine ZK (fun b=>?_)|refine ZM (fun b=>?_)|refine ZC ?_|refine ZA ?_|refine ZO ?_|(refine ZB (fun hc=>?_) (fun hc=>?_)<;>(try simp at hc))|(refine ZE (fun hc=>?_) (fun hc=>?_)<;>(try simp at hc)))
  exact ZP () rfl trivial
 | 1,_=>exact Zy (f:=53) (sContains_ok s u hs)
 | 2,_=>exact Zy (f:=55) ((sPrefix_ok s u).imp_right fun h G w hp hs=>h G w hp (hs.facts fun _ _ x hx=>by cases hx))
theorem cmpN_ok (k:Nat) (hk:k<3) (n m:Int):SpecV (cmN k) [.int .i64 n,.int .i64 m] [] [] (RetV (.bool (cmpZ k n m))):=by
 match k,hk with
 | 0,_=>
  refine Zy (f:=135) ?_
  refine ZR [_,_] func135 ntmps135 fun G w hp=>?_
  repeat' (first|refine ZF ?_|refine ZI ?_|refine ZG ?_|refine ZH ?_|refine ZL ?_|refine ZJ ?_|refine ZN ?_|refine ZK (fun b=>?_)|refine ZM (fun b=>?_)|refine ZC ?_|refine ZA ?_|refine ZO ?_|(refine ZB (fun hc=>?_) (fun hc=>?_)<;>(try simp at hc))|(refine ZE (fun hc=>?_) (fun hc=>?_)<;>(try simp at hc)))
  exact ZP () rfl trivial
 | 1,_=>
  refine Zy (f:=136) ?_
  refine ZR [_,_] func136 ntmps136 fun G w hp=>?_
  repeat' (first|refine ZF ?_|refine ZI ?_|refine ZG ?_|refine ZH ?_|refine ZL ?_|refine ZJ ?_|refine ZN ?_|refine ZK (fun b=>?_)|refine ZM (fun b=>?_)|refine ZC ?_|refine ZA ?_|refine ZO ?_|(refine ZB (fun hc=>?_) (fun hc=>?_)<;>(try simp at hc))|(refine ZE (fun hc=>?_) (fun hc=>?_)<;>(try simp at hc)))
  exact ZP () rfl trivial
 | 2,_=>
  refine Zy (f:=137) ?_
  refine ZR [_,_] func137 ntmps137 fun G w hp=>?_
  repeat' (first|refine ZF ?_|refine ZI ?_|refine ZG ?_|refine ZH ?_|refine ZL ?_|refine ZJ ?_|refine ZN ?_|refine ZK (fun b=>?_)|refine ZM (fun b=>?_)|refine ZC ?_|refine ZA ?_|refine ZO ?_|(refine ZB (fun hc=>?_) (fun hc=>?_)<;>(try simp at hc))|(refine ZE (fun hc=>?_) (fun hc=>?_)<;>(try simp at hc)))
  exact ZP () rfl trivial
theorem text5_ok (c:Cq) (hc:CqS c) (f k:Nat) (hf:f<3) (hk:k<3) (b1 b2 b3:Nat) (s:ByteArray):Enters 130∧Spec prog 130 #[cqa c,pv0 b1,pv0 b2,pv0 b3]
  [Blk b1 (.cells #[cmT k] 116),Blk b2 (.cells #[fdT f] 187),Blk b3 (.cells #[.string s] 9),MxL] [] (RetV (.bool (cmpB k (fldT f c) s))):=by
 have n1:=fldT_ok c f hf
 have n2:=cmpT_ok k hk (fldT f c) s (by have:=hc.fld f;omega)
 obtain ⟨v1,e1⟩:∃v,cmT k=v:=⟨_,rfl⟩
 obtain ⟨v2,e2⟩:∃v,fdT f=v:=⟨_,rfl⟩
 rw [e1] at n2 ⊢
 rw [e2] at n1 ⊢
 refine ZR [_,_,_,_] func130 ntmps130 fun G w hp=>?_
 repeat' (first|refine ZF ?_|refine ZI ?_|refine ZG ?_|refine ZH ?_|refine ZL ?_|refine ZJ ?_|refine ZN ?_|refine ZK (fun b=>?_)|refine ZM (fun b=>?_)|refine ZC ?_|refine ZA ?_|refine ZO ?_|refine Zb ?_|refine Zc ?_|refine Zq ?_|refine Zd ?_|refine r_ldN ?_|refine Zr (fun b=>?_)|refine Zo (fun b=>?_)|refine Zp ?_|refine Za ?_|refine r_callV n1 (fun _ _=>?_)|refine r_callV n2 (fun _ _=>?_)|(refine ZB (fun hc=>?_) (fun hc=>?_)<;>(try simp at hc))|(refine ZU (fun hc=>?_) (fun hc=>?_)<;>(try simp at hc))|refine ZT 1 [] [(0,0),(1,0),(2,0),(4,0),(3,4),(5,4),(6,0)] [] ?_|(refine ZE (fun hc=>?_) (fun hc=>?_)<;>(try simp at hc)))
 exact ZP () rfl trivial
theorem number8_ok (c:Cq) (f k:Nat) (hf:f<4) (hk:k<3) (b1 b2 b3:Nat) (m:Int):Enters 139∧Spec prog 139 #[cqa c,pv0 b1,pv0 b2,pv0 b3]
  [Blk b1 (.cells #[cmN k] 37),Blk b2 (.cells #[fdN f] 191),Blk b3 (.cells #[.int .i64 m] 3)] [] (RetV (.bool (cmpZ k (fldN f c) m))):=by
 have n1:=fldN_ok c f hf
 have n2:=cmpN_ok k hk (fldN f c) m
 obtain ⟨v1,e1⟩:∃v,cmN k=v:=⟨_,rfl⟩
 obtain ⟨v2,e2⟩:∃v,fdN f=v:=⟨_,rfl⟩
 rw [e1] at n2 ⊢
 rw [e2] at n1 ⊢
 refine ZR [_,_,_,_] func139 ntmps139 fun G w hp=>?_
 repeat' (first|refine ZF ?_|refine ZI ?_|refine ZG ?_|refine ZH ?_|refine ZL ?_|refine ZJ ?_|refine ZN ?_|refine ZK (fun b=>?_)|refine ZM (fun b=>?_)|refine ZC ?_|refine ZA ?_|refine ZO ?_|refine Zb ?_|refine Zc ?_|refine Zq ?_|refine Zd ?_|refine r_ldN ?_|refine Zr (fun b=>?_)|refine Zo (fun b=>?_)|refine Zp ?_|refine Za ?_|refine r_callV n1 (fun _ _=>?_)|refine r_callV n2 (fun _ _=>?_)|(refine ZB (fun hc=>?_) (fun hc=>?_)<;>(try simp at hc))|(refine ZU (fun hc=>?_) (fun hc=>?_)<;>(try simp at hc))|refine ZT 1 [] [(0,0),(1,0),(2,0),(4,0),(3,4),(5,4),(6,0)] [] ?_|(refine ZE (fun hc=>?_) (fun hc=>?_)<;>(try simp at hc)))
 exact ZP () rfl trivial
end
end Go.Proofs.YtodkipbnefngkaaGreatDoor
namespace Go.Proofs.YtodkipbnefngkaaGreatDoor
open Go.RowKit Go.Proofs.Tryz
theorem sat_fact {G:H} {w0 w:World} {hp0:H} {F:List Pf} {R:List HP} {X:Type} {f:Pf} {Fx:X→List Pf} {p:X→Prop} (hs:Sat G w0 hp0 (f::F) R w) (h:∀hp,f.p hp→∃x,p x∧∀g ∈ Fx x,g.p hp):∃x,p x∧Sat G w0 hp0 (Fx x++F) R w:=by
 obtain ⟨hp,hr,st⟩:=hs
 obtain ⟨x,hpx,hfx⟩:=h hp (st.f f (.head _))
 refine ⟨x,hpx,hp,hr,st.inp,st.inr,st.ing,st.d1,st.d2,st.d3,st.sub,fun g hg=>?_,st.r,st.same⟩
 rcases List.mem_append.1 hg with h|h
 ·exact hfx g h
 ·exact st.f g (.tail _ h)
theorem YA {v:Value} {name:String} {vs:List Value} {F:List Pf} {R:List HP} {post:Post} {X:Type} {f:Pf} {Fx:X→List Pf} {p:X→Prop} (h:∀hp,f.p hp→∃x,p x∧∀g ∈ Fx x,g.p hp)
  (s:∀x,p x→SpecI v name vs (Fx x++F) R post):SpecI v name vs (f::F) R post:=fun G w hp hs=>by
 obtain ⟨x,hx,hs⟩:=sat_fact hs h
 exact s x hx G w hp hs
theorem specMore {P:Program} {f:FuncId} {args:Array Value} {F F1:List Pf} {R:List HP} {post:Post} (s:Spec P f args F R post):Spec P f args (F++F1) R post:=fun G w hp hs=>s G w hp (hs.facts fun _ h x hx=>h x (List.mem_append_left _ hx))
theorem test_holds (wd:ByteArray) (fv:Value) (c:Cq) {F:List Pf} {x:Bool} (spec:SpecV fv [cqa c] F [] (RetV (.bool x))):Enters 199∧Spec prog 199 #[.agg #[.string wd,fv],cqa c] F [] (RetV (.bool x)):=by
 refine ZR [_,_] func199 ntmps199 fun G w hp=>?_
 repeat' (first|refine ZF ?_|refine ZI ?_|refine ZG ?_|refine ZH ?_|refine ZL ?_|refine ZJ ?_|refine ZN ?_|refine ZK (fun b=>?_)|refine ZM (fun b=>?_)|refine ZC ?_|refine ZA ?_|refine ZO ?_|refine XE spec (fun _ _=>?_) (hF:=entF_self _)|(refine ZB (fun hc=>?_) (fun hc=>?_)<;>(try simp at hc))|(refine ZE (fun hc=>?_) (fun hc=>?_)<;>(try simp at hc)))
 exact ZP () rfl trivial
abbrev HoI (c : Cq) (d : Cnd) : Prop := ∀ v, SpecI v "replevin/rule.holds" [cqa c] [CdF d v, MxL] [] (RetV (.bool (holF c d)))
theorem tst_ho {c : Cq} {wd : ByteArray} {f : FuncId} {cs : Array Value} {F : List Pf} {x : Bool} (spec : Enters f ∧ Spec prog f ([cqa c].toArray ++ cs) F [] (RetV (.bool x))) : SpecI (tsv wd f cs) "replevin/rule.holds" [cqa c] F [] (RetV (.bool x)) :=
 Y8 (f:=199) (by intro w;kernel_rfl) (test_holds wd _ c (Zy spec))
theorem not_holds (c:Cq) (d:Cnd) (u:Value) (ih:HoI c d):Enters 203∧Spec prog 203 #[.agg #[u],cqa c] [CdF d u,MxL] [] (RetV (.bool (!holF c d))):=by
 have n1:=ih u
 refine ZR [_,_] func203 ntmps203 fun G w hp=>?_
 repeat' (first|refine ZF ?_|refine ZI ?_|refine ZG ?_|refine ZH ?_|refine ZL ?_|refine ZJ ?_|refine ZN ?_|refine ZK (fun b=>?_)|refine ZM (fun b=>?_)|refine ZC ?_|refine ZA ?_|refine ZO ?_|refine Yy n1 (fun _ _=>?_)|(refine ZB (fun hc=>?_) (fun hc=>?_)<;>(try simp at hc))|(refine ZE (fun hc=>?_) (fun hc=>?_)<;>(try simp at hc)))
 exact ZP () rfl trivial
set_option maxHeartbeats 4000000 in
theorem any_holds (c:Cq) (l:List Cnd) (hbd:l.length≤1000000) (ih:∀d ∈ l,HoI c d) (o:Option Addr) (cap:Nat) (vs:List IV) (hl:vs.length=l.length):Enters 201∧Spec prog 201 #[.agg #[.slice o vs.length cap],cqa c] [Sl 100 ivl o cap vs,CdsF l (vs.map ivOf),MxL] [] (RetV (.bool (anyH c l))):=by
 obtain ⟨R,hR⟩:∃R,anyH c l=R:=⟨_,rfl⟩
 rw [hR]
 refine ZR [_,_] func201 ntmps201 fun G w hp=>?_
 repeat' (first|refine ZF ?_|refine ZI ?_|refine ZG ?_|refine ZH ?_|refine ZL ?_|refine ZJ ?_|refine ZN ?_|refine ZK (fun b=>?_)|refine ZM (fun b=>?_)|refine ZC ?_|refine ZA ?_|(refine ZB (fun hc=>?_) (fun hc=>?_)<;>(try simp at hc))|(refine ZE (fun hc=>?_) (fun hc=>?_)<;>(try simp at hc)))
 rename_i b2
 refine YK (X:={j:Nat // j≤vs.length∧anyH c (l.drop j)=R}) (fun j=>[(3,pv0 b),(8,.slice o vs.length cap),(9,.int .i64 (vs.length:Int)),(10,.int .i64 (j.1:Int))]) (fun _=>[Sl 100 ivl o cap vs,CdsF l (vs.map ivOf),MxL]) (fun _=>[Pt b (.cells (cqf c).toArray 26)]) (fun j=>vs.length - j.1) ⟨0,Nat.zero_le _,hR⟩ ⟨rfl,rfl,rfl,rfl,trivial⟩ ?_
 rintro ⟨j,hj,hRj⟩
 dsimp only at hj hRj ⊢
 by_cases hlt:j<vs.length
 ·have hxj:=List.getElem?_eq_getElem hlt
  have hltc:j<l.length:=by omega
  have hcj:=List.getElem?_eq_getElem hltc
  rw [List.drop_eq_getElem_cons hltc] at hRj
  have ihd:=ih _ (List.getElem_mem hltc)
  generalize vs[j]=x at *
  generalize l[j]=d at *
  rw [anyH] at hRj
  obtain ⟨T,u⟩:=x
  have n1:=ihd (ivOf (T,u))
  refine Zn (F1:=[CdsF l (vs.map ivOf)]) (f:=CdF d (ivOf (T,u))) (fun hp hF=>XT (hF _ (.head _)) hcj (by rw [List.getElem?_map,hxj];rfl)) ?_
  have w1:=wrapi (z:=(j:Int)+1) (by omega) (by omega)
  cases hh:holF c d with
  | true=>
   rw [hh] at n1 hRj
   obtain rfl:R=true:=hRj.symm
   repeat' (first|refine ZF ?_|refine ZI ?_|refine ZG ?_|refine ZH ?_|refine ZL ?_|refine ZJ ?_|refine ZN ?_|refine ZK (fun b=>?_)|refine ZM (fun b=>?_)|refine ZC ?_|refine ZA ?_|refine ZW (es:=vs) (f:=ivl) j _ hxj (fun b off=>?_)|refine ZX ?_|refine Yy n1 (fun _ _=>?_)|rw [w1]|(refine ZB (fun hc=>?_) (fun hc=>?_)<;>(try simp at hc)<;>(try omega))|(refine ZE (fun hc=>?_) (fun hc=>?_)<;>(try simp at hc)<;>(try omega)))
   exact Zv (Zu (Zi () rfl trivial))
  | false=>
   rw [hh] at n1 hRj
   repeat' (first|refine ZF ?_|refine ZI ?_|refine ZG ?_|refine ZH ?_|refine ZL ?_|refine ZJ ?_|refine ZN ?_|refine ZK (fun b=>?_)|refine ZM (fun b=>?_)|refine ZC ?_|refine ZA ?_|refine ZW (es:=vs) (f:=ivl) j _ hxj (fun b off=>?_)|refine ZX ?_|refine Yy n1 (fun _ _=>?_)|rw [w1]|(refine ZB (fun hc=>?_) (fun hc=>?_)<;>(try simp at hc)<;>(try omega))|(refine ZE (fun hc=>?_) (fun hc=>?_)<;>(try simp at hc)<;>(try omega)))
   exact ZV ⟨j+1,by show j+1≤vs.length;omega,hRj⟩ (by show vs.length - (j+1)<vs.length - j;omega) ⟨rfl,rfl,rfl,rfl,trivial⟩
 ·rw [List.drop_eq_nil_of_le (by omega)] at hRj
  obtain rfl:R=false:=hRj.symm
  repeat' (first|refine ZF ?_|refine ZI ?_|refine ZG ?_|refine ZH ?_|refine ZL ?_|refine ZJ ?_|refine ZN ?_|refine ZK (fun b=>?_)|refine ZM (fun b=>?_)|refine ZC ?_|refine ZA ?_|refine ZO ?_|(refine ZB (fun hc=>?_) (fun hc=>?_)<;>(try simp at hc)<;>(try omega))|(refine ZE (fun hc=>?_) (fun hc=>?_)<;>(try simp at hc)<;>(try omega)))
  exact ZP () rfl trivial
set_option maxHeartbeats 4000000 in
theorem all_holds (c:Cq) (l:List Cnd) (hbd:l.length≤1000000) (ih:∀d ∈ l,HoI c d) (o:Option Addr) (cap:Nat) (vs:List IV) (hl:vs.length=l.length):Enters 206∧Spec prog 206 #[.agg #[.slice o vs.length cap],cqa c] [Sl 100 ivl o cap vs,CdsF l (vs.map ivOf),MxL] [] (RetV (.bool (allH c l))):=by
 obtain ⟨R,hR⟩:∃R,allH c l=R:=⟨_,rfl⟩
 rw [hR]
 refine ZR [_,_] func206 ntmps206 fun G w hp=>?_
 repeat' (first|refine ZF ?_|refine ZI ?_|refine ZG ?_|refine ZH ?_|refine ZL ?_|refine ZJ ?_|refine ZN ?_|refine ZK (fun b=>?_)|refine ZM (fun b=>?_)|refine ZC ?_|refine ZA ?_|(refine ZB (fun hc=>?_) (fun hc=>?_)<;>(try simp at hc))|(refine ZE (fun hc=>?_) (fun hc=>?_)<;>(try simp at hc)))
 rename_i b2
 refine YK (X:={j:Nat // j≤vs.length∧allH c (l.drop j)=R}) (fun j=>[(3,pv0 b),(8,.slice o vs.length cap),(9,.int .i64 (vs.length:Int)),(10,.int .i64 (j.1:Int))]) (fun _=>[Sl 100 ivl o cap vs,CdsF l (vs.map ivOf),MxL]) (fun _=>[Pt b (.cells (cqf c).toArray 26)]) (fun j=>vs.length - j.1) ⟨0,Nat.zero_le _,hR⟩ ⟨rfl,rfl,rfl,rfl,trivial⟩ ?_
 rintro ⟨j,hj,hRj⟩
 dsimp only at hj hRj ⊢
 by_cases hlt:j<vs.length
 ·have hxj:=List.getElem?_eq_getElem hlt
  have hltc:j<l.length:=by omega
  have hcj:=List.getElem?_eq_getElem hltc
  rw [List.drop_eq_getElem_cons hltc] at hRj
  have ihd:=ih _ (List.getElem_mem hltc)
  generalize vs[j]=x at *
  generalize l[j]=d at *
  rw [allH] at hRj
  obtain ⟨T,u⟩:=x
  have n1:=ihd (ivOf (T,u))
  refine Zn (F1:=[CdsF l (vs.map ivOf)]) (f:=CdF d (ivOf (T,u))) (fun hp hF=>XT (hF _ (.head _)) hcj (by rw [List.getElem?_map,hxj];rfl)) ?_
  have w1:=wrapi (z:=(j:Int)+1) (by omega) (by omega)
  cases hh:holF c d with
  | false=>
   rw [hh] at n1 hRj
   obtain rfl:R=false:=hRj.symm
   repeat' (first|refine ZF ?_|refine ZI ?_|refine ZG ?_|refine ZH ?_|refine ZL ?_|refine ZJ ?_|refine ZN ?_|refine ZK (fun b=>?_)|refine ZM (fun b=>?_)|refine ZC ?_|refine ZA ?_|refine ZW (es:=vs) (f:=ivl) j _ hxj (fun b off=>?_)|refine ZX ?_|refine Yy n1 (fun _ _=>?_)|rw [w1]|(refine ZB (fun hc=>?_) (fun hc=>?_)<;>(try simp at hc)<;>(try omega))|(refine ZE (fun hc=>?_) (fun hc=>?_)<;>(try simp at hc)<;>(try omega)))
   exact Zv (Zu (Zi () rfl trivial))
  | true=>
   rw [hh] at n1 hRj
   repeat' (first|refine ZF ?_|refine ZI ?_|refine ZG ?_|refine ZH ?_|refine ZL ?_|refine ZJ ?_|refine ZN ?_|refine ZK (fun b=>?_)|refine ZM (fun b=>?_)|refine ZC ?_|refine ZA ?_|refine ZW (es:=vs) (f:=ivl) j _ hxj (fun b off=>?_)|refine ZX ?_|refine Yy n1 (fun _ _=>?_)|rw [w1]|(refine ZB (fun hc=>?_) (fun hc=>?_)<;>(try simp at hc)<;>(try omega))|(refine ZE (fun hc=>?_) (fun hc=>?_)<;>(try simp at hc)<;>(try omega)))
   exact ZV ⟨j+1,by show j+1≤vs.length;omega,hRj⟩ (by show vs.length - (j+1)<vs.length - j;omega) ⟨rfl,rfl,rfl,rfl,trivial⟩
 ·rw [List.drop_eq_nil_of_le (by omega)] at hRj
  obtain rfl:R=true:=hRj.symm
  repeat' (first|refine ZF ?_|refine ZI ?_|refine ZG ?_|refine ZH ?_|refine ZL ?_|refine ZJ ?_|refine ZN ?_|refine ZK (fun b=>?_)|refine ZM (fun b=>?_)|refine ZC ?_|refine ZA ?_|refine ZO ?_|(refine ZB (fun hc=>?_) (fun hc=>?_)<;>(try simp at hc)<;>(try omega))|(refine ZE (fun hc=>?_) (fun hc=>?_)<;>(try simp at hc)<;>(try omega)))
  exact ZP () rfl trivial
mutual
theorem Vu (c:Cq) (hc:CqS c) {M:Nat} (hM:M≤100000):∀d:Cnd,WfC d→SzC M d→lv d≤1000000→HoI c d
 | .any l,hw,hz,hv,v=>by
  rw [WfC] at hw;rw [SzC] at hz;rw [lv] at hv
  have hll:=XD l
  refine YA (X:=Option Addr×Nat×List IV) (Fx:=fun q=>[Sl 100 ivl q.1 q.2.1 q.2.2,CdsF l (q.2.2.map ivOf)]) (p:=fun q=>v = .iface 211 (.agg #[.slice q.1 q.2.2.length q.2.1])∧q.2.2.length=l.length) (fun h hh=>?_) (fun q hq=>?_)
  ·have hh:CdP h (.any l) v:=hh
   rw [CdP] at hh
   obtain ⟨o,cap,vs,h1,h2,h3⟩:=hh
   exact ⟨(o,cap,vs),⟨h1,by have:=XZ h3;simpa using this⟩,fun g hg=>by
    simp only [List.mem_cons,List.not_mem_nil,or_false] at hg
    rcases hg with rfl|rfl
    ·exact h2
    ·exact h3⟩
  ·obtain ⟨rfl,hl⟩:=hq
   rw [holF]
   exact Y8 (f:=201) (by intro w;kernel_rfl) (any_holds c l (by omega) (W4 c hc hM l hw hz (by omega)) _ _ _ hl)
 | .all l,hw,hz,hv,v=>by
  rw [WfC] at hw;rw [SzC] at hz;rw [lv] at hv
  have hll:=XD l
  refine YA (X:=Option Addr×Nat×List IV) (Fx:=fun q=>[Sl 100 ivl q.1 q.2.1 q.2.2,CdsF l (q.2.2.map ivOf)]) (p:=fun q=>v = .iface 225 (.agg #[.slice q.1 q.2.2.length q.2.1])∧q.2.2.length=l.length) (fun h hh=>?_) (fun q hq=>?_)
  ·have hh:CdP h (.all l) v:=hh
   rw [CdP] at hh
   obtain ⟨o,cap,vs,h1,h2,h3⟩:=hh
   exact ⟨(o,cap,vs),⟨h1,by have:=XZ h3;simpa using this⟩,fun g hg=>by
    simp only [List.mem_cons,List.not_mem_nil,or_false] at hg
    rcases hg with rfl|rfl
    ·exact h2
    ·exact h3⟩
  ·obtain ⟨rfl,hl⟩:=hq
   rw [holF]
   exact Y8 (f:=206) (by intro w;kernel_rfl) (all_holds c l (by omega) (W4 c hc hM l hw hz (by omega)) _ _ _ hl)
 | .nt d,hw,hz,hv,v=>by
  rw [WfC] at hw;rw [SzC] at hz;rw [lv] at hv
  refine YA (X:=Value) (Fx:=fun u=>[CdF d u]) (p:=fun u=>v = .iface 223 (.agg #[u])) (fun h hh=>?_) (fun u hq=>?_)
  ·have hh:CdP h (.nt d) v:=hh
   rw [CdP] at hh
   obtain ⟨u,h1,h2⟩:=hh
   exact ⟨u,h1,fun g hg=>by rcases List.mem_singleton.1 hg with rfl;exact h2⟩
  ·subst hq
   rw [holF]
   exact Y8 (f:=203) (by intro w;kernel_rfl) (not_holds c d u (Vu c hc hM d hw hz (by omega)))
 | .nul,hw,_,_,_=>by rw [WfC] at hw;exact absurd hw id
 | .kd wd k,_,_,_,v=>by
  refine YA (X:=Nat) (Fx:=fun b=>[Blk b (.cells #[.int .i64 k] 3)]) (p:=fun b=>v=tsv wd 123 #[pv0 b]) (fun h hh=>?_) (fun b hq=>?_)
  ·have hh:CdP h (.kd wd k) v:=hh
   rw [CdP] at hh
   obtain ⟨b,h1,h2⟩:=hh
   exact ⟨b,h1,fun g hg=>by rcases List.mem_singleton.1 hg with rfl;exact h2⟩
  ·subst hq
   rw [holF]
   exact tst_ho ((kind1_ok c b k).imp_right fun h=>specMore h)
 | .ch wd k,_,_,_,v=>by
  refine YA (X:=Nat) (Fx:=fun b=>[Blk b (.cells #[.int .i64 k] 3)]) (p:=fun b=>v=tsv wd 125 #[pv0 b]) (fun h hh=>?_) (fun b hq=>?_)
  ·have hh:CdP h (.ch wd k) v:=hh
   rw [CdP] at hh
   obtain ⟨b,h1,h2⟩:=hh
   exact ⟨b,h1,fun g hg=>by rcases List.mem_singleton.1 hg with rfl;exact h2⟩
  ·subst hq
   rw [holF]
   exact tst_ho ((channel1_ok c b k).imp_right fun h=>specMore h)
 | .tx wd f k s,hw,hz,_,v=>by
  rw [WfC] at hw;rw [SzC] at hz
  refine YA (X:=Nat×Nat×Nat) (Fx:=fun q=>[Blk q.1 (.cells #[cmT k] 116),Blk q.2.1 (.cells #[fdT f] 187),Blk q.2.2 (.cells #[.string s] 9)]) (p:=fun q=>v=tsv wd 130 #[pv0 q.1,pv0 q.2.1,pv0 q.2.2]) (fun h hh=>?_) (fun q hq=>?_)
  ·have hh:CdP h (.tx wd f k s) v:=hh
   rw [CdP] at hh
   obtain ⟨b1,b2,b3,h1,h2,h3,h4⟩:=hh
   exact ⟨(b1,b2,b3),h1,fun g hg=>by
    simp only [List.mem_cons,List.not_mem_nil,or_false] at hg
    rcases hg with rfl|rfl|rfl
    ·exact h2
    ·exact h3
    ·exact h4⟩
  ·subst hq
   rw [holF]
   exact tst_ho (text5_ok c hc f k hw.1 hw.2 _ _ _ s)
 | .nm wd f k n,hw,_,_,v=>by
  rw [WfC] at hw
  refine YA (X:=Nat×Nat×Nat) (Fx:=fun q=>[Blk q.1 (.cells #[cmN k] 37),Blk q.2.1 (.cells #[fdN f] 191),Blk q.2.2 (.cells #[.int .i64 n] 3)]) (p:=fun q=>v=tsv wd 139 #[pv0 q.1,pv0 q.2.1,pv0 q.2.2]) (fun h hh=>?_) (fun q hq=>?_)
  ·have hh:CdP h (.nm wd f k n) v:=hh
   rw [CdP] at hh
   obtain ⟨b1,b2,b3,h1,h2,h3,h4⟩:=hh
   exact ⟨(b1,b2,b3),h1,fun g hg=>by
    simp only [List.mem_cons,List.not_mem_nil,or_false] at hg
    rcases hg with rfl|rfl|rfl
    ·exact h2
    ·exact h3
    ·exact h4⟩
  ·subst hq
   rw [holF]
   exact tst_ho ((number8_ok c f k hw.1 hw.2 _ _ _ n).imp_right fun h=>specMore h)
 | .by_ wd s,_,hz,_,v=>by
  rw [SzC] at hz
  refine YA (X:=Nat) (Fx:=fun b=>[Blk b (.cells #[.string s] 22)]) (p:=fun b=>v=tsv wd 140 #[pv0 b]) (fun h hh=>?_) (fun b hq=>?_)
  ·have hh:CdP h (.by_ wd s) v:=hh
   rw [CdP] at hh
   obtain ⟨b,h1,h2⟩:=hh
   exact ⟨b,h1,fun g hg=>by rcases List.mem_singleton.1 hg with rfl;exact h2⟩
  ·subst hq
   rw [holF]
   exact tst_ho ((by1_ok c hc b s (by omega)).imp_right fun h=>specMore h)
theorem W4 (c:Cq) (hc:CqS c) {M:Nat} (hM:M≤100000):∀l:List Cnd,WfCs l→SzCs M l→lvs l≤1000000→∀d ∈ l,HoI c d
 | [],_,_,_=>fun d hd=>by cases hd
 | x::l,hw,hz,hv=>fun d hd=>by
  rw [WfCs] at hw;rw [SzCs] at hz;rw [lvs] at hv
  rcases List.mem_cons.1 hd with hd|hd
  ·exact hd ▸ Vu c hc hM x hw.1 hz.1 (by omega)
  ·exact W4 c hc hM l hw.2 hz.2 (by omega) d hd
end
section
variable {n:Nat} {C:Cx} {Q:Exit→Act→World→Prop} {E E':List (Nat×Value)} {F F' F1 Fs F0:List Pf} {R R' R0 Rs N N' A:List HP} {k k':List Fr} {ops l:List Oper} {L L':List (Nat×Nat)} {Tl:List Nat} {i d:Nat} {t ty0:TypeId} {x y z:Operand} {pos:String} {aft:Array Edge} {gd:Option (Nat×Bool)} {α β:Type} [DecidableEq α] {K:α→Value} {V:β→Value}
end
def clmp (a:Int):Int:=if a < -1099511627776 then -1099511627776 else a
def shO (o:Ou):Ou:=⟨clmp o.ch,cutS o.tg 80,cutS o.tx 3000,clmp o.us⟩
def shF (c:Cq):Cq:=⟨c.kind,cutS c.who 80,clmp c.nu,c.place,shO c.old,clmp c.oldAt,shO c.new,clmp c.newAt⟩
structure CqW (c:Cq):Prop where
 nu:c.nu≤9223372036854775807
 ou:c.old.us≤9223372036854775807
 oa:c.oldAt≤9223372036854775807
 eu:c.new.us≤9223372036854775807
 ea:c.newAt≤9223372036854775807
structure CqJ (c:Cq):Prop where
 i:CqI c
 n0 : -1099511627776≤c.nu
 u0 : -1099511627776≤(subO c).us
 t0 : -1099511627776≤subT c
def shP (j:Nat) (c:Cq):Cq:=match j with
 | 0=>c
 | 1=>{c with old:=shO c.old}
 | _=>{c with old:=shO c.old,new:=shO c.new}
def upd1 (D:Nat→Bool) (i:Nat):Nat→Bool:=fun j=>if j=i then true else D j
def Qx (T:Act→World→Prop) (Q:Exit→Act→World→Prop):Exit→Act→World→Prop
 | .normal,a,w=>T a w
 | e,a,w=>Q e a w
def depB (o:Oper) (i:Nat):Bool:=o.after.any fun e=>Region.binds .any e && e.on == i
def ClD (l:List Oper) (D:Nat→Bool):Prop:=∀j o,nth l j=some o→D j=true→∀i,depB o i=true→D i=true
def chkJ (l:List Oper) (sk:List (Nat×Nat)) (last:Nat):Bool:=
 ((List.range l.length).all fun i=>match nth l i with
  | none=>true
  | some o=>(match o.dst with
   | none=>true
   | some d=>sk.any fun x=>x.1 == i && x.2 == d) && o.after.all fun e=>!Region.binds .any e || decide (e.on<i)) &&
 (sk.all fun x=>sk.all fun y=>!(x.2 == y.2) || x.1 == y.1) && (sk.all fun x=>match nth l x.1 with
  | some o=>o.dst == some x.2
  | none=>false) && ((List.range l.length).all fun i=>i == last || (match nth l last with
  | some o=>depB o i
  | none=>false)) && decide (last<l.length)
variable {n:Nat} {C:Cx} {Q:Exit→Act→World→Prop} {E E':List (Nat×Value)} {F F' F1 Fs F0:List Pf} {R R' R0 Rs N N' A:List HP} {k k':List Fr} {ops l:List Oper}
section
def TJ {γ:Type} (n:Nat) (C:Cx) (F:List Pf) (sk:List (Nat×Nat)) (val:γ→Nat→Value) (RJ:(Nat→Bool)→γ→List HP) (pj:(Nat→Bool)→γ→Prop) (Rr:List HP) (D:Nat→Bool) (i:Nat) (g:γ):Act→World→Prop:=fun a w=>
 ∃g',pj (upd1 D i) g'∧(∀j,D j=true→val g' j=val g j)∧(∀x ∈ sk,x.1=i→a.tmps[x.2]? = some (val g' i))∧a.tmps.size=n∧a.defers=C.ds∧Sat C.G C.w0 C.hp0 F (RJ (upd1 D i) g'++Rr) w
end
section
variable {n:Nat} {C:Cx} {Q:Exit→Act→World→Prop} {E E':List (Nat×Value)} {F F' F1 Fs F0:List Pf} {R R' R0 Rs N N' A:List HP} {k k':List Fr} {ops l:List Oper} {i d:Nat} {t ty0:TypeId} {x y z:Operand} {pos:String} {aft:Array Edge} {gd:Option (Nat×Bool)} {α β:Type} [DecidableEq α] {K:α→Value} {V:β→Value}
end
abbrev mapJ (b:Bool) (g:Nat×List (ByteArray×ByteArray)):HP:=cond b (Mp skv skv g.1 g.2) (fun _=>True)
def kvX (c:Cq):List (Nat×ByteArray×ByteArray):=[(4,(⟨#[116,97,114,103,101,116]⟩:ByteArray),(subO c).tg),(8,(⟨#[117,115,101,114]⟩:ByteArray),(ofL (Lib.itoa (subO c).us))),(11,(⟨#[116,105,99,107]⟩:ByteArray),(ofL (Lib.itoa (subT c)))),(14,(⟨#[98,121]⟩:ByteArray),c.who),(18,(⟨#[110,117,109,98,101,114]⟩:ByteArray),(ofL (Lib.itoa c.nu))),(22,(⟨#[111,108,100]⟩:ByteArray),c.old.tx),(26,(⟨#[110,101,119]⟩:ByteArray),c.new.tx)]
def pjX (c:Cq) (D:Nat→Bool) (g:Nat×List (ByteArray×ByteArray)):Prop:=∀x ∈ kvX c,D x.1=true→mget x.2.1 g.2=some x.2.2
def skX:List (Nat×Nat):=[(0,63),(1,64),(2,65),(3,66),(5,67),(6,68),(7,69),(9,70),(10,71),(12,72),(13,73),(15,74),(16,75),(17,76),(19,77),(20,78),(21,79),(23,80),(24,81),(25,82),(27,83),(28,84),(29,85),(30,86),(31,87),(32,88),(33,89),(34,90),(35,7)]
def vlX (c:Cq) (s:ByteArray) (b3 b5:Nat) (acc wd vv:ByteArray) (i m:Nat) (g:Nat×List (ByteArray×ByteArray)):List Value:=[Value.string acc,Value.map (some g.1),Value.pointer (some ⟨b5,1,none⟩),Value.string (subO c).tg,undef,Value.pointer (some ⟨b5,3,none⟩),Value.int .i64 (subO c).us,Value.string (ofL (Lib.itoa (subO c).us)),undef,Value.int .i64 (subT c),Value.string (ofL (Lib.itoa (subT c))),undef,Value.pointer (some ⟨b3,1,none⟩),Value.string c.who,undef,Value.pointer (some ⟨b3,2,none⟩),Value.int .i64 c.nu,Value.string (ofL (Lib.itoa c.nu)),undef,Value.pointer (some ⟨b3,4,none⟩),Value.pointer (some ⟨b3,6,none⟩),Value.string c.old.tx,undef,Value.pointer (some ⟨b3,9,none⟩),Value.pointer (some ⟨b3,11,none⟩),Value.string c.new.tx,undef,Value.map (some g.1),Value.string s,Value.int .i64 (i:Int),Value.int .i64 ((i:Int)+1),Value.int .i64 ((i+1+m:Nat):Int),Value.string wd,Value.string vv,Value.string (acc++vv),Value.string (acc++vv)]
def kvK:List (Nat×ByteArray):=[(4,(⟨#[116,97,114,103,101,116]⟩:ByteArray)),(8,(⟨#[117,115,101,114]⟩:ByteArray)),(11,(⟨#[116,105,99,107]⟩:ByteArray)),(14,(⟨#[98,121]⟩:ByteArray)),(18,(⟨#[110,117,109,98,101,114]⟩:ByteArray)),(22,(⟨#[111,108,100]⟩:ByteArray)),(26,(⟨#[110,101,119]⟩:ByteArray))]
mutual
def SzT:Tr5→Prop
 | .mk _ args _ tx _=>tx.size≤200000∧args.length≤200000∧SzTs args
def SzTs:List Tr5→Prop
 | []=>True
 | t::l=>SzT t∧SzTs l
end
theorem szTs_app:∀l m:List Tr5,SzTs (l++m)↔SzTs l∧SzTs m
 | [],m=>by simp [SzTs]
 | t::l,m=>by rw [List.cons_append,SzTs,SzTs,szTs_app l m,and_assoc]
def SfM (m m':Mq):Prop:=m'.tk <:+ m.tk
namespace SfM
theorem rfl' (m:Mq):SfM m m:=List.suffix_refl _
theorem trans {a b c:Mq} (h:SfM a b) (k:SfM b c):SfM a c:=List.IsSuffix.trans k h
theorem fail (m:Mq) (e:Int):SfM m (m.fail e):=by
 unfold Mq.fail
 split<;>exact List.suffix_refl _
theorem pass (m:Mq):SfM m m.pass:=List.tail_suffix _
theorem take (m:Mq) (q:Tk→Bool):SfM m (m.take q).2:=by
 unfold Mq.take
 split
 ·exact fail m 30
 ·exact pass m
theorem num (m:Mq):SfM m (numM m).2:=by
 unfold numM
 split
 ·exact fail m 30
 ·split
  ·exact fail m 3
  ·split
   ·exact fail m 2
   ·exact pass m
theorem tst (w:ByteArray) (m:Mq):SfM m (tstM w m).2:=by
 unfold tstM
 split
 ·exact rfl' m
 ·split
  ·split
   ·exact pass m
   ·exact fail m 30
  ·split
   ·split
    ·exact (pass m).trans (take _ _)
    ·exact fail m 30
   ·split
    ·split
     ·exact (pass m).trans (num _)
     ·exact fail m 30
    ·refine trans ?_ (take _ _)
     split
     ·exact fail m 12
     ·exact rfl' m
end SfM
def OkQ (m:Mq):Prop:=(∀t ∈ m.tk,t.tx.size≤100000)∧m.tk.length≤100000
theorem OkQ.sf {a b:Mq} (h:OkQ a) (s:SfM a b):OkQ b:=⟨fun t ht=>h.1 t (List.IsSuffix.subset s ht),Nat.le_trans s.length_le h.2⟩
theorem hd_sz {m:Mq} (h:OkQ m):m.hd.size≤100000:=by
 obtain ⟨tk,en,op,e,cl⟩:=m
 cases tk with
 | nil=>exact Nat.zero_le _
 | cons t ts=>exact h.1 t (.head _)
theorem take_tx {m:Mq} (h:OkQ m) (q:Tk→Bool):(m.take q).1.size≤200000:=by
 unfold Mq.take
 split
 ·exact Nat.zero_le _
 ·exact Nat.le_trans (hd_sz h) (by decide)
theorem Y5 (w rel tx:ByteArray) (n:Int) (h:tx.size≤200000):SzT (.mk w [] rel tx n):=by
 rw [SzT];exact ⟨h,Nat.zero_le _,trivial⟩
theorem tst_sz (w:ByteArray) {m:Mq} (h:OkQ m):SzT (tstM w m).1:=by
 have z:eB.size≤200000:=by decide
 unfold tstM
 split
 ·exact Y5 _ _ _ _ z
 ·split
  ·split
   ·exact Y5 _ _ _ _ z
   ·exact Y5 _ _ _ _ z
  ·split
   ·split
    ·exact Y5 _ _ _ _ (take_tx (h.sf (.pass m)) _)
    ·exact Y5 _ _ _ _ z
   ·split
    ·split
     ·exact Y5 _ _ _ _ z
     ·exact Y5 _ _ _ _ z
    ·refine Y5 _ _ _ _ (take_tx (OkQ.sf h ?_) _)
     split
     ·exact .fail m 12
     ·exact .rfl' m
theorem node_sz (w rel:ByteArray) (n:Int) {l:List Tr5} (h:SzTs l) (h2:l.length≤200000):SzT (.mk w l rel eB n):=by
 rw [SzT];exact ⟨by decide,h2,h⟩
theorem szM_all:∀n:Nat,(∀m,SfM m (factorM n m).2∧(OkQ m→SzT (factorM n m).1))∧(∀m,SfM m (termM n m).2∧(OkQ m→SzT (termM n m).1))∧
  (∀l m,SfM m (termN n l m).2∧(OkQ m→SzTs l→SzTs (termN n l m).1)∧(termN n l m).1.length≤l.length+m.tk.length)∧
  (∀m,SfM m (condM n m).2∧(OkQ m→SzT (condM n m).1))∧(∀l m,SfM m (condN n l m).2∧(OkQ m→SzTs l→SzTs (condN n l m).1)∧(condN n l m).1.length≤l.length+m.tk.length)
 | 0=>by
  have z:SzT t0:=Y5 _ _ _ _ (by decide)
  refine ⟨fun m=>?_,fun m=>?_,fun l m=>?_,fun m=>?_,fun l m=>?_⟩
  ·rw [factorM];exact ⟨.fail m 99,fun _=>z⟩
  ·rw [termM];exact ⟨.fail m 99,fun _=>z⟩
  ·rw [termN];exact ⟨.fail m 99,fun _ h=>h,Nat.le_add_right _ _⟩
  ·rw [condM];exact ⟨.fail m 99,fun _=>z⟩
  ·rw [condN];exact ⟨.fail m 99,fun _ h=>h,Nat.le_add_right _ _⟩
 | n+1=>by
  obtain ⟨h1,h2,h3,h4,h5⟩:=szM_all n
  have z:SzT t0:=Y5 _ _ _ _ (by decide)
  refine ⟨fun m=>?_,fun m=>?_,fun l m=>?_,fun m=>?_,fun l m=>?_⟩
  ·rw [factorM]
   split
   ·exact ⟨(SfM.pass m).trans (h1 _).1,fun h=>node_sz _ _ _ (by rw [SzTs];exact ⟨(h1 m.pass).2 (h.sf (.pass m)),trivial⟩) (by simp)⟩
   ·split
    ·split
     ·exact ⟨.fail m 9,fun _=>z⟩
     ·refine ⟨?_,fun h=>?_⟩
      ·have a1:=(h4 {m.pass with op:=m.op+1}).1
       have a2:=SfM.take (condM n {m.pass with op:=m.op+1}).2 (Mq.isS yCls)
       have a3:=a1.trans a2
       exact (SfM.pass m).trans a3
      ·exact (h4 {m.pass with op:=m.op+1}).2 (show OkQ m.pass from h.sf (.pass m))
    ·split
     ·exact ⟨(SfM.pass m).trans (.tst _ _),fun h=>tst_sz _ (h.sf (.pass m))⟩
     ·exact ⟨.fail m 30,fun _=>z⟩
  ·rw [termM]
   have a:=h3 [(factorM n m).1] (factorM n m).2
   refine ⟨(h1 m).1.trans a.1,fun h=>node_sz _ _ _ (a.2.1 (h.sf (h1 m).1) (by rw [SzTs];exact ⟨(h1 m).2 h,trivial⟩)) ?_⟩
   have b:=(h.sf (h1 m).1).2
   have c:=a.2.2
   simp only [List.length_cons,List.length_nil] at c
   omega
  ·rw [termN]
   split
   ·rename_i hw
    have a:=h3 (l++[(factorM n m.pass).1]) (factorM n m.pass).2
    have b:=h1 m.pass
    refine ⟨(SfM.pass m).trans (b.1.trans a.1),fun h hl=>a.2.1 ((h.sf (.pass m)).sf b.1) ((szTs_app _ _).2 ⟨hl,by rw [SzTs];exact ⟨b.2 (h.sf (.pass m)),trivial⟩⟩),?_⟩
    have c:=a.2.2
    have d:=b.1.length_le
    have e:=Xk hw
    simp only [List.length_append,List.length_cons,List.length_nil] at c
    dsimp only
    omega
   ·exact ⟨.rfl' m,fun _ h=>h,Nat.le_add_right _ _⟩
  ·rw [condM]
   have a:=h5 [(termM n m).1] (termM n m).2
   refine ⟨(h2 m).1.trans a.1,fun h=>node_sz _ _ _ (a.2.1 (h.sf (h2 m).1) (by rw [SzTs];exact ⟨(h2 m).2 h,trivial⟩)) ?_⟩
   have b:=(h.sf (h2 m).1).2
   have c:=a.2.2
   simp only [List.length_cons,List.length_nil] at c
   omega
  ·rw [condN]
   split
   ·rename_i hw
    have a:=h5 (l++[(termM n m.pass).1]) (termM n m.pass).2
    have b:=h2 m.pass
    refine ⟨(SfM.pass m).trans (b.1.trans a.1),fun h hl=>a.2.1 ((h.sf (.pass m)).sf b.1) ((szTs_app _ _).2 ⟨hl,by rw [SzTs];exact ⟨b.2 (h.sf (.pass m)),trivial⟩⟩),?_⟩
    have c:=a.2.2
    have d:=b.1.length_le
    have e:=Xk hw
    simp only [List.length_append,List.length_cons,List.length_nil] at c
    dsimp only
    omega
   ·exact ⟨.rfl' m,fun _ h=>h,Nat.le_add_right _ _⟩
theorem specF_fact {f:FuncId} {args:Array Value} {F:List Pf} {R:List HP} {post:Post} {X:Type} {g:Pf} {Fx:X→List Pf} {p:X→Prop} (en:Enters f) (h:∀hp,g.p hp→∃x,p x∧∀k ∈ Fx x,k.p hp)
  (s:∀x,p x→Spec prog f args (Fx x++F) R post):Enters f∧Spec prog f args (g::F) R post:=⟨en,fun G w hp hs=>by
 obtain ⟨x,hx,hs⟩:=sat_fact hs h
 exact s x hx G w hp hs⟩
abbrev HoT (c:Cq) (t:Tr5):Prop:=∀x,Enters 30∧Spec prog 30 #[tcv x,cqa c] [TcF t x,MxL] [] (RetV (.bool (holM c t)))
theorem WV {h:H}:∀{l:List Tr5} {vs:List TC} {i:Nat} {t:Tr5} {v:TC},TcsP h l vs→l[i]? = some t→vs[i]? = some v→TcP h t v
 | t::l,vs,0,_,_,hh,e1,e2=>by
  rw [TcsP] at hh
  obtain ⟨v,ws,rfl,h2,_⟩:=hh
  cases e1;cases e2;exact h2
 | t::l,vs,i+1,_,_,hh,e1,e2=>by
  rw [TcsP] at hh
  obtain ⟨v,ws,rfl,_,h3⟩:=hh
  exact WV h3 e1 e2
theorem lines_neFi:∀l:List UInt8,linesF l≠[]
 | []=>by simp [linesF]
 | c::r=>by
  rw [linesF]
  split
  ·simp
  ·split<;>simp
theorem WN:∀(a b:List UInt8),linesF (a++10::b)=linesF a++linesF b
 | [],b=>by simp [linesF]
 | c::a,b=>by
  rw [List.cons_append,linesF,linesF]
  by_cases hc:(c == 10)=true
  ·rw [if_pos hc,if_pos hc,WN a b];rfl
  ·rw [if_neg hc,if_neg hc,WN a b]
   cases h:linesF a with
   | nil=>exact absurd h (lines_neFi a)
   | cons x m=>rfl
def bytesL:List (List UInt8)→Nat
 | []=>0
 | e::l=>e.length+1+bytesL l
def longF (c:Cq):List Ru→Bool
 | []=>false
 | x::l=>if posF x.a.k c.kind=false∨condH c x=false then longF c l else decide (x.a.k=2∧4096<(expF x.a.t c).size)
abbrev St5:=Int×ByteArray
def sk5 (l:List Tk):List St5:=l.map fun t=>(t.kd,t.tx)
theorem Ye {l:List Tk} {s:St5} {R:List St5} (h:sk5 l=s::R):∃t ts,l=t::ts∧t.kd=s.1∧t.tx=s.2∧sk5 ts=R:=by
 cases l with
 | nil=>cases h
 | cons t ts=>
  obtain ⟨h1,h2⟩:=List.cons.inj h
  exact ⟨t,ts,rfl,by rw [←h1],by rw [←h1],h2⟩
def TstD (w:ByteArray) (A:List St5) (c:Tr5):Prop:=∀(m:Mq) (R:List St5),m.e=0→sk5 m.tk=A++R→∃m',tstM w m=(c,m')∧m'.e=0∧m'.op=m.op∧sk5 m'.tk=R
mutual
inductive DF5:Nat→List St5→Tr5→Prop
 | not {d:Nat} {T:List St5} {c:Tr5}:DF5 d T c→DF5 d ((1,wNot)::T) (.mk wNot [c] eB eB 0)
 | par {d:Nat} {T:List St5} {c:Tr5}:DC5 d T c→DF5 (d+1) ((4,yOpn)::(T++[(4,yCls)])) c
 | tst {d:Nat} {w:ByteArray} {A:List St5} {c:Tr5}:isTst w=true→TstD w A c→DF5 d ((1,w)::A) c
inductive DT5:Nat→List St5→Tr5→Prop
 | mk {d:Nat} {T U:List St5} {c:Tr5} {cs:List Tr5}:DF5 d T c→DTL5 d U cs→DT5 d (T++U) (.mk wAnd (c::cs) eB eB 0)
inductive DTL5:Nat→List St5→List Tr5→Prop
 | nil {d:Nat}:DTL5 d [] []
 | cons {d:Nat} {T U:List St5} {c:Tr5} {cs:List Tr5}:DF5 d T c→DTL5 d U cs→DTL5 d ((1,wAnd)::(T++U)) (c::cs)
inductive DC5:Nat→List St5→Tr5→Prop
 | mk {d:Nat} {T U:List St5} {c:Tr5} {cs:List Tr5}:DT5 d T c→DCL5 d U cs→DC5 d (T++U) (.mk wOr (c::cs) eB eB 0)
inductive DCL5:Nat→List St5→List Tr5→Prop
 | nil {d:Nat}:DCL5 d [] []
 | cons {d:Nat} {T U:List St5} {c:Tr5} {cs:List Tr5}:DT5 d T c→DCL5 d U cs→DCL5 d ((1,wOr)::(T++U)) (c::cs)
end
theorem word_e5 {m:Mq} {w:ByteArray} (h:m.word w=true):m.e=0∧m.hd=w∧∃t ts,m.tk=t::ts∧t.kd=1∧t.tx=w:=by
 obtain ⟨tk,en,op,e,cl⟩:=m
 simp only [Mq.word,Bool.and_eq_true,decide_eq_true_eq] at h
 cases tk with
 | nil=>exact absurd h.2 (by simp [Mq.has])
 | cons t ts=>
  have h2:t.kd=1∧t.tx=w:=by simpa [Mq.has,Mq.isW] using h.2
  exact ⟨h.1,h2.2,t,ts,rfl,h2.1,h2.2⟩
theorem Z5 {m:Mq} {e:Int} (h:e≠0):(m.fail e).e≠0:=by
 unfold Mq.fail
 split
 ·exact h
 ·assumption
theorem word_sk {m:Mq} {w:ByteArray} {R:List St5} (he:m.e=0) (h:sk5 m.tk=(1,w)::R):m.word w=true∧sk5 m.pass.tk=R:=by
 obtain ⟨t,ts,h1,h2,h3,h4⟩:=Ye h
 obtain ⟨tk,en,op,e,cl⟩:=m
 dsimp only at h1 he
 subst h1;subst he
 exact ⟨by simp [Mq.word,Mq.has,Mq.isW,h2,h3],h4⟩
theorem Va {m:Mq} {w:ByteArray} {R:List St5} (h:sk5 m.tk=R) (hn:R.head?≠some (1,w)):m.word w=false:=by
 obtain ⟨tk,en,op,e,cl⟩:=m
 cases tk with
 | nil=>simp [Mq.word,Mq.has]
 | cons t ts=>
  have h:(t.kd,t.tx)::sk5 ts=R:=h
  subst h
  have hn:¬(t.kd=1∧t.tx=w):=fun hh=>hn (by rw [List.head?_cons,hh.1,hh.2])
  have:(decide (t.kd=1) && decide (t.tx=w))=false:=by simpa using hn
  simp [Mq.word,Mq.has,Mq.isW,this]
theorem WJ {m:Mq} {w:ByteArray} (h:m.word w=true):sk5 m.tk=(1,w)::sk5 m.pass.tk:=by
 obtain ⟨_,_,t,ts,h1,h2,h3⟩:=word_e5 h
 obtain ⟨tk,en,op,e,cl⟩:=m
 dsimp only at h1
 subst h1
 show (t.kd,t.tx)::sk5 ts=_
 rw [h2,h3];rfl
theorem has_sk {m:Mq} {s:ByteArray} (h:m.has (Mq.isS s)=true):sk5 m.tk=(4,s)::sk5 m.pass.tk:=by
 obtain ⟨tk,en,op,e,cl⟩:=m
 cases tk with
 | nil=>cases h
 | cons t ts=>
  have h:(decide (t.kd=4) && decide (t.tx=s))=true:=h
  simp only [Bool.and_eq_true,decide_eq_true_eq] at h
  show (t.kd,t.tx)::sk5 ts=_
  rw [h.1,h.2];rfl
theorem sk_has {m:Mq} {s:ByteArray} {R:List St5} (h:sk5 m.tk=(4,s)::R):m.has (Mq.isS s)=true∧sk5 m.pass.tk=R:=by
 obtain ⟨t,ts,h1,h2,h3,h4⟩:=Ye h
 obtain ⟨tk,en,op,e,cl⟩:=m
 dsimp only at h1
 subst h1
 exact ⟨by simp [Mq.has,Mq.isS,h2,h3],h4⟩
theorem XK {m:Mq} {q:Tk→Bool} (h:(m.take q).2.e=0):m.e=0∧m.has q=true∧m.take q=(m.hd,m.pass):=by
 unfold Mq.take at h ⊢
 split at h
 ·exact absurd h (Z5 (by decide))
 ·rename_i hc
  have h1:m.e=0:=by
   by_cases hz:m.e=0
   ·exact hz
   ·exact absurd (.inl hz) hc
  have h2:m.has q=true:=by
   cases hh:m.has q with
   | true=>rfl
   | false=>exact absurd (.inr hh) hc
  exact ⟨h1,h2,by rw [if_neg hc]⟩
theorem take_sk {m:Mq} {s:ByteArray} {R:List St5} (he:m.e=0) (h:sk5 m.tk=(4,s)::R):(m.take (Mq.isS s)).2=m.pass∧sk5 m.pass.tk=R:=by
 obtain ⟨h1,h2⟩:=sk_has h
 refine ⟨?_,h2⟩
 unfold Mq.take
 rw [if_neg (by rw [h1];simp [he])]
theorem factor_e0 {n:Nat} {m:Mq} (h:(factorM n m).2.e=0):m.e=0:=by
 by_cases hz:m.e=0
 ·exact hz
 ·rw [V6 hz] at h;exact absurd h hz
theorem termN_e0 {n:Nat} {l:List Tr5} {m:Mq} (h:(termN n l m).2.e=0):m.e=0:=by
 by_cases hz:m.e=0
 ·exact hz
 ·rw [Vx hz] at h;exact absurd h hz
theorem condN_e0 {n:Nat} {l:List Tr5} {m:Mq} (h:(condN n l m).2.e=0):m.e=0:=by
 by_cases hz:m.e=0
 ·exact hz
 ·rw [Vz hz] at h;exact absurd h hz
theorem tst_loc {w:ByteArray} {m:Mq} (he:m.e=0) (h:(tstM w m).2.e=0):∃A,sk5 m.tk=A++sk5 (tstM w m).2.tk∧TstD w A (tstM w m).1∧(tstM w m).2.op=m.op:=by
 obtain ⟨tk,en,op,e,cl⟩:=m
 dsimp only at he
 subst he
 by_cases h1:idx w wKinds<3
 ·have e1:∀m,tstM w m=(.mk w [] eB eB 0,m):=fun m=>by unfold tstM;rw [if_pos h1]
  rw [e1]
  exact ⟨[],rfl,fun m R h2 h3=>⟨m,e1 m,h2,rfl,h3⟩,rfl⟩
 by_cases h2:w=wChan
 ·have e1:∀m,tstM w m=if m.has (fun t=>decide (t.kd=1) && decide (idx t.tx wChs<4)) then (.mk w [] m.hd eB ((idx m.hd wChs:Nat)+1),m.pass) else (.mk w [] eB eB 0,m.fail 30):=fun m=>by unfold tstM;rw [if_neg h1,if_pos h2]
  rw [e1] at h ⊢
  split at h
  ·rename_i hh
   rw [if_pos hh]
   cases tk with
   | nil=>cases hh
   | cons t ts=>
    have hh:(decide (t.kd=1) && decide (idx t.tx wChs<4))=true:=hh
    simp only [Bool.and_eq_true,decide_eq_true_eq] at hh
    refine ⟨[(1,t.tx)],by show (t.kd,t.tx)::_=_;rw [hh.1];rfl,fun m R he hs=>?_,rfl⟩
    obtain ⟨u,us,g1,g2,g3,g4⟩:=Ye hs
    dsimp only at g2 g3
    refine ⟨m.pass,?_,he,rfl,?_⟩
    ·have hu:m.has (fun t=>decide (t.kd=1) && decide (idx t.tx wChs<4))=true:=by unfold Mq.has;rw [g1];simp [g2,g3,hh.2]
     have hd:m.hd=t.tx:=by unfold Mq.hd;rw [g1];exact g3
     rw [e1,if_pos hu,hd];rfl
    ·unfold Mq.pass;rw [g1];exact g4
  ·exact absurd h (Z5 (by decide))
 by_cases h3:idx w wTxs<3
 ·have e1:∀m,tstM w m=if m.has (fun t=>decide (t.kd=1) && decide (idx t.tx wCts<3)) then (.mk w [] m.hd (m.pass.take (fun t=>decide (t.kd=3))).1 0,(m.pass.take (fun t=>decide (t.kd=3))).2) else (.mk w [] eB eB 0,m.fail 30):=fun m=>by unfold tstM;rw [if_neg h1,if_neg h2,if_pos h3]
  rw [e1] at h ⊢
  split at h
  ·rename_i hh
   rw [if_pos hh]
   obtain ⟨k1,k2,k3⟩:=XK h
   rw [k3]
   cases tk with
   | nil=>cases hh
   | cons t ts=>
    cases ts with
    | nil=>cases k2
    | cons u us=>
     have hh:(decide (t.kd=1) && decide (idx t.tx wCts<3))=true:=hh
     simp only [Bool.and_eq_true,decide_eq_true_eq] at hh
     have k2:u.kd=3:=of_decide_eq_true k2
     refine ⟨[(1,t.tx),(3,u.tx)],by show (t.kd,t.tx)::(u.kd,u.tx)::_=_;rw [hh.1,k2];rfl,fun m R he hs=>?_,rfl⟩
     obtain ⟨a,al,g1,g2,g3,g4⟩:=Ye hs
     obtain ⟨b,bs,i1,i2,i3,i4⟩:=Ye g4
     dsimp only at g2 g3 i2 i3
     have hu:m.has (fun t=>decide (t.kd=1) && decide (idx t.tx wCts<3))=true:=by unfold Mq.has;rw [g1];simp [g2,g3,hh.2]
     have hd:m.hd=t.tx:=by unfold Mq.hd;rw [g1];exact g3
     have hp:m.pass.take (fun t=>decide (t.kd=3))=(u.tx,m.pass.pass):=by
      unfold Mq.take
      have q1:m.pass.has (fun t=>decide (t.kd=3))=true:=by unfold Mq.has Mq.pass;rw [g1,i1];simp [i2]
      have q2:m.pass.hd=u.tx:=by unfold Mq.hd Mq.pass;rw [g1,i1];exact i3
      have q3:m.pass.e=0:=he
      rw [if_neg (by rw [q1];simp [q3]),q2]
     refine ⟨m.pass.pass,?_,he,rfl,?_⟩
     ·rw [e1,if_pos hu,hd,hp];rfl
     ·unfold Mq.pass;rw [g1,i1];exact i4
  ·exact absurd h (Z5 (by decide))
 by_cases h4:idx w wNms<4
 ·have e1:∀m,tstM w m=if m.has (fun t=>decide (t.kd=4) && decide (idx t.tx yCns<3)) then (.mk w [] m.hd eB (numM m.pass).1,(numM m.pass).2) else (.mk w [] eB eB 0,m.fail 30):=fun m=>by unfold tstM;rw [if_neg h1,if_neg h2,if_neg h3,if_pos h4]
  rw [e1] at h ⊢
  split at h
  ·rename_i hh
   rw [if_pos hh]
   have e2:∀m:Mq,numM m=if m.e≠0∨m.has (fun t=>decide (t.kd=2))=false then (0,m.fail 30) else if badN m.hd then (0,m.fail 3) else if 1073741824<numL m.hd.data.toList 0 then (0,m.fail 2) else (numL m.hd.data.toList 0,m.pass):=fun m=>rfl
   rw [e2] at h ⊢
   dsimp only at h ⊢
   split at h
   ·exact absurd h (Z5 (by decide))
   ·rename_i c1
    split at h
    ·exact absurd h (Z5 (by decide))
    ·rename_i c2
     split at h
     ·exact absurd h (Z5 (by decide))
     ·rename_i c3
      rw [if_neg c1,if_neg c2,if_neg c3]
      cases tk with
      | nil=>cases hh
      | cons t ts=>
       cases ts with
       | nil=>exact absurd (.inr rfl) c1
       | cons u us=>
        have hh:(decide (t.kd=4) && decide (idx t.tx yCns<3))=true:=hh
        simp only [Bool.and_eq_true,decide_eq_true_eq] at hh
        have k2:u.kd=2:=by
         by_cases hk:u.kd=2
         ·exact hk
         ·exact absurd (.inr (decide_eq_false hk)) c1
        have c2:¬badN u.tx=true:=c2
        have c3:¬1073741824<numL u.tx.data.toList 0:=c3
        refine ⟨[(4,t.tx),(2,u.tx)],by show (t.kd,t.tx)::(u.kd,u.tx)::_=_;rw [hh.1,k2];rfl,fun m R he hs=>?_,rfl⟩
        obtain ⟨a,al,g1,g2,g3,g4⟩:=Ye hs
        obtain ⟨b,bs,i1,i2,i3,i4⟩:=Ye g4
        dsimp only at g2 g3 i2 i3
        have hu:m.has (fun t=>decide (t.kd=4) && decide (idx t.tx yCns<3))=true:=by unfold Mq.has;rw [g1];simp [g2,g3,hh.2]
        have hd:m.hd=t.tx:=by unfold Mq.hd;rw [g1];exact g3
        have q1:m.pass.has (fun t=>decide (t.kd=2))=true:=by unfold Mq.has Mq.pass;rw [g1,i1];simp [i2]
        have q2:m.pass.hd=u.tx:=by unfold Mq.hd Mq.pass;rw [g1,i1];exact i3
        have q3:m.pass.e=0:=he
        have hp:numM m.pass=(numL u.tx.data.toList 0,m.pass.pass):=by
         rw [e2,if_neg (by rw [q1];simp [q3]),q2,if_neg c2,if_neg c3]
        refine ⟨m.pass.pass,?_,he,rfl,?_⟩
        ·rw [e1,if_pos hu,hd,hp];rfl
        ·unfold Mq.pass;rw [g1,i1];exact i4
  ·exact absurd h (Z5 (by decide))
 have e1:∀m:Mq,tstM w m=(.mk w [] eB ((if m.has (fun t=>decide (t.kd=2) && !lvalid t.tx.data.toList) then m.fail 12 else m).take (fun t=>decide (t.kd=2))).1 0,((if m.has (fun t=>decide (t.kd=2) && !lvalid t.tx.data.toList) then m.fail 12 else m).take (fun t=>decide (t.kd=2))).2):=fun m=>by unfold tstM;rw [if_neg h1,if_neg h2,if_neg h3,if_neg h4]
 rw [e1] at h ⊢
 dsimp only at h ⊢
 obtain ⟨k1,k2,k3⟩:=XK h
 rw [k3]
 by_cases hv:(⟨tk,en,op,0,cl⟩:Mq).has (fun t=>decide (t.kd=2) && !lvalid t.tx.data.toList)=true
 ·rw [if_pos hv] at k1
  exact absurd k1 (Z5 (by decide))
 ·rw [if_neg hv] at k2 ⊢
  cases tk with
  | nil=>cases k2
  | cons t ts=>
   have k2:t.kd=2:=of_decide_eq_true k2
   have hv:¬(decide (t.kd=2) && !lvalid t.tx.data.toList)=true:=hv
   refine ⟨[(2,t.tx)],by show (t.kd,t.tx)::_=_;rw [k2];rfl,fun m R he hs=>?_,rfl⟩
   obtain ⟨a,al,g1,g2,g3,g4⟩:=Ye hs
   dsimp only at g2 g3
   have hu:¬m.has (fun t=>decide (t.kd=2) && !lvalid t.tx.data.toList)=true:=by
    unfold Mq.has;rw [g1]
    dsimp only
    rw [g2,g3]
    rw [k2] at hv;exact hv
   have hp:m.take (fun t=>decide (t.kd=2))=(t.tx,m.pass):=by
    unfold Mq.take
    have q1:m.has (fun t=>decide (t.kd=2))=true:=by unfold Mq.has;rw [g1];simp [g2]
    have q2:m.hd=t.tx:=by unfold Mq.hd;rw [g1];exact g3
    rw [if_neg (by rw [q1];simp [he]),q2]
   refine ⟨m.pass,?_,he,rfl,?_⟩
   ·rw [e1,if_neg hu,hp];rfl
   ·unfold Mq.pass;rw [g1];exact g4
theorem snd_all:∀n:Nat,
  (∀m,m.op≤32→(factorM n m).2.e=0→(factorM n m).2.op=m.op∧∃T,sk5 m.tk=T++sk5 (factorM n m).2.tk∧DF5 (32 - m.op).toNat T (factorM n m).1)∧
  (∀m,m.op≤32→(termM n m).2.e=0→(termM n m).2.op=m.op∧∃T,sk5 m.tk=T++sk5 (termM n m).2.tk∧DT5 (32 - m.op).toNat T (termM n m).1)∧
  (∀l m,m.op≤32→(termN n l m).2.e=0→(termN n l m).2.op=m.op∧∃T cs,(termN n l m).1=l++cs∧sk5 m.tk=T++sk5 (termN n l m).2.tk∧DTL5 (32 - m.op).toNat T cs)∧
  (∀m,m.op≤32→(condM n m).2.e=0→(condM n m).2.op=m.op∧∃T,sk5 m.tk=T++sk5 (condM n m).2.tk∧DC5 (32 - m.op).toNat T (condM n m).1)∧
  (∀l m,m.op≤32→(condN n l m).2.e=0→(condN n l m).2.op=m.op∧∃T cs,(condN n l m).1=l++cs∧sk5 m.tk=T++sk5 (condN n l m).2.tk∧DCL5 (32 - m.op).toNat T cs)
 | 0=>by
  have no:∀m:Mq,(m.fail 99).e≠0:=fun m=>Z5 (by decide)
  refine ⟨fun m _ h=>?_,fun m _ h=>?_,fun l m _ h=>?_,fun m _ h=>?_,fun l m _ h=>?_⟩
  ·rw [factorM] at h;exact absurd h (no m)
  ·rw [termM] at h;exact absurd h (no m)
  ·rw [termN] at h;exact absurd h (no m)
  ·rw [condM] at h;exact absurd h (no m)
  ·rw [condN] at h;exact absurd h (no m)
 | n+1=>by
  obtain ⟨h1,h2,h3,h4,h5⟩:=snd_all n
  refine ⟨fun m ho h=>?_,fun m ho h=>?_,fun l m ho h=>?_,fun m ho h=>?_,fun l m ho h=>?_⟩
  ·have he:=factor_e0 h
   rw [factorM] at h ⊢
   split at h
   ·rename_i hw
    rw [if_pos hw]
    obtain ⟨o1,T,t1,t2⟩:=h1 m.pass ho h
    exact ⟨o1,(1,wNot)::T,by rw [WJ hw,t1];rfl,.not t2⟩
   ·rename_i hw
    rw [if_neg hw]
    split at h
    ·rename_i hp
     rw [if_pos hp]
     split at h
     ·exact absurd h (Z5 (by decide))
     ·rename_i h32
      rw [if_neg h32]
      dsimp only at h ⊢
      obtain ⟨k1,k2,k3⟩:=XK h
      obtain ⟨o1,T,t1,t2⟩:=h4 {m.pass with op:=m.op+1} (show m.op+1≤32 by omega) k1
      have t1:sk5 m.pass.tk=T++sk5 (condM n {m.pass with op:=m.op+1}).2.tk:=t1
      have o1:(condM n {m.pass with op:=m.op+1}).2.op=m.op+1:=o1
      have t2:DC5 (32 - (m.op+1)).toNat T (condM n {m.pass with op:=m.op+1}).1:=t2
      have ed:(32 - m.op).toNat=(32 - (m.op+1)).toNat+1:=by omega
      refine ⟨?_,(4,yOpn)::(T++[(4,yCls)]),?_,by rw [ed];exact .par t2⟩
      ·rw [k3]
       show (condM n {m.pass with op:=m.op+1}).2.op - 1=m.op
       rw [o1];omega
      ·rw [has_sk hp.2,t1,has_sk k2,k3]
       simp
    ·rename_i hp
     rw [if_neg hp]
     split at h
     ·rename_i ht
      rw [if_pos ht]
      obtain ⟨tk,en,op,e,cl⟩:=m
      cases tk with
      | nil=>exact absurd ht.2 (by simp [Mq.has])
      | cons t ts=>
       have hh:(decide (t.kd=1) && isTst t.tx)=true:=ht.2
       simp only [Bool.and_eq_true,decide_eq_true_eq] at hh
       obtain ⟨A,a1,a2,a3⟩:=tst_loc (w:=t.tx) (m:=⟨ts,en,op,e,cl⟩) he h
       refine ⟨a3,(1,t.tx)::A,?_,.tst hh.2 a2⟩
       show (t.kd,t.tx)::sk5 ts=_
       have a1:sk5 ts=A++sk5 (tstM t.tx ⟨ts,en,op,e,cl⟩).2.tk:=a1
       rw [hh.1,a1];rfl
     ·exact absurd h (Z5 (by decide))
  ·rw [termM] at h ⊢
   dsimp only at h ⊢
   obtain ⟨o1,T,t1,t2⟩:=h1 m ho (termN_e0 h)
   obtain ⟨o2,U,cs,u1,u2,u3⟩:=h3 _ _ (by rw [o1];exact ho) h
   rw [o1] at u3
   rw [u1]
   exact ⟨o2.trans o1,T++U,by rw [t1,u2,List.append_assoc],.mk t2 u3⟩
  ·rw [termN] at h ⊢
   split at h
   ·rename_i hw
    rw [if_pos hw]
    dsimp only at h ⊢
    obtain ⟨o1,T,t1,t2⟩:=h1 m.pass ho (termN_e0 h)
    have o1:(factorM n m.pass).2.op=m.op:=o1
    obtain ⟨o2,U,cs,u1,u2,u3⟩:=h3 _ _ (by rw [o1];exact ho) h
    rw [o1] at u3
    exact ⟨o2.trans o1,(1,wAnd)::(T++U),(factorM n m.pass).1::cs,by rw [u1];simp,by rw [WJ hw,t1,u2];simp,.cons t2 u3⟩
   ·rename_i hw
    rw [if_neg hw]
    exact ⟨rfl,[],[],by simp,rfl,.nil⟩
  ·rw [condM] at h ⊢
   dsimp only at h ⊢
   obtain ⟨o1,T,t1,t2⟩:=h2 m ho (condN_e0 h)
   obtain ⟨o2,U,cs,u1,u2,u3⟩:=h5 _ _ (by rw [o1];exact ho) h
   rw [o1] at u3
   rw [u1]
   exact ⟨o2.trans o1,T++U,by rw [t1,u2,List.append_assoc],.mk t2 u3⟩
  ·rw [condN] at h ⊢
   split at h
   ·rename_i hw
    rw [if_pos hw]
    dsimp only at h ⊢
    obtain ⟨o1,T,t1,t2⟩:=h2 m.pass ho (condN_e0 h)
    have o1:(termM n m.pass).2.op=m.op:=o1
    obtain ⟨o2,U,cs,u1,u2,u3⟩:=h5 _ _ (by rw [o1];exact ho) h
    rw [o1] at u3
    exact ⟨o2.trans o1,(1,wOr)::(T++U),(termM n m.pass).1::cs,by rw [u1];simp,by rw [WJ hw,t1,u2];simp,.cons t2 u3⟩
   ·rename_i hw
    rw [if_neg hw]
    exact ⟨rfl,[],[],by simp,rfl,.nil⟩
def ResM (d:Nat) (r:Tr5×Mq) (c:Tr5) (m:Mq) (R:List St5):Prop:=(r.1=c∧r.2.e=0∧r.2.op=m.op∧sk5 r.2.tk=R)∨(r.2.e=9∧32<m.op+d)
def ResN (d:Nat) (r:List Tr5×Mq) (c:List Tr5) (m:Mq) (R:List St5):Prop:=(r.1=c∧r.2.e=0∧r.2.op=m.op∧sk5 r.2.tk=R)∨(r.2.e=9∧32<m.op+d)
theorem cmp_all:∀n:Nat,
  (∀d T c,DF5 d T c→∀m R,4 * T.length+1≤n→m.e=0→sk5 m.tk=T++R→ResM d (factorM n m) c m R)∧
  (∀d T c,DT5 d T c→∀m R,4 * T.length+2≤n→m.e=0→sk5 m.tk=T++R→R.head?≠some (1,wAnd)→ResM d (termM n m) c m R)∧
  (∀d T cs,DTL5 d T cs→∀l m R,4 * T.length+1≤n→m.e=0→sk5 m.tk=T++R→R.head?≠some (1,wAnd)→ResN d (termN n l m) (l++cs) m R)∧
  (∀d T c,DC5 d T c→∀m R,4 * T.length+3≤n→m.e=0→sk5 m.tk=T++R→R.head?≠some (1,wAnd)→R.head?≠some (1,wOr)→ResM d (condM n m) c m R)∧
  (∀d T cs,DCL5 d T cs→∀l m R,4 * T.length+2≤n→m.e=0→sk5 m.tk=T++R→R.head?≠some (1,wAnd)→R.head?≠some (1,wOr)→ResN d (condN n l m) (l++cs) m R)
 | 0=>⟨fun _ _ _ _ _ _ h=>by omega,fun _ _ _ _ _ _ h=>by omega,fun _ _ _ _ _ _ _ h=>by omega,fun _ _ _ _ _ _ h=>by omega,fun _ _ _ _ _ _ _ h=>by omega⟩
 | n+1=>by
  obtain ⟨h1,h2,h3,h4,h5⟩:=cmp_all n
  refine ⟨fun d T c hd m R hn he hs=>?_,fun d T c hd m R hn he hs hR=>?_,fun d T cs hd l m R hn he hs hR=>?_,fun d T c hd m R hn he hs hR hR2=>?_,fun d T cs hd l m R hn he hs hR hR2=>?_⟩
  ·cases hd with
   | @not _ T c hd=>
    obtain ⟨w1,w2⟩:=word_sk he hs
    rw [factorM,if_pos w1]
    simp only [List.length_cons] at hn
    rcases h1 _ T c hd m.pass R (by omega) he w2 with ⟨r1,r2,r3,r4⟩|r
    ·exact .inl ⟨by dsimp only;rw [r1],r2,r3,r4⟩
    ·exact .inr r
   | @par d T c hd=>
    have w0:m.word wNot=false:=Va hs (by rw [List.cons_append,List.head?_cons];decide)
    have hs':sk5 m.tk=(4,yOpn)::(T++(4,yCls)::R):=by rw [hs];simp
    obtain ⟨p1,p2⟩:=sk_has hs'
    rw [factorM,if_neg (by rw [w0];decide),if_pos ⟨he,p1⟩]
    by_cases ho:m.op=32
    ·rw [if_pos ho]
     exact .inr ⟨by show (m.fail 9).e=9;unfold Mq.fail;rw [if_pos he],by rw [ho];omega⟩
    ·rw [if_neg ho]
     simp only [List.length_cons,List.length_append,List.length_nil] at hn
     rcases h4 _ T c hd {m.pass with op:=m.op+1} ((4,yCls)::R) (by omega) he p2 (by rw [List.head?_cons];decide) (by rw [List.head?_cons];decide) with ⟨r1,r2,r3,r4⟩|r
     ·obtain ⟨q1,q2⟩:=take_sk r2 r4
      left
      dsimp only
      rw [q1]
      refine ⟨r1,r2,?_,q2⟩
      show (condM n {m.pass with op:=m.op+1}).2.op - 1=m.op
      rw [r3];show m.op+1 - 1=m.op;omega
     ·right
      have r2:32<m.op+1+(d:Int):=r.2
      dsimp only
      rw [Wp (by rw [r.1];decide)]
      exact ⟨r.1,by omega⟩
   | @tst _ w A c hw ht=>
    have hne:=tst_ne hw
    have w0:m.word wNot=false:=Va hs (by rw [List.cons_append,List.head?_cons];intro h;exact hne.2.2 (Prod.mk.inj (Option.some.inj h)).2)
    obtain ⟨t,ts,g1,g2,g3,g4⟩:=Ye hs
    dsimp only at g2 g3
    have p0:¬(m.e=0∧m.has (Mq.isS yOpn)=true):=fun h=>by
     have h2:=h.2
     unfold Mq.has Mq.isS at h2
     rw [g1] at h2
     simp [g2] at h2
    have p1:m.has (fun t=>decide (t.kd=1) && isTst t.tx)=true:=by unfold Mq.has;rw [g1];simp [g2,g3,hw]
    have p2:m.hd=w:=by unfold Mq.hd;rw [g1];exact g3
    have p3:sk5 m.pass.tk=A++R:=by unfold Mq.pass;rw [g1];exact g4
    rw [factorM,if_neg (by rw [w0];decide),if_neg p0,if_pos ⟨he,p1⟩,p2]
    obtain ⟨m',r1,r2,r3,r4⟩:=ht m.pass R he p3
    rw [r1]
    exact .inl ⟨rfl,r2,r3,r4⟩
  ·cases hd with
   | @mk _ T U c cs hf hl=>
    rw [termM]
    rw [List.length_append] at hn
    rw [List.append_assoc] at hs
    rcases h1 _ T c hf m (U++R) (by omega) he hs with ⟨r1,r2,r3,r4⟩|r
    ·try dsimp only
     rcases h3 _ U cs hl [(factorM n m).1] (factorM n m).2 R (by omega) r2 r4 hR with ⟨q1,q2,q3,q4⟩|q
     ·exact .inl ⟨by rw [q1,r1];rfl,q2,q3.trans r3,q4⟩
     ·exact .inr ⟨q.1,by have:=q.2;rw [r3] at this;exact this⟩
    ·right
     try dsimp only
     rw [Vx (by rw [r.1];decide)]
     exact r
  ·cases hd with
   | nil=>
    have w0:m.word wAnd=false:=Va hs (by rw [List.nil_append];exact hR)
    rw [termN,if_neg (by rw [w0];decide)]
    exact .inl ⟨by simp,he,rfl,hs⟩
   | @cons _ T U c cs hf hl=>
    have hs':sk5 m.tk=(1,wAnd)::(T++(U++R)):=by rw [hs];simp
    obtain ⟨w1,w2⟩:=word_sk he hs'
    rw [termN,if_pos w1]
    simp only [List.length_cons,List.length_append] at hn
    rcases h1 _ T c hf m.pass (U++R) (by omega) he w2 with ⟨r1,r2,r3,r4⟩|r
    ·try dsimp only
     rcases h3 _ U cs hl (l++[(factorM n m.pass).1]) (factorM n m.pass).2 R (by omega) r2 r4 hR with ⟨q1,q2,q3,q4⟩|q
     ·exact .inl ⟨by rw [q1,r1];simp,q2,q3.trans r3,q4⟩
     ·exact .inr ⟨q.1,by have:=q.2;rw [r3] at this;exact this⟩
    ·right
     try dsimp only
     rw [Vx (by rw [r.1];decide)]
     exact r
  ·cases hd with
   | @mk _ T U c cs hf hl=>
    rw [condM]
    rw [List.length_append] at hn
    rw [List.append_assoc] at hs
    have hU:(U++R).head?≠some (1,wAnd):=by
     cases hl with
     | nil=>exact hR
     | cons _ _=>rw [List.cons_append,List.head?_cons];decide
    rcases h2 _ T c hf m (U++R) (by omega) he hs hU with ⟨r1,r2,r3,r4⟩|r
    ·try dsimp only
     rcases h5 _ U cs hl [(termM n m).1] (termM n m).2 R (by omega) r2 r4 hR hR2 with ⟨q1,q2,q3,q4⟩|q
     ·exact .inl ⟨by rw [q1,r1];rfl,q2,q3.trans r3,q4⟩
     ·exact .inr ⟨q.1,by have:=q.2;rw [r3] at this;exact this⟩
    ·right
     try dsimp only
     rw [Vz (by rw [r.1];decide)]
     exact r
  ·cases hd with
   | nil=>
    have w0:m.word wOr=false:=Va hs (by rw [List.nil_append];exact hR2)
    rw [condN,if_neg (by rw [w0];decide)]
    exact .inl ⟨by simp,he,rfl,hs⟩
   | @cons _ T U c cs hf hl=>
    have hs':sk5 m.tk=(1,wOr)::(T++(U++R)):=by rw [hs];simp
    obtain ⟨w1,w2⟩:=word_sk he hs'
    rw [condN,if_pos w1]
    simp only [List.length_cons,List.length_append] at hn
    have hU:(U++R).head?≠some (1,wAnd):=by
     cases hl with
     | nil=>exact hR
     | cons _ _=>rw [List.cons_append,List.head?_cons];decide
    rcases h2 _ T c hf m.pass (U++R) (by omega) he w2 hU with ⟨r1,r2,r3,r4⟩|r
    ·try dsimp only
     rcases h5 _ U cs hl (l++[(termM n m.pass).1]) (termM n m.pass).2 R (by omega) r2 r4 hR hR2 with ⟨q1,q2,q3,q4⟩|q
     ·exact .inl ⟨by rw [q1,r1];simp,q2,q3.trans r3,q4⟩
     ·exact .inr ⟨q.1,by have:=q.2;rw [r3] at this;exact this⟩
    ·right
     try dsimp only
     rw [Vz (by rw [r.1];decide)]
     exact r
def ScS5 (L:List UInt8) (T:List St5):Prop:=∀n i acc,L.length<n→∃ts j,scanF n L i acc=(acc++ts,j,true)∧sk5 ts=T
def Stp5 (L:List UInt8):Prop:=∀c,L.head? = some c→isLet c=false∧inNum c=false
theorem Vs {p:UInt8→Bool}:∀(A X:List UInt8),(∀c,X.head? = some c→p c=false)→spanF p (A++X)=spanF p A
 | [],X,h=>by
  cases X with
  | nil=>rfl
  | cons c X=>
   show (if p c=true then spanF p X+1 else 0)=0
   rw [h c rfl];rfl
 | c::A,X,h=>by
  rw [List.cons_append,spanF,spanF,Vs A X h]
theorem scs_nil5:ScS5 [] []:=fun n i acc hn=>by
 obtain ⟨n,rfl⟩:∃k,n=k+1:=⟨n - 1,by simp at hn;omega⟩
 exact ⟨[],i,by simp [scanF],rfl⟩
theorem Xa {L:List UInt8} {T:List St5} {c:UInt8} (hc:(c == 32 || c == 9)=true) (h:ScS5 L T):ScS5 (c::L) T:=fun n i acc hn=>by
 obtain ⟨n,rfl⟩:∃k,n=k+1:=⟨n - 1,by simp at hn;omega⟩
 have h35:¬(c == 35)=true:=fun hh=>by rw [beq_iff_eq] at hh;subst hh;revert hc;decide
 rw [scanF,if_neg h35,if_pos hc]
 exact h n (i+1) acc (by simp at hn;omega)
theorem VY {L M:List UInt8} {T:List St5} {t:Tk} {n i j:Nat} {acc:List Tk} (h:ScS5 M T) (hn:M.length<n) (e:scanF (n+1) L i acc=scanF n M j (acc++[t])):∃ts j,scanF (n+1) L i acc=(acc++ts,j,true)∧sk5 ts=(t.kd,t.tx)::T:=by
 obtain ⟨ts,j',e1,e2⟩:=h n j (acc++[t]) hn
 exact ⟨t::ts,j',by rw [e,e1];simp,by show (t.kd,t.tx)::sk5 ts=_;rw [e2]⟩
theorem let_not5 {c:UInt8} (h:isLet c=true):¬(c == 35)=true∧¬(c == 32 || c == 9)=true:=by
 constructor<;>(intro hh;simp only [Bool.or_eq_true,beq_iff_eq] at hh)
 ·subst hh;revert h;decide
 ·rcases hh with rfl|rfl<;>(revert h;decide)
theorem dgt_not5 {c:UInt8} (h:isDgt c=true):¬(c == 35)=true∧¬(c == 32 || c == 9)=true∧¬isLet c=true:=by
 refine ⟨?_,?_,?_⟩
 ·intro hh;rw [beq_iff_eq] at hh;subst hh;revert h;decide
 ·intro hh;simp only [Bool.or_eq_true,beq_iff_eq] at hh;rcases hh with rfl|rfl<;>(revert h;decide)
 ·intro hh;unfold isLet at hh;unfold isDgt at h;simp only [Bool.and_eq_true,decide_eq_true_eq] at hh h;omega
theorem sym_not5 {c:UInt8} (h:isSym c=true):¬(c == 35)=true∧¬(c == 32 || c == 9)=true∧¬isLet c=true∧¬isDgt c=true∧¬(c == 34)=true:=by
 have h2:c=40∨c=41∨c=58∨c=61∨c=60∨c=62:=by simpa [isSym,or_assoc] using h
 rcases h2 with rfl|rfl|rfl|rfl|rfl|rfl<;>decide
theorem scs_let5 {L:List UInt8} {T:List St5} {c:UInt8} (hc:isLet c=true) (h:ScS5 ((c::L).drop (spanF isLet (c::L))) T):ScS5 (c::L) ((1,ofL ((c::L).take (spanF isLet (c::L))))::T):=fun n i acc hn=>by
 obtain ⟨n,rfl⟩:∃k,n=k+1:=⟨n - 1,by simp at hn;omega⟩
 obtain ⟨a1,a2⟩:=let_not5 hc
 have h1:1≤spanF isLet (c::L):=by rw [spanF,if_pos hc];omega
 exact VY (t:=⟨1,ofL ((c::L).take (spanF isLet (c::L))),i⟩) h (by rw [List.length_drop];simp only [List.length_cons] at hn ⊢;omega) (by rw [scanF,if_neg a1,if_neg a2,if_pos hc])
theorem scs_num5 {L:List UInt8} {T:List St5} {c:UInt8} (hc:isDgt c=true) (h:ScS5 ((c::L).drop (spanF inNum (c::L))) T):ScS5 (c::L) ((2,ofL ((c::L).take (spanF inNum (c::L))))::T):=fun n i acc hn=>by
 obtain ⟨n,rfl⟩:∃k,n=k+1:=⟨n - 1,by simp at hn;omega⟩
 obtain ⟨a1,a2,a3⟩:=dgt_not5 hc
 have h1:1≤spanF inNum (c::L):=by rw [spanF,if_pos (by rw [inNum,hc];rfl)];omega
 exact VY (t:=⟨2,ofL ((c::L).take (spanF inNum (c::L))),i⟩) h (by rw [List.length_drop];simp only [List.length_cons] at hn ⊢;omega) (by rw [scanF,if_neg a1,if_neg a2,if_neg a3,if_pos hc])
theorem scs_str5 {L t:List UInt8} {T:List St5} {k:Nat} (hu:unqF L 1 []=some (t,k)) (hk:1≤k) (h:ScS5 ((34::L).drop k) T):ScS5 (34::L) ((3,ofL t)::T):=fun n i acc hn=>by
 obtain ⟨n,rfl⟩:∃k,n=k+1:=⟨n - 1,by simp at hn;omega⟩
 exact VY (t:=⟨3,ofL t,i⟩) h (by rw [List.length_drop];simp only [List.length_cons] at hn ⊢;omega) (by rw [scanF,if_neg (by decide),if_neg (by decide),if_neg (by decide),if_neg (by decide),if_pos (by decide),hu])
theorem scs_sym5 {L:List UInt8} {T:List St5} {c:UInt8} (hc:isSym c=true) (h:ScS5 L T):ScS5 (c::L) ((4,ofL [c])::T):=fun n i acc hn=>by
 obtain ⟨n,rfl⟩:∃k,n=k+1:=⟨n - 1,by simp at hn;omega⟩
 obtain ⟨a1,a2,a3,a4,a5⟩:=sym_not5 hc
 exact VY (t:=⟨4,ofL [c],i⟩) h (by simp at hn;omega) (by rw [scanF,if_neg a1,if_neg a2,if_neg a3,if_neg a4,if_neg a5,if_pos hc])
theorem Vq {p:UInt8→Bool}:∀w:List UInt8,w.all p=true→spanF p w=w.length
 | [],_=>rfl
 | c::w,h=>by
  rw [List.all_cons,Bool.and_eq_true] at h
  rw [spanF,if_pos h.1,Vq w h.2,List.length_cons]
theorem Xs {w L:List UInt8} {T:List St5} (hw:w.all isLet=true) (h0:w≠[]) (hL:Stp5 L) (h:ScS5 L T):ScS5 (w++L) ((1,ofL w)::T):=by
 cases w with
 | nil=>exact absurd rfl h0
 | cons c w=>
  have e:spanF isLet (c::(w++L))=(c::w).length:=by
   rw [←List.cons_append,Vs (c::w) L (fun c hc=>(hL c hc).1),Vq _ hw]
  have hc:isLet c=true:=by rw [List.all_cons,Bool.and_eq_true] at hw;exact hw.1
  have e1:(c::(w++L)).drop (c::w).length=L:=by rw [←List.cons_append,List.drop_left]
  have e2:(c::(w++L)).take (c::w).length=c::w:=by rw [←List.cons_append,List.take_left]
  have:=scs_let5 (L:=w++L) (T:=T) hc (by rw [e,e1];exact h)
  rw [e,e2] at this
  exact this
theorem unq_bd5:∀(l:List UInt8) (i:Nat) (acc t:List UInt8) (k:Nat),unqF l i acc=some (t,k)→i+1≤k∧k≤i+l.length
 | [],_,_,_,_,h=>by simp [unqF] at h
 | [c],i,acc,t,k,h=>by
  rw [unqF] at h
  split at h
  ·cases h;simp
  ·cases h
 | c::d::r,i,acc,t,k,h=>by
  rw [unqF] at h
  simp only [List.length_cons]
  split at h
  ·cases h;omega
  ·split at h
   ·split at h
    ·have:=unq_bd5 r _ _ _ _ h;omega
    ·split at h
     ·have:=unq_bd5 r _ _ _ _ h;omega
     ·cases h
   ·have:=unq_bd5 (d::r) _ _ _ _ h
    simp only [List.length_cons] at this;omega
def wAsk5:ByteArray:=⟨#[97,115,107]⟩
def Xr (m:Mq):ByteArray×Mq:=if idx m.hd wActs=1 then (if m.pass.has (fun t=>decide (t.kd=3) && (tplF t.tx).2.isSome) then m.pass.fail 3 else m.pass).take (fun t=>decide (t.kd=3)) else (eB,m.pass)
theorem act_eq5 {m:Mq} (hc:m.e=0∧m.has (fun t=>decide (t.kd=1) && decide (idx t.tx wActs<5))=true):actM m=(⟨(idx m.hd wActs:Nat)+1,(Xr m).1⟩,if (Xr m).2.tk≠[] then (Xr m).2.fail 30 else (Xr m).2):=by
 unfold actM
 rw [if_pos hc]
 rfl
theorem act_snd5 {m:Mq} (h:(actM m).2.e=0):m.e=0∧((∃w,sk5 m.tk=[(1,w)]∧idx w wActs<5∧(actM m).1=⟨(idx w wActs:Nat)+1,eB⟩)∨∃w s,sk5 m.tk=[(1,w),(3,s)]):=by
 by_cases hc:m.e=0∧m.has (fun t=>decide (t.kd=1) && decide (idx t.tx wActs<5))=true
 ·rw [act_eq5 hc] at h ⊢
  refine ⟨hc.1,?_⟩
  dsimp only at h ⊢
  by_cases hz:(Xr m).2.tk≠[]
  ·rw [if_pos hz] at h
   exact absurd h (Z5 (by decide))
  rw [if_neg hz] at h
  have hz:=Classical.not_not.1 hz
  obtain ⟨he,hc⟩:=hc
  obtain ⟨tk,en,op,e,cl⟩:=m
  cases tk with
  | nil=>cases hc
  | cons t ts=>
   have hq:(decide (t.kd=1) && decide (idx t.tx wActs<5))=true:=hc
   simp only [Bool.and_eq_true,decide_eq_true_eq] at hq
   have hhd:(⟨t::ts,en,op,e,cl⟩:Mq).hd=t.tx:=rfl
   unfold Xr at h hz ⊢
   rw [hhd] at h hz ⊢
   by_cases h1:idx t.tx wActs=1
   ·rw [if_pos h1] at h hz
    obtain ⟨k1,k2,k3⟩:=XK h
    rw [k3] at hz
    by_cases hv:(⟨t::ts,en,op,e,cl⟩:Mq).pass.has (fun t=>decide (t.kd=3) && (tplF t.tx).2.isSome)=true
    ·rw [if_pos hv] at k1
     exact absurd k1 (Z5 (by decide))
    ·rw [if_neg hv] at k2 hz
     cases ts with
     | nil=>cases k2
     | cons u us=>
      have hk3:u.kd=3:=of_decide_eq_true k2
      have hz:us=[]:=hz
      subst hz
      exact .inr ⟨t.tx,u.tx,by show [(t.kd,t.tx),(u.kd,u.tx)]=_;rw [hq.1,hk3]⟩
   ·rw [if_neg h1] at h hz
    have hz:ts=[]:=hz
    subst hz
    left
    refine ⟨t.tx,by show [(t.kd,t.tx)]=_;rw [hq.1],hq.2,?_⟩
    rw [if_neg h1]
 ·unfold actM at h
  rw [if_neg hc] at h
  exact absurd h (Z5 (by decide))
def pIf5:List UInt8:=[105,102,32]
def pAsk5:List UInt8:=[58,32,97,115,107]
def pNot5:List UInt8:=[105,102,32,110,111,116,32,40]
def pCls5:List UInt8:=[41,58,32,97,115,107]
def pOpn5:List UInt8:=[105,102,32,40]
def pAnd5:List UInt8:=[41,32,97,110,100,32,40]
def pOr5:List UInt8:=[41,32,111,114,32,40]
def pOrr5:List UInt8:=[32,111,114,32]
def S15 (a:List UInt8):List UInt8:=pIf5++(a++pAsk5)
def lnA5 (a:List UInt8):List UInt8:=pNot5++(a++pCls5)
def lnB5 (a b:List UInt8):List UInt8:=pOpn5++(a++(pAnd5++(b++pCls5)))
def lnC5 (a b:List UInt8):List UInt8:=pOpn5++(a++(pOr5++(b++pCls5)))
def lnD5 (a b:List UInt8):List UInt8:=pIf5++(a++(pOrr5++(b++pAsk5)))
def SW5 (a b:List UInt8):List UInt8:=lnA5 a++10::(lnB5 a b++10::(lnC5 a b++10::lnD5 a b))
def Yt (a:List UInt8) (tA:List St5):Prop:=∀Y T,Stp5 Y→ScS5 Y T→ScS5 (a++Y) (tA++T)
theorem stp5 {c:UInt8} {Y:List UInt8} (h:isLet c=false∧inNum c=false):Stp5 (c::Y):=fun d hd=>by cases hd;exact h
theorem if_scs5 {L:List UInt8} {T:List St5} (h:ScS5 L T):ScS5 (pIf5++L) ((1,wIf)::T):=
 Xs (w:=[105,102]) (L:=32::L) (by decide) (by decide) (stp5 (by decide)) (Xa (by decide) h)
theorem orr_scs5 {L:List UInt8} {T:List St5} (h:ScS5 L T):ScS5 (pOrr5++L) ((1,wOr)::T):=
 Xa (c:=32) (by decide) (Xs (w:=[111,114]) (L:=32::L) (by decide) (by decide) (stp5 (by decide)) (Xa (by decide) h))
theorem dt_of5 {d:Nat} {T:List St5} {c:Tr5} (h:DF5 d T c):DT5 d T (.mk wAnd [c] eB eB 0):=by
 have:=DT5.mk h .nil
 rwa [List.append_nil] at this
theorem dc_of5 {d:Nat} {T:List St5} {c:Tr5} (h:DT5 d T c):DC5 d T (.mk wOr [c] eB eB 0):=by
 have:=DC5.mk h .nil
 rwa [List.append_nil] at this
theorem lines_no5:∀l:List UInt8,(10:UInt8) ∉ l→linesF l=[l]
 | [],_=>rfl
 | c::r,h=>by
  have hc:¬(c == 10)=true:=fun hh=>by rw [beq_iff_eq] at hh;exact h (by rw [hh];exact .head _)
  rw [linesF,if_neg hc,lines_no5 r (fun hh=>h (.tail _ hh))]
def anyQ:Cnd→Bool
 | .any _=>true
 | _=>false
def allQ:Cnd→Bool
 | .all _=>true
 | _=>false
def aaQ:Cnd→Bool
 | .any _=>true
 | .all _=>true
 | _=>false
theorem aaQ_no {d:Cnd} (h:aaQ d=false):anyQ d=false∧allQ d=false:=by cases d<;>first|exact ⟨rfl,rfl⟩|cases h
theorem aaQ_any {d:Cnd} (h:anyQ d=true):aaQ d=true:=by cases d<;>first|rfl|cases h
def NumT (s:ByteArray):Prop:=∃c r,s.data.toList=c::r∧isDgt c=true∧∀x ∈ r,inNum x=true
mutual
def dpC:Cnd→Nat
 | .any l=>dpL false l
 | .all l=>dpL true l
 | .nt d=>if aaQ d then dpC d+1 else dpC d
 | .nul=>0
 | .kd _ _=>0
 | .ch _ _=>0
 | .tx _ _ _ _=>0
 | .nm _ _ _ _=>0
 | .by_ _ _=>0
def dpL (par:Bool):List Cnd→Nat
 | []=>0
 | c::l=>max (if par && anyQ c then dpC c+1 else dpC c) (dpL par l)
end
mutual
def NfC:Cnd→Prop
 | .any l=>2≤l.length∧NfL false l
 | .all l=>2≤l.length∧NfL true l
 | .nt d=>NfC d
 | .nul=>False
 | .kd w k=>idx w wKinds<3∧k=((idx w wKinds:Nat):Int)+2
 | .ch w k=>∃r,idx r wChs<4∧w=wChan++wSp++r∧k=((idx r wChs:Nat):Int)+1
 | .tx w f k s=>∃o r,idx o wTxs<3∧idx r wCts<3∧f=idx o wTxs∧k=idx r wCts∧w=o++wSp++r++wSp++quoF s
 | .nm w f k n=>∃o r,idx o wNms<4∧idx r yCns<3∧f=idx o wNms∧k=idx r yCns∧0≤n∧n≤1073741824∧w=o++wSp++r++wSp++ofL (Lib.itoa n)
 | .by_ w s=>w=wBy++wSp++s∧lvalid s.data.toList=true∧NumT s
def NfL (b:Bool):List Cnd→Prop
 | []=>True
 | c::l=>(if b then allQ c=false else anyQ c=false)∧NfC c∧NfL b l
end
theorem WA (b:Bool):∀l:List Cnd,NfL b l↔∀c ∈ l,(if b then allQ c=false else anyQ c=false)∧NfC c
 | []=>by simp [NfL]
 | c::l=>by rw [NfL,WA b l];simp [and_assoc]
theorem dpL_le (b:Bool) {k:Nat}:∀l:List Cnd,dpL b l≤k↔∀c ∈ l,(if b && anyQ c then dpC c+1 else dpC c)≤k
 | []=>by simp [dpL]
 | c::l=>by rw [dpL,Nat.max_le,dpL_le b l];simp
def YV (T:List St5):Prop:=∀s ∈ T,s.1=2→NumT s.2
theorem numL_ge:∀(l:List UInt8) (n:Int),(∀x ∈ l,isDgt x=true)→0≤n→0≤numL l n
 | [],_,_,h=>h
 | c::l,n,hl,h=>by
  have hc:48≤c.toNat∧c.toNat≤57:=by simpa [isDgt] using hl c (.head _)
  rw [numL]
  split
  ·exact numL_ge l _ (fun x hx=>hl x (.tail _ hx)) (by omega)
  ·exact h
theorem Xh {x:Tr5} {c:Cnd} (hc:toC x=c) (h:NfC c) (h2:dpC c=0) (h3:aaQ c=false):NfC (toC x)∧dpC (toC x)=0∧aaQ (toC x)=false:=by
 rw [hc];exact ⟨h,h2,h3⟩
theorem tst_nf {w:ByteArray} (hw:isTst w=true) {m:Mq} (hT:YV (sk5 m.tk)) (h:(tstM w m).2.e=0):NfC (toC (tstM w m).1)∧dpC (toC (tstM w m).1)=0∧aaQ (toC (tstM w m).1)=false:=by
 by_cases h1:idx w wKinds<3
 ·have e1:tstM w m=(.mk w [] eB eB 0,m):=by unfold tstM;rw [if_pos h1]
  rw [e1]
  exact Xh (c:=.kd w ((idx w wKinds:Nat)+2)) (by rw [YF hw,if_pos h1]) (by rw [NfC];exact ⟨h1,rfl⟩) rfl rfl
 by_cases h2:w=wChan
 ·have e1:tstM w m=if m.has (fun t=>decide (t.kd=1) && decide (idx t.tx wChs<4)) then (.mk w [] m.hd eB ((idx m.hd wChs:Nat)+1),m.pass) else (.mk w [] eB eB 0,m.fail 30):=by unfold tstM;rw [if_neg h1,if_pos h2]
  rw [e1] at h ⊢
  split at h
  ·rename_i hh
   rw [if_pos hh]
   have hr:idx m.hd wChs<4:=by
    obtain ⟨tk,en,op,e,cl⟩:=m
    cases tk with
    | nil=>cases hh
    | cons t ts=>
     have hh:(decide (t.kd=1) && decide (idx t.tx wChs<4))=true:=hh
     simp only [Bool.and_eq_true,decide_eq_true_eq] at hh
     exact hh.2
   refine Xh (c:=.ch (w++wSp++m.hd) ((idx m.hd wChs:Nat)+1)) (by rw [YF hw,if_neg h1,if_pos h2]) ?_ rfl rfl
   rw [NfC]
   exact ⟨m.hd,hr,by rw [h2],rfl⟩
  ·exact absurd h (Z5 (by decide))
 by_cases h3:idx w wTxs<3
 ·have e1:tstM w m=if m.has (fun t=>decide (t.kd=1) && decide (idx t.tx wCts<3)) then (.mk w [] m.hd (m.pass.take (fun t=>decide (t.kd=3))).1 0,(m.pass.take (fun t=>decide (t.kd=3))).2) else (.mk w [] eB eB 0,m.fail 30):=by unfold tstM;rw [if_neg h1,if_neg h2,if_pos h3]
  rw [e1] at h ⊢
  split at h
  ·rename_i hh
   rw [if_pos hh]
   have hr:idx m.hd wCts<3:=by
    obtain ⟨tk,en,op,e,cl⟩:=m
    cases tk with
    | nil=>cases hh
    | cons t ts=>
     have hh:(decide (t.kd=1) && decide (idx t.tx wCts<3))=true:=hh
     simp only [Bool.and_eq_true,decide_eq_true_eq] at hh
     exact hh.2
   refine Xh (c:=.tx (w++wSp++m.hd++wSp++quoF (m.pass.take (fun t=>decide (t.kd=3))).1) (idx w wTxs) (idx m.hd wCts) (m.pass.take (fun t=>decide (t.kd=3))).1) (by rw [YF hw,if_neg h1,if_neg h2,if_pos h3]) ?_ rfl rfl
   rw [NfC]
   exact ⟨w,m.hd,h3,hr,rfl,rfl,rfl⟩
  ·exact absurd h (Z5 (by decide))
 by_cases h4:idx w wNms<4
 ·have e1:tstM w m=if m.has (fun t=>decide (t.kd=4) && decide (idx t.tx yCns<3)) then (.mk w [] m.hd eB (numM m.pass).1,(numM m.pass).2) else (.mk w [] eB eB 0,m.fail 30):=by unfold tstM;rw [if_neg h1,if_neg h2,if_neg h3,if_pos h4]
  rw [e1] at h ⊢
  split at h
  ·rename_i hh
   rw [if_pos hh]
   obtain ⟨tk,en,op,e,cl⟩:=m
   cases tk with
   | nil=>cases hh
   | cons t ts=>
    have hh:(decide (t.kd=4) && decide (idx t.tx yCns<3))=true:=hh
    simp only [Bool.and_eq_true,decide_eq_true_eq] at hh
    have hn:0≤(numM ⟨ts,en,op,e,cl⟩).1∧(numM ⟨ts,en,op,e,cl⟩).1≤1073741824:=by
     have h:(numM ⟨ts,en,op,e,cl⟩).2.e=0:=h
     unfold numM at h ⊢
     split at h
     ·exact absurd h (Z5 (by decide))
     ·rename_i c1
      split at h
      ·exact absurd h (Z5 (by decide))
      ·rename_i c2
       split at h
       ·exact absurd h (Z5 (by decide))
       ·rename_i c3
        rw [if_neg c1,if_neg c2,if_neg c3]
        refine ⟨?_,by dsimp only at c3 ⊢;omega⟩
        cases ts with
        | nil=>exact absurd (.inr rfl) c1
        | cons u us=>
         have k2:u.kd=2:=by
          by_cases hk:u.kd=2
          ·exact hk
          ·exact absurd (.inr (decide_eq_false hk)) c1
         have hu:NumT u.tx:=hT (u.kd,u.tx) (.tail _ (.head _)) k2
         obtain ⟨c,r,e1,e2,e3⟩:=hu
         have c2:¬badN u.tx=true:=c2
         have hno:(46:UInt8) ∉ u.tx.data.toList:=fun hh=>c2 (by unfold badN;rw [List.contains_iff_mem.2 hh];rfl)
         show 0≤numL u.tx.data.toList 0
         refine numL_ge _ _ (fun x hx=>?_) (Int.le_refl _)
         rw [e1] at hx hno
         rcases List.mem_cons.1 hx with rfl|hx
         ·exact e2
         ·have hi:=e3 x hx
          unfold inNum at hi
          rw [Bool.or_eq_true,beq_iff_eq] at hi
          rcases hi with hi|hi
          ·exact hi
          ·exact absurd (.tail _ (hi ▸ hx)) hno
    refine Xh (c:=.nm (w++wSp++t.tx++wSp++ofL (Lib.itoa (numM ⟨ts,en,op,e,cl⟩).1)) (idx w wNms) (idx t.tx yCns) (numM ⟨ts,en,op,e,cl⟩).1) (by rw [YF hw,if_neg h1,if_neg h2,if_neg h3,if_pos h4];rfl) ?_ rfl rfl
    rw [NfC]
    exact ⟨w,t.tx,h4,hh.2,rfl,rfl,hn.1,hn.2,rfl⟩
  ·exact absurd h (Z5 (by decide))
 have hby:w=wBy:=by
  simp only [isTst,Bool.or_eq_true,decide_eq_true_eq] at hw
  rcases hw with (((hw|hw)|hw)|hw)|hw
  ·exact absurd hw h1
  ·exact absurd hw h2
  ·exact absurd hw h3
  ·exact absurd hw h4
  ·exact hw
 have e1:tstM w m=(.mk w [] eB ((if m.has (fun t=>decide (t.kd=2) && !lvalid t.tx.data.toList) then m.fail 12 else m).take (fun t=>decide (t.kd=2))).1 0,((if m.has (fun t=>decide (t.kd=2) && !lvalid t.tx.data.toList) then m.fail 12 else m).take (fun t=>decide (t.kd=2))).2):=by unfold tstM;rw [if_neg h1,if_neg h2,if_neg h3,if_neg h4]
 rw [e1] at h ⊢
 dsimp only at h ⊢
 obtain ⟨k1,k2,k3⟩:=XK h
 rw [k3]
 by_cases hv:m.has (fun t=>decide (t.kd=2) && !lvalid t.tx.data.toList)=true
 ·rw [if_pos hv] at k1
  exact absurd k1 (Z5 (by decide))
 ·rw [if_neg hv] at k2 ⊢
  refine Xh (c:=.by_ (w++wSp++m.hd) m.hd) (by rw [YF hw,if_neg h1,if_neg h2,if_neg h3,if_neg h4]) ?_ rfl rfl
  rw [NfC]
  obtain ⟨tk,en,op,e,cl⟩:=m
  cases tk with
  | nil=>cases k2
  | cons t ts=>
   have k2:t.kd=2:=of_decide_eq_true k2
   have hv:¬(decide (t.kd=2) && !lvalid t.tx.data.toList)=true:=hv
   rw [k2] at hv
   have hl:lvalid t.tx.data.toList=true:=by simpa using hv
   exact ⟨by rw [hby],hl,hT (t.kd,t.tx) (.head _) k2⟩
theorem tstd_nf {w:ByteArray} {A:List St5} {c:Tr5} (hw:isTst w=true) (h:TstD w A c) (hT:YV A):NfC (toC c)∧dpC (toC c)=0∧aaQ (toC c)=false:=by
 have e0:sk5 (A.map fun s=>(⟨s.1,s.2,0⟩:Tk))=A:=by
  unfold sk5
  rw [List.map_map]
  exact (List.map_congr_left fun x _=>rfl).trans (List.map_id A)
 obtain ⟨m',e1,e2,_,_⟩:=h ⟨A.map fun s=>⟨s.1,s.2,0⟩,0,0,0,0⟩ [] rfl (by rw [List.append_nil];exact e0)
 have:=tst_nf hw (m:=⟨A.map fun s=>⟨s.1,s.2,0⟩,0,0,0,0⟩) (by rw [e0];exact hT) (by rw [e1];exact e2)
 rw [e1] at this
 exact this
def FP5 (d:Nat) (x:Cnd):Prop:=NfC x∧dpC x≤d∧(aaQ x=true→dpC x<d)
def TP5 (d:Nat) (x:Cnd):Prop:=NfC x∧dpC x≤d∧(anyQ x=true→dpC x<d)
def CP5 (d:Nat) (x:Cnd):Prop:=NfC x∧dpC x≤d
theorem allP_q {x:Cnd} (h:allQ x=false):allP x=[x]:=by cases x<;>first|rfl|cases h
theorem anyP_q {x:Cnd} (h:anyQ x=false):anyP x=[x]:=by cases x<;>first|rfl|cases h
theorem both_nf {d:Nat} {l:List Cnd} (h0:l≠[]) (h:∀x ∈ l,FP5 d x):TP5 d (bothF l):=by
 have hy:∀y ∈ l.flatMap allP,NfC y∧allQ y=false∧(if true && anyQ y then dpC y+1 else dpC y)≤d:=fun y hm=>by
  obtain ⟨x,hx,hxy⟩:=List.mem_flatMap.1 hm
  obtain ⟨f1,f2,f3⟩:=h x hx
  by_cases hq:allQ x=true
  ·cases x with
   | all l'=>
    have hxy:y ∈ l':=hxy
    rw [NfC] at f1
    rw [dpC] at f2
    have a:=(WA true l').1 f1.2 y hxy
    exact ⟨a.2,a.1,(dpL_le true l').1 f2 y hxy⟩
   | _=>cases hq
  ·have hq:allQ x=false:=by simpa using hq
   rw [allP_q hq] at hxy
   obtain rfl:=List.mem_singleton.1 hxy
   refine ⟨f1,hq,?_⟩
   by_cases ha:anyQ y=true
   ·have:=f3 (aaQ_any ha)
    rw [ha];simp;omega
   ·have ha:anyQ y=false:=by simpa using ha
    rw [ha];simpa using f2
 have hne:l.flatMap allP≠[]:=fun hn=>by
  cases l with
  | nil=>exact h0 rfl
  | cons x l=>
   have f1:=(h x (.head _)).1
   rw [List.flatMap_cons] at hn
   have hn:=(List.append_eq_nil_iff.1 hn).1
   cases x with
   | all l'=>rw [NfC] at f1;have hn:l'=[]:=hn;rw [hn] at f1;simp at f1
   | _=>cases hn
 unfold bothF
 split
 ·rename_i y hr
  obtain ⟨a1,a2,a3⟩:=hy y (by rw [hr];exact .head _)
  refine ⟨a1,?_,fun ha=>?_⟩
  ·revert a3;cases anyQ y<;>simp<;>omega
  ·rw [ha] at a3;simp at a3;omega
 ·rename_i hns
  refine ⟨?_,?_,fun ha=>by cases ha⟩
  ·rw [NfC]
   refine ⟨?_,(WA true _).2 fun y hm=>⟨(hy y hm).2.1,(hy y hm).1⟩⟩
   cases hr:l.flatMap allP with
   | nil=>exact absurd hr hne
   | cons y r=>cases r with
    | nil=>exact absurd hr (hns y)
    | cons _ _=>simp
  ·rw [dpC]
   exact (dpL_le true _).2 fun y hm=>(hy y hm).2.2
theorem either_nf {d:Nat} {l:List Cnd} (h0:l≠[]) (h:∀x ∈ l,TP5 d x):CP5 d (eitherF l):=by
 have hy:∀y ∈ l.flatMap anyP,NfC y∧anyQ y=false∧dpC y≤d:=fun y hm=>by
  obtain ⟨x,hx,hxy⟩:=List.mem_flatMap.1 hm
  obtain ⟨f1,f2,f3⟩:=h x hx
  by_cases hq:anyQ x=true
  ·cases x with
   | any l'=>
    have hxy:y ∈ l':=hxy
    rw [NfC] at f1
    rw [dpC] at f2
    have a:=(WA false l').1 f1.2 y hxy
    have b:=(dpL_le false l').1 f2 y hxy
    exact ⟨a.2,a.1,by simpa using b⟩
   | _=>cases hq
  ·have hq:anyQ x=false:=by simpa using hq
   rw [anyP_q hq] at hxy
   obtain rfl:=List.mem_singleton.1 hxy
   exact ⟨f1,hq,f2⟩
 have hne:l.flatMap anyP≠[]:=fun hn=>by
  cases l with
  | nil=>exact h0 rfl
  | cons x l=>
   have f1:=(h x (.head _)).1
   rw [List.flatMap_cons] at hn
   have hn:=(List.append_eq_nil_iff.1 hn).1
   cases x with
   | any l'=>rw [NfC] at f1;have hn:l'=[]:=hn;rw [hn] at f1;simp at f1
   | _=>cases hn
 unfold eitherF
 split
 ·rename_i y hr
  obtain ⟨a1,a2,a3⟩:=hy y (by rw [hr];exact .head _)
  exact ⟨a1,a3⟩
 ·rename_i hns
  refine ⟨?_,?_⟩
  ·rw [NfC]
   refine ⟨?_,(WA false _).2 fun y hm=>⟨(hy y hm).2.1,(hy y hm).1⟩⟩
   cases hr:l.flatMap anyP with
   | nil=>exact absurd hr hne
   | cons y r=>cases r with
    | nil=>exact absurd hr (hns y)
    | cons _ _=>simp
  ·rw [dpC]
   exact (dpL_le false _).2 fun y hm=>by simpa using (hy y hm).2.2
theorem Z4 {A B:List St5} (h:YV (A++B)):YV A∧YV B:=⟨fun s hs=>h s (List.mem_append_left _ hs),fun s hs=>h s (List.mem_append_right _ hs)⟩
theorem YG {s:St5} {B:List St5} (h:YV (s::B)):YV B:=fun s hs=>h s (.tail _ hs)
theorem nf_all:∀n:Nat,
  (∀d T c,DF5 d T c→4 * T.length+1≤n→YV T→FP5 d (toC c))∧
  (∀d T c,DT5 d T c→4 * T.length+2≤n→YV T→TP5 d (toC c))∧
  (∀d T cs,DTL5 d T cs→4 * T.length+1≤n→YV T→∀x ∈ toCs cs,FP5 d x)∧
  (∀d T c,DC5 d T c→4 * T.length+3≤n→YV T→CP5 d (toC c))∧
  (∀d T cs,DCL5 d T cs→4 * T.length+2≤n→YV T→∀x ∈ toCs cs,TP5 d x)
 | 0=>⟨fun _ _ _ _ h=>by omega,fun _ _ _ _ h=>by omega,fun _ _ _ _ h=>by omega,fun _ _ _ _ h=>by omega,fun _ _ _ _ h=>by omega⟩
 | n+1=>by
  obtain ⟨h1,h2,h3,h4,h5⟩:=nf_all n
  refine ⟨fun d T c hd hn hT=>?_,fun d T c hd hn hT=>?_,fun d T cs hd hn hT=>?_,fun d T c hd hn hT=>?_,fun d T cs hd hn hT=>?_⟩
  ·cases hd with
   | @not _ T c hd=>
    simp only [List.length_cons] at hn
    obtain ⟨f1,f2,f3⟩:=h1 _ T c hd (by omega) (YG hT)
    rw [Wc]
    refine ⟨by rw [NfC];exact f1,?_,fun ha=>by cases ha⟩
    rw [dpC]
    by_cases ha:aaQ (toC c)=true
    ·rw [if_pos ha];exact f3 ha
    ·rw [if_neg ha];exact f2
   | @par d T c hd=>
    simp only [List.length_cons,List.length_append,List.length_nil] at hn
    obtain ⟨f1,f2⟩:=h4 _ T c hd (by omega) (Z4 (YG hT)).1
    exact ⟨f1,by omega,fun _=>by omega⟩
   | @tst _ w A c hw ht=>
    obtain ⟨f1,f2,f3⟩:=tstd_nf hw ht (YG hT)
    exact ⟨f1,by omega,fun ha=>by rw [f3] at ha;cases ha⟩
  ·cases hd with
   | @mk _ T U c cs hf hl=>
    rw [List.length_append] at hn
    obtain ⟨t1,t2⟩:=Z4 hT
    rw [Wm]
    refine both_nf (by rw [toCs];simp) (fun x hx=>?_)
    rw [toCs] at hx
    rcases List.mem_cons.1 hx with rfl|hx
    ·exact h1 _ T c hf (by omega) t1
    ·exact h3 _ U cs hl (by omega) t2 x hx
  ·cases hd with
   | nil=>intro x hx;cases hx
   | @cons _ T U c cs hf hl=>
    simp only [List.length_cons,List.length_append] at hn
    obtain ⟨t1,t2⟩:=Z4 (YG hT)
    intro x hx
    rw [toCs] at hx
    rcases List.mem_cons.1 hx with rfl|hx
    ·exact h1 _ T c hf (by omega) t1
    ·exact h3 _ U cs hl (by omega) t2 x hx
  ·cases hd with
   | @mk _ T U c cs hf hl=>
    rw [List.length_append] at hn
    obtain ⟨t1,t2⟩:=Z4 hT
    rw [toC_or]
    refine either_nf (by rw [toCs];simp) (fun x hx=>?_)
    rw [toCs] at hx
    rcases List.mem_cons.1 hx with rfl|hx
    ·exact h2 _ T c hf (by omega) t1
    ·exact h5 _ U cs hl (by omega) t2 x hx
  ·cases hd with
   | nil=>intro x hx;cases hx
   | @cons _ T U c cs hf hl=>
    simp only [List.length_cons,List.length_append] at hn
    obtain ⟨t1,t2⟩:=Z4 (YG hT)
    intro x hx
    rw [toCs] at hx
    rcases List.mem_cons.1 hx with rfl|hx
    ·exact h2 _ T c hf (by omega) t1
    ·exact h5 _ U cs hl (by omega) t2 x hx
def sOr:ByteArray:=⟨#[32,111,114,32]⟩
def sAnd:ByteArray:=⟨#[32,97,110,100,32]⟩
def sNot:ByteArray:=⟨#[110,111,116,32]⟩
def isAny:Cnd→Bool
 | .any _=>true
 | _=>false
def isAA:Cnd→Bool
 | .any _=>true
 | .all _=>true
 | _=>false
mutual
def wrC:Cnd→List UInt8
 | .any l=>wrL sOr false l 0
 | .all l=>wrL sAnd true l 0
 | .nt d=>sNot.data.toList++if isAA d then 40::(wrC d++[41]) else wrC d
 | .nul=>[]
 | .kd w _=>w.data.toList
 | .ch w _=>w.data.toList
 | .tx w _ _ _=>w.data.toList
 | .nm w _ _ _=>w.data.toList
 | .by_ w _=>w.data.toList
def wrL (sep:ByteArray) (par:Bool):List Cnd→Nat→List UInt8
 | [],_=>[]
 | c::l,i=>(if i=0 then [] else sep.data.toList)++(if par && isAny c then 40::(wrC c++[41]) else wrC c)++wrL sep par l (i+1)
end
abbrev WrP (b:Nat) (bs:List UInt8):Post:=⟨Unit,fun _=>.tuple #[],fun _=>True,fun _=>[],fun _=>[Bdr b bs]⟩
abbrev WrI (d : Cnd) : Prop := ∀ v bq bs, bs.length + (wrC d).length ≤ 900000000 → SpecI v "replevin/rule.write" [pv0 bq] [CdF d v] [Bdr bq bs] (WrP bq (bs ++ wrC d))
theorem test_write (wd:ByteArray) (fv:Value) (bq:Nat) (bs:List UInt8) (h:bs.length+wd.size≤900000000):Enters 200∧Spec prog 200 #[.agg #[.string wd,fv],pv0 bq] [] [Bdr bq bs] (WrP bq (bs++wd.data.toList)):=by
 have n1:=ZY bq bs wd (by omega) (by omega)
 refine ZR [_,_] func200 ntmps200 fun G w hp=>?_
 repeat' (first|refine ZF ?_|refine ZI ?_|refine ZG ?_|refine ZH ?_|refine ZL ?_|refine ZJ ?_|refine ZN ?_|refine ZK (fun b=>?_)|refine ZM (fun b=>?_)|refine ZC ?_|refine ZA ?_|refine ZO ?_|refine ZD (n1) (fun _ _=>?_)|refine l_call0 (n1) (fun _ _=>?_)|(refine ZB (fun hc=>?_) (fun hc=>?_)<;>(try simp at hc))|(refine ZE (fun hc=>?_) (fun hc=>?_)<;>(try simp at hc)))
 exact YR () rfl trivial
theorem tst_wr {d:Cnd} {wd:ByteArray} (hd:∀h v,CdP h d v→∃fv,v = .iface 184 (.agg #[.string wd,fv])) (hw:wrC d=wd.data.toList):WrI d:=fun v bq bs hb=>by
 rw [hw] at hb ⊢
 rw [lsz] at hb
 refine YA (X:=Value) (Fx:=fun _=>[]) (p:=fun fv=>v = .iface 184 (.agg #[.string wd,fv])) (fun h hh=>?_) (fun fv hq=>?_)
 ·obtain ⟨fv,e⟩:=hd h v hh
  exact ⟨fv,e,fun _ hx=>by cases hx⟩
 ·subst hq
  exact Y8 (f:=200) (by intro w;kernel_rfl) (test_write wd fv bq bs hb)
theorem W0 (d:Cnd) (ih:WrI d) (v:Value) (bq:Nat) (bs:List UInt8) (h:bs.length+(wrC d).length+2≤900000000):Enters 205∧Spec prog 205 #[pv0 bq,v] [CdF d v] [Bdr bq bs] (WrP bq (bs++40::(wrC d++[41]))):=by
 have n1:=Ze bq bs 40 (by omega)
 have n2:=ih v bq (bs++[40]) (by rw [List.length_append,List.length_singleton];omega)
 have n3:=Ze bq (bs++[40]++wrC d) 41 (by simp only [List.length_append,List.length_singleton];omega)
 have e:bs++40::(wrC d++[41])=bs++[40]++wrC d++[41]:=by simp
 rw [e]
 refine ZR [_,_] func205 ntmps205 fun G w hp=>?_
 repeat' (first|refine ZF ?_|refine ZI ?_|refine ZG ?_|refine ZH ?_|refine ZL ?_|refine ZJ ?_|refine ZN ?_|refine ZK (fun b=>?_)|refine ZM (fun b=>?_)|refine ZC ?_|refine ZA ?_|refine ZO ?_|refine ZD (n1) (fun _ _=>?_)|refine l_call0 (n1) (fun _ _=>?_)|refine ZD (n3) (fun _ _=>?_)|refine l_call0 (n3) (fun _ _=>?_)|refine Yy n2 (fun _ _=>?_)|(refine ZB (fun hc=>?_) (fun hc=>?_)<;>(try simp at hc))|(refine ZE (fun hc=>?_) (fun hc=>?_)<;>(try simp at hc)))
 exact YR () rfl trivial
set_option maxHeartbeats 4000000 in
theorem any_write (l:List Cnd) (hbd:l.length≤1000000) (ih:∀d ∈ l,WrI d) (o:Option Addr) (cap:Nat) (vs:List IV) (hl:vs.length=l.length) (bq:Nat) (bs:List UInt8) (hb:bs.length+(wrL sOr false l 0).length≤900000000):Enters 202∧Spec prog 202 #[.agg #[.slice o vs.length cap],pv0 bq] [Sl 100 ivl o cap vs,CdsF l (vs.map ivOf)] [Bdr bq bs] (WrP bq (bs++wrL sOr false l 0)):=by
 obtain ⟨T,hT⟩:∃T,bs++wrL sOr false l 0=T:=⟨_,rfl⟩
 have hTl:T.length≤900000000:=by rw [←hT,List.length_append];exact hb
 rw [hT]
 refine ZR [_,_] func202 ntmps202 fun G w hp=>?_
 repeat' (first|refine ZF ?_|refine ZI ?_|refine ZG ?_|refine ZH ?_|refine ZL ?_|refine ZJ ?_|refine ZN ?_|refine ZK (fun b=>?_)|refine ZM (fun b=>?_)|refine ZC ?_|refine ZA ?_|(refine ZB (fun hc=>?_) (fun hc=>?_)<;>(try simp at hc))|(refine ZE (fun hc=>?_) (fun hc=>?_)<;>(try simp at hc)))
 refine YK (X:={q:Nat×List UInt8 // q.1≤vs.length∧q.2++wrL sOr false (l.drop q.1) q.1=T}) (fun q=>[(1,pv0 bq),(7,.slice o vs.length cap),(8,.int .i64 (vs.length:Int)),(9,.int .i64 (q.1.1:Int))]) (fun _=>[Sl 100 ivl o cap vs,CdsF l (vs.map ivOf)]) (fun q=>[Bdr bq q.1.2]) (fun q=>vs.length - q.1.1) ⟨(0,bs),Nat.zero_le _,hT⟩ ⟨rfl,rfl,rfl,rfl,trivial⟩ ?_
 rintro ⟨⟨j,cs⟩,hj,hR⟩
 dsimp only at hj hR ⊢
 by_cases hlt:j<vs.length
 ·have hxj:=List.getElem?_eq_getElem hlt
  have hltc:j<l.length:=by omega
  have hcj:=List.getElem?_eq_getElem hltc
  rw [List.drop_eq_getElem_cons hltc] at hR
  have ihd:=ih _ (List.getElem_mem hltc)
  generalize vs[j]=x at *
  generalize l[j]=d at *
  obtain ⟨T1,u⟩:=x
  refine Zn (F1:=[CdsF l (vs.map ivOf)]) (f:=CdF d (ivOf (T1,u))) (fun hp hF=>XT (hF _ (.head _)) hcj (by rw [List.getElem?_map,hxj];rfl)) ?_
  have w1:=wrapi (z:=(j:Int)+1) (by omega) (by omega)
  rw [wrL] at hR
  simp only [Bool.false_and,Bool.false_eq_true,if_false] at hR
  have hlen:=congrArg List.length hR
  simp only [List.length_append] at hlen
  by_cases hj0:j=0
  ·have hj1:¬(0:Int)<(j:Int):=by omega
   rw [if_pos hj0,List.nil_append] at hR
   rw [if_pos hj0] at hlen
   simp only [List.length_nil] at hlen
   have n2:=ihd (ivOf (T1,u)) bq cs (by omega)
   repeat' (first|refine ZF ?_|refine ZI ?_|refine ZG ?_|refine ZH ?_|refine ZL ?_|refine ZJ ?_|refine ZN ?_|refine ZK (fun b=>?_)|refine ZM (fun b=>?_)|refine ZC ?_|refine ZA ?_|refine ZW (es:=vs) (f:=ivl) j _ hxj (fun b off=>?_)|refine ZX ?_|refine Yy n2 (fun _ _=>?_)|rw [w1]|(refine ZB (fun hc=>?_) (fun hc=>?_)<;>(try simp at hc)<;>(try omega))|(refine ZE (fun hc=>?_) (fun hc=>?_)<;>(try simp at hc)<;>(try omega)))
   exact ZV ⟨(j+1,cs++wrC d),by show j+1≤vs.length;omega,by show cs++wrC d++wrL sOr false (l.drop (j+1)) (j+1)=T;rw [List.append_assoc];exact hR⟩ (by show vs.length - (j+1)<vs.length - j;omega) ⟨rfl,rfl,rfl,rfl,trivial⟩
  ·rw [if_neg hj0] at hR hlen
   have hj1:(0:Int)<(j:Int):=by omega
   have n1:=ZY bq cs sOr (by omega) (by decide)
   have n2:=ihd (ivOf (T1,u)) bq (cs++sOr.data.toList) (by rw [List.length_append];omega)
   repeat' (first|refine ZF ?_|refine ZI ?_|refine ZG ?_|refine ZH ?_|refine ZL ?_|refine ZJ ?_|refine ZN ?_|refine ZK (fun b=>?_)|refine ZM (fun b=>?_)|refine ZC ?_|refine ZA ?_|refine ZD (n1) (fun _ _=>?_)|refine l_call0 (n1) (fun _ _=>?_)|refine ZW (es:=vs) (f:=ivl) j _ hxj (fun b off=>?_)|refine ZX ?_|refine Yy n2 (fun _ _=>?_)|rw [w1]|(refine ZB (fun hc=>?_) (fun hc=>?_)<;>(try simp at hc)<;>(try omega))|(refine ZE (fun hc=>?_) (fun hc=>?_)<;>(try simp at hc)<;>(try omega)))
   exact ZV ⟨(j+1,cs++sOr.data.toList++wrC d),by show j+1≤vs.length;omega,by show cs++sOr.data.toList++wrC d++wrL sOr false (l.drop (j+1)) (j+1)=T;rw [←hR];simp only [List.append_assoc]⟩ (by show vs.length - (j+1)<vs.length - j;omega) ⟨rfl,rfl,rfl,rfl,trivial⟩
 ·rw [List.drop_eq_nil_of_le (by omega),wrL,List.append_nil] at hR
  subst hR
  repeat' (first|refine ZF ?_|refine ZI ?_|refine ZG ?_|refine ZH ?_|refine ZL ?_|refine ZJ ?_|refine ZN ?_|refine ZK (fun b=>?_)|refine ZM (fun b=>?_)|refine ZC ?_|refine ZA ?_|refine ZO ?_|(refine ZB (fun hc=>?_) (fun hc=>?_)<;>(try simp at hc)<;>(try omega))|(refine ZE (fun hc=>?_) (fun hc=>?_)<;>(try simp at hc)<;>(try omega)))
  exact YR () rfl trivial
theorem isAny_eq {d:Cnd} (h:isAny d=true):∃l,d = .any l:=by cases d<;>first|exact ⟨_,rfl⟩|cases h
theorem isAny_ne {d:Cnd} (h:¬isAny d=true):∀l,d≠.any l:=fun l e=>h (by rw [e];rfl)
theorem any_ty {h:H} {l:List Cnd} {T:TypeId} {u:Value} (hh:CdP h (.any l) (ivOf (T,u))):T=211∧∃q:Option Addr×Nat×Nat,u = .agg #[.slice q.1 q.2.1 q.2.2]:=by
 rw [CdP] at hh
 obtain ⟨o,cap,vs,h1,_⟩:=hh
 obtain ⟨rfl,rfl⟩:=Value.iface.inj h1
 exact ⟨rfl,(o,vs.length,cap),rfl⟩
set_option maxHeartbeats 4000000 in
theorem all_write (l:List Cnd) (hbd:l.length≤1000000) (ih:∀d ∈ l,WrI d) (o:Option Addr) (cap:Nat) (vs:List IV) (hl:vs.length=l.length) (bq:Nat) (bs:List UInt8) (hb:bs.length+(wrL sAnd true l 0).length≤900000000):Enters 207∧Spec prog 207 #[.agg #[.slice o vs.length cap],pv0 bq] [Sl 100 ivl o cap vs,CdsF l (vs.map ivOf)] [Bdr bq bs] (WrP bq (bs++wrL sAnd true l 0)):=by
 obtain ⟨T,hT⟩:∃T,bs++wrL sAnd true l 0=T:=⟨_,rfl⟩
 have hTl:T.length≤900000000:=by rw [←hT,List.length_append];exact hb
 rw [hT]
 refine ZR [_,_] func207 ntmps207 fun G w hp=>?_
 repeat' (first|refine ZF ?_|refine ZI ?_|refine ZG ?_|refine ZH ?_|refine ZL ?_|refine ZJ ?_|refine ZN ?_|refine ZK (fun b=>?_)|refine ZM (fun b=>?_)|refine ZC ?_|refine ZA ?_|(refine ZB (fun hc=>?_) (fun hc=>?_)<;>(try simp at hc))|(refine ZE (fun hc=>?_) (fun hc=>?_)<;>(try simp at hc)))
 refine YK (X:={q:Nat×List UInt8 // q.1≤vs.length∧q.2++wrL sAnd true (l.drop q.1) q.1=T}) (fun q=>[(1,pv0 bq),(9,.slice o vs.length cap),(10,.int .i64 (vs.length:Int)),(11,.int .i64 (q.1.1:Int))]) (fun _=>[Sl 100 ivl o cap vs,CdsF l (vs.map ivOf)]) (fun q=>[Bdr bq q.1.2]) (fun q=>vs.length - q.1.1) ⟨(0,bs),Nat.zero_le _,hT⟩ ⟨rfl,rfl,rfl,rfl,trivial⟩ ?_
 rintro ⟨⟨j,cs⟩,hj,hR⟩
 dsimp only at hj hR ⊢
 by_cases hlt:j<vs.length
 ·have hxj:=List.getElem?_eq_getElem hlt
  have hltc:j<l.length:=by omega
  have hcj:=List.getElem?_eq_getElem hltc
  rw [List.drop_eq_getElem_cons hltc] at hR
  have ihd:=ih _ (List.getElem_mem hltc)
  generalize vs[j]=x at *
  generalize l[j]=d at *
  obtain ⟨T1,u⟩:=x
  refine Zn (F1:=[CdsF l (vs.map ivOf)]) (f:=CdF d (ivOf (T1,u))) (fun hp hF=>XT (hF _ (.head _)) hcj (by rw [List.getElem?_map,hxj];rfl)) ?_
  have w1:=wrapi (z:=(j:Int)+1) (by omega) (by omega)
  rw [wrL] at hR
  simp only [Bool.true_and] at hR
  have hlen:=congrArg List.length hR
  simp only [List.length_append] at hlen
  by_cases ha:isAny d=true
  ·obtain ⟨la,rfl⟩:=isAny_eq ha
   refine Yb (X:=Option Addr×Nat×Nat) (Fx:=fun _=>[]) (p:=fun a=>T1=211∧u = .agg #[.slice a.1 a.2.1 a.2.2]) (f:=CdF (.any la) (ivOf (T1,u))) .here (fun h hh=>?_) (fun a hq=>?_)
   ·obtain ⟨e1,a,e2⟩:=any_ty hh
    exact ⟨a,⟨e1,e2⟩,fun _ hx=>by cases hx⟩
   obtain ⟨a1,a2,a3⟩:=a
   obtain ⟨rfl,rfl⟩:=hq
   dsimp only at hxj ⊢
   rw [if_pos ha] at hR hlen
   simp only [List.length_cons,List.length_append,List.length_nil] at hlen
   generalize hdd:Cnd.any la=d at *
   by_cases hj0:j=0
   ·have hj1:¬(0:Int)<(j:Int):=by omega
    rw [if_pos hj0,List.nil_append] at hR
    rw [if_pos hj0] at hlen
    simp only [List.length_nil] at hlen
    have n2:=W0 d ihd (ivOf (211,.agg #[.slice a1 a2 a3])) bq cs (by omega)
    repeat' (first|refine ZF ?_|refine ZI ?_|refine ZG ?_|refine ZH ?_|refine ZL ?_|refine ZJ ?_|refine ZN ?_|refine ZK (fun b=>?_)|refine ZM (fun b=>?_)|refine ZC ?_|refine ZA ?_|refine ZD (n2) (fun _ _=>?_)|refine l_call0 (n2) (fun _ _=>?_)|refine ZW (es:=vs) (f:=ivl) j _ hxj (fun b off=>?_)|refine ZX ?_|refine l_taY ?_|rw [w1]|(refine ZB (fun hc=>?_) (fun hc=>?_)<;>(try simp at hc)<;>(try omega))|(refine ZE (fun hc=>?_) (fun hc=>?_)<;>(try simp at hc)<;>(try omega)))
    exact ZV ⟨(j+1,cs++40::(wrC d++[41])),by show j+1≤vs.length;omega,by show cs++40::(wrC d++[41])++wrL sAnd true (l.drop (j+1)) (j+1)=T;rw [List.append_assoc];exact hR⟩ (by show vs.length - (j+1)<vs.length - j;omega) ⟨rfl,rfl,rfl,rfl,trivial⟩
   ·rw [if_neg hj0] at hR hlen
    have hj1:(0:Int)<(j:Int):=by omega
    have n1:=ZY bq cs sAnd (by omega) (by decide)
    have n2:=W0 d ihd (ivOf (211,.agg #[.slice a1 a2 a3])) bq (cs++sAnd.data.toList) (by rw [List.length_append];omega)
    repeat' (first|refine ZF ?_|refine ZI ?_|refine ZG ?_|refine ZH ?_|refine ZL ?_|refine ZJ ?_|refine ZN ?_|refine ZK (fun b=>?_)|refine ZM (fun b=>?_)|refine ZC ?_|refine ZA ?_|refine ZD (n1) (fun _ _=>?_)|refine l_call0 (n1) (fun _ _=>?_)|refine ZD (n2) (fun _ _=>?_)|refine l_call0 (n2) (fun _ _=>?_)|refine ZW (es:=vs) (f:=ivl) j _ hxj (fun b off=>?_)|refine ZX ?_|refine l_taY ?_|rw [w1]|(refine ZB (fun hc=>?_) (fun hc=>?_)<;>(try simp at hc)<;>(try omega))|(refine ZE (fun hc=>?_) (fun hc=>?_)<;>(try simp at hc)<;>(try omega)))
    exact ZV ⟨(j+1,cs++sAnd.data.toList++40::(wrC d++[41])),by show j+1≤vs.length;omega,by show cs++sAnd.data.toList++40::(wrC d++[41])++wrL sAnd true (l.drop (j+1)) (j+1)=T;rw [←hR];simp only [List.append_assoc]⟩ (by show vs.length - (j+1)<vs.length - j;omega) ⟨rfl,rfl,rfl,rfl,trivial⟩
  ·refine Yb (X:=Unit) (Fx:=fun _=>[]) (p:=fun _=>T1≠211) (f:=CdF d (ivOf (T1,u))) .here (fun h hh=>⟨(),?_,fun _ hx=>by cases hx⟩) (fun _ hne=>?_)
   ·rcases Ws hh with h1|⟨T',u',h1,h2,_⟩
    ·cases h1
    ·obtain ⟨rfl,_⟩:=Value.iface.inj h1
     exact h2 (isAny_ne ha)
   have hne':ivOf (T1,u) = .nilIface∨∃T' v,ivOf (T1,u) = .iface T' v∧T'≠211:=.inr ⟨T1,u,rfl,hne⟩
   rw [if_neg ha] at hR hlen
   by_cases hj0:j=0
   ·have hj1:¬(0:Int)<(j:Int):=by omega
    rw [if_pos hj0,List.nil_append] at hR
    rw [if_pos hj0] at hlen
    simp only [List.length_nil] at hlen
    have n2:=ihd (ivOf (T1,u)) bq cs (by omega)
    repeat' (first|refine ZF ?_|refine ZI ?_|refine ZG ?_|refine ZH ?_|refine ZL ?_|refine ZJ ?_|refine ZN ?_|refine ZK (fun b=>?_)|refine ZM (fun b=>?_)|refine ZC ?_|refine ZA ?_|refine ZW (es:=vs) (f:=ivl) j _ hxj (fun b off=>?_)|refine ZX ?_|refine l_taN hne' ?_|refine Yy n2 (fun _ _=>?_)|rw [w1]|(refine ZB (fun hc=>?_) (fun hc=>?_)<;>(try simp at hc)<;>(try omega))|(refine ZE (fun hc=>?_) (fun hc=>?_)<;>(try simp at hc)<;>(try omega)))
    exact ZV ⟨(j+1,cs++wrC d),by show j+1≤vs.length;omega,by show cs++wrC d++wrL sAnd true (l.drop (j+1)) (j+1)=T;rw [List.append_assoc];exact hR⟩ (by show vs.length - (j+1)<vs.length - j;omega) ⟨rfl,rfl,rfl,rfl,trivial⟩
   ·rw [if_neg hj0] at hR hlen
    have hj1:(0:Int)<(j:Int):=by omega
    have n1:=ZY bq cs sAnd (by omega) (by decide)
    have n2:=ihd (ivOf (T1,u)) bq (cs++sAnd.data.toList) (by rw [List.length_append];omega)
    repeat' (first|refine ZF ?_|refine ZI ?_|refine ZG ?_|refine ZH ?_|refine ZL ?_|refine ZJ ?_|refine ZN ?_|refine ZK (fun b=>?_)|refine ZM (fun b=>?_)|refine ZC ?_|refine ZA ?_|refine ZD (n1) (fun _ _=>?_)|refine l_call0 (n1) (fun _ _=>?_)|refine ZW (es:=vs) (f:=ivl) j _ hxj (fun b off=>?_)|refine ZX ?_|refine l_taN hne' ?_|refine Yy n2 (fun _ _=>?_)|rw [w1]|(refine ZB (fun hc=>?_) (fun hc=>?_)<;>(try simp at hc)<;>(try omega))|(refine ZE (fun hc=>?_) (fun hc=>?_)<;>(try simp at hc)<;>(try omega)))
    exact ZV ⟨(j+1,cs++sAnd.data.toList++wrC d),by show j+1≤vs.length;omega,by show cs++sAnd.data.toList++wrC d++wrL sAnd true (l.drop (j+1)) (j+1)=T;rw [←hR];simp only [List.append_assoc]⟩ (by show vs.length - (j+1)<vs.length - j;omega) ⟨rfl,rfl,rfl,rfl,trivial⟩
 ·rw [List.drop_eq_nil_of_le (by omega),wrL,List.append_nil] at hR
  subst hR
  repeat' (first|refine ZF ?_|refine ZI ?_|refine ZG ?_|refine ZH ?_|refine ZL ?_|refine ZJ ?_|refine ZN ?_|refine ZK (fun b=>?_)|refine ZM (fun b=>?_)|refine ZC ?_|refine ZA ?_|refine ZO ?_|(refine ZB (fun hc=>?_) (fun hc=>?_)<;>(try simp at hc)<;>(try omega))|(refine ZE (fun hc=>?_) (fun hc=>?_)<;>(try simp at hc)<;>(try omega)))
  exact YR () rfl trivial
theorem anyQ_is (d:Cnd):isAny d=anyQ d:=by cases d<;>rfl
theorem aaQ_is (d:Cnd):isAA d=aaQ d:=by cases d<;>rfl
theorem ofL_dl (s:ByteArray):ofL s.data.toList=s:=XA rfl
theorem pft_nil:Yt [] []:=fun _ _ _ h=>h
theorem VB {b:List UInt8} {T:List St5} (h:Yt b T):Yt (32::b) T:=fun Y U hY hU=>Xa (by decide) (h Y U hY hU)
theorem pft_sym {c:UInt8} (hc:isSym c=true) {b:List UInt8} {T:List St5} (h:Yt b T):Yt (c::b) ((4,ofL [c])::T):=fun Y U hY hU=>scs_sym5 hc (h Y U hY hU)
theorem Yr {a b:List UInt8} {TA TB:List St5} (ha:Yt a TA) (hb:Yt b TB) (hs:∀Y,Stp5 Y→Stp5 (b++Y)):Yt (a++b) (TA++TB):=fun Y U hY hU=>by
 rw [List.append_assoc,List.append_assoc]
 exact ha _ _ (hs Y hY) (hb Y U hY hU)
theorem stp_sp {b:List UInt8}:∀Y,Stp5 Y→Stp5 ((32::b)++Y):=fun _ _=>stp5 (by decide)
theorem stp_cl {b:List UInt8}:∀Y,Stp5 Y→Stp5 ((41::b)++Y):=fun _ _=>stp5 (by decide)
theorem Yw {w:ByteArray} (hw:w.data.toList.all isLet=true) (h0:w.data.toList≠[]):Yt w.data.toList [(1,w)]:=fun Y U hY hU=>by
 have:=Xs hw h0 hY hU
 rw [ofL_dl] at this
 exact this
theorem pft_num {s:ByteArray} (h:NumT s):Yt s.data.toList [(2,s)]:=fun Y U hY hU=>by
 obtain ⟨c,r,e,h1,h2⟩:=h
 have hall:(c::r).all inNum=true:=by
  rw [List.all_cons,Bool.and_eq_true]
  exact ⟨by rw [inNum,h1];rfl,List.all_eq_true.2 h2⟩
 have hsp:spanF inNum (c::(r++Y))=(c::r).length:=by
  rw [←List.cons_append,Vs (c::r) Y (fun d hd=>(hY d hd).2),Vq _ hall]
 have:=scs_num5 (L:=r++Y) (T:=U) h1 (by rw [hsp,←List.cons_append,List.drop_left];exact hU)
 rw [hsp,←List.cons_append,List.take_left,←e,ofL_dl] at this
 exact this
theorem unq_quo:∀(l Y:List UInt8) (i:Nat) (acc:List UInt8),unqF (l.flatMap quoB++34::Y) i acc=some (acc++l,i+(l.flatMap quoB).length+1)
 | [],Y,i,acc=>by
  have:unqF (34::Y) i acc=some (acc,i+1):=by cases Y<;>simp [unqF]
  simpa using this
 | c::l,Y,i,acc=>by
  rw [List.flatMap_cons,List.append_assoc,List.length_append]
  by_cases h1:c=34∨c=92
  ·have e:quoB c=[92,c]:=by unfold quoB;rw [if_pos (by simpa using h1)]
   rw [e]
   show unqF (92::c::(l.flatMap quoB++34::Y)) i acc=_
   rw [unqF,if_neg (by decide),if_pos (by decide),if_pos (by simpa using h1),unq_quo l Y (i+2) (acc++[c])]
   simp;omega
  ·by_cases h2:c=10
   ·have e:quoB c=[92,110]:=by subst h2;rfl
    rw [e,h2]
    show unqF (92::110::(l.flatMap quoB++34::Y)) i acc=_
    rw [unqF,if_neg (by decide),if_pos (by decide),if_neg (by decide),if_pos (by decide),unq_quo l Y (i+2) (acc++[10])]
    simp;omega
   ·have e:quoB c=[c]:=by unfold quoB;rw [if_neg (by simpa using h1),if_neg (by simpa using h2)]
    rw [e,List.singleton_append]
    have h34:c≠34:=fun h=>h1 (.inl h)
    have h92:c≠92:=fun h=>h1 (.inr h)
    have hc:∀r,unqF (c::r) i acc=unqF r (i+1) (acc++[c]):=fun r=>by
     cases r with
     | nil=>simp [unqF,h34]
     | cons d r=>rw [unqF,if_neg (by simpa using h34),if_neg (by simpa using h92)]
    rw [hc,unq_quo l Y (i+1) (acc++[c])]
    simp;omega
theorem pft_str (s:ByteArray):Yt (quoF s).data.toList [(3,s)]:=fun Y U hY hU=>by
 have e:(quoF s).data.toList=34::(s.data.toList.flatMap quoB++[34]):=by unfold quoF;rw [YH]
 have hu:=unq_quo s.data.toList Y 1 []
 have hd:(34::(s.data.toList.flatMap quoB++34::Y)).drop (1+(s.data.toList.flatMap quoB).length+1)=Y:=by
  have e2:34::(s.data.toList.flatMap quoB++34::Y)=(34::(s.data.toList.flatMap quoB++[34]))++Y:=by simp
  rw [e2,show 1+(s.data.toList.flatMap quoB).length+1=(34::(s.data.toList.flatMap quoB++[34])).length by simp;omega,List.drop_left]
 have:=scs_str5 (L:=s.data.toList.flatMap quoB++34::Y) (T:=U) hu (by omega) (by rw [hd];exact hU)
 rw [List.nil_append,ofL_dl] at this
 rw [e,show (34::(s.data.toList.flatMap quoB++[34]))++Y=34::(s.data.toList.flatMap quoB++34::Y) by simp]
 exact this
theorem dec_digits:∀(k u:Nat),u<k→(∀x ∈ Lib.decDigits u,isDgt x=true)∧Lib.decDigits u≠[]∧((Lib.decDigits u).head? = some 48→u=0)
 | 0,u,h=>by omega
 | k+1,u,h=>by
  have dig:∀v,v<10→isDgt (UInt8.ofNat (48+v))=true:=by decide
  rw [Lib.decDigits]
  split
  ·rename_i h10
   refine ⟨fun x hx=>?_,by simp,fun hh=>?_⟩
   ·rw [List.mem_singleton.1 hx];exact dig u h10
   ·rw [List.head?_cons] at hh
    have hv:∀v,v<10→UInt8.ofNat (48+v)=48→v=0:=by decide
    exact hv u h10 (Option.some.inj hh)
  ·rename_i h10
   obtain ⟨a1,a2,a3⟩:=dec_digits k (u / 10) (by omega)
   refine ⟨fun x hx=>?_,by simp,fun hh=>?_⟩
   ·rcases List.mem_append.1 hx with hx|hx
    ·exact a1 x hx
    ·rw [List.mem_singleton.1 hx];exact dig _ (Nat.mod_lt _ (by decide))
   ·have:(Lib.decDigits (u / 10)).head? = some 48:=by
     cases hl:Lib.decDigits (u / 10) with
     | nil=>exact absurd hl a2
     | cons c r=>rw [hl] at hh;exact hh
    have:=a3 this
    omega
theorem numL_snoc:∀(l:List UInt8) (a:Int) (c:UInt8),numL l a≤1073741824→numL (l++[c]) a=10 * numL l a+c.toNat - 48
 | [],a,c,h=>by
  have h:a≤1073741824:=h
  show (if a≤1073741824 then numL [] (10 * a+c.toNat - 48) else a)=_
  rw [if_pos h];rfl
 | d::l,a,c,h=>by
  rw [List.cons_append]
  rw [numL] at h ⊢
  split at h
  ·rename_i ha
   rw [if_pos ha,numL_snoc l _ c h,numL,if_pos ha]
  ·rename_i ha;exact absurd h ha
theorem numL_dec:∀(k u:Nat),u<k→u≤1073741824→numL (Lib.decDigits u) 0=u
 | 0,u,h,_=>by omega
 | k+1,u,h,hu=>by
  have dig:∀v,v<10→(UInt8.ofNat (48+v)).toNat=48+v:=by decide
  rw [Lib.decDigits]
  split
  ·rename_i h10
   show (if (0:Int)≤1073741824 then numL [] (10 * 0+((UInt8.ofNat (48+u)).toNat:Int) - 48) else 0)=_
   rw [if_pos (by decide),dig u h10]
   show (10 * 0+((48+u:Nat):Int) - 48)=u
   omega
  ·rename_i h10
   have ih:=numL_dec k (u / 10) (by omega) (by omega)
   rw [numL_snoc _ _ _ (by rw [ih];omega),ih,dig _ (Nat.mod_lt _ (by decide))]
   omega
theorem itoa_num {n:Int} (h0:0≤n) (h1:n≤1073741824):NumT (ofL (Lib.itoa n))∧badN (ofL (Lib.itoa n))=false∧numL (ofL (Lib.itoa n)).data.toList 0=n:=by
 obtain ⟨u,rfl⟩:∃u:Nat,n=(u:Int):=⟨n.toNat,by omega⟩
 have e:Lib.itoa (u:Int)=Lib.decDigits u:=by unfold Lib.itoa;rw [if_neg (by omega)];rfl
 obtain ⟨a1,a2,a3⟩:=dec_digits (u+1) u (by omega)
 rw [e]
 have en:=numL_dec (u+1) u (by omega) (by omega)
 refine ⟨?_,?_,by rw [YH];exact en⟩
 ·cases hl:Lib.decDigits u with
  | nil=>exact absurd hl a2
  | cons c r=>exact ⟨c,r,by rw [YH],a1 c (by rw [hl];exact .head _),fun x hx=>by rw [inNum,a1 x (by rw [hl];exact .tail _ hx)];rfl⟩
 ·unfold badN
  rw [YH,Zs]
  have hno:(Lib.decDigits u).contains 46=false:=by
   rw [Bool.eq_false_iff,ne_eq,List.contains_iff_mem]
   intro hh
   have:=a1 46 hh
   revert this;decide
  rw [hno,Bool.false_or,Bool.and_eq_false_iff]
  by_cases h48:(Lib.decDigits u).head? = some 48
  ·left
   have:=a3 h48
   subst this
   rw [show Lib.decDigits 0=[48] by rw [Lib.decDigits,dif_pos (by decide)];rfl]
   rfl
  ·right
   rw [beq_eq_false_iff_ne];exact h48
theorem tstd_of {w:ByteArray} {A:List St5} {c:Tr5} {m m':Mq} (e:tstM w m=(c,m')) (he:m.e=0) (he':m'.e=0) (ht:m'.tk=[]) (hA:sk5 m.tk=A):TstD w A c:=by
 obtain ⟨B,b1,b2,_⟩:=tst_loc (w:=w) he (by rw [e];exact he')
 rw [e] at b1 b2
 rw [ht,hA] at b1
 have b1:A=B++[]:=b1
 rw [List.append_nil] at b1
 rw [b1];exact b2
def RT5 (d:Cnd):Prop:=∃T,Yt (wrC d) T∧(aaQ d=false→∀k,dpC d≤k→∃c,DF5 k T c∧toC c=d)∧(anyQ d=false→∀k,dpC d≤k→∃c,DT5 k T c∧toC c=d)∧∀k,dpC d≤k→∃c,DC5 k T c∧toC c=d
theorem rt_T {d:Cnd} {T:List St5} (hq:anyQ d=false) (hq2:aaQ d=false→∀k,dpC d≤k→∃c,DF5 k T c∧toC c=d) (hp:Yt (wrC d) T) (h:∀k,dpC d≤k→∃c,DT5 k T c∧toC c=d):RT5 d:=by
 refine ⟨T,hp,hq2,fun _=>h,fun k hk=>?_⟩
 obtain ⟨c,c1,c2⟩:=h k hk
 refine ⟨_,dc_of5 c1,?_⟩
 rw [toC_or,toCs,toCs,c2]
 unfold eitherF
 rw [List.flatMap_cons,List.flatMap_nil,anyP_q hq];rfl
theorem rt_F {d:Cnd} {T:List St5} (hq:aaQ d=false) (hp:Yt (wrC d) T) (h:∀k,dpC d≤k→∃c,DF5 k T c∧toC c=d):RT5 d:=by
 refine rt_T (aaQ_no hq).1 (fun _=>h) hp (fun k hk=>?_)
 obtain ⟨c,c1,c2⟩:=h k hk
 refine ⟨_,dt_of5 c1,?_⟩
 rw [Wm,toCs,toCs,c2]
 unfold bothF
 rw [List.flatMap_cons,List.flatMap_nil,allP_q (aaQ_no hq).2];rfl
theorem VN {d:Cnd} {w:ByteArray} {A:List St5} {c:Tr5} (hw:isTst w=true) (ht:TstD w A c) (hc:toC c=d) (hq:aaQ d=false) (hp:Yt (wrC d) ((1,w)::A)):RT5 d:=
 rt_F hq hp fun _ _=>⟨c,.tst hw ht,hc⟩
theorem ws_all {ws:List ByteArray} (h:ws.all (fun w=>w.data.toList.all isLet && !w.data.toList.isEmpty)=true) {w:ByteArray} (hw:w ∈ ws):w.data.toList.all isLet=true∧w.data.toList≠[]:=by
 have:=List.all_eq_true.1 h w hw
 simp only [Bool.and_eq_true,Bool.not_eq_true',List.isEmpty_eq_false_iff] at this
 exact this
theorem spL (a b:ByteArray):(a++wSp++b).data.toList=a.data.toList++(32::b.data.toList):=by
 rw [W9,W9,List.append_assoc];rfl
theorem leaf_kd {w:ByteArray} {k:Int} (h:NfC (.kd w k)):RT5 (.kd w k):=by
 rw [NfC] at h
 obtain ⟨h1,rfl⟩:=h
 have hw:isTst w=true:=by unfold isTst;simp [h1]
 obtain ⟨l1,l2⟩:=ws_all (ws:=wKinds) (by decide) (Zg.1 h1)
 refine VN (w:=w) (A:=[]) (c:=.mk w [] eB eB 0) hw (fun m R he hs=>⟨m,by unfold tstM;rw [if_pos h1],he,rfl,hs⟩) (by rw [YF hw,if_pos h1]) rfl ?_
 rw [wrC];exact Yw l1 l2
theorem leaf_ch {w:ByteArray} {k:Int} (h:NfC (.ch w k)):RT5 (.ch w k):=by
 rw [NfC] at h
 obtain ⟨r,h1,rfl,rfl⟩:=h
 have hw:isTst wChan=true:=by decide
 obtain ⟨l1,l2⟩:=ws_all (ws:=wChs) (by decide) (Zg.1 (show idx r wChs<wChs.length from h1))
 refine VN (w:=wChan) (A:=[(1,r)]) (c:=.mk wChan [] r eB ((idx r wChs:Nat)+1)) hw (tstd_of (m:=⟨[⟨1,r,0⟩],0,0,0,0⟩) (m':=⟨[],0,0,0,0⟩) ?_ rfl rfl rfl rfl) ?_ rfl ?_
 ·unfold tstM
  rw [if_neg (by decide),if_pos rfl,if_pos (show (⟨[⟨1,r,0⟩],0,0,0,0⟩:Mq).has (fun t=>decide (t.kd=1) && decide (idx t.tx wChs<4))=true by show (decide ((1:Int)=1) && decide (idx r wChs<4))=true;simp [h1])]
  rfl
 ·rw [YF hw,if_neg (by decide),if_pos rfl]
 ·rw [wrC,spL]
  exact Yr (TA:=[(1,wChan)]) (Yw (by decide) (by decide)) (VB (Yw l1 l2)) stp_sp
theorem leaf_tx {w:ByteArray} {f k:Nat} {s:ByteArray} (h:NfC (.tx w f k s)):RT5 (.tx w f k s):=by
 rw [NfC] at h
 obtain ⟨o,r,h1,h2,rfl,rfl,rfl⟩:=h
 have hw:isTst o=true:=by unfold isTst;simp [h1]
 have hx1:¬idx o wKinds<3:=fun h=>(VV o (Zg.1 h)).2.1 h1
 have hx2:¬o=wChan:=fun h=>by rw [h] at h1;exact chan_x.1 h1
 obtain ⟨l1,l2⟩:=ws_all (ws:=wTxs) (by decide) (Zg.1 (show idx o wTxs<wTxs.length from h1))
 obtain ⟨l3,l4⟩:=ws_all (ws:=wCts) (by decide) (Zg.1 (show idx r wCts<wCts.length from h2))
 refine VN (w:=o) (A:=[(1,r),(3,s)]) (c:=.mk o [] r s 0) hw (tstd_of (m:=⟨[⟨1,r,0⟩,⟨3,s,0⟩],0,0,0,0⟩) (m':=⟨[],0,0,0,0⟩) ?_ rfl rfl rfl rfl) ?_ rfl ?_
 ·unfold tstM
  rw [if_neg hx1,if_neg hx2,if_pos h1,if_pos (show (⟨[⟨1,r,0⟩,⟨3,s,0⟩],0,0,0,0⟩:Mq).has (fun t=>decide (t.kd=1) && decide (idx t.tx wCts<3))=true by show (decide ((1:Int)=1) && decide (idx r wCts<3))=true;simp [h2])]
  rfl
 ·rw [YF hw,if_neg hx1,if_neg hx2,if_pos h1]
 ·rw [wrC,spL,spL,List.append_assoc]
  exact Yr (TA:=[(1,o)]) (Yw l1 l2) (VB (Yr (TA:=[(1,r)]) (Yw l3 l4) (VB (pft_str s)) stp_sp)) stp_sp
theorem leaf_nm {w:ByteArray} {f k:Nat} {n:Int} (h:NfC (.nm w f k n)):RT5 (.nm w f k n):=by
 rw [NfC] at h
 obtain ⟨o,r,h1,h2,rfl,rfl,h3,h4,rfl⟩:=h
 have hw:isTst o=true:=by unfold isTst;simp [h1]
 have hm:=Zg.1 (show idx o wNms<wNms.length from h1)
 obtain ⟨hx1,hx2,hx3,_⟩:=(show ∀w ∈ wNms,¬idx w wKinds<3∧w≠wChan∧¬idx w wTxs<3∧w.size≤10 by decide) o hm
 obtain ⟨l1,l2⟩:=ws_all (ws:=wNms) (by decide) hm
 obtain ⟨i1,i2,i3⟩:=itoa_num h3 h4
 have hr:∃c,isSym c=true∧r=ofL [c]:=by
  have:=Zg.1 (show idx r yCns<yCns.length from h2)
  simp only [yCns,List.mem_cons,List.not_mem_nil,or_false] at this
  rcases this with rfl|rfl|rfl
  ·exact ⟨61,by decide,rfl⟩
  ·exact ⟨60,by decide,rfl⟩
  ·exact ⟨62,by decide,rfl⟩
 refine VN (w:=o) (A:=[(4,r),(2,ofL (Lib.itoa n))]) (c:=.mk o [] r eB n) hw (tstd_of (m:=⟨[⟨4,r,0⟩,⟨2,ofL (Lib.itoa n),0⟩],0,0,0,0⟩) (m':=⟨[],0,0,0,0⟩) ?_ rfl rfl rfl rfl) ?_ rfl ?_
 ·have en:numM ⟨[⟨2,ofL (Lib.itoa n),0⟩],0,0,0,0⟩=(n,⟨[],0,0,0,0⟩):=by
   unfold numM
   rw [if_neg (by simp [Mq.has])]
   have hh:(⟨[⟨2,ofL (Lib.itoa n),0⟩],0,0,0,0⟩:Mq).hd=ofL (Lib.itoa n):=rfl
   rw [hh,i2,i3,if_neg (by decide),if_neg (by omega)]
   rfl
  unfold tstM
  rw [if_neg hx1,if_neg hx2,if_neg hx3,if_pos h1,if_pos (show (⟨[⟨4,r,0⟩,⟨2,ofL (Lib.itoa n),0⟩],0,0,0,0⟩:Mq).has (fun t=>decide (t.kd=4) && decide (idx t.tx yCns<3))=true by show (decide ((4:Int)=4) && decide (idx r yCns<3))=true;simp [h2])]
  show ((Tr5.mk o [] r eB (numM ⟨[⟨2,ofL (Lib.itoa n),0⟩],0,0,0,0⟩).1,(numM ⟨[⟨2,ofL (Lib.itoa n),0⟩],0,0,0,0⟩).2):Tr5×Mq)=_
  rw [en]
 ·rw [YF hw,if_neg hx1,if_neg hx2,if_neg hx3,if_pos h1]
 ·obtain ⟨c,hc,rfl⟩:=hr
  rw [wrC,spL,spL,List.append_assoc]
  have p2:Yt ((ofL [c]).data.toList++32::(ofL (Lib.itoa n)).data.toList) [(4,ofL [c]),(2,ofL (Lib.itoa n))]:=by
   rw [YH [c]]
   exact pft_sym hc (VB (pft_num i1))
  exact Yr (TA:=[(1,o)]) (Yw l1 l2) (VB p2) stp_sp
theorem leaf_by {w s:ByteArray} (h:NfC (.by_ w s)):RT5 (.by_ w s):=by
 rw [NfC] at h
 obtain ⟨rfl,h1,h2⟩:=h
 have hw:isTst wBy=true:=by decide
 refine VN (w:=wBy) (A:=[(2,s)]) (c:=.mk wBy [] eB s 0) hw (tstd_of (m:=⟨[⟨2,s,0⟩],0,0,0,0⟩) (m':=⟨[],0,0,0,0⟩) ?_ rfl rfl rfl rfl) ?_ rfl ?_
 ·unfold tstM
  rw [if_neg (by decide),if_neg (by decide),if_neg (by decide),if_neg (by decide)]
  have e:(⟨[⟨2,s,0⟩],0,0,0,0⟩:Mq).has (fun t=>decide (t.kd=2) && !lvalid t.tx.data.toList)=false:=by
   show (decide ((2:Int)=2) && !lvalid s.data.toList)=false
   rw [h1];rfl
  rw [e]
  rfl
 ·rw [YF hw,if_neg (by decide),if_neg (by decide),if_neg (by decide),if_neg (by decide)]
 ·rw [wrC,spL]
  exact Yr (TA:=[(1,wBy)]) (Yw (by decide) (by decide)) (VB (pft_num h2)) stp_sp
theorem pft_orr {b:List UInt8} {T:List St5} (h:Yt b T):Yt (sOr.data.toList++b) ((1,wOr)::T):=fun Y U hY hU=>by
 rw [List.append_assoc]
 exact orr_scs5 (h Y U hY hU)
theorem pft_and {b:List UInt8} {T:List St5} (h:Yt b T):Yt (sAnd.data.toList++b) ((1,wAnd)::T):=fun Y U hY hU=>by
 rw [List.append_assoc]
 exact Xa (c:=32) (by decide) (Xs (w:=[97,110,100]) (L:=32::(b++Y)) (by decide) (by decide) (stp5 (by decide)) (Xa (by decide) (h Y U hY hU)))
theorem pft_not {b:List UInt8} {T:List St5} (h:Yt b T):Yt (sNot.data.toList++b) ((1,wNot)::T):=fun Y U hY hU=>by
 rw [List.append_assoc]
 exact Xs (w:=[110,111,116]) (L:=32::(b++Y)) (by decide) (by decide) (stp5 (by decide)) (Xa (by decide) (h Y U hY hU))
theorem pft_par {b:List UInt8} {T:List St5} (h:Yt b T):Yt (40::(b++[41])) ((4,yOpn)::(T++[(4,yCls)])):=
 pft_sym (c:=40) (by decide) (Yr h (pft_sym (c:=41) (by decide) pft_nil) stp_cl)
theorem stp_wrL (sep:ByteArray) (hs:sep=sOr∨sep=sAnd) (par:Bool) (l:List Cnd) {i:Nat} (hi:1≤i):∀Y,Stp5 Y→Stp5 (wrL sep par l i++Y):=fun Y hY=>by
 cases l with
 | nil=>rw [wrL];exact hY
 | cons c l=>
  rw [wrL,if_neg (by omega)]
  rcases hs with rfl|rfl
  ·exact stp5 (c:=32) (by decide)
  ·exact stp5 (c:=32) (by decide)
theorem rt_or:∀(l:List Cnd) (i:Nat),1≤i→(∀x ∈ l,anyQ x=false∧RT5 x)→∃T,Yt (wrL sOr false l i) T∧∀k,dpL false l≤k→∃cs,DCL5 k T cs∧toCs cs=l
 | [],_,_,_=>⟨[],by rw [wrL];exact pft_nil,fun _ _=>⟨[],.nil,rfl⟩⟩
 | c::l,i,hi,h=>by
  obtain ⟨hq,T,hp,_,hT,_⟩:=h c (.head _)
  obtain ⟨U,p2,h2⟩:=rt_or l (i+1) (by omega) (fun x hx=>h x (.tail _ hx))
  refine ⟨(1,wOr)::(T++U),?_,fun k hk=>?_⟩
  ·rw [wrL,if_neg (by omega),Bool.false_and,if_neg (by decide),List.append_assoc]
   exact pft_orr (Yr hp p2 (stp_wrL _ (.inl rfl) _ _ (by omega)))
  ·rw [dpL,Nat.max_le,Bool.false_and,if_neg (by decide)] at hk
   obtain ⟨c',c1,c2⟩:=hT hq k hk.1
   obtain ⟨cs,d1,d2⟩:=h2 k hk.2
   exact ⟨c'::cs,.cons c1 d1,by rw [toCs,c2,d2]⟩
theorem rt_piece {c:Cnd} (hq:allQ c=false) (h:RT5 c):∃T,Yt (if (true && isAny c)=true then 40::(wrC c++[41]) else wrC c) T∧∀k,(if (true && anyQ c)=true then dpC c+1 else dpC c)≤k→∃c',DF5 k T c'∧toC c'=c:=by
 obtain ⟨T,hp,hF,_,hC⟩:=h
 rw [anyQ_is,Bool.true_and]
 by_cases ha:anyQ c=true
 ·rw [if_pos ha]
  refine ⟨(4,yOpn)::(T++[(4,yCls)]),pft_par hp,fun k hk=>?_⟩
  rw [if_pos ha] at hk
  obtain ⟨k,rfl⟩:∃j,k=j+1:=⟨k - 1,by omega⟩
  obtain ⟨c',c1,c2⟩:=hC k (by omega)
  exact ⟨c',.par c1,c2⟩
 ·rw [if_neg ha]
  refine ⟨T,hp,fun k hk=>?_⟩
  rw [if_neg ha] at hk
  have haa:aaQ c=false:=by
   cases c<;>first|rfl|exact absurd rfl ha|cases hq
  exact hF haa k hk
theorem rt_and:∀(l:List Cnd) (i:Nat),1≤i→(∀x ∈ l,allQ x=false∧RT5 x)→∃T,Yt (wrL sAnd true l i) T∧∀k,dpL true l≤k→∃cs,DTL5 k T cs∧toCs cs=l
 | [],_,_,_=>⟨[],by rw [wrL];exact pft_nil,fun _ _=>⟨[],.nil,rfl⟩⟩
 | c::l,i,hi,h=>by
  obtain ⟨hq,hr⟩:=h c (.head _)
  obtain ⟨T,hp,hT⟩:=rt_piece hq hr
  obtain ⟨U,p2,h2⟩:=rt_and l (i+1) (by omega) (fun x hx=>h x (.tail _ hx))
  refine ⟨(1,wAnd)::(T++U),?_,fun k hk=>?_⟩
  ·rw [wrL,if_neg (by omega),List.append_assoc]
   exact pft_and (Yr hp p2 (stp_wrL _ (.inr rfl) _ _ (by omega)))
  ·rw [dpL,Nat.max_le] at hk
   obtain ⟨c',c1,c2⟩:=hT k hk.1
   obtain ⟨cs,d1,d2⟩:=h2 k hk.2
   exact ⟨c'::cs,.cons c1 d1,by rw [toCs,c2,d2]⟩
theorem flat_any:∀l:List Cnd,(∀x ∈ l,anyQ x=false)→l.flatMap anyP=l
 | [],_=>rfl
 | c::l,h=>by rw [List.flatMap_cons,anyP_q (h c (.head _)),flat_any l (fun x hx=>h x (.tail _ hx))];rfl
theorem flat_all5:∀l:List Cnd,(∀x ∈ l,allQ x=false)→l.flatMap allP=l
 | [],_=>rfl
 | c::l,h=>by rw [List.flatMap_cons,allP_q (h c (.head _)),flat_all5 l (fun x hx=>h x (.tail _ hx))];rfl
theorem either_two {l:List Cnd} (h2:2≤l.length) (h:∀x ∈ l,anyQ x=false):eitherF l = .any l:=by
 unfold eitherF
 rw [flat_any l h]
 split
 ·rename_i c;simp at h2
 ·rfl
theorem both_two {l:List Cnd} (h2:2≤l.length) (h:∀x ∈ l,allQ x=false):bothF l = .all l:=by
 unfold bothF
 rw [flat_all5 l h]
 split
 ·rename_i c;simp at h2
 ·rfl
theorem rt_anyC {l:List Cnd} (h2:2≤l.length) (h:∀x ∈ l,anyQ x=false∧RT5 x):RT5 (.any l):=by
 cases l with
 | nil=>simp at h2
 | cons c r=>
  obtain ⟨hq,T,hp,_,hT,_⟩:=h c (.head _)
  obtain ⟨U,p2,h3⟩:=rt_or r 1 (Nat.le_refl _) (fun x hx=>h x (.tail _ hx))
  refine ⟨T++U,?_,fun ha=>(by cases ha),fun ha=>(by cases ha),fun k hk=>?_⟩
  ·rw [wrC,wrL,if_pos rfl,Bool.false_and,if_neg (by decide),List.nil_append]
   exact Yr hp p2 (stp_wrL _ (.inl rfl) _ _ (Nat.le_refl _))
  ·rw [dpC,dpL,Nat.max_le,Bool.false_and,if_neg (by decide)] at hk
   obtain ⟨c',c1,c2⟩:=hT hq k hk.1
   obtain ⟨cs,d1,d2⟩:=h3 k hk.2
   refine ⟨_,.mk c1 d1,?_⟩
   rw [toC_or,toCs,c2,d2,either_two h2 (fun x hx=>(h x hx).1)]
theorem rt_allC {l:List Cnd} (h2:2≤l.length) (h:∀x ∈ l,allQ x=false∧RT5 x):RT5 (.all l):=by
 cases l with
 | nil=>simp at h2
 | cons c r=>
  obtain ⟨hq,hr⟩:=h c (.head _)
  obtain ⟨T,hp,hT⟩:=rt_piece hq hr
  obtain ⟨U,p2,h3⟩:=rt_and r 1 (Nat.le_refl _) (fun x hx=>h x (.tail _ hx))
  refine rt_T (T:=T++U) rfl (fun ha=>by cases ha) ?_ (fun k hk=>?_)
  ·rw [wrC,wrL,if_pos rfl,List.nil_append]
   exact Yr hp p2 (stp_wrL _ (.inr rfl) _ _ (Nat.le_refl _))
  ·rw [dpC,dpL,Nat.max_le] at hk
   obtain ⟨c',c1,c2⟩:=hT k hk.1
   obtain ⟨cs,d1,d2⟩:=h3 k hk.2
   refine ⟨_,.mk c1 d1,?_⟩
   rw [Wm,toCs,c2,d2,both_two h2 (fun x hx=>(h x hx).1)]
theorem rt_ntC {d:Cnd} (h:RT5 d):RT5 (.nt d):=by
 obtain ⟨T,hp,hF,_,hC⟩:=h
 by_cases ha:aaQ d=true
 ·refine rt_F (T:=(1,wNot)::(4,yOpn)::(T++[(4,yCls)])) rfl ?_ (fun k hk=>?_)
  ·rw [wrC,aaQ_is,if_pos ha]
   exact pft_not (pft_par hp)
  ·rw [dpC,if_pos ha] at hk
   obtain ⟨k,rfl⟩:∃j,k=j+1:=⟨k - 1,by omega⟩
   obtain ⟨c',c1,c2⟩:=hC k (by omega)
   exact ⟨_,.not (.par c1),by rw [Wc,c2]⟩
 ·have ha:aaQ d=false:=by simpa using ha
  refine rt_F (T:=(1,wNot)::T) rfl ?_ (fun k hk=>?_)
  ·rw [wrC,aaQ_is,if_neg (by rw [ha];decide)]
   exact pft_not hp
  ·rw [dpC,if_neg (by rw [ha];decide)] at hk
   obtain ⟨c',c1,c2⟩:=hF ha k hk
   exact ⟨_,.not c1,by rw [Wc,c2]⟩
mutual
theorem rt_c:∀d:Cnd,NfC d→RT5 d
 | .any l,h=>by
  rw [NfC] at h
  exact rt_anyC h.1 (fun x hx=>⟨by simpa using ((WA false l).1 h.2 x hx).1,rt_l l false h.2 x hx⟩)
 | .all l,h=>by
  rw [NfC] at h
  exact rt_allC h.1 (fun x hx=>⟨by simpa using ((WA true l).1 h.2 x hx).1,rt_l l true h.2 x hx⟩)
 | .nt d,h=>by rw [NfC] at h;exact rt_ntC (rt_c d h)
 | .nul,h=>by rw [NfC] at h;exact absurd h id
 | .kd _ _,h=>leaf_kd h
 | .ch _ _,h=>leaf_ch h
 | .tx _ _ _ _,h=>leaf_tx h
 | .nm _ _ _ _,h=>leaf_nm h
 | .by_ _ _,h=>leaf_by h
theorem rt_l:∀(l:List Cnd) (b:Bool),NfL b l→∀x ∈ l,RT5 x
 | [],_,_=>fun x hx=>by cases hx
 | c::l,b,h=>fun x hx=>by
  rw [NfL] at h
  rcases List.mem_cons.1 hx with hx|hx
  ·exact hx ▸ rt_c c h.2.1
  ·exact rt_l l b h.2.2 x hx
end
variable {L L':List (Nat×Nat)} {Tl:List Nat} {i d:Nat} {t ty0:TypeId} {x y:Operand} {pos:String} {aft:Array Edge} {gd:Option (Nat×Bool)}
section
variable {γ:Type}
def RQG (q:LR) (l:Nat) (G:H) (w0:World) (hp0:H) (Ft:γ→Pf) (Jt Jx:γ→HP):Exit→Act→World→Prop:=
 roundPost prog l fun e w'=>∃(b:Bool) (g:γ),e = .returned (.bool b)∧Sat G w0 hp0 (if b then [Ft g] else []) [if b then both (Pt l (.loop (rcd q .ready none))) (Jt g) else both (Pt l (.loop (rcd q .done (some .ret)))) (Jx g)] w'
theorem k_rnG {q:LR} {l:Nat} {r:Option Nat} {G:H} {w0:World} {hp0:H} {ds:List Deferred} {Ft:γ→Pf} {Jt Jx:γ→HP} (g:γ) (hs:Sels [Pt l (.loop (rcd q .busy none)),Jt g] R R0:=by (repeat (first|exact Sels.nil|exact Sel.here|apply Sel.there|apply Sels.cons));first|done|fail) (hF:EntF F [Ft g]:=by (repeat (first|exact trivial|exact Sel.here|apply Sel.there|apply EntF.cons));first|done|fail) (h:nf 1000 k=[]:=by rfl) :
  Wk n ⟨r,G,w0,hp0,ds⟩ k (RQG q l G w0 hp0 Ft Jt Jx) E F R:=fun a w ha hsat=>Yp 1000 k (by
 rw [h]
 have h1:=hsat.sels hs
 refine ⟨_,_,run_endRound none (h1.pt Sel.here),true,g,rfl,?_⟩
 have h2:=Z6 (o':=.loop (rcd q .ready none)) h1
 exact ((h2.shut (x:=both _ _) fun _ hh=>hh).facts (F':=[Ft g]) hF.all).res fun _ hh=>YW (A:=[_]) hh)
theorem k_rrG {q:LR} {l:Nat} {r:Option Nat} {G:H} {w0:World} {hp0:H} {ds:List Deferred} {Ft:γ→Pf} {Jt Jx:γ→HP} (g:γ) (hs:Sels [Pt l (.loop (rcd q .busy none)),Jx g] R R0:=by (repeat (first|exact Sels.nil|exact Sel.here|apply Sel.there|apply Sels.cons));first|done|fail) (h:nf 1000 k = .c .ret::k':=by rfl) (hn:noR k'=true:=by rfl) :
  Wk n ⟨r,G,w0,hp0,ds⟩ k (RQG q l G w0 hp0 Ft Jt Jx) E F R:=Zv (fun a w ha hsat=>by
 have h1:=hsat.sels hs
 refine ⟨_,_,run_endRound (some .ret) (h1.pt Sel.here),false,g,rfl,?_⟩
 have h2:=Z6 (o':=.loop (rcd q .done (some .ret))) h1
 exact ((h2.shut (x:=both _ _) fun _ hh=>hh).facts (F':=[]) (fun _ _ _ hx=>by cases hx)).res fun _ hh=>YW (A:=[_]) hh) h hn
def YPostG {α:Type} (FI:List α→γ→Pf) (I Ix:List α→γ→HP) (pre:List α) (e:α):Post:=⟨Bool×γ,fun b=>.bool b.1,fun _=>True,fun b=>if b.1 then [FI (pre++[e]) b.2] else [],fun b=>[if b.1 then I (pre++[e]) b.2 else Ix (pre++[e]) b.2]⟩
theorem yield_okG {α:Type} {FJ:List α→γ→Pf} {enc:α→Value} {q:LR} {l p:Nat} {J Jx:List α→γ→HP} {pre:List α} {gz:γ} {e:α} (hps:q.ps = #[p]) (hpn:p<n) (hag:∀a:Act,a.tmps=q.tmps→a.defers=[]→Agree n [] (look E) a)
  (hbody:∀G w0 hp0,Wk n ⟨some l,G,w0,hp0,[]⟩ [.c q.assign,.r l,.c q.body] (RQG q l G w0 hp0 (FJ (pre++[e])) (J (pre++[e])) (Jx (pre++[e]))) ((p,enc e)::E) (FJ pre gz::F) [Pt l (.loop (rcd q .ready none)),J pre gz]) :
  SpecV (.func (.yield l) #[] #[]) [enc e] [⟨fun h=>∀f ∈ F,f.p h,fun _ _ s h f hf=>f.m _ _ s (h f hf)⟩,FJ pre gz] [both (Pt l (.loop (rcd q .ready none))) (J pre gz)]
   (YPostG FJ (fun pre g=>both (Pt l (.loop (rcd q .ready none))) (J pre g)) (fun pre g=>both (Pt l (.loop (rcd q .done (some .ret)))) (Jx pre g)) pre e):=by
 intro G w hp hsat
 have h1:Sat G w hp (FJ pre gz::F) [both (Pt l (.loop (rcd q .ready none))) (J pre gz)] w:=hsat.facts fun hp hF f hf=>by
  rcases List.mem_cons.1 hf with rfl|hf
  ·exact hF _ (.tail _ (.head _))
  ·exact hF _ (List.mem_cons_self ..) f hf
 obtain ⟨_,h2⟩:=h1.open' (X:=Unit) (L:=fun _=>[Pt l (.loop (rcd q .ready none)),J pre gz]) fun _ hh=>⟨(),hh⟩
 have hl:=h2.pt Sel.here
 unfold CallsV OpRes
 have hy:=run_yield (P:=prog) (args:=#[enc e]) hl (by simp [rcd,hps])
 have hi:(invoke (.fn (.yield l) #[]) (#[]++[enc e].toArray)).run prog w=(Instr.yield l #[enc e]).run prog w:=by simp [invoke]
 simp only [hi,hy]
 refine roundIn_of_wpIn trivial ?_
 have ha:Agree n [] (look ((p,enc e)::E)) ({tmps:=((rcd q .ready none).params.zip #[enc e]).foldl (fun tmps (x:Tmp×Value)=>tmps.setIfInBounds x.1 x.2) (rcd q .ready none).tmps,defers:=[]}:Act):=by
  have:=(hag ⟨q.tmps,[]⟩ rfl rfl).put (d:=some p) (fun t ht=>by cases ht;exact hpn) (enc e)
  rw [Xj]
  simpa [rcd,hps,Act.put] using this
 have hb:=hbody G w hp _ w ha h2
 refine wpIn_mono (show q.assign.wpIn (fz (some l)) 0 prog (after (some l) [.r l,.c q.body] (RQG q l G w hp (FJ (pre++[e])) (J (pre++[e])) (Jx (pre++[e])))) _ w from hb) ?_
 rintro ex a1 w1 hx
 cases ex with
 | normal=>
  obtain ⟨w2,g1,g2⟩:=hx
  refine ⟨w2,g1,?_⟩
  have g3:q.body.wpIn (fz (some l)) 0 prog (after (some l) [] (RQG q l G w hp (FJ (pre++[e])) (J (pre++[e])) (Jx (pre++[e])))) a1 w2:=g2
  rw [after_nil] at g3
  refine wpIn_mono g3 (WM ?_)
  rintro e' w' ⟨b,g,rfl,hs'⟩
  exact ⟨(b,g),rfl,trivial,hs'⟩
 | _=>exact hx.elim
def IterG {α:Type} (gf:FuncId) (lb:List Value) (enc:α→Value) (xs:List α) (Fg:List Pf) (A:List HP):Prop:=
 ∀(γ:Type) (v:Value) (Y:Pf) (FI:List α→γ→Pf) (I Ix:List α→γ→HP) (g0:γ),(∀pre g e,pre++[e] <+: xs→SpecV v [enc e] [Y,FI pre g] [I pre g] (YPostG FI I Ix pre e))→
  Enters gf∧Spec prog gf (v::lb).toArray (Y::FI [] g0::Fg) (I [] g0::A) ⟨Option (List α)×γ,fun _=>.tuple #[],fun r=>∀pre,r.1=some pre→pre <+: xs,fun r=>(match r.1 with|none=>[FI xs r.2]|some _=>[]),fun r=>[match r.1 with|none=>I xs r.2|some pre=>Ix pre r.2]⟩
theorem k_rangeG {α:Type} {g:Operand} {p:Nat} {assign body:Code} {gf:FuncId} {lb:Array Value} {enc:α→Value} {xs:List α} {Fg:List Pf} {G:H} {w0:World} {hp0:H} {ds:List Deferred} (FJ:List α→γ→Pf) (J Jx:List α→γ→HP) (g0:γ) (hit:IterG gf lb.toList enc xs Fg A)
  (hbody:∀(q:LR) (l:Nat) (pre:List α) (gz:γ) (e:α),pre++[e] <+: xs→∀G w0 hp0,Wk n ⟨some l,G,w0,hp0,[]⟩ [.c assign,.r l,.c body] (RQG q l G w0 hp0 (FJ (pre++[e])) (J (pre++[e])) (Jx (pre++[e]))) ((p,enc e)::E) (FJ pre gz::F) [Pt l (.loop (rcd q .ready none)),J pre gz])
  (hdone:∀D g,Wk n ⟨none,G,w0,hp0,{target:=.collected D,args:=#[]}::ds⟩ k' Q E (FJ xs g::F) (J xs g::Pt D (.deferred (some []))::R'))
  (hstop:∀D pre g,pre <+: xs→Wret n ⟨none,G,w0,hp0,{target:=.collected D,args:=#[]}::ds⟩ Q E F (Jx pre g::Pt D (.deferred (some []))::R'))
  (h:nf 1000 k = .c (.rangeFunc g #[p] assign body)::k':=by rfl) (hg:ev E g=some (.func (.func gf) #[] lb):=by rfl) (hpn:Nat.blt p n=true:=by rfl) (hnr:noR k'=true:=by rfl)
  (sel:Sels (J [] g0::A) R R':=by (repeat (first|exact Sels.nil|exact Sel.here|apply Sel.there|apply Sels.cons));first|done|fail) (hF0:EntF F [FJ [] g0]:=by (repeat (first|exact trivial|exact Sel.here|apply Sel.there|apply EntF.cons));first|done|fail) (hFg:EntF F Fg:=by (repeat (first|exact trivial|exact Sel.here|apply Sel.there|apply EntF.cons));first|done|fail):Wk n ⟨none,G,w0,hp0,ds⟩ k Q E F R:=fun a w ha hs=>Yp 1000 k (by
 rw [h]
 show (Code.rangeFunc g #[p] assign body).wpIn (fz none) 0 prog (after none k' Q) a w
 refine wpIn_rangeFunc fun fn hfn=>?_
 let q:LR:=⟨fn,a.tmps,#[p],assign,body,w.heap.size⟩
 let lo:Obj:=.loop (rcd q .ready none)
 have hs1:Sat G w0 hp0 F (Pt (w.heap.size+1) lo::Pt w.heap.size (.deferred (some []))::J [] g0::(A++R')) ((w.alloc (.deferred (some []))).alloc lo):=by
  have:=((hs.sels sel).alloc (.deferred (some []))).alloc lo
  simpa using this
 have hs2:Sat G w0 hp0 F (both (Pt (w.heap.size+1) lo) (J [] g0)::Pt w.heap.size (.deferred (some []))::(A++R')) ((w.alloc (.deferred (some []))).alloc lo):=
  (hs1.sels (A:=[Pt (w.heap.size+1) lo,J [] g0]) (.cons .here (.cons (.there .here) .nil))).shut (x:=both _ _) fun _ hh=>hh
 have hy:∀pre g e,pre++[e] <+: xs→SpecV (.func (.yield (w.heap.size+1)) #[] #[]) [enc e] _ _ _:=fun pre g e hpre=>
  yield_okG (n:=n) (E:=E) (F:=F) (enc:=enc) (q:=q) (l:=w.heap.size+1) (p:=p) (FJ:=FJ) (J:=J) (Jx:=Jx) (pre:=pre) (gz:=g) (e:=e) rfl (Nat.le_of_ble_eq_true hpn)
   (fun b hb hd=>⟨by rw [hb];exact ha.size,hd,fun t v hv=>by rw [hb];exact ha.slots t v hv⟩) (fun G w0 hp0=>hbody q _ pre g e hpre G w0 hp0)
 obtain ⟨eg,hsp⟩:=hit _ _ _ _ _ _ g0 hy
 have hev:=ha.ev (x:=g) (by rw [ZS];exact hg)
 refine ⟨w.heap.size+1,[{target:=.collected w.heap.size,args:=#[]}],(w.alloc (.deferred (some []))).alloc lo,{target:=.fn (.func gf) lb,args:=#[.func (.yield (w.heap.size+1)) #[] #[]]},(w.alloc (.deferred (some []))).alloc lo,gf,#[.func (.yield (w.heap.size+1)) #[] #[]]++lb,(w.alloc (.deferred (some []))).alloc lo,run_enterLoop_outer _ _ _ _ _,?_,fun _ _=>trivial,?_,(fun hx=>by cases hx),?_⟩
 ·simp only [resolve,hev]
  simp [go_sem,Deferred.ofValue,Act.eval]
 ·simp only [invoke]
  exact eg _ _
 ·have e1 : #[Value.func (.yield (w.heap.size+1)) #[] #[]]++lb=(Value.func (.yield (w.heap.size+1)) #[] #[]::lb.toList).toArray:=by rw [←Array.toList_inj];simp
  rw [e1]
  refine W2 (Xn hsp hs2 (.cons .here (VO A _ R')) (fun hp hF f hf=>?_) fun r w' hr hs3=>?_)
  ·rcases List.mem_cons.1 hf with rfl|hf
   ·exact hF
   ·rcases List.mem_cons.1 hf with rfl|hf
    ·exact hF0.all hp hF _ (.head _)
    ·exact hFg.all hp hF f hf
  ·have hds:({a with defers:=[{target:=.collected w.heap.size,args:=#[]}]++a.defers}:Act).defers={target:=.collected w.heap.size,args:=#[]}::ds:=by simp [ha.defers]
   have ha':Agree n ({target:=.collected w.heap.size,args:=#[]}::ds) (look E) {a with defers:=[{target:=.collected w.heap.size,args:=#[]}]++a.defers}:=⟨ha.size,hds,ha.slots⟩
   obtain ⟨r,gr⟩:=r
   cases r with
   | none=>
    obtain ⟨_,h4⟩:=(show Sat G w0 hp0 (FJ xs gr::F) (both (Pt (w.heap.size+1) lo) (J xs gr)::Pt w.heap.size (.deferred (some []))::R') w' from hs3).open' (X:=Unit) (L:=fun _=>[Pt (w.heap.size+1) lo,J xs gr]) fun _ hh=>⟨(),hh⟩
    refine ⟨none,_,run_endLoop (h4.pt Sel.here) (by simp [rcd]),?_⟩
    have h5:=Z6 (o':=.loop (rcd q .exhausted none)) h4
    exact hdone w.heap.size gr _ _ ha' (h5.res fun _ hh=>WR hh)
   | some pre=>
    obtain ⟨_,h4⟩:=(show Sat G w0 hp0 F (both (Pt (w.heap.size+1) (.loop (rcd q .done (some .ret)))) (Jx pre gr)::Pt w.heap.size (.deferred (some []))::R') w' from hs3).open' (X:=Unit) (L:=fun _=>[Pt (w.heap.size+1) (.loop (rcd q .done (some .ret))),Jx pre gr]) fun _ hh=>⟨(),hh⟩
    refine ⟨some .ret,_,run_endLoop (h4.pt Sel.here) (by simp [rcd]),?_⟩
    have h5:=Z6 (o':=.loop (rcd q .exhausted (some .ret))) h4
    refine wpIn_ret ?_
    rw [XH hnr]
    exact hstop w.heap.size pre gr (hr pre rfl) _ _ ha' (h5.res fun _ hh=>WR hh))
end
def nlS:ByteArray:=⟨#[10]⟩
theorem Vy:∀(l:List UInt8),spanF (fun x=>!(x == 10)) l=l.length→linesF l=[l]
 | [],_=>rfl
 | c::r,h=>by
  by_cases hc:c=10
  ·subst hc;simp [spanF] at h
  ·have e:spanF (fun x=>!(x == 10)) (c::r)=spanF (fun x=>!(x == 10)) r+1:=by simp [spanF,hc]
   rw [linesF,if_neg (by simpa using hc),Vy r (by rw [e] at h;simpa using h)]
theorem W3:∀(l:List UInt8),spanF (fun x=>!(x == 10)) l<l.length→linesF l=l.take (spanF (fun x=>!(x == 10)) l)::linesF (l.drop (spanF (fun x=>!(x == 10)) l+1))
 | [],h=>by simp at h
 | c::r,h=>by
  by_cases hc:c=10
  ·subst hc
   have e:spanF (fun x=>!(x == 10)) ((10:UInt8)::r)=0:=by simp [spanF]
   rw [e,linesF];simp
  ·have e:spanF (fun x=>!(x == 10)) (c::r)=spanF (fun x=>!(x == 10)) r+1:=by simp [spanF,hc]
   rw [e] at h ⊢
   rw [linesF,if_neg (by simpa using hc),W3 r (by simpa using h)]
   simp
theorem sIndex_ok (s:ByteArray) (c:UInt8):Enters 82∧Spec prog 82 #[.string s,.string ⟨#[c]⟩] [] [] (RetV (.int .i64 (Lib.indexByte s.data.toList c))):=by
 have n1:=index1_ok s c
 generalize Lib.indexByte s.data.toList c=z at *
 refine ZR [_,_] func82 ntmps82 fun G w hp=>?_
 repeat' (first|refine ZF ?_|refine ZI ?_|refine ZG ?_|refine ZH ?_|refine ZL ?_|refine ZJ ?_|refine ZN ?_|refine ZK (fun b=>?_)|refine ZM (fun b=>?_)|refine ZC ?_|refine ZA ?_|refine ZO ?_|refine ZD (n1) (fun _ _=>?_)|refine l_call0 (n1) (fun _ _=>?_)|(refine ZB (fun hc=>?_) (fun hc=>?_)<;>(try simp at hc))|(refine ZE (fun hc=>?_) (fun hc=>?_)<;>(try simp at hc)))
 exact ZP () rfl trivial
abbrev spl (b1 b2 b3:Nat):List Value:=[pv0 b1,pv0 b2,pv0 b3]
abbrev SpR (b1 b2 b3:Nat) (L:List UInt8):List HP:=[Pt b1 (.cells #[.string nlS] 9),Pt b2 (.cells #[.string (ofL L)] 9),Pt b3 (.cells #[.int .i64 0] 3)]
theorem splitSeq_ok (L:List UInt8):Enters 44∧Spec prog 44 #[.string (ofL L),.string nlS] [] [] ⟨Nat×Nat×Nat,fun q=>.func (.func 94) #[] #[pv0 q.1,pv0 q.2.1,pv0 q.2.2],fun _=>True,fun _=>[],fun q=>SpR q.1 q.2.1 q.2.2 L⟩:=by
 have n1:Enters 68∧Spec prog 68 #[.string (ofL L),.string nlS,.int .i64 0] [] [] ⟨Nat×Nat×Nat,fun q=>.func (.func 94) #[] #[pv0 q.1,pv0 q.2.1,pv0 q.2.2],fun _=>True,fun _=>[],fun q=>SpR q.1 q.2.1 q.2.2 L⟩:=by
  refine ZR [_,_,_] func68 ntmps68 fun G w hp=>?_
  repeat' (first|refine ZF ?_|refine ZI ?_|refine ZG ?_|refine ZH ?_|refine ZL ?_|refine ZJ ?_|refine ZN ?_|refine ZK (fun b=>?_)|refine ZM (fun b=>?_)|refine ZC ?_|refine ZA ?_|refine ZO ?_|(refine ZB (fun hc=>?_) (fun hc=>?_)<;>(try simp at hc))|(refine ZE (fun hc=>?_) (fun hc=>?_)<;>(try simp at hc)))
  rename_i b1 b2
  exact ZP (b2,b1,b) rfl trivial
 refine ZR [_,_] func44 ntmps44 fun G w hp=>?_
 repeat' (first|refine ZF ?_|refine ZI ?_|refine ZG ?_|refine ZH ?_|refine ZL ?_|refine ZJ ?_|refine ZN ?_|refine ZK (fun b=>?_)|refine ZM (fun b=>?_)|refine ZC ?_|refine ZA ?_|refine ZO ?_|refine ZD (n1) (fun _ _=>?_)|refine l_call0 (n1) (fun _ _=>?_)|(refine ZB (fun hc=>?_) (fun hc=>?_)<;>(try simp at hc))|(refine ZE (fun hc=>?_) (fun hc=>?_)<;>(try simp at hc)))
 rename_i q _
 exact ZP q rfl trivial
set_option maxHeartbeats 4000000 in
theorem split_iter (b1 b2 b3:Nat) (L:List UInt8) (hL:L.length≤1000000):IterG 94 (spl b1 b2 b3) (fun l=>.string (ofL l)) (linesF L) [] (SpR b1 b2 b3 L):=by
 intro γ v Y FI I Ix g0 hy
 obtain ⟨XS,hXS⟩:∃XS,linesF L=XS:=⟨_,rfl⟩
 rw [hXS] at hy ⊢
 have sz1:(((nlS).size:Nat):Int)=1:=rfl
 generalize b1=c1,b2=c2,b3=c3 at *
 show Enters 94∧Spec prog 94 #[v,pv0 c1,pv0 c2,pv0 c3] _ _ _
 refine ZR [_,_,_,_] func94 ntmps94 fun G w hp=>?_
 repeat' (first|refine ZF ?_|refine ZI ?_|refine ZG ?_|refine ZH ?_|refine ZL ?_|refine ZJ ?_|refine ZN ?_|refine ZK (fun b=>?_)|refine ZM (fun b=>?_)|refine ZC ?_|refine ZA ?_|(refine ZB (fun hc=>?_) (fun hc=>?_)<;>(try simp at hc)<;>(try omega))|(refine ZE (fun hc=>?_) (fun hc=>?_)<;>(try simp at hc)<;>(try omega)))
 refine YK (X:={q:List (List UInt8)×List UInt8×γ // q.1++linesF q.2.1=XS∧q.2.1.length≤1000000}) (fun _=>[(0,v),(1,pv0 c1),(2,pv0 c2),(3,pv0 c3)]) (fun q=>[Y,FI q.1.1 q.1.2.2]) (fun q=>I q.1.1 q.1.2.2::SpR c1 c2 c3 q.1.2.1) (fun q=>q.1.2.1.length) ⟨([],L,g0),hXS,hL⟩ ⟨rfl,rfl,rfl,rfl,trivial⟩ ?_
 rintro ⟨⟨pre,l,gz⟩,hp,hl⟩
 dsimp only at hp hl ⊢
 have n1:=sIndex_ok (ofL l) 10
 rw [YH,VP] at n1
 have hm:=YB (fun x=>!(x == 10)) l
 have hone:=Vy l
 have hmore:=W3 l
 have hsz:=Zs l
 have hll:=YH l
 generalize spanF (fun x=>!(x == 10)) l=m at *
 by_cases c:m=l.length
 ·rw [if_pos c] at n1
  have e:=hone c
  rw [e] at hp
  have y1:=hy pre gz l (by rw [hp];exact List.prefix_rfl)
  repeat' (first|refine ZF ?_|refine ZI ?_|refine ZG ?_|refine ZH ?_|refine ZL ?_|refine ZJ ?_|refine ZN ?_|refine ZK (fun b=>?_)|refine ZM (fun b=>?_)|refine ZC ?_|refine ZA ?_|refine ZO ?_|refine ZD (n1) (fun _ _=>?_)|refine l_call0 (n1) (fun _ _=>?_)|refine XE y1 (fun _ _=>?_)|(refine ZB (fun hc=>?_) (fun hc=>?_)<;>(try simp at hc)<;>(try omega))|(refine ZE (fun hc=>?_) (fun hc=>?_)<;>(try simp at hc)<;>(try omega)))
  rename_i b _
  obtain ⟨b,gy⟩:=b
  subst hp
  cases b with
  | true=>exact YR (none,gy) rfl (fun _ h=>by cases h)
  | false=>exact YR (some (pre++[l]),gy) rfl (fun _ h=>by cases h;exact List.prefix_rfl)
 ·rw [if_neg c] at n1
  have hlt:m<l.length:=by omega
  have e:=hmore hlt
  rw [e] at hp
  have hp2:pre++[l.take m]++linesF (l.drop (m+1))=XS:=by rw [←hp];simp
  have y1:=hy pre gz (l.take m) (by rw [←hp2];exact List.prefix_append _ _)
  have w1:=wrapi (z:=(m:Int)+0) (by omega) (by omega)
  have w2:=wrapi (z:=(m:Int)+1) (by omega) (by omega)
  repeat' (first|refine ZF ?_|refine ZI ?_|refine ZG ?_|refine ZH ?_|refine ZL ?_|refine ZJ ?_|refine ZN ?_|refine ZK (fun b=>?_)|refine ZM (fun b=>?_)|refine ZC ?_|refine ZA ?_|refine ZD (n1) (fun _ _=>?_)|refine l_call0 (n1) (fun _ _=>?_)|refine XE y1 (fun _ _=>?_)|rw [sz1]|rw [w1]|rw [w2]|refine l_sTo (s:=ofL l) (u:=ofL (l.take m)) m (by omega) (by rw [YH,YH]) ?_|refine YJ (s:=ofL l) (u:=ofL (l.drop (m+1))) (m+1) (by omega) (by rw [YH,YH]) ?_|(refine ZB (fun hc=>?_) (fun hc=>?_)<;>(try simp at hc)<;>(try omega))|(refine ZE (fun hc=>?_) (fun hc=>?_)<;>(try simp at hc)<;>(try omega)))
  all_goals rename_i b _
  all_goals obtain ⟨b,gy⟩:=b
  ·cases b with
   | true=>cases hc
   | false=>exact Zv (Zu (Zi (some (pre++[l.take m]),gy) rfl (fun _ h=>by cases h;rw [←hp2];exact List.prefix_append _ _)))
  ·cases b with
   | false=>cases hc
   | true=>exact ZV ⟨(pre++[l.take m],l.drop (m+1),gy),hp2,by show (l.drop (m+1)).length≤_;rw [List.length_drop];omega⟩ (by show (l.drop (m+1)).length<l.length;rw [List.length_drop];omega) ⟨rfl,rfl,rfl,rfl,trivial⟩
variable {z:Operand}
section
variable {b off:Nat} {t2 ty:TypeId} {v:Value} {cs:Array Value}
theorem r_stI (nx:Wr n C ops k Q Tl Fs R L E F N) (ho:nth ops i=some ⟨none,.store t x y,ty0,pos,aft,gd⟩:=by rfl) (hw:wantL ops E ⟨none,.store t x y,ty0,pos,aft,gd⟩=some true:=by rfl)
  (hx:ev E x=some (.pointer (some ⟨b,off,none⟩)):=by rfl) (hy:ev E y=some v:=by rfl) (hs:Sel (Pt b (.cells cs ty (0,0))) R R0:=by (repeat (first|exact Sel.here|apply Sel.there));first|done|fail) (hv:stv t cs.toList off v=some cs.toList:=by rfl) :
  Wr n C ops k Q Tl Fs R ((i,4)::L) E F N:=
 Yx ho fun hp hr w st hz sb=>by
  simp only [Z0 hw]
  refine ⟨⟨Unit,fun _=>undef,fun _=>True,fun _=>F,fun _=>N⟩,fun a G w1 hp' ha hsub hsat=>?_,fun _ _=>nx hp hr w st hz sb⟩
  obtain ⟨h1,h2,_,s1,_,hpt,_⟩:=hs.sep st.r
  have hb:w1.heap[b]? = some (.cells cs ty (0,0)):=hsat.stat hsub b _ (sb b _ (ZZ _ _ _ _ (s1 _ _ hpt)))
  obtain ⟨w',g1,g2,g3,g4⟩:=stv_ok hb hv
  have hh:∀c,w'.heap[c]? = w1.heap[c]?:=fun c=>by
   by_cases hc:c=b
   ·rw [hc,g2,hb]
   ·exact g4 c hc
  unfold OpRes
  simp only [execOp,Instr.storeAt,ha.ev (x:=x) (by rw [ZS];exact hx),ha.ev (x:=y) (by rw [ZS];exact hy),Instr.sureAddr,Sem.run_bind,Sem.run_pure,Result.andThen,g1]
  obtain ⟨hp2,hr2,s⟩:=hsat
  exact ⟨(),trivial,trivial,hp2,hr2,fun c o e=>(hh c).trans (s.inp c o e),fun c o e=>(hh c).trans (s.inr c o e),fun c o e=>(hh c).trans (s.ing c o e),s.d1,s.d2,s.d3,s.sub,s.f,s.r,s.same.trans g3⟩
end
def RlsF (b:Nat) (l:List Ru):Pf:=⟨fun h=>∃(xs:List RI) (o:Option Addr) (cap:Nat),(Blk b (.cells #[.slice o xs.length cap] 95)).p h∧(Sl 102 rul o cap xs).p h∧RusP h l xs,
 fun _ _ s ⟨xs,o,cap,h1,h2,h3⟩=>⟨xs,o,cap,(Blk b _).m _ _ s h1,(Sl _ _ o cap xs).m _ _ s h2,V4 s l xs h3⟩⟩
abbrev PaP (r:Except (Int×Int×Int) (List Ru)):Post:=match r with
 | .ok l=>⟨Nat,fun b=>.tuple #[.pointer (some ⟨b,0,none⟩),.int .i64 0,.int .i64 0,.int .i64 0],fun _=>True,fun b=>[RlsF b l],fun _=>[]⟩
 | .error x=>⟨Unit,fun _=>.tuple #[.pointer none,.int .i64 x.1,.int .i64 x.2.1,.int .i64 x.2.2],fun _=>True,fun _=>[],fun _=>[]⟩
abbrev PG:=List Ru×List RI×Option Addr×Nat
def PaJ (_:ByteArray) (b2 b3 b4 b5 br:Nat) (pre:List (List UInt8)) (g:PG):HP:=fun h=>((∀rest,rowsF (pre++rest) 0 []=rowsF rest pre.length g.1)∧g.2.1.length=g.1.length∧g.1.length≤256)∧
 Sep ([Pt b2 (.cells #[.pointer (some ⟨br,0,none⟩)] 39),Pt b3 (.cells #[.int .i64 (pre.length:Nat)] 3),Pt b4 (.cells #[.int .i64 0] 3),Pt b5 (.cells #[.int .i64 0] 28)]++RlR br g.2.1 g.2.2.1 g.2.2.2) h
def PaX (s:ByteArray) (b2 b3 b4 b5:Nat) (_:List (List UInt8)) (_:PG):HP:=fun h=>∃x:Int×Int×Int,rowsF (linesF s.data.toList) 0 [] = .error x∧
 Sep [Pt b2 (.cells #[.pointer none] 39),Pt b3 (.cells #[.int .i64 x.1] 3),Pt b4 (.cells #[.int .i64 x.2.1] 3),Pt b5 (.cells #[.int .i64 x.2.2] 28)] h
set_option maxHeartbeats 4000000 in
theorem VC (s:ByteArray) (hs:s.size≤1000000000):Enters 21∧Spec prog 21 #[.string s] [ErA,P10] [] (PaP (parF s)):=by
 have hsz:=lsz s
 by_cases hb:65536<s.size
 ·have e:parF s = .error (0,0,5):=if_pos hb
  rw [e]
  refine ZR [_] func21 ntmps21 fun G w hp=>?_
  repeat' (first|refine ZF ?_|refine ZI ?_|refine ZG ?_|refine ZH ?_|refine ZL ?_|refine ZJ ?_|refine ZN ?_|refine ZK (fun b=>?_)|refine ZM (fun b=>?_)|refine ZC ?_|refine ZA ?_|refine ZO ?_|(refine ZB (fun hc=>?_) (fun hc=>?_)<;>(try simp at hc)<;>(try omega))|(refine ZE (fun hc=>?_) (fun hc=>?_)<;>(try simp at hc)<;>(try omega)))
  exact ZP () rfl trivial
 ·have e0:parF s=rowsF (linesF s.data.toList) 0 []:=if_neg hb
  rw [e0]
  obtain ⟨hl1,hl2⟩:=WT s.data.toList
  have n0:=splitSeq_ok s.data.toList
  have es:ofL s.data.toList=s:=XA rfl
  rw [es] at n0
  have hit:=fun (a b c:Nat)=>split_iter a b c s.data.toList (by omega)
  obtain ⟨R,hR⟩:∃R,rowsF (linesF s.data.toList) 0 []=R:=⟨_,rfl⟩
  rw [hR]
  refine ⟨enters_of func21 (by kernel_rfl) rfl,spec_ofM (vs:=[_]) func21 rfl ntmps21 rfl fun G w hp=>?_⟩
  repeat' (first|refine ZF ?_|refine ZI ?_|refine ZG ?_|refine ZH ?_|refine ZL ?_|refine ZJ ?_|refine ZN ?_|refine ZK (fun b=>?_)|refine ZM (fun b=>?_)|refine ZC ?_|refine ZA ?_|refine ZD (n0) (fun _ _=>?_)|refine l_call0 (n0) (fun _ _=>?_)|(refine ZB (fun hc=>?_) (fun hc=>?_)<;>(try simp at hc)<;>(try omega))|(refine ZE (fun hc=>?_) (fun hc=>?_)<;>(try simp at hc)<;>(try omega)))
  rename_i b2 b3 b4 b5 q _
  obtain ⟨q1,q2,q3⟩:=q
  generalize b=br at *
  refine Z1 (Lx:=[]) (r:=Row 102 3 none 0 0 []) (fun h _=>XC _ _ h) ?_
  refine k_add (f:=RusF [] []) (fun _=>trivial) ?_
  refine Z1 (Lx:=[Pt b2 (.cells #[.pointer (some ⟨br,0,none⟩)] 39),Pt b3 (.cells #[.int .i64 0] 3),Pt b4 (.cells #[.int .i64 0] 3),Pt b5 (.cells #[.int .i64 0] 28)]++RlR br [] none 0) (r:=PaJ s b2 b3 b4 b5 br [] ([],[],none,0)) (fun h hh=>⟨⟨fun rest=>rfl,rfl,by decide⟩,hh⟩) ?_
  refine k_rangeG (α:=List UInt8) (enc:=fun l=>.string (ofL l)) (xs:=linesF s.data.toList) (fun pre g=>RusF g.1 g.2.1) (PaJ s b2 b3 b4 b5 br) (PaX s b2 b3 b4 b5) ([],[],none,0) (hit q1 q2 q3) ?_ ?_ ?_
  ·intro lr l pre g e hpre G w0 hp0
   obtain ⟨acc,xs,o,cap⟩:=g
   dsimp only
   refine Yu (X:=Unit) (Lx:=fun _=>[Pt b2 (.cells #[.pointer (some ⟨br,0,none⟩)] 39),Pt b3 (.cells #[.int .i64 (pre.length:Nat)] 3),Pt b4 (.cells #[.int .i64 0] 3),Pt b5 (.cells #[.int .i64 0] 28)]++RlR br xs o cap) (p:=fun _=>(∀rest,rowsF (pre++rest) 0 []=rowsF rest pre.length acc)∧xs.length=acc.length∧acc.length≤256) (r:=PaJ s b2 b3 b4 b5 br pre (acc,xs,o,cap)) (.there .here) (fun h hh=>⟨(),hh.1,hh.2⟩) (fun _ hpu=>?_)
   obtain ⟨p1,p2,p3⟩:=hpu
   have hel:e.length≤s.data.toList.length:=hl2 e (hpre.subset (by simp))
   have hpl:pre.length+1≤s.data.toList.length+1:=by
    have:=hpre.length_le
    simp only [List.length_append,List.length_singleton] at this;omega
   have n1:=ruAdd_ok br (ofL e) (by rw [Zs];omega) acc xs o cap p2 p3
   rw [YH] at n1
   delta AdP at n1
   have w1:IntKind.i64.wrap ((pre.length:Int)+1)=(((pre++[e]).length:Nat):Int):=by
    rw [wrapi (by omega) (by omega)];simp
   obtain ⟨a1,a2⟩:=lineF_pl e acc.length
   have w2:=wrapi (z:=(lineF e acc.length).2.1+1) (by omega) (by omega)
   have hlen:=addF_len (s:=e) p3
   by_cases he:(lineF e acc.length).2.2=0
   ·have hst:=fun rest=>rows_step (rest:=rest) (i:=pre.length) he
    rw [he] at n1
    generalize (lineF e acc.length).2.1=a at *
    generalize addF e acc=acc2 at *
    repeat' (first|refine ZF ?_|refine ZI ?_|refine ZG ?_|refine ZH ?_|refine ZL ?_|refine ZJ ?_|refine ZN ?_|refine ZK (fun b=>?_)|refine ZM (fun b=>?_)|refine ZC ?_|refine ZA ?_|refine ZO ?_|refine Zb ?_|refine Zc ?_|refine Zq ?_|refine Zd ?_|refine r_ldN ?_|refine Zr (fun b=>?_)|refine Zo (fun b=>?_)|refine Zp ?_|refine Za ?_|refine ZD (n1) (fun _ _=>?_)|refine l_call0 (n1) (fun _ _=>?_)|refine ZQ (n1) (fun _ _=>?_)|refine k_beg ?_|rw [w1]|(refine ZB (fun hc=>?_) (fun hc=>?_)<;>(try simp at hc)<;>(try omega))|(refine ZU (fun hc=>?_) (fun hc=>?_)<;>(try simp at hc)<;>(try omega))|refine ZT 9 [] [(0,0),(1,0),(2,0),(3,0),(4,4),(5,4),(6,4)] [7] ?_|(refine ZE (fun hc=>?_) (fun hc=>?_)<;>(try simp at hc)<;>(try omega)))
    rename_i q hq
    obtain ⟨xs2,o2,cap2⟩:=q
    dsimp only at hq
    refine Z1 (Lx:=[Pt b2 (.cells #[.pointer (some ⟨br,0,none⟩)] 39),Pt b3 (.cells #[.int .i64 ((pre++[e]).length:Nat)] 3),Pt b4 (.cells #[.int .i64 0] 3),Pt b5 (.cells #[.int .i64 0] 28)]++RlR br xs2 o2 cap2) (r:=PaJ s b2 b3 b4 b5 br (pre++[e]) (acc2,xs2,o2,cap2)) (fun h hh=>⟨⟨fun rest=>(by rw [List.append_assoc,List.singleton_append,p1,hst,List.length_append];rfl),hq,hlen⟩,hh⟩) ?_
    exact k_rnG (acc2,xs2,o2,cap2)
   ·have hbad:=fun rest=>rows_bad (rest:=rest) (i:=pre.length) he
    obtain ⟨rest,hrest⟩:=hpre
    have hx:=p1 (e::rest)
    rw [hbad,show pre++e::rest=linesF s.data.toList by rw [←hrest];simp] at hx
    generalize (lineF e acc.length).2.1=a at *
    generalize (lineF e acc.length).2.2=er at *
    generalize addF e acc=acc2 at *
    have hne:¬er=0:=he
    repeat' (first|refine r_stI ?_|refine ZF ?_|refine ZI ?_|refine ZG ?_|refine ZH ?_|refine ZL ?_|refine ZJ ?_|refine ZN ?_|refine ZK (fun b=>?_)|refine ZM (fun b=>?_)|refine ZC ?_|refine ZA ?_|refine ZO ?_|refine Zb ?_|refine Zc ?_|refine Zq ?_|refine Zd ?_|refine r_ldN ?_|refine Zr (fun b=>?_)|refine Zo (fun b=>?_)|refine Zp ?_|refine Za ?_|refine ZD (n1) (fun _ _=>?_)|refine l_call0 (n1) (fun _ _=>?_)|refine ZQ (n1) (fun _ _=>?_)|refine k_beg ?_|rw [w1]|rw [w2]|(refine ZB (fun hc=>?_) (fun hc=>?_)<;>(try simp at hc)<;>(try omega))|(refine ZU (fun hc=>?_) (fun hc=>?_)<;>(try simp at hc)<;>(try omega))|refine ZT 9 [Pt b2 _,Pt b4 _] [(0,0),(1,0),(2,0),(3,0),(4,4),(5,4),(6,4)] [7] ?_|(refine ZE (fun hc=>?_) (fun hc=>?_)<;>(try simp at hc)<;>(try omega)))
    have e1:((pre.length:Int)+1)=(((pre++[e]).length:Nat):Int):=by simp
    rw [e1] at hx
    refine Z1 (Lx:=[Pt b2 (.cells #[.pointer none] 39),Pt b3 (.cells #[.int .i64 ((pre++[e]).length:Nat)] 3),Pt b4 (.cells #[.int .i64 (a+1)] 3),Pt b5 (.cells #[.int .i64 er] 28)]) (r:=PaX s b2 b3 b4 b5 (pre++[e]) (acc,xs,o,cap)) (fun h hh=>⟨_,hx,hh⟩) ?_
    exact k_rrG (acc,xs,o,cap)
  ·intro D g
   obtain ⟨acc,xs,o,cap⟩:=g
   dsimp only
   refine Yu (X:=Unit) (Lx:=fun _=>[Pt b2 (.cells #[.pointer (some ⟨br,0,none⟩)] 39),Pt b3 (.cells #[.int .i64 ((linesF s.data.toList).length:Nat)] 3),Pt b4 (.cells #[.int .i64 0] 3),Pt b5 (.cells #[.int .i64 0] 28)]++RlR br xs o cap) (p:=fun _=>(∀rest,rowsF (linesF s.data.toList++rest) 0 []=rowsF rest (linesF s.data.toList).length acc)∧xs.length=acc.length∧acc.length≤256) (r:=PaJ s b2 b3 b4 b5 br (linesF s.data.toList) (acc,xs,o,cap)) .here (fun h hh=>⟨(),hh.1,hh.2⟩) (fun _ hpu=>?_)
   obtain ⟨p1,p2,p3⟩:=hpu
   have hRa:=p1 []
   rw [List.append_nil,hR] at hRa
   obtain rfl:R = .ok acc:=hRa
   refine Xc (f:=rul) xs ?_ rfl rfl
   refine Yo (b:=br) ?_
   refine Zn (F1:=[Blk br (.cells #[.slice o xs.length cap] 95),Sl 102 rul o cap xs,RusF acc xs]) (f:=RlsF br acc) (fun hp hF=>⟨xs,o,cap,hF _ (.head _),hF _ (.tail _ (.head _)),hF _ (.tail _ (.tail _ (.head _)))⟩) ?_
   repeat' (first|refine ZF ?_|refine ZI ?_|refine ZG ?_|refine ZH ?_|refine ZL ?_|refine ZJ ?_|refine ZN ?_|refine ZK (fun b=>?_)|refine ZM (fun b=>?_)|refine ZC ?_|refine ZA ?_|refine ZO ?_|refine k_beg ?_|(refine ZB (fun hc=>?_) (fun hc=>?_)<;>(try simp at hc)<;>(try omega))|(refine ZE (fun hc=>?_) (fun hc=>?_)<;>(try simp at hc)<;>(try omega)))
   exact k_retM br rfl trivial
  ·intro D pre g hpre
   refine w_open (X:=Int×Int×Int) (Lx:=fun x=>[Pt b2 (.cells #[.pointer none] 39),Pt b3 (.cells #[.int .i64 x.1] 3),Pt b4 (.cells #[.int .i64 x.2.1] 3),Pt b5 (.cells #[.int .i64 x.2.2] 28)]) (p:=fun x=>rowsF (linesF s.data.toList) 0 [] = .error x) (r:=PaX s b2 b3 b4 b5 pre g) .here (fun h hh=>hh) (fun x hx=>?_)
   obtain rfl:R = .error x:=by rw [←hR,hx]
   exact w_retM () rfl trivial
end Go.Proofs.YtodkipbnefngkaaGreatDoor
