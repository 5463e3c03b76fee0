/-
  The program's and the model's reading of a text of rules agree; no program in sight.
  The model's parser of rules: a rule.
  Package rule: divide.
  The statements' model of the language of rules: the scanner.
  Package rule: terms and conditions.
  Package rule: Check, Expand, expandedSize.
  Package rule: actions, rules.
  Package rule: a line.
  The range over a function, whose rounds leave facts and hand something on.
  strings.SplitSeq at the ends of lines.
  The parser of rules: where its errors are; the lines of a text. No program in sight.
  What the trees of the model and the conditions of the program say of a consequence is the same; what the actions of parsed rules are. No program in sight.
  Conditions that the parser makes: their shape and the sizes of their texts. No program in sight.
  How long a template becomes. No program in sight.
  Package rule: the tests of conditions.
  The statements' model of the language of rules: its tokens are good, and the lines of a text.
  The statements' model of the language of rules: how a text is read.
  Package rule: what conditions say of a consequence.
  Rules for the literals of maps in regions that draw their order.
  The statements' model of the language of rules: shortened consequences, expanded templates.
  Conditions: those that each theorem states.
-/
import Derived.Test.YtodkipbnefngkaaGreatDoorP2
import Derived.Test.YtodkipbnefngkaaGreatDoorP3
import Derived.Shelf.Strings.Prefix
import Derived.Shelf.Strings.Split
set_option maxRecDepth 10000
namespace Go.Proofs.YtodkipbnefngkaaGreatDoor
open Go.RowKit Go.Proofs.Tryz
theorem X1:∀(n:Nat) (l:List UInt8) (i:Nat) (acc:List Tk),(∀t ∈ acc,TkOK t)→∀t ∈ (scanF n l i acc).1,TkOK t
 | 0,_,_,_,h=>h
 | _+1,[],_,_,h=>h
 | n+1,c::r,i,acc,h=>by
  have add:∀t,TkOK t→∀x ∈ acc++[t],TkOK x:=fun t ht x hx=>by
   rcases List.mem_append.1 hx with hx|hx
   ·exact h x hx
   ·rcases List.mem_singleton.1 hx with rfl
    exact ht
  unfold scanF
  split
  ·exact h
  ·split
   ·exact X1 n _ _ _ h
   ·split
    ·exact X1 n _ _ _ (add _ ⟨.inl rfl,fun h=>absurd h (by show ¬(1:Int)=2;decide)⟩)
    ·split
     ·rename_i hd
      refine X1 n _ _ _ (add _ ⟨.inr (.inl rfl),fun _=>⟨?_,?_⟩⟩)
      ·have:spanF inNum (c::r)=spanF inNum r+1:=by simp [spanF,inNum,hd]
       show (ofL ((c::r).take (spanF inNum (c::r)))).data.toList≠[]
       rw [this];simp
      ·intro x hx
       exact XR inNum (c::r) x (by simpa using hx)
     ·split
      ·split
       ·exact X1 n _ _ _ (add _ ⟨.inr (.inr (.inl rfl)),fun h=>absurd h (by show ¬(3:Int)=2;decide)⟩)
       ·intro t ht;cases ht
      ·split
       ·exact X1 n _ _ _ (add _ ⟨.inr (.inr (.inr rfl)),fun h=>absurd h (by show ¬(4:Int)=2;decide)⟩)
       ·intro t ht;cases ht
def ruC (x:RuM):Ru:=⟨x.c.map toC,x.a⟩
def WfR (x:RuM):Prop:=∀t,x.c=some t→WfT t
def actM (m1:Mq):Ac×Mq:=
 if m1.e=0∧m1.has (fun t=>decide (t.kd=1) && decide (idx t.tx wActs<5))=true then
  let k:=idx m1.hd wActs
  let m2:=m1.pass
  let y:ByteArray×Mq:=if k=1 then (let m3:=if m2.has (fun t=>decide (t.kd=3) && (tplF t.tx).2.isSome) then m2.fail 3 else m2;m3.take (fun t=>decide (t.kd=3))) else (eB,m2)
  (⟨(k:Int)+1,y.1⟩,if y.2.tk≠[] then y.2.fail 30 else y.2)
 else (⟨0,eB⟩,m1.fail 30)
def actE (p:Ps):Ac×Ps:=let y:=actF p;(y.1,if y.2.peek.kd≠0 then y.2.fail y.2.peek.pl 30 else y.2)
theorem end_ok {ts:List Tk} {en op pl cl:Int} (h:∀t ∈ ts,TkOK t) :
  Sim (if (⟨ts,en,op,pl,0⟩:Ps).peek.kd≠0 then (⟨ts,en,op,pl,0⟩:Ps).fail (⟨ts,en,op,pl,0⟩:Ps).peek.pl 30 else ⟨ts,en,op,pl,0⟩) (if (⟨ts,en+1,op,0,cl⟩:Mq).tk≠[] then (⟨ts,en+1,op,0,cl⟩:Mq).fail 30 else ⟨ts,en+1,op,0,cl⟩):=by
 cases ts with
 | nil=>exact Xt h
 | cons t ts=>
  have h1:=(h t (.head _)).1
  have h2:t.kd≠0:=by omega
  rw [if_pos (show (⟨t::ts,en,op,pl,0⟩:Ps).peek.kd≠0 from h2),if_pos (by simp)]
  exact Zo rfl rfl rfl rfl (by decide)
theorem end_err {p:Ps} {m:Mq} (h:Sim p m) (he:p.e≠0):Sim (if p.peek.kd≠0 then p.fail p.peek.pl 30 else p) (if m.tk≠[] then m.fail 30 else m):=by
 obtain ⟨h1,h2,h3⟩:=h.err he
 rw [Yn h3]
 simp only [ne_eq,not_true_eq_false,if_false]
 rw [XG (by rw [←h1];exact he)]
 simpa using h
theorem end_e {p:Ps} (he:p.e≠0):(if p.peek.kd≠0 then p.fail p.peek.pl 30 else p).e≠0:=by
 rw [Zv he,ite_self];exact he
theorem sim_act {p:Ps} {m:Mq} (h:Sim p m):Sim (actE p).2 (actM m).2∧((actE p).2.e=0→(actE p).1=(actM m).1):=by
 by_cases he:p.e≠0
 ·obtain ⟨h1,h2,h3⟩:=h.err he
  have hm:m.e≠0:=by rw [←h1];exact he
  have e1:(actF p).2=p:=by
   unfold actF
   simp only [Yn h3,Y0 he h3,Zv he,ite_self]
   rw [if_neg (by decide)]
  have e2:actM m=(⟨0,eB⟩,m):=by
   unfold actM
   rw [if_neg (fun h=>hm h.1),XG hm]
  unfold actE
  simp only [e1,e2,Yn h3]
  exact ⟨h,fun hz=>absurd hz he⟩
 have he:p.e=0:=by omega
 obtain ⟨h1,h2,h3⟩:=h.ok he
 obtain ⟨ts,en,op,pl,e⟩:=p
 obtain ⟨tk,en2,op2,e2,cl⟩:=m
 have h4:=h.2.1
 have h0:=h.1
 dsimp only at he h1 h2 h3 h4 h0
 subst he;subst h1;subst h2;subst h3;subst h4
 have bad:∀{q:Ps} {a:Ac} {i:Int} {m':Mq},actF ⟨ts,en,op,pl,0⟩=(a,q.fail i 30)→Sim (q.fail i 30) m'→(actM ⟨ts,en+1,op,0,cl⟩).2=m'→Sim (actE ⟨ts,en,op,pl,0⟩).2 (actM ⟨ts,en+1,op,0,cl⟩).2∧((actE ⟨ts,en,op,pl,0⟩).2.e=0→(actE ⟨ts,en,op,pl,0⟩).1=(actM ⟨ts,en+1,op,0,cl⟩).1):=by
  intro q a i m' g1 g2 g3
  have hz:(q.fail i 30).e≠0:=Z0 (by decide)
  obtain ⟨_,_,k3⟩:=g2.err hz
  unfold actE
  rw [g1,g3]
  simp only [Yn k3]
  exact ⟨g2,fun h=>absurd h hz⟩
 cases ts with
 | nil=>
  refine bad (a:=⟨0,ofL []⟩) (q:=⟨[],en,op,pl,0⟩) (i:=en) (m':=(⟨[],en+1,op,0,cl⟩:Mq).fail 30) ?_ (Zo rfl rfl rfl rfl (by decide)) ?_
  ·unfold actF
   simp only [XU,XL (show (1:Int)≠0 by decide),ff (show (30:Int)≠0 by decide),ite_self]
   rfl
  ·unfold actM
   rw [if_neg (by simp [Mq.has])]
 | cons t ts=>
  by_cases hk:t.kd=1
  ·by_cases hi:idx t.tx wActs<5
   ·have e3:(⟨t::ts,en+1,op,0,cl⟩:Mq).has (fun t=>decide (t.kd=1) && decide (idx t.tx wActs<5))=true:=by simp [Mq.has,hk,hi]
    have em:(⟨t::ts,en+1,op,0,cl⟩:Mq).pass=⟨ts,en+1,op,0,cl⟩:=rfl
    have eh:(⟨t::ts,en+1,op,0,cl⟩:Mq).hd=t.tx:=rfl
    unfold actE actF actM
    rw [XY hk]
    simp only [Yr,e3,em,eh,hi,and_self,if_true]
    by_cases hc:idx t.tx wActs=1
    ·simp only [hc,if_true]
     cases ts with
     | nil=>
      rw [XL (by decide)]
      have q1:(⟨[],en+1,op,0,cl⟩:Mq).has (fun t=>decide (t.kd=3) && (tplF t.tx).2.isSome)=false:=rfl
      have q2:(⟨[],en+1,op,0,cl⟩:Mq).take (fun t=>decide (t.kd=3))=(eB,(⟨[],en+1,op,0,cl⟩:Mq).fail 30):=by simp [Mq.take,Mq.has]
      simp only [q1,Bool.false_eq_true,if_false,q2,XU]
      have q3:(tplF (ofL [])).2.isSome=false:=by decide
      simp only [q3,Bool.false_eq_true,if_false]
      have s:Sim ((⟨[],en,op,pl,0⟩:Ps).fail en 30) ((⟨[],en+1,op,0,cl⟩:Mq).fail 30):=Zo rfl rfl rfl rfl (by decide)
      exact ⟨end_err s (Z0 (by decide)),fun hz=>absurd hz (end_e (Z0 (by decide)))⟩
     | cons u ts=>
      by_cases hu:u.kd=3
      ·rw [XY hu]
       simp only [Yr]
       by_cases hq:(tplF u.tx).2.isSome=true
       ·have q1:(⟨u::ts,en+1,op,0,cl⟩:Mq).has (fun t=>decide (t.kd=3) && (tplF t.tx).2.isSome)=true:=by simp [Mq.has,hu,hq]
        have q0:((⟨u::ts,en+1,op,0,cl⟩:Mq).fail 3).e≠0:=by simp [Mq.fail]
        simp only [q1,hq,if_true,VZ q0]
        have s:Sim ((⟨ts,en,op,pl,0⟩:Ps).fail u.pl 3) ((⟨u::ts,en+1,op,0,cl⟩:Mq).fail 3):=Zo rfl rfl rfl rfl (by decide)
        exact ⟨end_err s (Z0 (by decide)),fun hz=>absurd hz (end_e (Z0 (by decide)))⟩
       ·have hq:(tplF u.tx).2.isSome=false:=by simpa using hq
        have q1:(⟨u::ts,en+1,op,0,cl⟩:Mq).has (fun t=>decide (t.kd=3) && (tplF t.tx).2.isSome)=false:=by simp [Mq.has,hq]
        have q2:(⟨u::ts,en+1,op,0,cl⟩:Mq).take (fun t=>decide (t.kd=3))=(u.tx,⟨ts,en+1,op,0,cl⟩):=by simp [Mq.take,Mq.has,hu,Mq.hd,Mq.pass]
        simp only [q1,hq,Bool.false_eq_true,if_false,q2]
        exact ⟨end_ok fun t ht=>h0 t (.tail _ (.tail _ ht)),fun _=>rfl⟩
      ·rw [X7 hu]
       have q1:(⟨u::ts,en+1,op,0,cl⟩:Mq).has (fun t=>decide (t.kd=3) && (tplF t.tx).2.isSome)=false:=by simp [Mq.has,hu]
       have q2:(⟨u::ts,en+1,op,0,cl⟩:Mq).take (fun t=>decide (t.kd=3))=(eB,(⟨u::ts,en+1,op,0,cl⟩:Mq).fail 30):=by simp [Mq.take,Mq.has,hu]
       simp only [q1,q2,Bool.false_eq_true,if_false,ff (show (30:Int)≠0 by decide),ite_self]
       have s:Sim ((⟨ts,en,op,pl,0⟩:Ps).fail u.pl 30) ((⟨u::ts,en+1,op,0,cl⟩:Mq).fail 30):=Zo rfl rfl rfl rfl (by decide)
       exact ⟨end_err s (Z0 (by decide)),fun hz=>absurd hz (by first|exact Z0 (by decide)|exact end_e (Z0 (by decide)))⟩
    ·simp only [eq_false hc,if_false]
     refine ⟨end_ok fun t ht=>h0 t (.tail _ ht),fun _=>rfl⟩
   ·refine bad (a:=⟨0,ofL []⟩) (q:=⟨ts,en,op,pl,0⟩) (i:=t.pl) (m':=(⟨t::ts,en+1,op,0,cl⟩:Mq).fail 30) ?_ (Zo rfl rfl rfl rfl (by decide)) ?_
    ·unfold actF
     rw [XY hk]
     have hc:¬idx t.tx wActs=1:=by omega
     simp only [Yr,eq_false hi,eq_false hc,if_false]
    ·unfold actM
     rw [if_neg (by simp [Mq.has,hi])]
  ·have hf:((⟨ts,en,op,pl,0⟩:Ps).fail t.pl 30).e≠0:=Z0 (by decide)
   have ht:((⟨ts,en,op,pl,0⟩:Ps).fail t.pl 30).tk=[]:=Wg rfl
   have e1:(actF ⟨t::ts,en,op,pl,0⟩).2=(⟨ts,en,op,pl,0⟩:Ps).fail t.pl 30:=by
    unfold actF
    rw [X7 hk]
    simp only [Zv hf,ite_self,Y0 hf ht]
    split<;>rfl
   refine bad (a:=(actF ⟨t::ts,en,op,pl,0⟩).1) (q:=⟨ts,en,op,pl,0⟩) (i:=t.pl) (m':=(⟨t::ts,en+1,op,0,cl⟩:Mq).fail 30) (by rw [←e1]) (Zo rfl rfl rfl rfl (by decide)) ?_
   unfold actM
   rw [if_neg (by simp [Mq.has,hk])]
theorem rule_eq (p:Ps):ruleF p=(let x:Option Cnd×Ps:=if p.is 1 wIf then let r:=condF (fuP p.pass) p.pass;(some r.1,r.2.symb yCol) else (none,p);(⟨x.1,(actE x.2).1⟩,(actE x.2).2)):=rfl
theorem ruleM_eq (m:Mq):ruleM m=(let x:Option Tr5×Mq:=if m.word wIf then let r:=condM (fuM m.pass) m.pass;(some r.1,(r.2.take (Mq.isS yCol)).2) else (none,m);(⟨x.1,(actM x.2).1⟩,(actM x.2).2)):=by
 unfold ruleM actM
 dsimp only
 generalize (if m.word wIf=true then (some (condM (fuM m.pass) m.pass).1,((condM (fuM m.pass) m.pass).2.take (Mq.isS yCol)).2) else (none,m))=x
 by_cases hc:x.2.e=0∧x.2.has (fun t=>decide (t.kd=1) && decide (idx t.tx wActs<5))=true
 ·rw [if_pos hc,if_pos hc]
 ·rw [if_neg hc,if_neg hc]
theorem act_err {p:Ps} (he:p.e≠0) (ht:p.tk=[]):(actE p).2=p:=by
 unfold actE actF
 simp only [Yn ht,Y0 he ht,Zv he,ite_self]
 rw [if_neg (show ¬idx (ofL []) wActs=1 by decide)]
 simp only [Yn ht,ne_eq,not_true_eq_false,if_false]
theorem sim_rule {p:Ps} {m:Mq} (h:Sim p m) (he:p.e=0):Sim (ruleF p).2 (ruleM m).2∧((ruleF p).2.e=0→(ruleF p).1=ruC (ruleM m).1∧WfR (ruleM m).1):=by
 rw [rule_eq,ruleM_eq,sim_word h]
 by_cases hw:m.word wIf=true
 ·simp only [hw,if_true]
  have hp:=VU h
  have ef:fuP p.pass=fuM m.pass:=by
   unfold fuP fuM Ps.pass Mq.pass
   rw [(h.ok he).2.1]
  rw [ef]
  have ih:=(sim_all (fuM m.pass)).2.2.2.1 _ _ hp
  have s:=sim_symb ih.1 yCol
  have g:=sim_act s
  refine ⟨g.1,fun hz=>?_⟩
  have h1:=g.2 hz
  have h2:(condF (fuM m.pass) p.pass).2.e=0:=by
   by_cases hc:(condF (fuM m.pass) p.pass).2.e=0
   ·exact hc
   ·have ht:=(ih.1.err hc).2.2
    have hz':(actE ((condF (fuM m.pass) p.pass).2.symb yCol)).2.e=0:=hz
    rw [Wd hc ht,act_err hc ht] at hz'
    exact absurd hz' hc
  obtain ⟨i1,i2⟩:=ih.2 h2
  refine ⟨?_,fun t ht=>?_⟩
  ·show (⟨some _,_⟩:Ru)=_
   rw [i1,h1];rfl
  ·cases ht;exact i2
 ·simp only [eq_false hw,if_false]
  have g:=sim_act h
  refine ⟨g.1,fun hz=>⟨?_,fun t ht=>by cases ht⟩⟩
  show (⟨none,_⟩:Ru)=_
  rw [g.2 hz];rfl
theorem sim_line (s:List UInt8) (n:Nat):match lineF s n,lineM s n with
  | (some x,_,_),(some y,_,_)=>x=ruC y∧WfR y
  | (none,a,e),(none,b,f)=>e=f∧(e≠0→a+1=b)
  | _,_=>False:=by
 unfold lineF lineM
 have htk:=X1 (s.length+1) s 0 [] (fun t ht=>by cases ht)
 generalize scanF (s.length+1) s 0 []=r at *
 obtain ⟨ts,e,ok⟩:=r
 dsimp only at htk ⊢
 by_cases hb:ok=false
 ·simp only [hb,if_true]
  exact ⟨trivial,fun _=>trivial⟩
 ·have hb:ok=true:=by simpa using hb
  simp only [hb,Bool.true_eq_false,if_false]
  cases ts with
  | nil=>exact ⟨rfl,fun h=>absurd rfl h⟩
  | cons t ts=>
   dsimp only
   by_cases hn:n=256
   ·simp only [hn,if_true]
    exact ⟨trivial,fun _=>trivial⟩
   ·simp only [hn,if_false]
    have g:=sim_rule (p:=⟨t::ts,(e:Int),0,0,0⟩) (m:=⟨t::ts,(e:Int)+1,0,0,0⟩) (Xt htk) rfl
    generalize ruleF ⟨t::ts,(e:Int),0,0,0⟩=p at *
    generalize ruleM ⟨t::ts,(e:Int)+1,0,0,0⟩=m at *
    have g0:=g.1.e0
    by_cases hz:p.2.e=0
    ·have hz2:m.2.e=0:=by rw [←g0];exact hz
     simp only [hz,hz2,ne_eq,not_true_eq_false,if_false]
     exact g.2 hz
    ·have hz2:m.2.e≠0:=by rw [←g0];exact hz
     simp only [hz,hz2,ne_eq,not_false_eq_true,if_true]
     exact ⟨g0,fun _=>(g.1.err hz).2.1⟩
theorem sim_rows:∀(l:List (List UInt8)) (i:Nat) (acc:List RuM),(∀x ∈ acc,WfR x)→match rowsF l i (acc.map ruC),rowsM l i acc with
  | .ok a,.ok b=>a=b.map ruC∧∀x ∈ b,WfR x
  | .error a,.error b=>a=b
  | _,_=>False
 | [],_,acc,h=>⟨rfl,h⟩
 | s::l,i,acc,h=>by
  have g:=sim_line s acc.length
  unfold rowsF rowsM
  rw [List.length_map]
  generalize lineF s acc.length=a at *
  generalize lineM s acc.length=b at *
  obtain ⟨a1,a2,a3⟩:=a
  obtain ⟨b1,b2,b3⟩:=b
  cases a1 with
  | some x=>cases b1 with
   | none=>exact g.elim
   | some y=>
    obtain ⟨rfl,g2⟩:=g
    have:=sim_rows l (i+1) (acc++[y]) (fun z hz=>by
     rcases List.mem_append.1 hz with hz|hz
     ·exact h z hz
     ·rcases List.mem_singleton.1 hz with rfl
      exact g2)
    rw [List.map_append] at this
    exact this
  | none=>cases b1 with
   | some y=>exact g.elim
   | none=>
    obtain ⟨rfl,g2⟩:=g
    by_cases hz:a3=0
    ·simp only [hz,if_true]
     exact sim_rows l (i+1) acc h
    ·simp only [hz,if_false]
     rw [g2 hz]
theorem par_sim (s:ByteArray):match parF s,parM s with
  | .ok a,.ok b=>a=b.map ruC∧∀x ∈ b,WfR x
  | .error a,.error b=>a=b
  | _,_=>False:=by
 unfold parF parM
 by_cases h:65536<s.size
 ·simp only [h,if_true]
 ·simp only [h,if_false]
  exact sim_rows _ 0 [] (fun x hx=>by cases hx)
structure LC where
 p:Option Addr
 k:Int
 t:ByteArray
abbrev lnf (x:LC):List Value:=[.pointer x.p,.int .i64 x.k,.string x.t]
abbrev lnv (x:LC):Value:=.agg #[.pointer x.p,.int .i64 x.k,.string x.t]
def LnP (h:H):Option Tr5→Option Addr→Prop
 | none,p=>p=none
 | some t,p=>∃b tc,p=some ⟨b,0,none⟩∧h b=some (.cells (tcf tc).toArray 65)∧TcP h t tc
theorem lnP_mono {h k:H} (s:Sub h k):∀(t:Option Tr5) (x:Option Addr),LnP h t x→LnP k t x
 | none,_,hh=>hh
 | some t,_,⟨b,tc,h1,h2,h3⟩=>⟨b,tc,h1,s _ _ h2,tcP_mono s t tc h3⟩
def LnF (t:Option Tr5) (x:Option Addr):Pf:=⟨fun h=>LnP h t x,fun _ _ s hh=>lnP_mono s t x hh⟩
abbrev LrP (bp:Nat) (l:List Tk) (y:RuM×Mq) (o:Option Addr) (cap:Nat):Post:=⟨Option Addr×Kx l y.2,fun q=>lnv ⟨q.1,y.1.a.k,y.1.a.t⟩,fun _=>True,fun q=>[LnF y.1.c q.1],fun q=>[Pt bp (mqC y.2 l.length q.2.1 o cap)]⟩
theorem tpl_tm0 (s:ByteArray):(tplF s).2=tmF s.data.toList 0 0:=(Xe s ⟨0,eB,0,0,⟨0,eB,eB,0⟩,0,⟨0,eB,eB,0⟩,0⟩).1
theorem act_ix:∀i,i<5→idx (wActs.getD i eB) wActs=i:=by decide
set_option maxHeartbeats 8000000 in
theorem mpRuleN_ok (bp:Nat) (l:List Tk) (o:Option Addr) (cap:Nat) (hl:LOK l) (m1:Mq) (q:Kx l m1) (hif:m1.word wIf=false):Enters 51∧Spec prog 51 #[.pointer (some ⟨bp,0,none⟩)] [TmS o cap l] [Pt bp (mqC m1 l.length q.1 o cap)] (LrP bp l (⟨none,(actM m1).1⟩,(actM m1).2) o cap):=by
 have n0:=YT bp l o cap hl m1 q wIf
 rw [hif,if_neg (by decide)] at n0
 refine ZT [_] func51 ntmps51 fun G w hp=>?_
 repeat' (first|refine ZG ?_|refine ZF ?_|refine ZJ ?_|refine ZH ?_|refine ZL ?_|refine ZI ?_|refine ZN ?_|refine ZO (fun b=>?_)|refine ZM (fun b=>?_)|refine ZB ?_|refine ZD ?_|refine ZX ?_|refine ZZ ?_|refine Zg ?_|refine ZY ?_|refine ZW ?_|refine Zh (fun b=>?_)|refine Zf (fun b=>?_)|refine Ze ?_|refine ZV ?_|refine ZA (n0) (fun _ _=>?_)|refine l_call0 (n0) (fun _ _=>?_)|refine ZK (n0) (fun _ _=>?_)|(refine ZC (fun hc=>?_) (fun hc=>?_)<;>(try simp at hc)<;>(try omega))|(refine ZS (fun hc=>?_) (fun hc=>?_)<;>(try simp at hc)<;>(try omega))|refine ZQ 17 [] [(0,0),(1,0),(2,0),(3,0),(4,0),(5,0),(6,0),(7,0),(8,0),(9,0)] [] ?_|(refine ZE (fun hc=>?_) (fun hc=>?_)<;>(try simp at hc)<;>(try omega)))
 rename_i b0 bl q1 _
 refine Zs (F1:=[]) (f:=LnF none none) (fun hp _=>rfl) ?_
 refine Yx (b:=b) (o:=.cells (wActs.map Value.string).toArray 9) ?_
 refine Zs (F1:=[Blk b (.cells (wActs.map Value.string).toArray 9)]) (f:=Sl 9 skl (some ⟨b,0,none⟩) 5 wActs) (fun hp hF=>Xz (hF _ (.head _)) rfl (by decide)) ?_
 refine YJ (X:={p:Nat×Kx l m1 // p.1≤5∧∀j,j<p.1→m1.word (wActs.getD j eB)=false}) (fun p=>[(0,.pointer (some ⟨bp,0,none⟩)),(2,.pointer (some ⟨b0,0,none⟩)),(3,.pointer (some ⟨bl,0,none⟩)),(5,.slice (some ⟨b,0,none⟩) 5 5),(6,.int .i64 (p.1.1:Int))]) (fun _=>[TmS o cap l,Sl 9 skl (some ⟨b,0,none⟩) 5 wActs,LnF none none]) (fun p=>[Pt bp (mqC m1 l.length p.1.2.1 o cap),Pt b0 (.cells #[.pointer none,.int .i64 0,.string ⟨#[]⟩] 61),Pt bl (.cells #[.pointer none,.int .i64 0,.string ⟨#[]⟩] 61)]) (fun p=>5 - p.1.1) ⟨(0,q1),Nat.zero_le _,fun j hj=>absurd hj (Nat.not_lt_zero _)⟩ ⟨rfl,rfl,rfl,rfl,rfl,trivial⟩ ?_
 rintro ⟨⟨i,q⟩,hi,hno⟩
 dsimp only at hi hno ⊢
 by_cases h5:i<5
 ·have hw:=List.getElem?_eq_getElem (l:=wActs) h5
  have hix:=act_ix i h5
  have hwd:wActs.getD i eB=wActs[i]:=by simp [List.getD,hw]
  have hwm:wActs[i] ∈ wActs:=List.getElem_mem h5
  rw [hwd] at hix
  generalize wActs[i]=wd at *
  have n1:=YT bp l o cap hl m1 q wd
  have w1:=wrapi (z:=(i:Int)+1) (by omega) (by omega)
  cases hwo:m1.word wd with
  | false=>
   rw [hwo,if_neg (by decide)] at n1
   repeat' (first|refine Zi ?_|refine Zj (es:=wActs) (f:=skl) i wd hw (fun b off=>?_)|refine ZG ?_|refine ZF ?_|refine ZJ ?_|refine ZH ?_|refine ZL ?_|refine ZI ?_|refine ZN ?_|refine ZO (fun b=>?_)|refine ZM (fun b=>?_)|refine ZB ?_|refine ZD ?_|refine ZX ?_|refine ZZ ?_|refine Zg ?_|refine ZY ?_|refine ZW ?_|refine Zh (fun b=>?_)|refine Zf (fun b=>?_)|refine Ze ?_|refine ZV ?_|refine ZA (n1) (fun _ _=>?_)|refine l_call0 (n1) (fun _ _=>?_)|refine ZK (n1) (fun _ _=>?_)|rw [w1]|(refine ZC (fun hc=>?_) (fun hc=>?_)<;>(try simp at hc)<;>(try omega))|(refine ZS (fun hc=>?_) (fun hc=>?_)<;>(try simp at hc)<;>(try omega))|refine ZQ 17 [] [(0,0),(1,0),(2,0),(3,0),(4,0),(5,0),(6,0),(7,0),(8,0),(9,0)] [] ?_|(refine ZE (fun hc=>?_) (fun hc=>?_)<;>(try simp at hc)<;>(try omega)))
   rename_i q2 _
   exact Za ⟨(i+1,q2),by show i+1≤5;omega,fun j hj=>by rcases Nat.lt_succ_iff_lt_or_eq.1 hj with h|h;exact hno j h;rw [h,hwd,hwo]⟩ (by show 5 - (i+1)<5 - i;omega) ⟨rfl,rfl,rfl,rfl,rfl,trivial⟩
  | true=>
   rw [hwo,if_pos rfl] at n1
   have hA:actM m1=(let y:ByteArray×Mq:=if i=1 then (let m3:=if m1.pass.has (fun t=>decide (t.kd=3) && (tplF t.tx).2.isSome) then m1.pass.fail 3 else m1.pass;m3.take (fun t=>decide (t.kd=3))) else (eB,m1.pass)
    (⟨(i:Int)+1,y.1⟩,if y.2.tk≠[] then y.2.fail 30 else y.2)):=by
    unfold actM
    rw [if_pos ⟨(Y2 hwo).1,VE hwo (fun x=>decide (idx x wActs<5)) (by rw [hix];simpa using h5)⟩,(Y2 hwo).2.1,hix]
   have hsub:∀t ∈ m1.pass.tk,t ∈ l:=fun t ht=>List.mem_of_mem_drop (q.2 ▸ List.mem_of_mem_tail ht)
   have hpe:m1.pass.e=0:=(Y2 hwo).1
   rw [hA]
   generalize m1.pass=m2 at *
   by_cases c1:i=1
   ·rw [if_pos c1]
    obtain ⟨tk,en,op,e,cl⟩:=m2
    have hpe:e=0:=hpe
    subst hpe
    have n3:=fun (q:Kx l ⟨tk,en,op,0,cl⟩)=>YU bp l o cap hl ⟨tk,en,op,0,cl⟩ q 115 (fun t=>decide (t.kd=3)) (fun t ht=>by rw [kdB_3 ht];simp) (by decide)
    have n4:=fun (q:Kx l ⟨tk,en,op,0,cl⟩)=>Zp bp l o cap ⟨tk,en,op,0,cl⟩ q 3
    have n5:=fun (q:Kx l ((⟨tk,en,op,0,cl⟩:Mq).fail 3))=>YU bp l o cap hl ((⟨tk,en,op,0,cl⟩:Mq).fail 3) q 115 (fun t=>decide (t.kd=3)) (fun t ht=>by rw [kdB_3 ht];simp) (by decide)
    dsimp only
    cases tk with
    | nil=>
     have n2:=fun (q:Kx l ⟨[],en,op,0,cl⟩)=>YQ bp l o cap en op 0 cl q.1 q.2
     rw [if_neg (show ¬(⟨[],en,op,0,cl⟩:Mq).has (fun t=>decide (t.kd=3) && (tplF t.tx).2.isSome)=true from fun h=>by cases h)]
     generalize (⟨[],en,op,0,cl⟩:Mq).take (fun t=>decide (t.kd=3))=y at *
     obtain ⟨tx,m5⟩:=y
     dsimp only at n3 ⊢
     have n6:=fun (q:Kx l m5)=>Zp bp l o cap m5 q 30
     by_cases h5k:m5.tk=[]
     ·rw [if_neg (fun h=>h h5k)]
      have hlt:∀q:Kx l m5,¬q.1<l.length:=fun q=>YN (q.2.trans h5k)
      repeat' (first|refine Zi ?_|refine Zj (es:=wActs) (f:=skl) i wd hw (fun b off=>?_)|refine ZG ?_|refine ZF ?_|refine ZJ ?_|refine ZH ?_|refine ZL ?_|refine ZI ?_|refine ZN ?_|refine ZO (fun b=>?_)|refine ZM (fun b=>?_)|refine ZB ?_|refine ZD ?_|refine ZX ?_|refine ZZ ?_|refine Zg ?_|refine ZY ?_|refine ZW ?_|refine Zh (fun b=>?_)|refine Zf (fun b=>?_)|refine Ze ?_|refine ZV ?_|refine ZA (n1) (fun _ _=>?_)|refine l_call0 (n1) (fun _ _=>?_)|refine ZK (n1) (fun _ _=>?_)|refine ZA (n2 _) (fun _ _=>?_)|refine l_call0 (n2 _) (fun _ _=>?_)|refine ZK (n2 _) (fun _ _=>?_)|refine ZA (n3 _) (fun _ _=>?_)|refine l_call0 (n3 _) (fun _ _=>?_)|refine ZK (n3 _) (fun _ _=>?_)|rw [w1]|(refine ZC (fun hc=>?_) (fun hc=>?_)<;>(try simp at hc)<;>(try omega))|(refine ZS (fun hc=>?_) (fun hc=>?_)<;>(try simp at hc)<;>(try omega))|refine ZQ 17 [] [(0,0),(1,0),(2,0),(3,0),(4,0),(5,0),(6,0),(7,0),(8,0),(9,0)] [] ?_|(refine ZE (fun hc=>?_) (fun hc=>?_)<;>(try simp at hc)<;>(try omega)))
      all_goals first|exact Zq (Zr (Zk (none,‹Kx l _›) rfl trivial))|exact absurd hc (hlt _)|exact absurd (hlt _) (Nat.not_lt.2 hc)
     ·rw [if_pos h5k]
      have hlt:∀q:Kx l m5,q.1<l.length:=fun q=>by obtain ⟨t,ts,hh⟩:=List.exists_cons_of_ne_nil h5k;exact (Zy (q.2.trans hh)).2.1
      repeat' (first|refine Zi ?_|refine Zj (es:=wActs) (f:=skl) i wd hw (fun b off=>?_)|refine ZG ?_|refine ZF ?_|refine ZJ ?_|refine ZH ?_|refine ZL ?_|refine ZI ?_|refine ZN ?_|refine ZO (fun b=>?_)|refine ZM (fun b=>?_)|refine ZB ?_|refine ZD ?_|refine ZX ?_|refine ZZ ?_|refine Zg ?_|refine ZY ?_|refine ZW ?_|refine Zh (fun b=>?_)|refine Zf (fun b=>?_)|refine Ze ?_|refine ZV ?_|refine ZA (n1) (fun _ _=>?_)|refine l_call0 (n1) (fun _ _=>?_)|refine ZK (n1) (fun _ _=>?_)|refine ZA (n2 _) (fun _ _=>?_)|refine l_call0 (n2 _) (fun _ _=>?_)|refine ZK (n2 _) (fun _ _=>?_)|refine ZA (n3 _) (fun _ _=>?_)|refine l_call0 (n3 _) (fun _ _=>?_)|refine ZK (n3 _) (fun _ _=>?_)|refine ZA (n6 _) (fun _ _=>?_)|refine l_call0 (n6 _) (fun _ _=>?_)|refine ZK (n6 _) (fun _ _=>?_)|rw [w1]|(refine ZC (fun hc=>?_) (fun hc=>?_)<;>(try simp at hc)<;>(try omega))|(refine ZS (fun hc=>?_) (fun hc=>?_)<;>(try simp at hc)<;>(try omega))|refine ZQ 17 [] [(0,0),(1,0),(2,0),(3,0),(4,0),(5,0),(6,0),(7,0),(8,0),(9,0)] [] ?_|(refine ZE (fun hc=>?_) (fun hc=>?_)<;>(try simp at hc)<;>(try omega)))
      all_goals first|exact Zq (Zr (Zk (none,‹Kx l _›) rfl trivial))|exact absurd hc (hlt _)|exact absurd (hlt _) (Nat.not_lt.2 hc)
    | cons t ts=>
     have n2:=fun (q:Kx l ⟨t::ts,en,op,0,cl⟩)=>YM bp l o cap t ts en op 0 cl q.1 q.2
     have ht:=hl.1 t (hsub t (.head _))
     have k3:=kdB_3 ht
     have n7:=VG t.tx (by have:=ht.2;omega)
     rw [←tpl_tm0] at n7
     have hhas:((⟨t::ts,en,op,0,cl⟩:Mq).has (fun t=>decide (t.kd=3) && (tplF t.tx).2.isSome))=(decide (t.kd=3) && (tplF t.tx).2.isSome):=rfl
     rw [hhas]
     by_cases c5:t.kd=3
     ·have q5:=k3.2 c5
      rw [c5]
      cases hz:(tplF t.tx).2 with
      | none=>
       rw [hz] at n7
       have n7:Enters 16∧Spec prog 16 #[.string t.tx] [] [] (RetV (.int .i64 (-1))):=n7
       rw [if_neg (by simp)]
       generalize kdB t=kb at *
       generalize t.tx=tx0 at *
       generalize (⟨t::ts,en,op,0,cl⟩:Mq).take (fun t=>decide (t.kd=3))=y at *
       obtain ⟨tx,m5⟩:=y
       dsimp only at n3 ⊢
       have n6:=fun (q:Kx l m5)=>Zp bp l o cap m5 q 30
       by_cases h5k:m5.tk=[]
       ·rw [if_neg (fun h=>h h5k)]
        have hlt:∀q:Kx l m5,¬q.1<l.length:=fun q=>YN (q.2.trans h5k)
        repeat' (first|refine Zi ?_|refine Zj (es:=wActs) (f:=skl) i wd hw (fun b off=>?_)|refine ZG ?_|refine ZF ?_|refine ZJ ?_|refine ZH ?_|refine ZL ?_|refine ZI ?_|refine ZN ?_|refine ZO (fun b=>?_)|refine ZM (fun b=>?_)|refine ZB ?_|refine ZD ?_|refine ZX ?_|refine ZZ ?_|refine Zg ?_|refine ZY ?_|refine ZW ?_|refine Zh (fun b=>?_)|refine Zf (fun b=>?_)|refine Ze ?_|refine ZV ?_|refine ZA (n1) (fun _ _=>?_)|refine l_call0 (n1) (fun _ _=>?_)|refine ZK (n1) (fun _ _=>?_)|refine ZA (n2 _) (fun _ _=>?_)|refine l_call0 (n2 _) (fun _ _=>?_)|refine ZK (n2 _) (fun _ _=>?_)|refine ZA (n3 _) (fun _ _=>?_)|refine l_call0 (n3 _) (fun _ _=>?_)|refine ZK (n3 _) (fun _ _=>?_)|refine ZA (n7) (fun _ _=>?_)|refine l_call0 (n7) (fun _ _=>?_)|refine ZK (n7) (fun _ _=>?_)|rw [w1]|(refine ZC (fun hc=>?_) (fun hc=>?_)<;>(try simp at hc)<;>(try omega))|(refine ZS (fun hc=>?_) (fun hc=>?_)<;>(try simp at hc)<;>(try omega))|refine ZQ 17 [] [(0,0),(1,0),(2,0),(3,0),(4,0),(5,0),(6,0),(7,0),(8,0),(9,0)] [] ?_|(refine ZE (fun hc=>?_) (fun hc=>?_)<;>(try simp at hc)<;>(try omega)))
        all_goals first|exact Zq (Zr (Zk (none,‹Kx l _›) rfl trivial))|exact absurd hc (hlt _)|exact absurd (hlt _) (Nat.not_lt.2 hc)
       ·rw [if_pos h5k]
        have hlt:∀q:Kx l m5,q.1<l.length:=fun q=>by obtain ⟨t,ts,hh⟩:=List.exists_cons_of_ne_nil h5k;exact (Zy (q.2.trans hh)).2.1
        repeat' (first|refine Zi ?_|refine Zj (es:=wActs) (f:=skl) i wd hw (fun b off=>?_)|refine ZG ?_|refine ZF ?_|refine ZJ ?_|refine ZH ?_|refine ZL ?_|refine ZI ?_|refine ZN ?_|refine ZO (fun b=>?_)|refine ZM (fun b=>?_)|refine ZB ?_|refine ZD ?_|refine ZX ?_|refine ZZ ?_|refine Zg ?_|refine ZY ?_|refine ZW ?_|refine Zh (fun b=>?_)|refine Zf (fun b=>?_)|refine Ze ?_|refine ZV ?_|refine ZA (n1) (fun _ _=>?_)|refine l_call0 (n1) (fun _ _=>?_)|refine ZK (n1) (fun _ _=>?_)|refine ZA (n2 _) (fun _ _=>?_)|refine l_call0 (n2 _) (fun _ _=>?_)|refine ZK (n2 _) (fun _ _=>?_)|refine ZA (n3 _) (fun _ _=>?_)|refine l_call0 (n3 _) (fun _ _=>?_)|refine ZK (n3 _) (fun _ _=>?_)|refine ZA (n6 _) (fun _ _=>?_)|refine l_call0 (n6 _) (fun _ _=>?_)|refine ZK (n6 _) (fun _ _=>?_)|refine ZA (n7) (fun _ _=>?_)|refine l_call0 (n7) (fun _ _=>?_)|refine ZK (n7) (fun _ _=>?_)|rw [w1]|(refine ZC (fun hc=>?_) (fun hc=>?_)<;>(try simp at hc)<;>(try omega))|(refine ZS (fun hc=>?_) (fun hc=>?_)<;>(try simp at hc)<;>(try omega))|refine ZQ 17 [] [(0,0),(1,0),(2,0),(3,0),(4,0),(5,0),(6,0),(7,0),(8,0),(9,0)] [] ?_|(refine ZE (fun hc=>?_) (fun hc=>?_)<;>(try simp at hc)<;>(try omega)))
        all_goals first|exact Zq (Zr (Zk (none,‹Kx l _›) rfl trivial))|exact absurd hc (hlt _)|exact absurd (hlt _) (Nat.not_lt.2 hc)
      | some z=>
       rw [hz] at n7
       have n7:Enters 16∧Spec prog 16 #[.string t.tx] [] [] (RetV (.int .i64 (z:Int))):=n7
       rw [if_pos (by simp)]
       generalize kdB t=kb at *
       generalize t.tx=tx0 at *
       generalize (⟨t::ts,en,op,0,cl⟩:Mq).fail 3=m3 at *
       generalize m3.take (fun t=>decide (t.kd=3))=y at *
       obtain ⟨tx,m5⟩:=y
       dsimp only at n5 ⊢
       have n6:=fun (q:Kx l m5)=>Zp bp l o cap m5 q 30
       by_cases h5k:m5.tk=[]
       ·rw [if_neg (fun h=>h h5k)]
        have hlt:∀q:Kx l m5,¬q.1<l.length:=fun q=>YN (q.2.trans h5k)
        repeat' (first|refine Zi ?_|refine Zj (es:=wActs) (f:=skl) i wd hw (fun b off=>?_)|refine ZG ?_|refine ZF ?_|refine ZJ ?_|refine ZH ?_|refine ZL ?_|refine ZI ?_|refine ZN ?_|refine ZO (fun b=>?_)|refine ZM (fun b=>?_)|refine ZB ?_|refine ZD ?_|refine ZX ?_|refine ZZ ?_|refine Zg ?_|refine ZY ?_|refine ZW ?_|refine Zh (fun b=>?_)|refine Zf (fun b=>?_)|refine Ze ?_|refine ZV ?_|refine ZA (n1) (fun _ _=>?_)|refine l_call0 (n1) (fun _ _=>?_)|refine ZK (n1) (fun _ _=>?_)|refine ZA (n2 _) (fun _ _=>?_)|refine l_call0 (n2 _) (fun _ _=>?_)|refine ZK (n2 _) (fun _ _=>?_)|refine ZA (n4 _) (fun _ _=>?_)|refine l_call0 (n4 _) (fun _ _=>?_)|refine ZK (n4 _) (fun _ _=>?_)|refine ZA (n5 _) (fun _ _=>?_)|refine l_call0 (n5 _) (fun _ _=>?_)|refine ZK (n5 _) (fun _ _=>?_)|refine ZA (n7) (fun _ _=>?_)|refine l_call0 (n7) (fun _ _=>?_)|refine ZK (n7) (fun _ _=>?_)|rw [w1]|(refine ZC (fun hc=>?_) (fun hc=>?_)<;>(try simp at hc)<;>(try omega))|(refine ZS (fun hc=>?_) (fun hc=>?_)<;>(try simp at hc)<;>(try omega))|refine ZQ 17 [] [(0,0),(1,0),(2,0),(3,0),(4,0),(5,0),(6,0),(7,0),(8,0),(9,0)] [] ?_|(refine ZE (fun hc=>?_) (fun hc=>?_)<;>(try simp at hc)<;>(try omega)))
        all_goals first|exact Zq (Zr (Zk (none,‹Kx l _›) rfl trivial))|exact absurd hc (hlt _)|exact absurd (hlt _) (Nat.not_lt.2 hc)
       ·rw [if_pos h5k]
        have hlt:∀q:Kx l m5,q.1<l.length:=fun q=>by obtain ⟨t,ts,hh⟩:=List.exists_cons_of_ne_nil h5k;exact (Zy (q.2.trans hh)).2.1
        repeat' (first|refine Zi ?_|refine Zj (es:=wActs) (f:=skl) i wd hw (fun b off=>?_)|refine ZG ?_|refine ZF ?_|refine ZJ ?_|refine ZH ?_|refine ZL ?_|refine ZI ?_|refine ZN ?_|refine ZO (fun b=>?_)|refine ZM (fun b=>?_)|refine ZB ?_|refine ZD ?_|refine ZX ?_|refine ZZ ?_|refine Zg ?_|refine ZY ?_|refine ZW ?_|refine Zh (fun b=>?_)|refine Zf (fun b=>?_)|refine Ze ?_|refine ZV ?_|refine ZA (n1) (fun _ _=>?_)|refine l_call0 (n1) (fun _ _=>?_)|refine ZK (n1) (fun _ _=>?_)|refine ZA (n2 _) (fun _ _=>?_)|refine l_call0 (n2 _) (fun _ _=>?_)|refine ZK (n2 _) (fun _ _=>?_)|refine ZA (n4 _) (fun _ _=>?_)|refine l_call0 (n4 _) (fun _ _=>?_)|refine ZK (n4 _) (fun _ _=>?_)|refine ZA (n5 _) (fun _ _=>?_)|refine l_call0 (n5 _) (fun _ _=>?_)|refine ZK (n5 _) (fun _ _=>?_)|refine ZA (n6 _) (fun _ _=>?_)|refine l_call0 (n6 _) (fun _ _=>?_)|refine ZK (n6 _) (fun _ _=>?_)|refine ZA (n7) (fun _ _=>?_)|refine l_call0 (n7) (fun _ _=>?_)|refine ZK (n7) (fun _ _=>?_)|rw [w1]|(refine ZC (fun hc=>?_) (fun hc=>?_)<;>(try simp at hc)<;>(try omega))|(refine ZS (fun hc=>?_) (fun hc=>?_)<;>(try simp at hc)<;>(try omega))|refine ZQ 17 [] [(0,0),(1,0),(2,0),(3,0),(4,0),(5,0),(6,0),(7,0),(8,0),(9,0)] [] ?_|(refine ZE (fun hc=>?_) (fun hc=>?_)<;>(try simp at hc)<;>(try omega)))
        all_goals first|exact Zq (Zr (Zk (none,‹Kx l _›) rfl trivial))|exact absurd hc (hlt _)|exact absurd (hlt _) (Nat.not_lt.2 hc)
     ·have q5:¬kdB t=115:=fun h=>c5 (k3.1 h)
      rw [if_neg (by simp [c5])]
      generalize kdB t=kb at *
      generalize t.tx=tx0 at *
      generalize (⟨t::ts,en,op,0,cl⟩:Mq).take (fun t=>decide (t.kd=3))=y at *
      obtain ⟨tx,m5⟩:=y
      dsimp only at n3 ⊢
      have n6:=fun (q:Kx l m5)=>Zp bp l o cap m5 q 30
      by_cases h5k:m5.tk=[]
      ·rw [if_neg (fun h=>h h5k)]
       have hlt:∀q:Kx l m5,¬q.1<l.length:=fun q=>YN (q.2.trans h5k)
       repeat' (first|refine Zi ?_|refine Zj (es:=wActs) (f:=skl) i wd hw (fun b off=>?_)|refine ZG ?_|refine ZF ?_|refine ZJ ?_|refine ZH ?_|refine ZL ?_|refine ZI ?_|refine ZN ?_|refine ZO (fun b=>?_)|refine ZM (fun b=>?_)|refine ZB ?_|refine ZD ?_|refine ZX ?_|refine ZZ ?_|refine Zg ?_|refine ZY ?_|refine ZW ?_|refine Zh (fun b=>?_)|refine Zf (fun b=>?_)|refine Ze ?_|refine ZV ?_|refine ZA (n1) (fun _ _=>?_)|refine l_call0 (n1) (fun _ _=>?_)|refine ZK (n1) (fun _ _=>?_)|refine ZA (n2 _) (fun _ _=>?_)|refine l_call0 (n2 _) (fun _ _=>?_)|refine ZK (n2 _) (fun _ _=>?_)|refine ZA (n3 _) (fun _ _=>?_)|refine l_call0 (n3 _) (fun _ _=>?_)|refine ZK (n3 _) (fun _ _=>?_)|rw [w1]|(refine ZC (fun hc=>?_) (fun hc=>?_)<;>(try simp at hc)<;>(try omega))|(refine ZS (fun hc=>?_) (fun hc=>?_)<;>(try simp at hc)<;>(try omega))|refine ZQ 17 [] [(0,0),(1,0),(2,0),(3,0),(4,0),(5,0),(6,0),(7,0),(8,0),(9,0)] [] ?_|(refine ZE (fun hc=>?_) (fun hc=>?_)<;>(try simp at hc)<;>(try omega)))
       all_goals first|exact Zq (Zr (Zk (none,‹Kx l _›) rfl trivial))|exact absurd hc (hlt _)|exact absurd (hlt _) (Nat.not_lt.2 hc)
      ·rw [if_pos h5k]
       have hlt:∀q:Kx l m5,q.1<l.length:=fun q=>by obtain ⟨t,ts,hh⟩:=List.exists_cons_of_ne_nil h5k;exact (Zy (q.2.trans hh)).2.1
       repeat' (first|refine Zi ?_|refine Zj (es:=wActs) (f:=skl) i wd hw (fun b off=>?_)|refine ZG ?_|refine ZF ?_|refine ZJ ?_|refine ZH ?_|refine ZL ?_|refine ZI ?_|refine ZN ?_|refine ZO (fun b=>?_)|refine ZM (fun b=>?_)|refine ZB ?_|refine ZD ?_|refine ZX ?_|refine ZZ ?_|refine Zg ?_|refine ZY ?_|refine ZW ?_|refine Zh (fun b=>?_)|refine Zf (fun b=>?_)|refine Ze ?_|refine ZV ?_|refine ZA (n1) (fun _ _=>?_)|refine l_call0 (n1) (fun _ _=>?_)|refine ZK (n1) (fun _ _=>?_)|refine ZA (n2 _) (fun _ _=>?_)|refine l_call0 (n2 _) (fun _ _=>?_)|refine ZK (n2 _) (fun _ _=>?_)|refine ZA (n3 _) (fun _ _=>?_)|refine l_call0 (n3 _) (fun _ _=>?_)|refine ZK (n3 _) (fun _ _=>?_)|refine ZA (n6 _) (fun _ _=>?_)|refine l_call0 (n6 _) (fun _ _=>?_)|refine ZK (n6 _) (fun _ _=>?_)|rw [w1]|(refine ZC (fun hc=>?_) (fun hc=>?_)<;>(try simp at hc)<;>(try omega))|(refine ZS (fun hc=>?_) (fun hc=>?_)<;>(try simp at hc)<;>(try omega))|refine ZQ 17 [] [(0,0),(1,0),(2,0),(3,0),(4,0),(5,0),(6,0),(7,0),(8,0),(9,0)] [] ?_|(refine ZE (fun hc=>?_) (fun hc=>?_)<;>(try simp at hc)<;>(try omega)))
       all_goals first|exact Zq (Zr (Zk (none,‹Kx l _›) rfl trivial))|exact absurd hc (hlt _)|exact absurd (hlt _) (Nat.not_lt.2 hc)
   ·rw [if_neg c1]
    dsimp only
    have n6:=fun (q:Kx l m2)=>Zp bp l o cap m2 q 30
    by_cases h5k:m2.tk=[]
    ·rw [if_neg (fun h=>h h5k)]
     have hlt:∀q:Kx l m2,¬q.1<l.length:=fun q=>YN (q.2.trans h5k)
     repeat' (first|refine Zi ?_|refine Zj (es:=wActs) (f:=skl) i wd hw (fun b off=>?_)|refine ZG ?_|refine ZF ?_|refine ZJ ?_|refine ZH ?_|refine ZL ?_|refine ZI ?_|refine ZN ?_|refine ZO (fun b=>?_)|refine ZM (fun b=>?_)|refine ZB ?_|refine ZD ?_|refine ZX ?_|refine ZZ ?_|refine Zg ?_|refine ZY ?_|refine ZW ?_|refine Zh (fun b=>?_)|refine Zf (fun b=>?_)|refine Ze ?_|refine ZV ?_|refine ZA (n1) (fun _ _=>?_)|refine l_call0 (n1) (fun _ _=>?_)|refine ZK (n1) (fun _ _=>?_)|rw [w1]|(refine ZC (fun hc=>?_) (fun hc=>?_)<;>(try simp at hc)<;>(try omega))|(refine ZS (fun hc=>?_) (fun hc=>?_)<;>(try simp at hc)<;>(try omega))|refine ZQ 17 [] [(0,0),(1,0),(2,0),(3,0),(4,0),(5,0),(6,0),(7,0),(8,0),(9,0)] [] ?_|(refine ZE (fun hc=>?_) (fun hc=>?_)<;>(try simp at hc)<;>(try omega)))
     all_goals first|exact Zq (Zr (Zk (none,‹Kx l _›) rfl trivial))|exact absurd hc (hlt _)|exact absurd (hlt _) (Nat.not_lt.2 hc)
    ·rw [if_pos h5k]
     have hlt:∀q:Kx l m2,q.1<l.length:=fun q=>by obtain ⟨t,ts,hh⟩:=List.exists_cons_of_ne_nil h5k;exact (Zy (q.2.trans hh)).2.1
     repeat' (first|refine Zi ?_|refine Zj (es:=wActs) (f:=skl) i wd hw (fun b off=>?_)|refine ZG ?_|refine ZF ?_|refine ZJ ?_|refine ZH ?_|refine ZL ?_|refine ZI ?_|refine ZN ?_|refine ZO (fun b=>?_)|refine ZM (fun b=>?_)|refine ZB ?_|refine ZD ?_|refine ZX ?_|refine ZZ ?_|refine Zg ?_|refine ZY ?_|refine ZW ?_|refine Zh (fun b=>?_)|refine Zf (fun b=>?_)|refine Ze ?_|refine ZV ?_|refine ZA (n1) (fun _ _=>?_)|refine l_call0 (n1) (fun _ _=>?_)|refine ZK (n1) (fun _ _=>?_)|refine ZA (n6 _) (fun _ _=>?_)|refine l_call0 (n6 _) (fun _ _=>?_)|refine ZK (n6 _) (fun _ _=>?_)|rw [w1]|(refine ZC (fun hc=>?_) (fun hc=>?_)<;>(try simp at hc)<;>(try omega))|(refine ZS (fun hc=>?_) (fun hc=>?_)<;>(try simp at hc)<;>(try omega))|refine ZQ 17 [] [(0,0),(1,0),(2,0),(3,0),(4,0),(5,0),(6,0),(7,0),(8,0),(9,0)] [] ?_|(refine ZE (fun hc=>?_) (fun hc=>?_)<;>(try simp at hc)<;>(try omega)))
     all_goals first|exact Zq (Zr (Zk (none,‹Kx l _›) rfl trivial))|exact absurd hc (hlt _)|exact absurd (hlt _) (Nat.not_lt.2 hc)
 ·obtain rfl:i=5:=by omega
  have hno2:∀w ∈ wActs,m1.word w=false:=fun w hw=>by
   obtain ⟨j2,hj2,rfl⟩:=List.getElem_of_mem hw
   have:=hno j2 hj2
   rwa [show wActs.getD j2 eB=wActs[j2] by simp [List.getD,List.getElem?_eq_getElem hj2]] at this
  have hA:actM m1=(⟨0,eB⟩,m1.fail 30):=by
   unfold actM
   rw [if_neg]
   rintro ⟨h1,h2⟩
   rw [WG h1 hno2 (fun x=>decide (idx x wActs<5)) (fun w hw=>Zx (l:=wActs).1 (show idx w wActs<wActs.length from of_decide_eq_true hw))] at h2
   cases h2
  rw [hA]
  have n1:=Zp bp l o cap m1 q 30
  repeat' (first|refine ZG ?_|refine ZF ?_|refine ZJ ?_|refine ZH ?_|refine ZL ?_|refine ZI ?_|refine ZN ?_|refine ZO (fun b=>?_)|refine ZM (fun b=>?_)|refine ZB ?_|refine ZD ?_|refine ZP ?_|refine ZX ?_|refine ZZ ?_|refine Zg ?_|refine ZY ?_|refine ZW ?_|refine Zh (fun b=>?_)|refine Zf (fun b=>?_)|refine Ze ?_|refine ZV ?_|refine ZA (n1) (fun _ _=>?_)|refine l_call0 (n1) (fun _ _=>?_)|refine ZK (n1) (fun _ _=>?_)|(refine ZC (fun hc=>?_) (fun hc=>?_)<;>(try simp at hc)<;>(try omega))|(refine ZS (fun hc=>?_) (fun hc=>?_)<;>(try simp at hc)<;>(try omega))|refine ZQ 17 [] [(0,0),(1,0),(2,0),(3,0),(4,0),(5,0),(6,0),(7,0),(8,0),(9,0)] [] ?_|(refine ZE (fun hc=>?_) (fun hc=>?_)<;>(try simp at hc)<;>(try omega)))
  rename_i q2 _
  exact ZR (none,q2) rfl trivial
set_option maxHeartbeats 8000000 in
theorem mpRuleC_ok (bp:Nat) (l:List Tk) (o:Option Addr) (cap:Nat) (hl:LOK l) (m:Mq) (q:Kx l m) (hif:m.word wIf=true) (h1:0≤m.op) (h2:m.op≤32) (m1:Mq) (hm1:((condM (fuM m.pass) m.pass).2.take (Mq.isS yCol)).2=m1):Enters 51∧Spec prog 51 #[.pointer (some ⟨bp,0,none⟩)] [TmS o cap l] [Pt bp (mqC m l.length q.1 o cap)] (LrP bp l (⟨some (condM (fuM m.pass) m.pass).1,(actM m1).1⟩,(actM m1).2) o cap):=by
 have n0:=YT bp l o cap hl m q wIf
 rw [hif,if_pos rfl] at n0
 have n1:=mpCond_ok bp l o cap hl m.pass h1 h2
 unfold SpM at n1
 generalize condM (fuM m.pass) m.pass=y at *
 obtain ⟨cn,m4⟩:=y
 dsimp only at n1 hm1 ⊢
 have n2:=fun (q:Kx l m4)=>YU bp l o cap hl m4 q 58 (Mq.isS yCol) (fun t ht=>kdB_4 ht (c:=58) (by simp)) (by decide)
 generalize m4.take (Mq.isS yCol)=y at *
 obtain ⟨tx,m5⟩:=y
 have hm1:m5=m1:=hm1
 subst hm1
 generalize m5=m1 at *
 dsimp only at n2
 refine ZT [_] func51 ntmps51 fun G w hp=>?_
 repeat' (first|refine ZG ?_|refine ZF ?_|refine ZJ ?_|refine ZH ?_|refine ZL ?_|refine ZI ?_|refine ZN ?_|refine ZO (fun b=>?_)|refine ZM (fun b=>?_)|refine ZB ?_|refine ZD ?_|refine ZX ?_|refine ZZ ?_|refine Zg ?_|refine ZY ?_|refine ZW ?_|refine Zh (fun b=>?_)|refine Zf (fun b=>?_)|refine Ze ?_|refine ZV ?_|refine ZA (n0) (fun _ _=>?_)|refine l_call0 (n0) (fun _ _=>?_)|refine ZK (n0) (fun _ _=>?_)|refine ZA (n1 _) (fun _ _=>?_)|refine l_call0 (n1 _) (fun _ _=>?_)|refine ZK (n1 _) (fun _ _=>?_)|refine ZA (n2 _) (fun _ _=>?_)|refine l_call0 (n2 _) (fun _ _=>?_)|refine ZK (n2 _) (fun _ _=>?_)|(refine ZC (fun hc=>?_) (fun hc=>?_)<;>(try simp at hc)<;>(try omega))|(refine ZS (fun hc=>?_) (fun hc=>?_)<;>(try simp at hc)<;>(try omega))|refine ZQ 17 [] [(0,0),(1,0),(2,0),(3,0),(4,0),(5,0),(6,0),(7,0),(8,0),(9,0)] [] ?_|(refine ZE (fun hc=>?_) (fun hc=>?_)<;>(try simp at hc)<;>(try omega)))
 rename_i b0 bl _ _ qc _ bt q1 _
 obtain ⟨tc,qc⟩:=qc
 refine Yx (b:=bt) (o:=.cells (tcf tc).toArray 65) ?_
 refine Zs (F1:=[Blk bt (.cells (tcf tc).toArray 65),TcF cn tc]) (f:=LnF (some cn) (some ⟨bt,0,none⟩)) (fun hp hF=>⟨bt,tc,rfl,hF _ (.head _),hF _ (.tail _ (.head _))⟩) ?_
 refine Yx (b:=b) (o:=.cells (wActs.map Value.string).toArray 9) ?_
 refine Zs (F1:=[Blk b (.cells (wActs.map Value.string).toArray 9)]) (f:=Sl 9 skl (some ⟨b,0,none⟩) 5 wActs) (fun hp hF=>Xz (hF _ (.head _)) rfl (by decide)) ?_
 refine YJ (X:={p:Nat×Kx l m1 // p.1≤5∧∀j,j<p.1→m1.word (wActs.getD j eB)=false}) (fun p=>[(0,.pointer (some ⟨bp,0,none⟩)),(2,.pointer (some ⟨b0,0,none⟩)),(3,.pointer (some ⟨bl,0,none⟩)),(5,.slice (some ⟨b,0,none⟩) 5 5),(6,.int .i64 (p.1.1:Int))]) (fun _=>[TmS o cap l,Sl 9 skl (some ⟨b,0,none⟩) 5 wActs,LnF (some cn) (some ⟨bt,0,none⟩)]) (fun p=>[Pt bp (mqC m1 l.length p.1.2.1 o cap),Pt b0 (.cells #[.pointer none,.int .i64 0,.string ⟨#[]⟩] 61),Pt bl (.cells #[.pointer (some ⟨bt,0,none⟩),.int .i64 0,.string ⟨#[]⟩] 61)]) (fun p=>5 - p.1.1) ⟨(0,q1),Nat.zero_le _,fun j hj=>absurd hj (Nat.not_lt_zero _)⟩ ⟨rfl,rfl,rfl,rfl,rfl,trivial⟩ ?_
 rintro ⟨⟨i,q⟩,hi,hno⟩
 dsimp only at hi hno ⊢
 by_cases h5:i<5
 ·have hw:=List.getElem?_eq_getElem (l:=wActs) h5
  have hix:=act_ix i h5
  have hwd:wActs.getD i eB=wActs[i]:=by simp [List.getD,hw]
  have hwm:wActs[i] ∈ wActs:=List.getElem_mem h5
  rw [hwd] at hix
  generalize wActs[i]=wd at *
  have n1:=YT bp l o cap hl m1 q wd
  have w1:=wrapi (z:=(i:Int)+1) (by omega) (by omega)
  cases hwo:m1.word wd with
  | false=>
   rw [hwo,if_neg (by decide)] at n1
   repeat' (first|refine Zi ?_|refine Zj (es:=wActs) (f:=skl) i wd hw (fun b off=>?_)|refine ZG ?_|refine ZF ?_|refine ZJ ?_|refine ZH ?_|refine ZL ?_|refine ZI ?_|refine ZN ?_|refine ZO (fun b=>?_)|refine ZM (fun b=>?_)|refine ZB ?_|refine ZD ?_|refine ZX ?_|refine ZZ ?_|refine Zg ?_|refine ZY ?_|refine ZW ?_|refine Zh (fun b=>?_)|refine Zf (fun b=>?_)|refine Ze ?_|refine ZV ?_|refine ZA (n1) (fun _ _=>?_)|refine l_call0 (n1) (fun _ _=>?_)|refine ZK (n1) (fun _ _=>?_)|rw [w1]|(refine ZC (fun hc=>?_) (fun hc=>?_)<;>(try simp at hc)<;>(try omega))|(refine ZS (fun hc=>?_) (fun hc=>?_)<;>(try simp at hc)<;>(try omega))|refine ZQ 17 [] [(0,0),(1,0),(2,0),(3,0),(4,0),(5,0),(6,0),(7,0),(8,0),(9,0)] [] ?_|(refine ZE (fun hc=>?_) (fun hc=>?_)<;>(try simp at hc)<;>(try omega)))
   rename_i q2 _
   exact Za ⟨(i+1,q2),by show i+1≤5;omega,fun j hj=>by rcases Nat.lt_succ_iff_lt_or_eq.1 hj with h|h;exact hno j h;rw [h,hwd,hwo]⟩ (by show 5 - (i+1)<5 - i;omega) ⟨rfl,rfl,rfl,rfl,rfl,trivial⟩
  | true=>
   rw [hwo,if_pos rfl] at n1
   have hA:actM m1=(let y:ByteArray×Mq:=if i=1 then (let m3:=if m1.pass.has (fun t=>decide (t.kd=3) && (tplF t.tx).2.isSome) then m1.pass.fail 3 else m1.pass;m3.take (fun t=>decide (t.kd=3))) else (eB,m1.pass)
    (⟨(i:Int)+1,y.1⟩,if y.2.tk≠[] then y.2.fail 30 else y.2)):=by
    unfold actM
    rw [if_pos ⟨(Y2 hwo).1,VE hwo (fun x=>decide (idx x wActs<5)) (by rw [hix];simpa using h5)⟩,(Y2 hwo).2.1,hix]
   have hsub:∀t ∈ m1.pass.tk,t ∈ l:=fun t ht=>List.mem_of_mem_drop (q.2 ▸ List.mem_of_mem_tail ht)
   have hpe:m1.pass.e=0:=(Y2 hwo).1
   rw [hA]
   generalize m1.pass=m2 at *
   by_cases c1:i=1
   ·rw [if_pos c1]
    obtain ⟨tk,en,op,e,cl⟩:=m2
    have hpe:e=0:=hpe
    subst hpe
    have n3:=fun (q:Kx l ⟨tk,en,op,0,cl⟩)=>YU bp l o cap hl ⟨tk,en,op,0,cl⟩ q 115 (fun t=>decide (t.kd=3)) (fun t ht=>by rw [kdB_3 ht];simp) (by decide)
    have n4:=fun (q:Kx l ⟨tk,en,op,0,cl⟩)=>Zp bp l o cap ⟨tk,en,op,0,cl⟩ q 3
    have n5:=fun (q:Kx l ((⟨tk,en,op,0,cl⟩:Mq).fail 3))=>YU bp l o cap hl ((⟨tk,en,op,0,cl⟩:Mq).fail 3) q 115 (fun t=>decide (t.kd=3)) (fun t ht=>by rw [kdB_3 ht];simp) (by decide)
    dsimp only
    cases tk with
    | nil=>
     have n2:=fun (q:Kx l ⟨[],en,op,0,cl⟩)=>YQ bp l o cap en op 0 cl q.1 q.2
     rw [if_neg (show ¬(⟨[],en,op,0,cl⟩:Mq).has (fun t=>decide (t.kd=3) && (tplF t.tx).2.isSome)=true from fun h=>by cases h)]
     generalize (⟨[],en,op,0,cl⟩:Mq).take (fun t=>decide (t.kd=3))=y at *
     obtain ⟨tx,m5⟩:=y
     dsimp only at n3 ⊢
     have n6:=fun (q:Kx l m5)=>Zp bp l o cap m5 q 30
     by_cases h5k:m5.tk=[]
     ·rw [if_neg (fun h=>h h5k)]
      have hlt:∀q:Kx l m5,¬q.1<l.length:=fun q=>YN (q.2.trans h5k)
      repeat' (first|refine Zi ?_|refine Zj (es:=wActs) (f:=skl) i wd hw (fun b off=>?_)|refine ZG ?_|refine ZF ?_|refine ZJ ?_|refine ZH ?_|refine ZL ?_|refine ZI ?_|refine ZN ?_|refine ZO (fun b=>?_)|refine ZM (fun b=>?_)|refine ZB ?_|refine ZD ?_|refine ZX ?_|refine ZZ ?_|refine Zg ?_|refine ZY ?_|refine ZW ?_|refine Zh (fun b=>?_)|refine Zf (fun b=>?_)|refine Ze ?_|refine ZV ?_|refine ZA (n1) (fun _ _=>?_)|refine l_call0 (n1) (fun _ _=>?_)|refine ZK (n1) (fun _ _=>?_)|refine ZA (n2 _) (fun _ _=>?_)|refine l_call0 (n2 _) (fun _ _=>?_)|refine ZK (n2 _) (fun _ _=>?_)|refine ZA (n3 _) (fun _ _=>?_)|refine l_call0 (n3 _) (fun _ _=>?_)|refine ZK (n3 _) (fun _ _=>?_)|rw [w1]|(refine ZC (fun hc=>?_) (fun hc=>?_)<;>(try simp at hc)<;>(try omega))|(refine ZS (fun hc=>?_) (fun hc=>?_)<;>(try simp at hc)<;>(try omega))|refine ZQ 17 [] [(0,0),(1,0),(2,0),(3,0),(4,0),(5,0),(6,0),(7,0),(8,0),(9,0)] [] ?_|(refine ZE (fun hc=>?_) (fun hc=>?_)<;>(try simp at hc)<;>(try omega)))
      all_goals first|exact Zq (Zr (Zk ((some ⟨bt,0,none⟩),‹Kx l _›) rfl trivial))|exact absurd hc (hlt _)|exact absurd (hlt _) (Nat.not_lt.2 hc)
     ·rw [if_pos h5k]
      have hlt:∀q:Kx l m5,q.1<l.length:=fun q=>by obtain ⟨t,ts,hh⟩:=List.exists_cons_of_ne_nil h5k;exact (Zy (q.2.trans hh)).2.1
      repeat' (first|refine Zi ?_|refine Zj (es:=wActs) (f:=skl) i wd hw (fun b off=>?_)|refine ZG ?_|refine ZF ?_|refine ZJ ?_|refine ZH ?_|refine ZL ?_|refine ZI ?_|refine ZN ?_|refine ZO (fun b=>?_)|refine ZM (fun b=>?_)|refine ZB ?_|refine ZD ?_|refine ZX ?_|refine ZZ ?_|refine Zg ?_|refine ZY ?_|refine ZW ?_|refine Zh (fun b=>?_)|refine Zf (fun b=>?_)|refine Ze ?_|refine ZV ?_|refine ZA (n1) (fun _ _=>?_)|refine l_call0 (n1) (fun _ _=>?_)|refine ZK (n1) (fun _ _=>?_)|refine ZA (n2 _) (fun _ _=>?_)|refine l_call0 (n2 _) (fun _ _=>?_)|refine ZK (n2 _) (fun _ _=>?_)|refine ZA (n3 _) (fun _ _=>?_)|refine l_call0 (n3 _) (fun _ _=>?_)|refine ZK (n3 _) (fun _ _=>?_)|refine ZA (n6 _) (fun _ _=>?_)|refine l_call0 (n6 _) (fun _ _=>?_)|refine ZK (n6 _) (fun _ _=>?_)|rw [w1]|(refine ZC (fun hc=>?_) (fun hc=>?_)<;>(try simp at hc)<;>(try omega))|(refine ZS (fun hc=>?_) (fun hc=>?_)<;>(try simp at hc)<;>(try omega))|refine ZQ 17 [] [(0,0),(1,0),(2,0),(3,0),(4,0),(5,0),(6,0),(7,0),(8,0),(9,0)] [] ?_|(refine ZE (fun hc=>?_) (fun hc=>?_)<;>(try simp at hc)<;>(try omega)))
      all_goals first|exact Zq (Zr (Zk ((some ⟨bt,0,none⟩),‹Kx l _›) rfl trivial))|exact absurd hc (hlt _)|exact absurd (hlt _) (Nat.not_lt.2 hc)
    | cons t ts=>
     have n2:=fun (q:Kx l ⟨t::ts,en,op,0,cl⟩)=>YM bp l o cap t ts en op 0 cl q.1 q.2
     have ht:=hl.1 t (hsub t (.head _))
     have k3:=kdB_3 ht
     have n7:=VG t.tx (by have:=ht.2;omega)
     rw [←tpl_tm0] at n7
     have hhas:((⟨t::ts,en,op,0,cl⟩:Mq).has (fun t=>decide (t.kd=3) && (tplF t.tx).2.isSome))=(decide (t.kd=3) && (tplF t.tx).2.isSome):=rfl
     rw [hhas]
     by_cases c5:t.kd=3
     ·have q5:=k3.2 c5
      rw [c5]
      cases hz:(tplF t.tx).2 with
      | none=>
       rw [hz] at n7
       have n7:Enters 16∧Spec prog 16 #[.string t.tx] [] [] (RetV (.int .i64 (-1))):=n7
       rw [if_neg (by simp)]
       generalize kdB t=kb at *
       generalize t.tx=tx0 at *
       generalize (⟨t::ts,en,op,0,cl⟩:Mq).take (fun t=>decide (t.kd=3))=y at *
       obtain ⟨tx,m5⟩:=y
       dsimp only at n3 ⊢
       have n6:=fun (q:Kx l m5)=>Zp bp l o cap m5 q 30
       by_cases h5k:m5.tk=[]
       ·rw [if_neg (fun h=>h h5k)]
        have hlt:∀q:Kx l m5,¬q.1<l.length:=fun q=>YN (q.2.trans h5k)
        repeat' (first|refine Zi ?_|refine Zj (es:=wActs) (f:=skl) i wd hw (fun b off=>?_)|refine ZG ?_|refine ZF ?_|refine ZJ ?_|refine ZH ?_|refine ZL ?_|refine ZI ?_|refine ZN ?_|refine ZO (fun b=>?_)|refine ZM (fun b=>?_)|refine ZB ?_|refine ZD ?_|refine ZX ?_|refine ZZ ?_|refine Zg ?_|refine ZY ?_|refine ZW ?_|refine Zh (fun b=>?_)|refine Zf (fun b=>?_)|refine Ze ?_|refine ZV ?_|refine ZA (n1) (fun _ _=>?_)|refine l_call0 (n1) (fun _ _=>?_)|refine ZK (n1) (fun _ _=>?_)|refine ZA (n2 _) (fun _ _=>?_)|refine l_call0 (n2 _) (fun _ _=>?_)|refine ZK (n2 _) (fun _ _=>?_)|refine ZA (n3 _) (fun _ _=>?_)|refine l_call0 (n3 _) (fun _ _=>?_)|refine ZK (n3 _) (fun _ _=>?_)|refine ZA (n7) (fun _ _=>?_)|refine l_call0 (n7) (fun _ _=>?_)|refine ZK (n7) (fun _ _=>?_)|rw [w1]|(refine ZC (fun hc=>?_) (fun hc=>?_)<;>(try simp at hc)<;>(try omega))|(refine ZS (fun hc=>?_) (fun hc=>?_)<;>(try simp at hc)<;>(try omega))|refine ZQ 17 [] [(0,0),(1,0),(2,0),(3,0),(4,0),(5,0),(6,0),(7,0),(8,0),(9,0)] [] ?_|(refine ZE (fun hc=>?_) (fun hc=>?_)<;>(try simp at hc)<;>(try omega)))
        all_goals first|exact Zq (Zr (Zk ((some ⟨bt,0,none⟩),‹Kx l _›) rfl trivial))|exact absurd hc (hlt _)|exact absurd (hlt _) (Nat.not_lt.2 hc)
       ·rw [if_pos h5k]
        have hlt:∀q:Kx l m5,q.1<l.length:=fun q=>by obtain ⟨t,ts,hh⟩:=List.exists_cons_of_ne_nil h5k;exact (Zy (q.2.trans hh)).2.1
        repeat' (first|refine Zi ?_|refine Zj (es:=wActs) (f:=skl) i wd hw (fun b off=>?_)|refine ZG ?_|refine ZF ?_|refine ZJ ?_|refine ZH ?_|refine ZL ?_|refine ZI ?_|refine ZN ?_|refine ZO (fun b=>?_)|refine ZM (fun b=>?_)|refine ZB ?_|refine ZD ?_|refine ZX ?_|refine ZZ ?_|refine Zg ?_|refine ZY ?_|refine ZW ?_|refine Zh (fun b=>?_)|refine Zf (fun b=>?_)|refine Ze ?_|refine ZV ?_|refine ZA (n1) (fun _ _=>?_)|refine l_call0 (n1) (fun _ _=>?_)|refine ZK (n1) (fun _ _=>?_)|refine ZA (n2 _) (fun _ _=>?_)|refine l_call0 (n2 _) (fun _ _=>?_)|refine ZK (n2 _) (fun _ _=>?_)|refine ZA (n3 _) (fun _ _=>?_)|refine l_call0 (n3 _) (fun _ _=>?_)|refine ZK (n3 _) (fun _ _=>?_)|refine ZA (n6 _) (fun _ _=>?_)|refine l_call0 (n6 _) (fun _ _=>?_)|refine ZK (n6 _) (fun _ _=>?_)|refine ZA (n7) (fun _ _=>?_)|refine l_call0 (n7) (fun _ _=>?_)|refine ZK (n7) (fun _ _=>?_)|rw [w1]|(refine ZC (fun hc=>?_) (fun hc=>?_)<;>(try simp at hc)<;>(try omega))|(refine ZS (fun hc=>?_) (fun hc=>?_)<;>(try simp at hc)<;>(try omega))|refine ZQ 17 [] [(0,0),(1,0),(2,0),(3,0),(4,0),(5,0),(6,0),(7,0),(8,0),(9,0)] [] ?_|(refine ZE (fun hc=>?_) (fun hc=>?_)<;>(try simp at hc)<;>(try omega)))
        all_goals first|exact Zq (Zr (Zk ((some ⟨bt,0,none⟩),‹Kx l _›) rfl trivial))|exact absurd hc (hlt _)|exact absurd (hlt _) (Nat.not_lt.2 hc)
      | some z=>
       rw [hz] at n7
       have n7:Enters 16∧Spec prog 16 #[.string t.tx] [] [] (RetV (.int .i64 (z:Int))):=n7
       rw [if_pos (by simp)]
       generalize kdB t=kb at *
       generalize t.tx=tx0 at *
       generalize (⟨t::ts,en,op,0,cl⟩:Mq).fail 3=m3 at *
       generalize m3.take (fun t=>decide (t.kd=3))=y at *
       obtain ⟨tx,m5⟩:=y
       dsimp only at n5 ⊢
       have n6:=fun (q:Kx l m5)=>Zp bp l o cap m5 q 30
       by_cases h5k:m5.tk=[]
       ·rw [if_neg (fun h=>h h5k)]
        have hlt:∀q:Kx l m5,¬q.1<l.length:=fun q=>YN (q.2.trans h5k)
        repeat' (first|refine Zi ?_|refine Zj (es:=wActs) (f:=skl) i wd hw (fun b off=>?_)|refine ZG ?_|refine ZF ?_|refine ZJ ?_|refine ZH ?_|refine ZL ?_|refine ZI ?_|refine ZN ?_|refine ZO (fun b=>?_)|refine ZM (fun b=>?_)|refine ZB ?_|refine ZD ?_|refine ZX ?_|refine ZZ ?_|refine Zg ?_|refine ZY ?_|refine ZW ?_|refine Zh (fun b=>?_)|refine Zf (fun b=>?_)|refine Ze ?_|refine ZV ?_|refine ZA (n1) (fun _ _=>?_)|refine l_call0 (n1) (fun _ _=>?_)|refine ZK (n1) (fun _ _=>?_)|refine ZA (n2 _) (fun _ _=>?_)|refine l_call0 (n2 _) (fun _ _=>?_)|refine ZK (n2 _) (fun _ _=>?_)|refine ZA (n4 _) (fun _ _=>?_)|refine l_call0 (n4 _) (fun _ _=>?_)|refine ZK (n4 _) (fun _ _=>?_)|refine ZA (n5 _) (fun _ _=>?_)|refine l_call0 (n5 _) (fun _ _=>?_)|refine ZK (n5 _) (fun _ _=>?_)|refine ZA (n7) (fun _ _=>?_)|refine l_call0 (n7) (fun _ _=>?_)|refine ZK (n7) (fun _ _=>?_)|rw [w1]|(refine ZC (fun hc=>?_) (fun hc=>?_)<;>(try simp at hc)<;>(try omega))|(refine ZS (fun hc=>?_) (fun hc=>?_)<;>(try simp at hc)<;>(try omega))|refine ZQ 17 [] [(0,0),(1,0),(2,0),(3,0),(4,0),(5,0),(6,0),(7,0),(8,0),(9,0)] [] ?_|(refine ZE (fun hc=>?_) (fun hc=>?_)<;>(try simp at hc)<;>(try omega)))
        all_goals first|exact Zq (Zr (Zk ((some ⟨bt,0,none⟩),‹Kx l _›) rfl trivial))|exact absurd hc (hlt _)|exact absurd (hlt _) (Nat.not_lt.2 hc)
       ·rw [if_pos h5k]
        have hlt:∀q:Kx l m5,q.1<l.length:=fun q=>by obtain ⟨t,ts,hh⟩:=List.exists_cons_of_ne_nil h5k;exact (Zy (q.2.trans hh)).2.1
        repeat' (first|refine Zi ?_|refine Zj (es:=wActs) (f:=skl) i wd hw (fun b off=>?_)|refine ZG ?_|refine ZF ?_|refine ZJ ?_|refine ZH ?_|refine ZL ?_|refine ZI ?_|refine ZN ?_|refine ZO (fun b=>?_)|refine ZM (fun b=>?_)|refine ZB ?_|refine ZD ?_|refine ZX ?_|refine ZZ ?_|refine Zg ?_|refine ZY ?_|refine ZW ?_|refine Zh (fun b=>?_)|refine Zf (fun b=>?_)|refine Ze ?_|refine ZV ?_|refine ZA (n1) (fun _ _=>?_)|refine l_call0 (n1) (fun _ _=>?_)|refine ZK (n1) (fun _ _=>?_)|refine ZA (n2 _) (fun _ _=>?_)|refine l_call0 (n2 _) (fun _ _=>?_)|refine ZK (n2 _) (fun _ _=>?_)|refine ZA (n4 _) (fun _ _=>?_)|refine l_call0 (n4 _) (fun _ _=>?_)|refine ZK (n4 _) (fun _ _=>?_)|refine ZA (n5 _) (fun _ _=>?_)|refine l_call0 (n5 _) (fun _ _=>?_)|refine ZK (n5 _) (fun _ _=>?_)|refine ZA (n6 _) (fun _ _=>?_)|refine l_call0 (n6 _) (fun _ _=>?_)|refine ZK (n6 _) (fun _ _=>?_)|refine ZA (n7) (fun _ _=>?_)|refine l_call0 (n7) (fun _ _=>?_)|refine ZK (n7) (fun _ _=>?_)|rw [w1]|(refine ZC (fun hc=>?_) (fun hc=>?_)<;>(try simp at hc)<;>(try omega))|(refine ZS (fun hc=>?_) (fun hc=>?_)<;>(try simp at hc)<;>(try omega))|refine ZQ 17 [] [(0,0),(1,0),(2,0),(3,0),(4,0),(5,0),(6,0),(7,0),(8,0),(9,0)] [] ?_|(refine ZE (fun hc=>?_) (fun hc=>?_)<;>(try simp at hc)<;>(try omega)))
        all_goals first|exact Zq (Zr (Zk ((some ⟨bt,0,none⟩),‹Kx l _›) rfl trivial))|exact absurd hc (hlt _)|exact absurd (hlt _) (Nat.not_lt.2 hc)
     ·have q5:¬kdB t=115:=fun h=>c5 (k3.1 h)
      rw [if_neg (by simp [c5])]
      generalize kdB t=kb at *
      generalize t.tx=tx0 at *
      generalize (⟨t::ts,en,op,0,cl⟩:Mq).take (fun t=>decide (t.kd=3))=y at *
      obtain ⟨tx,m5⟩:=y
      dsimp only at n3 ⊢
      have n6:=fun (q:Kx l m5)=>Zp bp l o cap m5 q 30
      by_cases h5k:m5.tk=[]
      ·rw [if_neg (fun h=>h h5k)]
       have hlt:∀q:Kx l m5,¬q.1<l.length:=fun q=>YN (q.2.trans h5k)
       repeat' (first|refine Zi ?_|refine Zj (es:=wActs) (f:=skl) i wd hw (fun b off=>?_)|refine ZG ?_|refine ZF ?_|refine ZJ ?_|refine ZH ?_|refine ZL ?_|refine ZI ?_|refine ZN ?_|refine ZO (fun b=>?_)|refine ZM (fun b=>?_)|refine ZB ?_|refine ZD ?_|refine ZX ?_|refine ZZ ?_|refine Zg ?_|refine ZY ?_|refine ZW ?_|refine Zh (fun b=>?_)|refine Zf (fun b=>?_)|refine Ze ?_|refine ZV ?_|refine ZA (n1) (fun _ _=>?_)|refine l_call0 (n1) (fun _ _=>?_)|refine ZK (n1) (fun _ _=>?_)|refine ZA (n2 _) (fun _ _=>?_)|refine l_call0 (n2 _) (fun _ _=>?_)|refine ZK (n2 _) (fun _ _=>?_)|refine ZA (n3 _) (fun _ _=>?_)|refine l_call0 (n3 _) (fun _ _=>?_)|refine ZK (n3 _) (fun _ _=>?_)|rw [w1]|(refine ZC (fun hc=>?_) (fun hc=>?_)<;>(try simp at hc)<;>(try omega))|(refine ZS (fun hc=>?_) (fun hc=>?_)<;>(try simp at hc)<;>(try omega))|refine ZQ 17 [] [(0,0),(1,0),(2,0),(3,0),(4,0),(5,0),(6,0),(7,0),(8,0),(9,0)] [] ?_|(refine ZE (fun hc=>?_) (fun hc=>?_)<;>(try simp at hc)<;>(try omega)))
       all_goals first|exact Zq (Zr (Zk ((some ⟨bt,0,none⟩),‹Kx l _›) rfl trivial))|exact absurd hc (hlt _)|exact absurd (hlt _) (Nat.not_lt.2 hc)
      ·rw [if_pos h5k]
       have hlt:∀q:Kx l m5,q.1<l.length:=fun q=>by obtain ⟨t,ts,hh⟩:=List.exists_cons_of_ne_nil h5k;exact (Zy (q.2.trans hh)).2.1
       repeat' (first|refine Zi ?_|refine Zj (es:=wActs) (f:=skl) i wd hw (fun b off=>?_)|refine ZG ?_|refine ZF ?_|refine ZJ ?_|refine ZH ?_|refine ZL ?_|refine ZI ?_|refine ZN ?_|refine ZO (fun b=>?_)|refine ZM (fun b=>?_)|refine ZB ?_|refine ZD ?_|refine ZX ?_|refine ZZ ?_|refine Zg ?_|refine ZY ?_|refine ZW ?_|refine Zh (fun b=>?_)|refine Zf (fun b=>?_)|refine Ze ?_|refine ZV ?_|refine ZA (n1) (fun _ _=>?_)|refine l_call0 (n1) (fun _ _=>?_)|refine ZK (n1) (fun _ _=>?_)|refine ZA (n2 _) (fun _ _=>?_)|refine l_call0 (n2 _) (fun _ _=>?_)|refine ZK (n2 _) (fun _ _=>?_)|refine ZA (n3 _) (fun _ _=>?_)|refine l_call0 (n3 _) (fun _ _=>?_)|refine ZK (n3 _) (fun _ _=>?_)|refine ZA (n6 _) (fun _ _=>?_)|refine l_call0 (n6 _) (fun _ _=>?_)|refine ZK (n6 _) (fun _ _=>?_)|rw [w1]|(refine ZC (fun hc=>?_) (fun hc=>?_)<;>(try simp at hc)<;>(try omega))|(refine ZS (fun hc=>?_) (fun hc=>?_)<;>(try simp at hc)<;>(try omega))|refine ZQ 17 [] [(0,0),(1,0),(2,0),(3,0),(4,0),(5,0),(6,0),(7,0),(8,0),(9,0)] [] ?_|(refine ZE (fun hc=>?_) (fun hc=>?_)<;>(try simp at hc)<;>(try omega)))
       all_goals first|exact Zq (Zr (Zk ((some ⟨bt,0,none⟩),‹Kx l _›) rfl trivial))|exact absurd hc (hlt _)|exact absurd (hlt _) (Nat.not_lt.2 hc)
   ·rw [if_neg c1]
    dsimp only
    have n6:=fun (q:Kx l m2)=>Zp bp l o cap m2 q 30
    by_cases h5k:m2.tk=[]
    ·rw [if_neg (fun h=>h h5k)]
     have hlt:∀q:Kx l m2,¬q.1<l.length:=fun q=>YN (q.2.trans h5k)
     repeat' (first|refine Zi ?_|refine Zj (es:=wActs) (f:=skl) i wd hw (fun b off=>?_)|refine ZG ?_|refine ZF ?_|refine ZJ ?_|refine ZH ?_|refine ZL ?_|refine ZI ?_|refine ZN ?_|refine ZO (fun b=>?_)|refine ZM (fun b=>?_)|refine ZB ?_|refine ZD ?_|refine ZX ?_|refine ZZ ?_|refine Zg ?_|refine ZY ?_|refine ZW ?_|refine Zh (fun b=>?_)|refine Zf (fun b=>?_)|refine Ze ?_|refine ZV ?_|refine ZA (n1) (fun _ _=>?_)|refine l_call0 (n1) (fun _ _=>?_)|refine ZK (n1) (fun _ _=>?_)|rw [w1]|(refine ZC (fun hc=>?_) (fun hc=>?_)<;>(try simp at hc)<;>(try omega))|(refine ZS (fun hc=>?_) (fun hc=>?_)<;>(try simp at hc)<;>(try omega))|refine ZQ 17 [] [(0,0),(1,0),(2,0),(3,0),(4,0),(5,0),(6,0),(7,0),(8,0),(9,0)] [] ?_|(refine ZE (fun hc=>?_) (fun hc=>?_)<;>(try simp at hc)<;>(try omega)))
     all_goals first|exact Zq (Zr (Zk ((some ⟨bt,0,none⟩),‹Kx l _›) rfl trivial))|exact absurd hc (hlt _)|exact absurd (hlt _) (Nat.not_lt.2 hc)
    ·rw [if_pos h5k]
     have hlt:∀q:Kx l m2,q.1<l.length:=fun q=>by obtain ⟨t,ts,hh⟩:=List.exists_cons_of_ne_nil h5k;exact (Zy (q.2.trans hh)).2.1
     repeat' (first|refine Zi ?_|refine Zj (es:=wActs) (f:=skl) i wd hw (fun b off=>?_)|refine ZG ?_|refine ZF ?_|refine ZJ ?_|refine ZH ?_|refine ZL ?_|refine ZI ?_|refine ZN ?_|refine ZO (fun b=>?_)|refine ZM (fun b=>?_)|refine ZB ?_|refine ZD ?_|refine ZX ?_|refine ZZ ?_|refine Zg ?_|refine ZY ?_|refine ZW ?_|refine Zh (fun b=>?_)|refine Zf (fun b=>?_)|refine Ze ?_|refine ZV ?_|refine ZA (n1) (fun _ _=>?_)|refine l_call0 (n1) (fun _ _=>?_)|refine ZK (n1) (fun _ _=>?_)|refine ZA (n6 _) (fun _ _=>?_)|refine l_call0 (n6 _) (fun _ _=>?_)|refine ZK (n6 _) (fun _ _=>?_)|rw [w1]|(refine ZC (fun hc=>?_) (fun hc=>?_)<;>(try simp at hc)<;>(try omega))|(refine ZS (fun hc=>?_) (fun hc=>?_)<;>(try simp at hc)<;>(try omega))|refine ZQ 17 [] [(0,0),(1,0),(2,0),(3,0),(4,0),(5,0),(6,0),(7,0),(8,0),(9,0)] [] ?_|(refine ZE (fun hc=>?_) (fun hc=>?_)<;>(try simp at hc)<;>(try omega)))
     all_goals first|exact Zq (Zr (Zk ((some ⟨bt,0,none⟩),‹Kx l _›) rfl trivial))|exact absurd hc (hlt _)|exact absurd (hlt _) (Nat.not_lt.2 hc)
 ·obtain rfl:i=5:=by omega
  have hno2:∀w ∈ wActs,m1.word w=false:=fun w hw=>by
   obtain ⟨j2,hj2,rfl⟩:=List.getElem_of_mem hw
   have:=hno j2 hj2
   rwa [show wActs.getD j2 eB=wActs[j2] by simp [List.getD,List.getElem?_eq_getElem hj2]] at this
  have hA:actM m1=(⟨0,eB⟩,m1.fail 30):=by
   unfold actM
   rw [if_neg]
   rintro ⟨h1,h2⟩
   rw [WG h1 hno2 (fun x=>decide (idx x wActs<5)) (fun w hw=>Zx (l:=wActs).1 (show idx w wActs<wActs.length from of_decide_eq_true hw))] at h2
   cases h2
  rw [hA]
  have n1:=Zp bp l o cap m1 q 30
  repeat' (first|refine ZG ?_|refine ZF ?_|refine ZJ ?_|refine ZH ?_|refine ZL ?_|refine ZI ?_|refine ZN ?_|refine ZO (fun b=>?_)|refine ZM (fun b=>?_)|refine ZB ?_|refine ZD ?_|refine ZP ?_|refine ZX ?_|refine ZZ ?_|refine Zg ?_|refine ZY ?_|refine ZW ?_|refine Zh (fun b=>?_)|refine Zf (fun b=>?_)|refine Ze ?_|refine ZV ?_|refine ZA (n1) (fun _ _=>?_)|refine l_call0 (n1) (fun _ _=>?_)|refine ZK (n1) (fun _ _=>?_)|(refine ZC (fun hc=>?_) (fun hc=>?_)<;>(try simp at hc)<;>(try omega))|(refine ZS (fun hc=>?_) (fun hc=>?_)<;>(try simp at hc)<;>(try omega))|refine ZQ 17 [] [(0,0),(1,0),(2,0),(3,0),(4,0),(5,0),(6,0),(7,0),(8,0),(9,0)] [] ?_|(refine ZE (fun hc=>?_) (fun hc=>?_)<;>(try simp at hc)<;>(try omega)))
  rename_i q2 _
  exact ZR ((some ⟨bt,0,none⟩),q2) rfl trivial
theorem mpRule_ok (bp:Nat) (l:List Tk) (o:Option Addr) (cap:Nat) (hl:LOK l) (m:Mq) (q:Kx l m) (h1:0≤m.op) (h2:m.op≤32):Enters 51∧Spec prog 51 #[.pointer (some ⟨bp,0,none⟩)] [TmS o cap l] [Pt bp (mqC m l.length q.1 o cap)] (LrP bp l (ruleM m) o cap):=by
 rw [ruleM_eq]
 cases hif:m.word wIf with
 | false=>exact mpRuleN_ok bp l o cap hl m q hif
 | true=>exact mpRuleC_ok bp l o cap hl m q hif h1 h2 _ rfl
theorem Xn:∀(f:Nat) (L:List UInt8) (i:Nat) (acc:List Seg),acc <+: (divF f L i acc).1
 | 0,_,_,acc=>by rw [divF];exact List.prefix_rfl
 | f+1,[],_,acc=>by rw [divF];exact List.prefix_rfl
 | f+1,c::r,i,acc=>by
  rw [divF]
  dsimp only
  split
  ·exact List.prefix_append _ _
  ·split
   ·exact (List.prefix_append _ _).trans (Xn f _ _ _)
   ·split
    ·exact (List.prefix_append _ _).trans (Xn f _ _ _)
    ·split
     ·exact (List.prefix_append _ _).trans (Xn f _ _ _)
     ·exact List.prefix_rfl
def tplV (s:ByteArray):Int:=match (tplF s).2 with
 | none=>-1
 | some i=>(i:Int)
def cq0:Cq:=⟨0,⟨#[]⟩,0,0,⟨0,⟨#[]⟩,⟨#[]⟩,0⟩,0,⟨0,⟨#[]⟩,⟨#[]⟩,0⟩,0⟩
theorem cq0_i:CqI cq0:=by constructor<;>decide
theorem YG (l:List UInt8):(ofL l).size=l.length:=by show l.toArray.size=_;simp
theorem Z8 (l:List UInt8):(ofL l).data.toList=l:=by show l.toArray.toList=_;simp
theorem hd_ix {c d:UInt8} {l:List UInt8} (h:l.head? = some d):(c::l)[1]? = some d:=by cases l<;>simp_all
set_option maxHeartbeats 8000000 in
theorem Vg (s:ByteArray) (hs:s.size≤1000000) (lf ff:Value) (J:List Seg→HP)
  (hl:∀acc t,acc++[.lit t] <+: (tplF s).1→SpecV lf [.string t] [P10] [J acc] ⟨Unit,fun _=>.tuple #[],fun _=>True,fun _=>[],fun _=>[J (acc++[.lit t])]⟩)
  (hf:∀acc n,acc++[.fld n] <+: (tplF s).1→SpecV ff [.string n] [P10] [J acc] ⟨Unit,fun _=>.tuple #[],fun _=>True,fun _=>[],fun _=>[J (acc++[.fld n])]⟩) :
  Enters 36∧Spec prog 36 #[.string s,lf,ff] [P10] [J []] ⟨Unit,fun _=>.int .i64 (tplV s),fun _=>True,fun _=>[],fun _=>[J (tplF s).1]⟩:=by
 have hsz:=lsz s
 obtain ⟨V,hV⟩:∃V,tplV s=V:=⟨_,rfl⟩
 obtain ⟨T,hT⟩:∃T,tplF s=T:=⟨_,rfl⟩
 rw [hT] at hl hf ⊢
 rw [hV]
 unfold tplV at hV
 rw [hT] at hV
 refine ZT [_,_,_] func36 ntmps36 fun G w hp=>?_
 repeat' (first|refine ZG ?_|refine ZF ?_|refine ZJ ?_|refine ZH ?_|refine ZL ?_|refine ZI ?_|refine ZN ?_|refine ZO (fun b=>?_)|refine ZM (fun b=>?_)|refine ZB ?_|refine ZD ?_|(refine ZC (fun hc=>?_) (fun hc=>?_)<;>(try simp at hc))|(refine ZE (fun hc=>?_) (fun hc=>?_)<;>(try simp at hc)))
 refine YJ (X:={q:Nat×List Seg // q.1≤s.size∧∃f,(s.data.toList.drop q.1).length<f∧T=divF f (s.data.toList.drop q.1) q.1 q.2}) (fun q=>[(0,.string s),(1,lf),(2,ff),(7,.int .i64 (q.1.1:Int))]) (fun _=>[P10]) (fun q=>[J q.1.2]) (fun q=>s.size - q.1.1) ⟨(0,[]),Nat.zero_le _,s.size+1,by simp,hT.symm⟩ ⟨rfl,rfl,rfl,rfl,trivial⟩ ?_
 rintro ⟨⟨i,acc⟩,hi,f,hfu,ht⟩
 dsimp only at hi hfu ht ⊢
 have hdl:(s.data.toList.drop i).length=s.size - i:=by rw [List.length_drop];omega
 obtain ⟨L,hL'⟩:∃L,L=s.data.toList.drop i:=⟨_,rfl⟩
 rw [←hL'] at hfu ht hdl
 have hL:=hL'.symm
 clear hL'
 have hLs:(ofL L).size=L.length:=YG L
 have hLl:(ofL L).data.toList=L:=Z8 L
 cases hLc:L with
 | nil=>
  subst hLc
  simp only [List.length_nil] at hdl
  have e1:T=(acc,none):=by rw [ht];cases f<;>rfl
  subst e1 hV
  repeat' (first|refine ZG ?_|refine ZF ?_|refine ZJ ?_|refine ZH ?_|refine ZL ?_|refine ZI ?_|refine ZN ?_|refine ZO (fun b=>?_)|refine ZM (fun b=>?_)|refine ZB ?_|refine ZD ?_|refine ZP ?_|(refine ZC (fun hc=>?_) (fun hc=>?_)<;>(try simp at hc)<;>(try omega))|(refine ZE (fun hc=>?_) (fun hc=>?_)<;>(try simp at hc)<;>(try omega)))
  exact ZR () rfl trivial
 | cons c r=>
  obtain ⟨f,rfl⟩:∃g,f=g+1:=⟨f - 1,by omega⟩
  have hll:L.length=r.length+1:=by rw [hLc];rfl
  have hlt:i<s.size:=by omega
  have hix:=indexAny_ok (ofL L) (by omega)
  rw [hLl] at hix
  unfold ixB at hix
  have hkl:=YB (fun x=>!isBr x) L
  rw [hLc] at ht
  rw [divF] at ht
  dsimp only at ht
  rw [←hLc] at ht
  generalize hk:spanF (fun x=>!isBr x) L=k at *
  by_cases c1:k=L.length
  ·rw [if_pos c1] at hix ht
   subst ht hV
   have n1:=hl acc (ofL L) List.prefix_rfl
   dsimp only
   repeat' (first|refine ZG ?_|refine ZF ?_|refine ZJ ?_|refine ZH ?_|refine ZL ?_|refine ZI ?_|refine ZN ?_|refine ZO (fun b=>?_)|refine ZM (fun b=>?_)|refine ZB ?_|refine ZD ?_|refine ZP ?_|refine ZA (hix) (fun _ _=>?_)|refine l_call0 (hix) (fun _ _=>?_)|refine YI (s:=s) (u:=ofL L) i (by omega) (by rw [hL,hLl]) ?_|refine XE n1 (fun _ _=>?_)|(refine ZC (fun hc=>?_) (fun hc=>?_)<;>(try simp at hc)<;>(try omega))|(refine ZE (fun hc=>?_) (fun hc=>?_)<;>(try simp at hc)<;>(try omega)))
   first|exact ZR () rfl trivial|exact Zq (Zr (Zk () rfl trivial))
  ·rw [if_neg c1] at hix ht
   by_cases c2:k=0
   ·rw [if_neg (by simpa using c2)] at ht
    subst c2
    by_cases c3:r.head? = some c
    ·rw [if_pos c3] at ht
     have hr1:1≤r.length:=by cases r with|nil=>simp at c3|cons=>simp
     have n1:=hl acc (ofL [c]) (by rw [ht];exact Xn _ _ _ _)
     have w1:=wrapi (z:=(i:Int)+2) (by omega) (by omega)
     have h0:(ofL L).data.toList[0]? = some c:=by rw [hLl,hLc];rfl
     have h1:(ofL L).data.toList[1]? = some c:=by rw [hLl,hLc];exact hd_ix c3
     have hrl:((ofL L).size:Int)=(r.length:Int)+1:=by omega
     repeat' (first|refine ZG ?_|refine ZF ?_|refine ZJ ?_|refine ZH ?_|refine ZL ?_|refine ZI ?_|refine ZN ?_|refine ZO (fun b=>?_)|refine ZM (fun b=>?_)|refine ZB ?_|refine ZD ?_|refine ZP ?_|refine ZX ?_|refine ZZ ?_|refine Zg ?_|refine ZY ?_|refine ZW ?_|refine Zh (fun b=>?_)|refine Zf (fun b=>?_)|refine Ze ?_|refine ZV ?_|refine ZA (hix) (fun _ _=>?_)|refine l_call0 (hix) (fun _ _=>?_)|refine ZK (hix) (fun _ _=>?_)|refine YI (s:=s) (u:=ofL L) i (by omega) (by rw [hL,hLl]) ?_|refine XA (s:=ofL L) 0 c h0 ?_|refine XA (s:=ofL L) 1 c h1 ?_|refine l_sTo (s:=ofL L) (u:=ofL [c]) 1 (by omega) (by rw [hLl,hLc,Z8];rfl) ?_|refine XE n1 (fun _ _=>?_)|rw [w1]|(refine ZC (fun hc=>?_) (fun hc=>?_)<;>(try simp at hc)<;>(try omega))|(refine ZS (fun hc=>?_) (fun hc=>?_)<;>(try simp at hc)<;>(try omega))|refine ZQ 17 [] [(0,0),(1,0),(2,0),(3,0),(4,0),(5,0),(6,0),(7,0),(8,0),(9,0),(10,0)] [] ?_|(refine ZE (fun hc=>?_) (fun hc=>?_)<;>(try simp at hc)<;>(try omega)))
     have e1:r.drop 1=s.data.toList.drop (i+2):=by rw [show i+2=i+(1+1) from rfl,←List.drop_drop,hL,hLc];rfl
     refine Za ⟨(i+2,acc++[.lit (ofL [c])]),by show i+2≤s.size;omega,f,?_,?_⟩ (by show s.size - (i+2)<s.size - i;omega) ⟨rfl,rfl,rfl,rfl,trivial⟩
     ·show (s.data.toList.drop (i+2)).length<f
      rw [←e1,List.length_drop];omega
     ·show T=divF f (s.data.toList.drop (i+2)) (i+2) _
      rw [ht,e1]
    ·rw [if_neg c3] at ht
     have h0:(ofL L).data.toList[0]? = some c:=by rw [hLl,hLc];rfl
     have hrz:(ofL r).size=r.length:=YG r
     have hrl:(ofL r).data.toList=r:=Z8 r
     have hdr:(ofL L).data.toList.drop 1=(ofL r).data.toList:=by rw [hLl,hrl,hLc];rfl
     have hLz:((ofL L).size:Int)=(r.length:Int)+1:=by omega
     have hcut:=cut_ok (ofL r) (by omega)
     rw [hrl] at hcut
     have hm:=YB (fun x=>!(x == 125)) r
     generalize spanF (fun x=>!(x == 125)) r=m at *
     by_cases c4:m<r.length
     ·have ecv:cutV r m = .tuple #[.string (ofL (r.take m)),.string (ofL (r.drop (m+1))),.bool true]:=if_pos c4
      rw [ecv] at hcut
      have hv:=W5 (ofL (r.take m)) cq0 cq0_i
      have hrm:((ofL (r.take m)).size:Int)=(m:Int):=by rw [YG,List.length_take];omega
      obtain ⟨d,hd⟩:∃d,r.head? = some d:=by cases r with|nil=>simp at c4|cons d r=>exact ⟨d,rfl⟩
      have h1:(ofL L).data.toList[1]? = some d:=by rw [hLl,hLc];exact hd_ix hd
      have hdc:¬(d.toNat:Int)=(c.toNat:Int):=fun h=>c3 (by rw [hd];congr 1;exact UInt8.toNat_inj.1 (by omega))
      by_cases c5:idx (ofL (r.take m)) wFlds<7
      ·rw [decide_eq_true c5] at hv
       by_cases c6:c=123
       ·rw [if_pos ⟨c6,c4,c5⟩] at ht
        have k6:(c.toNat:Int)=123:=by rw [c6];rfl
        have n1:=hf acc (ofL (r.take m)) (by rw [ht];exact Xn _ _ _ _)
        have w1:=wrapi (z:=(m:Int)+2) (by omega) (by omega)
        have w2:=wrapi (z:=(i:Int)+((m:Int)+2)) (by omega) (by omega)
        repeat' (first|refine ZG ?_|refine ZF ?_|refine ZJ ?_|refine ZH ?_|refine ZL ?_|refine ZI ?_|refine ZN ?_|refine ZO (fun b=>?_)|refine ZM (fun b=>?_)|refine ZB ?_|refine ZD ?_|refine ZP ?_|refine ZX ?_|refine ZZ ?_|refine Zg ?_|refine ZY ?_|refine ZW ?_|refine Zh (fun b=>?_)|refine Zf (fun b=>?_)|refine Ze ?_|refine ZV ?_|refine ZA (hix) (fun _ _=>?_)|refine l_call0 (hix) (fun _ _=>?_)|refine ZK (hix) (fun _ _=>?_)|refine ZA (hcut) (fun _ _=>?_)|refine l_call0 (hcut) (fun _ _=>?_)|refine ZK (hcut) (fun _ _=>?_)|refine ZA (hv) (fun _ _=>?_)|refine l_call0 (hv) (fun _ _=>?_)|refine ZK (hv) (fun _ _=>?_)|refine YI (s:=s) (u:=ofL L) i (by omega) (by rw [hL,hLl]) ?_|refine XA (s:=ofL L) 0 c h0 ?_|refine XA (s:=ofL L) 1 d h1 ?_|refine YI (s:=ofL L) (u:=ofL r) 1 (by omega) hdr ?_|refine Zm (s:=ofL L) 0 c h0 ?_|refine XE n1 (fun _ _=>?_)|rw [hrm]|rw [w1]|rw [w2]|(refine ZC (fun hc=>?_) (fun hc=>?_)<;>(try simp at hc)<;>(try omega))|(refine ZS (fun hc=>?_) (fun hc=>?_)<;>(try simp at hc)<;>(try omega))|refine ZQ 17 [] [(0,0),(1,0),(2,0),(3,0),(4,0),(5,0),(6,0),(7,0),(8,0),(9,0),(10,0)] [] ?_|(refine ZE (fun hc=>?_) (fun hc=>?_)<;>(try simp at hc)<;>(try omega)))
        have e1:r.drop (m+1)=s.data.toList.drop (i+m+2):=by
         have e0:s.data.toList.drop (i+m+2)=L.drop (m+2):=by rw [←hL,List.drop_drop];rfl
         rw [e0,hLc];rfl
        refine Za ⟨(i+m+2,acc++[.fld (ofL (r.take m))]),by show i+m+2≤s.size;omega,f,?_,?_⟩ (by show s.size - (i+m+2)<s.size - i;omega) ⟨rfl,rfl,rfl,by rw [show (i:Int)+((m:Int)+2)=((i+m+2:Nat):Int) by omega];rfl,trivial⟩
        ·show (s.data.toList.drop (i+m+2)).length<f
         rw [←e1,List.length_drop];omega
        ·show T=divF f (s.data.toList.drop (i+m+2)) (i+m+2) _
         rw [ht,e1]
       ·rw [if_neg (fun h=>c6 h.1)] at ht
        have k6:¬(c.toNat:Int)=123:=fun h=>c6 ((u8i (k:=123) (by decide)).2 h)
        subst ht hV
        repeat' (first|refine ZG ?_|refine ZF ?_|refine ZJ ?_|refine ZH ?_|refine ZL ?_|refine ZI ?_|refine ZN ?_|refine ZO (fun b=>?_)|refine ZM (fun b=>?_)|refine ZB ?_|refine ZD ?_|refine ZP ?_|refine ZX ?_|refine ZZ ?_|refine Zg ?_|refine ZY ?_|refine ZW ?_|refine Zh (fun b=>?_)|refine Zf (fun b=>?_)|refine Ze ?_|refine ZV ?_|refine ZA (hix) (fun _ _=>?_)|refine l_call0 (hix) (fun _ _=>?_)|refine ZK (hix) (fun _ _=>?_)|refine ZA (hcut) (fun _ _=>?_)|refine l_call0 (hcut) (fun _ _=>?_)|refine ZK (hcut) (fun _ _=>?_)|refine ZA (hv) (fun _ _=>?_)|refine l_call0 (hv) (fun _ _=>?_)|refine ZK (hv) (fun _ _=>?_)|refine YI (s:=s) (u:=ofL L) i (by omega) (by rw [hL,hLl]) ?_|refine XA (s:=ofL L) 0 c h0 ?_|refine XA (s:=ofL L) 1 d h1 ?_|refine YI (s:=ofL L) (u:=ofL r) 1 (by omega) hdr ?_|refine Zm (s:=ofL L) 0 c h0 ?_|(refine ZC (fun hc=>?_) (fun hc=>?_)<;>(try simp at hc)<;>(try omega))|(refine ZS (fun hc=>?_) (fun hc=>?_)<;>(try simp at hc)<;>(try omega))|refine ZQ 17 [] [(0,0),(1,0),(2,0),(3,0),(4,0),(5,0),(6,0),(7,0),(8,0),(9,0),(10,0)] [] ?_|(refine ZE (fun hc=>?_) (fun hc=>?_)<;>(try simp at hc)<;>(try omega)))
        first|exact ZR () rfl trivial|exact Zq (Zr (Zk () rfl trivial))
      ·rw [decide_eq_false c5] at hv
       rw [if_neg (fun h=>c5 h.2.2)] at ht
       subst ht hV
       repeat' (first|refine ZG ?_|refine ZF ?_|refine ZJ ?_|refine ZH ?_|refine ZL ?_|refine ZI ?_|refine ZN ?_|refine ZO (fun b=>?_)|refine ZM (fun b=>?_)|refine ZB ?_|refine ZD ?_|refine ZP ?_|refine ZX ?_|refine ZZ ?_|refine Zg ?_|refine ZY ?_|refine ZW ?_|refine Zh (fun b=>?_)|refine Zf (fun b=>?_)|refine Ze ?_|refine ZV ?_|refine ZA (hix) (fun _ _=>?_)|refine l_call0 (hix) (fun _ _=>?_)|refine ZK (hix) (fun _ _=>?_)|refine ZA (hcut) (fun _ _=>?_)|refine l_call0 (hcut) (fun _ _=>?_)|refine ZK (hcut) (fun _ _=>?_)|refine ZA (hv) (fun _ _=>?_)|refine l_call0 (hv) (fun _ _=>?_)|refine ZK (hv) (fun _ _=>?_)|refine YI (s:=s) (u:=ofL L) i (by omega) (by rw [hL,hLl]) ?_|refine XA (s:=ofL L) 0 c h0 ?_|refine XA (s:=ofL L) 1 d h1 ?_|refine YI (s:=ofL L) (u:=ofL r) 1 (by omega) hdr ?_|refine Zm (s:=ofL L) 0 c h0 ?_|(refine ZC (fun hc=>?_) (fun hc=>?_)<;>(try simp at hc)<;>(try omega))|(refine ZS (fun hc=>?_) (fun hc=>?_)<;>(try simp at hc)<;>(try omega))|refine ZQ 17 [] [(0,0),(1,0),(2,0),(3,0),(4,0),(5,0),(6,0),(7,0),(8,0),(9,0),(10,0)] [] ?_|(refine ZE (fun hc=>?_) (fun hc=>?_)<;>(try simp at hc)<;>(try omega)))
       all_goals first|exact ZR () rfl trivial|exact Zq (Zr (Zk () rfl trivial))
     ·have ecv:cutV r m = .tuple #[.string (ofL r),.string ⟨#[]⟩,.bool false]:=if_neg c4
      rw [ecv] at hcut
      have hv:=W5 (ofL r) cq0 cq0_i
      rw [if_neg (fun h=>c4 h.2.1)] at ht
      subst ht hV
      by_cases c7:r=[]
      ·have hr0:(r.length:Int)=0:=by rw [c7];rfl
       repeat' (first|refine ZG ?_|refine ZF ?_|refine ZJ ?_|refine ZH ?_|refine ZL ?_|refine ZI ?_|refine ZN ?_|refine ZO (fun b=>?_)|refine ZM (fun b=>?_)|refine ZB ?_|refine ZD ?_|refine ZP ?_|refine ZX ?_|refine ZZ ?_|refine Zg ?_|refine ZY ?_|refine ZW ?_|refine Zh (fun b=>?_)|refine Zf (fun b=>?_)|refine Ze ?_|refine ZV ?_|refine ZA (hix) (fun _ _=>?_)|refine l_call0 (hix) (fun _ _=>?_)|refine ZK (hix) (fun _ _=>?_)|refine ZA (hcut) (fun _ _=>?_)|refine l_call0 (hcut) (fun _ _=>?_)|refine ZK (hcut) (fun _ _=>?_)|refine ZA (hv) (fun _ _=>?_)|refine l_call0 (hv) (fun _ _=>?_)|refine ZK (hv) (fun _ _=>?_)|refine YI (s:=s) (u:=ofL L) i (by omega) (by rw [hL,hLl]) ?_|refine XA (s:=ofL L) 0 c h0 ?_|refine YI (s:=ofL L) (u:=ofL r) 1 (by omega) hdr ?_|refine Zm (s:=ofL L) 0 c h0 ?_|(refine ZC (fun hc=>?_) (fun hc=>?_)<;>(try simp at hc)<;>(try omega))|(refine ZS (fun hc=>?_) (fun hc=>?_)<;>(try simp at hc)<;>(try omega))|refine ZQ 17 [] [(0,0),(1,0),(2,0),(3,0),(4,0),(5,0),(6,0),(7,0),(8,0),(9,0),(10,0)] [] ?_|(refine ZE (fun hc=>?_) (fun hc=>?_)<;>(try simp at hc)<;>(try omega)))
       all_goals first|exact ZR () rfl trivial|exact Zq (Zr (Zk () rfl trivial))
      ·obtain ⟨d,hd⟩:∃d,r.head? = some d:=by cases r with|nil=>exact absurd rfl c7|cons d r=>exact ⟨d,rfl⟩
       have hr0:0<r.length:=List.length_pos_iff.2 c7
       have h1:(ofL L).data.toList[1]? = some d:=by rw [hLl,hLc];exact hd_ix hd
       have hdc:¬(d.toNat:Int)=(c.toNat:Int):=fun h=>c3 (by rw [hd];congr 1;exact UInt8.toNat_inj.1 (by omega))
       repeat' (first|refine ZG ?_|refine ZF ?_|refine ZJ ?_|refine ZH ?_|refine ZL ?_|refine ZI ?_|refine ZN ?_|refine ZO (fun b=>?_)|refine ZM (fun b=>?_)|refine ZB ?_|refine ZD ?_|refine ZP ?_|refine ZX ?_|refine ZZ ?_|refine Zg ?_|refine ZY ?_|refine ZW ?_|refine Zh (fun b=>?_)|refine Zf (fun b=>?_)|refine Ze ?_|refine ZV ?_|refine ZA (hix) (fun _ _=>?_)|refine l_call0 (hix) (fun _ _=>?_)|refine ZK (hix) (fun _ _=>?_)|refine ZA (hcut) (fun _ _=>?_)|refine l_call0 (hcut) (fun _ _=>?_)|refine ZK (hcut) (fun _ _=>?_)|refine ZA (hv) (fun _ _=>?_)|refine l_call0 (hv) (fun _ _=>?_)|refine ZK (hv) (fun _ _=>?_)|refine YI (s:=s) (u:=ofL L) i (by omega) (by rw [hL,hLl]) ?_|refine XA (s:=ofL L) 0 c h0 ?_|refine XA (s:=ofL L) 1 d h1 ?_|refine YI (s:=ofL L) (u:=ofL r) 1 (by omega) hdr ?_|refine Zm (s:=ofL L) 0 c h0 ?_|(refine ZC (fun hc=>?_) (fun hc=>?_)<;>(try simp at hc)<;>(try omega))|(refine ZS (fun hc=>?_) (fun hc=>?_)<;>(try simp at hc)<;>(try omega))|refine ZQ 17 [] [(0,0),(1,0),(2,0),(3,0),(4,0),(5,0),(6,0),(7,0),(8,0),(9,0),(10,0)] [] ?_|(refine ZE (fun hc=>?_) (fun hc=>?_)<;>(try simp at hc)<;>(try omega)))
       all_goals first|exact ZR () rfl trivial|exact Zq (Zr (Zk () rfl trivial))
   ·rw [if_pos (by simpa using c2)] at ht
    have n1:=hl acc (ofL (L.take k)) (by rw [ht];exact Xn _ _ _ _)
    have w1:=wrapi (z:=(i:Int)+(k:Int)) (by omega) (by omega)
    have e1:(L.drop k)=s.data.toList.drop (i+k):=by rw [←hL,List.drop_drop]
    repeat' (first|refine ZG ?_|refine ZF ?_|refine ZJ ?_|refine ZH ?_|refine ZL ?_|refine ZI ?_|refine ZN ?_|refine ZO (fun b=>?_)|refine ZM (fun b=>?_)|refine ZB ?_|refine ZD ?_|refine ZP ?_|refine ZA (hix) (fun _ _=>?_)|refine l_call0 (hix) (fun _ _=>?_)|refine YI (s:=s) (u:=ofL L) i (by omega) (by rw [hL,hLl]) ?_|refine l_sTo (s:=ofL L) (u:=ofL (L.take k)) k (by omega) (by rw [hLl,Z8]) ?_|refine XE n1 (fun _ _=>?_)|rw [w1]|(refine ZC (fun hc=>?_) (fun hc=>?_)<;>(try simp at hc)<;>(try omega))|(refine ZE (fun hc=>?_) (fun hc=>?_)<;>(try simp at hc)<;>(try omega)))
    refine Za ⟨(i+k,acc++[.lit (ofL (L.take k))]),by show i+k≤s.size;omega,f,?_,?_⟩ (by show s.size - (i+k)<s.size - i;omega) ⟨rfl,rfl,rfl,rfl,trivial⟩
    ·show (s.data.toList.drop (i+k)).length<f
     rw [←e1,List.length_drop];omega
    ·show T=divF f (s.data.toList.drop (i+k)) (i+k) _
     rw [ht,e1]
abbrev scV (r:List Tk×Nat×Bool) (q:Option Addr×Nat):Value:=.tuple #[.slice q.1 r.1.length q.2,.int .i64 (if r.2.2=true then (r.2.1:Int)+1 else 0),.int .i64 (if r.2.2=true then 0 else (r.2.1:Int)+1)]
theorem span_more {p:UInt8→Bool} {l:List UInt8} {k:Nat} {c:UInt8} (h:∀x ∈ l.take k,p x=true) (hc:l[k]? = some c) (hp:p c=true):∀x ∈ l.take (k+1),p x=true:=fun x hx=>by
 obtain ⟨hlt,he⟩:=List.getElem?_eq_some_iff.1 hc
 rw [List.take_succ_eq_append_getElem hlt] at hx
 rcases List.mem_append.1 hx with hx|hx
 ·exact h x hx
 ·rw [List.mem_singleton.1 hx,he];exact hp
theorem VK (c:UInt8):isLet c=true↔97≤(c.toNat:Int)∧(c.toNat:Int)≤122:=by
 unfold isLet;simp only [Bool.and_eq_true,decide_eq_true_eq];omega
theorem dgt_iff (c:UInt8):isDgt c=true↔48≤(c.toNat:Int)∧(c.toNat:Int)≤57:=by
 unfold isDgt;simp only [Bool.and_eq_true,decide_eq_true_eq];omega
theorem inNum_iff (c:UInt8):inNum c=true↔(48≤(c.toNat:Int)∧(c.toNat:Int)≤57)∨(c.toNat:Int)=46:=by
 unfold inNum
 rw [Bool.or_eq_true,dgt_iff,u8_46,decide_eq_true_eq]
theorem ofL_app (a b:List UInt8):ofL a++ofL b=ofL (a++b):=YH (by rw [Xd,Z8,Z8,Z8])
theorem sl_nil0 {T:TypeId} {α:Type} {f:α→List Value} {h:H}:(Sl T f none 0 []).p h:=⟨Nat.le_refl _,.inl rfl⟩
set_option maxHeartbeats 8000000 in
theorem mpScan_ok (s:ByteArray) (hs:s.size≤100000):Enters 50∧Spec prog 50 #[.string s] [] []
  ⟨Option Addr×Nat,scV (scanF (s.data.toList.length+1) s.data.toList 0 []),fun _=>True,fun q=>[TmS q.1 q.2 (scanF (s.data.toList.length+1) s.data.toList 0 []).1],fun _=>[]⟩:=by
 have hsz:s.data.toList.length=s.size:=by show _=s.data.size;simp
 generalize hr:scanF (s.data.toList.length+1) s.data.toList 0 []=r
 refine ZT [_] func50 ntmps50 fun G w hp=>?_
 repeat' (first|refine ZG ?_|refine ZF ?_|refine ZJ ?_|refine ZH ?_|refine ZL ?_|refine ZI ?_|refine ZN ?_|refine ZO (fun b=>?_)|refine ZM (fun b=>?_)|refine ZB ?_|refine ZD ?_|(refine ZC (fun hc=>?_) (fun hc=>?_)<;>(try simp at hc))|(refine ZE (fun hc=>?_) (fun hc=>?_)<;>(try simp at hc)))
 refine Z2 (Lx:=[]) (r:=Row 110 3 none 0 0 []) (fun h _=>XW _ _ h) ?_
 refine YJ (X:={q:Nat×List Tk×Option Addr×Nat // q.1≤s.size∧q.2.1.length≤q.1∧∃n,(s.data.toList.drop q.1).length<n∧scanF n (s.data.toList.drop q.1) q.1 q.2.1=r}) (fun q=>[(0,.string s),(2,.slice q.1.2.2.1 q.1.2.1.length q.1.2.2.2),(5,.int .i64 (q.1.1:Int))]) (fun _=>[]) (fun q=>[Row 110 3 q.1.2.2.1 q.1.2.1.length q.1.2.2.2 (q.1.2.1.flatMap tkm)]) (fun q=>s.size - q.1.1) ⟨(0,[],none,0),by show 0≤_;omega,by show 0≤0;omega,s.data.toList.length+1,by simp,hr⟩ ⟨rfl,rfl,rfl,trivial⟩ ?_
 rintro ⟨⟨i,acc,o,cap⟩,hi1,hi2,nn,hn,hi3⟩
 dsimp only at hi1 hi2 hi3 hn ⊢
 obtain ⟨nn,rfl⟩:∃m,nn=m+1:=⟨nn - 1,by omega⟩
 by_cases hlt:i<s.data.toList.length
 ·have hcc:=List.getElem?_eq_getElem hlt
  have hdr:=List.drop_eq_getElem_cons hlt
  have hlt2:i<s.size:=by omega
  generalize hce:s.data.toList[i]=c at *
  rw [hdr] at hi3 hn
  have w1:=wrapi (z:=(i:Int)+1) (by omega) (by omega)
  have hdl:(s.data.toList.drop (i+1)).length<nn:=by simpa using hn
  have hroom:(2 * (acc.length+1)+200) * 32≤281474976710656:=by omega
  have k35:(c.toNat:Int)=35↔c=35:=(u8i (k:=35) (by decide)).symm
  have k32:(c.toNat:Int)=32↔c=32:=(u8i (k:=32) (by decide)).symm
  have k9:(c.toNat:Int)=9↔c=9:=(u8i (k:=9) (by decide)).symm
  have k34:(c.toNat:Int)=34↔c=34:=(u8i (k:=34) (by decide)).symm
  have kl:=VK c
  have kd:=dgt_iff c
  unfold scanF at hi3
  by_cases c35:c=35
  ·rw [if_pos (by simpa using c35)] at hi3
   subst hi3
   have q35:=k35.2 c35
   repeat' (first|refine ZG ?_|refine ZF ?_|refine ZJ ?_|refine ZH ?_|refine ZL ?_|refine ZI ?_|refine ZN ?_|refine ZO (fun b=>?_)|refine ZM (fun b=>?_)|refine ZB ?_|refine ZD ?_|refine Zm (s:=s) i c hcc ?_|rw [w1]|(refine ZC (fun hc=>?_) (fun hc=>?_)<;>(try simp at hc)<;>(try omega))|(refine ZE (fun hc=>?_) (fun hc=>?_)<;>(try simp at hc)<;>(try omega)))
   all_goals (
    refine Xg (T:=110) (sz:=3) (f:=tkm) (o:=o) (cap:=cap) acc ?_ rfl rfl
    exact Zq (Zr (Zk (o,cap) rfl trivial)))
  rw [if_neg (by simpa using c35)] at hi3
  have q35:¬(c.toNat:Int)=35:=fun h=>c35 (k35.1 h)
  by_cases csp:c=32∨c=9
  ·rw [if_pos (by simpa using csp)] at hi3
   have qsp:(c.toNat:Int)=32∨(c.toNat:Int)=9:=csp.imp k32.2 k9.2
   repeat' (first|refine Zm (s:=s) i c hcc ?_|refine ZG ?_|refine ZF ?_|refine ZJ ?_|refine ZH ?_|refine ZL ?_|refine ZI ?_|refine ZN ?_|refine ZO (fun b=>?_)|refine ZM (fun b=>?_)|refine ZB ?_|refine ZD ?_|rw [w1]|(refine ZC (fun hc=>?_) (fun hc=>?_)<;>(try simp at hc)<;>(try omega))|(refine ZE (fun hc=>?_) (fun hc=>?_)<;>(try simp at hc)<;>(try omega)))
   all_goals exact Za ⟨(i+1,acc,o,cap),by show i+1≤s.size;omega,by show acc.length≤i+1;omega,nn,hdl,hi3⟩ (by show s.size - (i+1)<s.size - i;omega) ⟨rfl,rfl,rfl,trivial⟩
  rw [if_neg (by simpa using csp)] at hi3
  have q32:¬(c.toNat:Int)=32:=fun h=>csp (.inl (k32.1 h))
  have q9:¬(c.toNat:Int)=9:=fun h=>csp (.inr (k9.1 h))
  have hstep:∀(t:Tk) (kk:Nat) (o':Option Addr) (cap':Nat),1≤kk→i+kk≤s.size→scanF nn (s.data.toList.drop (i+kk)) (i+kk) (acc++[t])=r→∃q:{q:Nat×List Tk×Option Addr×Nat // q.1≤s.size∧q.2.1.length≤q.1∧∃n,(s.data.toList.drop q.1).length<n∧scanF n (s.data.toList.drop q.1) q.1 q.2.1=r},q.1=(i+kk,acc++[t],o',cap'):=fun t kk o' cap' h1 h2 h3=>⟨⟨(i+kk,acc++[t],o',cap'),h2,by show (acc++[t]).length≤i+kk;rw [List.length_append,List.length_singleton];omega,nn,by show (s.data.toList.drop (i+kk)).length<nn;rw [List.length_drop] at hdl ⊢;omega,h3⟩,rfl⟩
  by_cases cl:isLet c=true
  ·rw [if_pos cl] at hi3
   have qc:=(VK c).1 cl
   have hx0:∀x ∈ (c::s.data.toList.drop (i+1)).take 1,isLet x=true:=fun x hx=>by
    rw [List.take_succ_cons,List.take_zero,List.mem_singleton] at hx
    rw [hx];exact cl
   repeat' (first|refine Zm (s:=s) i c hcc ?_|refine ZG ?_|refine ZF ?_|refine ZJ ?_|refine ZH ?_|refine ZL ?_|refine ZI ?_|refine ZN ?_|refine ZO (fun b=>?_)|refine ZM (fun b=>?_)|refine ZB ?_|refine ZD ?_|rw [w1]|(refine ZC (fun hc=>?_) (fun hc=>?_)<;>(try simp at hc)<;>(try omega))|(refine ZE (fun hc=>?_) (fun hc=>?_)<;>(try simp at hc)<;>(try omega)))
   refine YJ (X:={j:Nat // 1≤j∧i+j≤s.size∧∀x ∈ (c::s.data.toList.drop (i+1)).take j,isLet x=true}) (fun j=>[(0,.string s),(2,.slice o acc.length cap),(5,.int .i64 (i:Int)),(7,.int .i64 ((i+j.1:Nat):Int))]) (fun _=>[]) (fun _=>[Row 110 3 o acc.length cap (acc.flatMap tkm)]) (fun j=>s.size - (i+j.1)) ⟨1,Nat.le_refl _,by omega,hx0⟩ ⟨rfl,rfl,rfl,rfl,trivial⟩ ?_
   rintro ⟨j,j1,j2,j3⟩
   dsimp only at j1 j2 j3 ⊢
   have fin:spanF isLet (c::s.data.toList.drop (i+1))=j→scanF nn (s.data.toList.drop (i+j)) (i+j) (acc++[⟨1,ofL ((c::s.data.toList.drop (i+1)).take j),i⟩])=r:=fun h=>by
    rw [h] at hi3
    rw [←hi3,←hdr,List.drop_drop]
   have hmid:(s.data.toList.take (i+j)).drop i=(ofL ((c::s.data.toList.drop (i+1)).take j)).data.toList:=by
    rw [Z8,←hdr,List.drop_take];congr 1;omega
   have hll:(c::s.data.toList.drop (i+1)).length=s.size - i:=by rw [←hdr,List.length_drop];omega
   by_cases jlt:i+j<s.data.toList.length
   ·have hdd:=List.getElem?_eq_getElem jlt
    have hdg:(c::s.data.toList.drop (i+1))[j]? = some s.data.toList[i+j]:=by rw [←hdr,List.getElem?_drop];exact hdd
    generalize s.data.toList[i+j]=d at *
    have hd256:=d.toNat_lt
    have jlt2:i+j<s.size:=by omega
    have w2:=wrapi (z:=((i+j:Nat):Int)+1) (by omega) (by omega)
    cases hp:isLet d with
    | true=>
     have qd:=(VK d).1 hp
     repeat' (first|refine Zm (s:=s) (i+j) d hdd ?_|refine ZG ?_|refine ZF ?_|refine ZJ ?_|refine ZH ?_|refine ZL ?_|refine ZI ?_|refine ZN ?_|refine ZO (fun b=>?_)|refine ZM (fun b=>?_)|refine ZB ?_|refine ZD ?_|rw [w2]|(refine ZC (fun hc=>?_) (fun hc=>?_)<;>(try simp at hc)<;>(try omega))|(refine ZE (fun hc=>?_) (fun hc=>?_)<;>(try simp at hc)<;>(try omega)))
     all_goals exact Za ⟨j+1,by show 1≤j+1;omega,by show i+(j+1)≤s.size;omega,span_more j3 hdg hp⟩ (by show s.size - (i+(j+1))<s.size - (i+j);omega) ⟨rfl,rfl,rfl,rfl,trivial⟩
    | false=>
     have qd:¬(97≤(d.toNat:Int)∧(d.toNat:Int)≤122):=fun h=>by rw [(VK d).2 h] at hp;cases hp
     have hsp:=Yu (p:=isLet) _ j j3 (by rw [hll];omega) (fun h=>by rw [List.getElem?_eq_getElem h] at hdg;rw [Option.some.inj hdg];exact hp)
     repeat' (first|refine Yd (m:=acc.length) (m2:=1) (fun o' cap'=>?_) (hroom:=hroom)|refine Zm (s:=s) (i+j) d hdd ?_|refine ZG ?_|refine ZF ?_|refine ZJ ?_|refine ZH ?_|refine ZL ?_|refine ZI ?_|refine ZN ?_|refine ZO (fun b=>?_)|refine ZM (fun b=>?_)|refine ZB ?_|refine ZD ?_|refine ZP ?_|refine Yc (s:=s) (u:=ofL ((c::s.data.toList.drop (i+1)).take j)) i (i+j) (by omega) (by omega) hmid ?_|rw [w1]|(refine ZC (fun hc=>?_) (fun hc=>?_)<;>(try simp at hc)<;>(try omega))|(refine ZE (fun hc=>?_) (fun hc=>?_)<;>(try simp at hc)<;>(try omega)))
     all_goals (
      have e1:acc.length+1=(acc++[(⟨1,ofL ((c::s.data.toList.drop (i+1)).take j),i⟩:Tk)]).length:=by simp
      have e2:acc.flatMap tkm++[.int .u8 119,.string (ofL ((c::s.data.toList.drop (i+1)).take j)),.int .i64 ((i:Int)+1)]=(acc++[(⟨1,ofL ((c::s.data.toList.drop (i+1)).take j),i⟩:Tk)]).flatMap tkm:=by simp [kdB]
      refine YE (T:=110) (sz:=3) (o:=o') (cap:=cap') (m:=acc.length+1) _ _ e1 e2 ?_
      rw [e1]
      exact Za ⟨(i+j,acc++[⟨1,ofL ((c::s.data.toList.drop (i+1)).take j),i⟩],o',cap'),by show i+j≤s.size;omega,by show (acc++[_]).length≤i+j;rw [List.length_append,List.length_singleton];omega,nn,by show (s.data.toList.drop (i+j)).length<nn;rw [List.length_drop] at hdl ⊢;omega,fin hsp⟩ (by show s.size - (i+j)<s.size - i;omega) ⟨rfl,rfl,rfl,trivial⟩)
   ·have jlt2:¬((i+j:Nat):Int)<(s.size:Int):=by omega
    have hsp:=Yu (p:=isLet) _ j j3 (by rw [hll];omega) (fun h=>absurd h (by rw [hll];omega))
    repeat' (first|refine Yd (m:=acc.length) (m2:=1) (fun o' cap'=>?_) (hroom:=hroom)|refine ZG ?_|refine ZF ?_|refine ZJ ?_|refine ZH ?_|refine ZL ?_|refine ZI ?_|refine ZN ?_|refine ZO (fun b=>?_)|refine ZM (fun b=>?_)|refine ZB ?_|refine ZD ?_|refine ZP ?_|refine Yc (s:=s) (u:=ofL ((c::s.data.toList.drop (i+1)).take j)) i (i+j) (by omega) (by omega) hmid ?_|rw [w1]|(refine ZC (fun hc=>?_) (fun hc=>?_)<;>(try simp at hc)<;>(try omega))|(refine ZE (fun hc=>?_) (fun hc=>?_)<;>(try simp at hc)<;>(try omega)))
    all_goals (
     have e1:acc.length+1=(acc++[(⟨1,ofL ((c::s.data.toList.drop (i+1)).take j),i⟩:Tk)]).length:=by simp
     have e2:acc.flatMap tkm++[.int .u8 119,.string (ofL ((c::s.data.toList.drop (i+1)).take j)),.int .i64 ((i:Int)+1)]=(acc++[(⟨1,ofL ((c::s.data.toList.drop (i+1)).take j),i⟩:Tk)]).flatMap tkm:=by simp [kdB]
     refine YE (T:=110) (sz:=3) (o:=o') (cap:=cap') (m:=acc.length+1) _ _ e1 e2 ?_
     rw [e1]
     exact Za ⟨(i+j,acc++[⟨1,ofL ((c::s.data.toList.drop (i+1)).take j),i⟩],o',cap'),by show i+j≤s.size;omega,by show (acc++[_]).length≤i+j;rw [List.length_append,List.length_singleton];omega,nn,by show (s.data.toList.drop (i+j)).length<nn;rw [List.length_drop] at hdl ⊢;omega,fin hsp⟩ (by show s.size - (i+j)<s.size - i;omega) ⟨rfl,rfl,rfl,trivial⟩)
  rw [if_neg cl] at hi3
  have ql:¬(97≤(c.toNat:Int)∧(c.toNat:Int)≤122):=fun h=>cl ((VK c).2 h)
  by_cases cl:isDgt c=true
  ·rw [if_pos cl] at hi3
   have qc:=(dgt_iff c).1 cl
   have hx0:∀x ∈ (c::s.data.toList.drop (i+1)).take 1,inNum x=true:=fun x hx=>by
    rw [List.take_succ_cons,List.take_zero,List.mem_singleton] at hx
    rw [hx];exact (by rw [inNum,cl];rfl)
   repeat' (first|refine Zm (s:=s) i c hcc ?_|refine ZG ?_|refine ZF ?_|refine ZJ ?_|refine ZH ?_|refine ZL ?_|refine ZI ?_|refine ZN ?_|refine ZO (fun b=>?_)|refine ZM (fun b=>?_)|refine ZB ?_|refine ZD ?_|rw [w1]|(refine ZC (fun hc=>?_) (fun hc=>?_)<;>(try simp at hc)<;>(try omega))|(refine ZE (fun hc=>?_) (fun hc=>?_)<;>(try simp at hc)<;>(try omega)))
   refine YJ (X:={j:Nat // 1≤j∧i+j≤s.size∧∀x ∈ (c::s.data.toList.drop (i+1)).take j,inNum x=true}) (fun j=>[(0,.string s),(2,.slice o acc.length cap),(5,.int .i64 (i:Int)),(7,.int .i64 ((i+j.1:Nat):Int))]) (fun _=>[]) (fun _=>[Row 110 3 o acc.length cap (acc.flatMap tkm)]) (fun j=>s.size - (i+j.1)) ⟨1,Nat.le_refl _,by omega,hx0⟩ ⟨rfl,rfl,rfl,rfl,trivial⟩ ?_
   rintro ⟨j,j1,j2,j3⟩
   dsimp only at j1 j2 j3 ⊢
   have fin:spanF inNum (c::s.data.toList.drop (i+1))=j→scanF nn (s.data.toList.drop (i+j)) (i+j) (acc++[⟨2,ofL ((c::s.data.toList.drop (i+1)).take j),i⟩])=r:=fun h=>by
    rw [h] at hi3
    rw [←hi3,←hdr,List.drop_drop]
   have hmid:(s.data.toList.take (i+j)).drop i=(ofL ((c::s.data.toList.drop (i+1)).take j)).data.toList:=by
    rw [Z8,←hdr,List.drop_take];congr 1;omega
   have hll:(c::s.data.toList.drop (i+1)).length=s.size - i:=by rw [←hdr,List.length_drop];omega
   by_cases jlt:i+j<s.data.toList.length
   ·have hdd:=List.getElem?_eq_getElem jlt
    have hdg:(c::s.data.toList.drop (i+1))[j]? = some s.data.toList[i+j]:=by rw [←hdr,List.getElem?_drop];exact hdd
    generalize s.data.toList[i+j]=d at *
    have hd256:=d.toNat_lt
    have jlt2:i+j<s.size:=by omega
    have w2:=wrapi (z:=((i+j:Nat):Int)+1) (by omega) (by omega)
    cases hp:inNum d with
    | true=>
     have qd:=(inNum_iff d).1 hp
     repeat' (first|refine Zm (s:=s) (i+j) d hdd ?_|refine ZG ?_|refine ZF ?_|refine ZJ ?_|refine ZH ?_|refine ZL ?_|refine ZI ?_|refine ZN ?_|refine ZO (fun b=>?_)|refine ZM (fun b=>?_)|refine ZB ?_|refine ZD ?_|rw [w2]|(refine ZC (fun hc=>?_) (fun hc=>?_)<;>(try simp at hc)<;>(try omega))|(refine ZE (fun hc=>?_) (fun hc=>?_)<;>(try simp at hc)<;>(try omega)))
     all_goals exact Za ⟨j+1,by show 1≤j+1;omega,by show i+(j+1)≤s.size;omega,span_more j3 hdg hp⟩ (by show s.size - (i+(j+1))<s.size - (i+j);omega) ⟨rfl,rfl,rfl,rfl,trivial⟩
    | false=>
     have qd:¬((48≤(d.toNat:Int)∧(d.toNat:Int)≤57)∨(d.toNat:Int)=46):=fun h=>by rw [(inNum_iff d).2 h] at hp;cases hp
     have hsp:=Yu (p:=inNum) _ j j3 (by rw [hll];omega) (fun h=>by rw [List.getElem?_eq_getElem h] at hdg;rw [Option.some.inj hdg];exact hp)
     repeat' (first|refine Yd (m:=acc.length) (m2:=1) (fun o' cap'=>?_) (hroom:=hroom)|refine Zm (s:=s) (i+j) d hdd ?_|refine ZG ?_|refine ZF ?_|refine ZJ ?_|refine ZH ?_|refine ZL ?_|refine ZI ?_|refine ZN ?_|refine ZO (fun b=>?_)|refine ZM (fun b=>?_)|refine ZB ?_|refine ZD ?_|refine ZP ?_|refine Yc (s:=s) (u:=ofL ((c::s.data.toList.drop (i+1)).take j)) i (i+j) (by omega) (by omega) hmid ?_|rw [w1]|(refine ZC (fun hc=>?_) (fun hc=>?_)<;>(try simp at hc)<;>(try omega))|(refine ZE (fun hc=>?_) (fun hc=>?_)<;>(try simp at hc)<;>(try omega)))
     all_goals (
      have e1:acc.length+1=(acc++[(⟨2,ofL ((c::s.data.toList.drop (i+1)).take j),i⟩:Tk)]).length:=by simp
      have e2:acc.flatMap tkm++[.int .u8 110,.string (ofL ((c::s.data.toList.drop (i+1)).take j)),.int .i64 ((i:Int)+1)]=(acc++[(⟨2,ofL ((c::s.data.toList.drop (i+1)).take j),i⟩:Tk)]).flatMap tkm:=by simp [kdB]
      refine YE (T:=110) (sz:=3) (o:=o') (cap:=cap') (m:=acc.length+1) _ _ e1 e2 ?_
      rw [e1]
      exact Za ⟨(i+j,acc++[⟨2,ofL ((c::s.data.toList.drop (i+1)).take j),i⟩],o',cap'),by show i+j≤s.size;omega,by show (acc++[_]).length≤i+j;rw [List.length_append,List.length_singleton];omega,nn,by show (s.data.toList.drop (i+j)).length<nn;rw [List.length_drop] at hdl ⊢;omega,fin hsp⟩ (by show s.size - (i+j)<s.size - i;omega) ⟨rfl,rfl,rfl,trivial⟩)
   ·have jlt2:¬((i+j:Nat):Int)<(s.size:Int):=by omega
    have hsp:=Yu (p:=inNum) _ j j3 (by rw [hll];omega) (fun h=>absurd h (by rw [hll];omega))
    repeat' (first|refine Yd (m:=acc.length) (m2:=1) (fun o' cap'=>?_) (hroom:=hroom)|refine ZG ?_|refine ZF ?_|refine ZJ ?_|refine ZH ?_|refine ZL ?_|refine ZI ?_|refine ZN ?_|refine ZO (fun b=>?_)|refine ZM (fun b=>?_)|refine ZB ?_|refine ZD ?_|refine ZP ?_|refine Yc (s:=s) (u:=ofL ((c::s.data.toList.drop (i+1)).take j)) i (i+j) (by omega) (by omega) hmid ?_|rw [w1]|(refine ZC (fun hc=>?_) (fun hc=>?_)<;>(try simp at hc)<;>(try omega))|(refine ZE (fun hc=>?_) (fun hc=>?_)<;>(try simp at hc)<;>(try omega)))
    all_goals (
     have e1:acc.length+1=(acc++[(⟨2,ofL ((c::s.data.toList.drop (i+1)).take j),i⟩:Tk)]).length:=by simp
     have e2:acc.flatMap tkm++[.int .u8 110,.string (ofL ((c::s.data.toList.drop (i+1)).take j)),.int .i64 ((i:Int)+1)]=(acc++[(⟨2,ofL ((c::s.data.toList.drop (i+1)).take j),i⟩:Tk)]).flatMap tkm:=by simp [kdB]
     refine YE (T:=110) (sz:=3) (o:=o') (cap:=cap') (m:=acc.length+1) _ _ e1 e2 ?_
     rw [e1]
     exact Za ⟨(i+j,acc++[⟨2,ofL ((c::s.data.toList.drop (i+1)).take j),i⟩],o',cap'),by show i+j≤s.size;omega,by show (acc++[_]).length≤i+j;rw [List.length_append,List.length_singleton];omega,nn,by show (s.data.toList.drop (i+j)).length<nn;rw [List.length_drop] at hdl ⊢;omega,fin hsp⟩ (by show s.size - (i+j)<s.size - i;omega) ⟨rfl,rfl,rfl,trivial⟩)
  rw [if_neg cl] at hi3
  have qdg:¬(48≤(c.toNat:Int)∧(c.toNat:Int)≤57):=fun h=>cl ((dgt_iff c).2 h)
  by_cases c34:c=34
  ·rw [if_pos (by simpa using c34)] at hi3
   have q34:=k34.2 c34
   obtain ⟨U,hU⟩:∃U,unqF (s.data.toList.drop (i+1)) 1 []=U:=⟨_,rfl⟩
   have hbad:U=none→r=([],i,false):=fun h=>by
    rw [hU,h] at hi3
    exact hi3.symm
   have hgood:∀tx kk,U=some (tx,kk)→scanF nn (s.data.toList.drop (i+kk)) (i+kk) (acc++[⟨3,ofL tx,i⟩])=r:=fun tx kk h=>by
    rw [hU,h] at hi3
    have h4:scanF nn ((c::s.data.toList.drop (i+1)).drop kk) (i+kk) (acc++[⟨3,ofL tx,i⟩])=r:=hi3
    rw [←hdr,List.drop_drop] at h4
    exact h4
   clear hi3
   repeat' (first|refine Zm (s:=s) i c hcc ?_|refine ZG ?_|refine ZF ?_|refine ZJ ?_|refine ZH ?_|refine ZL ?_|refine ZI ?_|refine ZN ?_|refine ZO (fun b=>?_)|refine ZM (fun b=>?_)|refine ZB ?_|refine ZD ?_|rw [w1]|(refine ZC (fun hc=>?_) (fun hc=>?_)<;>(try simp at hc)<;>(try omega))|(refine ZE (fun hc=>?_) (fun hc=>?_)<;>(try simp at hc)<;>(try omega)))
   refine YJ (X:={q:Nat×List UInt8 // 1≤q.1∧i+q.1≤s.size∧q.2.length≤q.1∧unqF (s.data.toList.drop (i+q.1)) q.1 q.2=U}) (fun q=>[(0,.string s),(2,.slice o acc.length cap),(5,.int .i64 (i:Int)),(7,.int .i64 ((i+q.1.1:Nat):Int)),(8,.string (ofL q.1.2))]) (fun _=>[]) (fun _=>[Row 110 3 o acc.length cap (acc.flatMap tkm)]) (fun q=>s.size - (i+q.1.1)) ⟨(1,[]),Nat.le_refl _,by show i+1≤_;omega,Nat.zero_le _,hU⟩ ⟨rfl,rfl,rfl,rfl,rfl,trivial⟩ ?_
   rintro ⟨⟨j,tx⟩,j1,j2,j4,j3⟩
   dsimp only at j1 j2 j3 j4 ⊢
   have w2:=wrapi (z:=((i+j:Nat):Int)+1) (by omega) (by omega)
   have w3:=wrapi (z:=((i+j:Nat):Int)+1+1) (by omega) (by omega)
   by_cases jlt:i+j<s.data.toList.length
   ·have hdd:=List.getElem?_eq_getElem jlt
    have hdd2:=List.drop_eq_getElem_cons jlt
    generalize s.data.toList[i+j]=d at *
    have jlt2:i+j<s.size:=by omega
    rw [hdd2] at j3
    have m34:(d.toNat:Int)=34↔d=34:=(u8i (k:=34) (by decide)).symm
    have m92:(d.toNat:Int)=92↔d=92:=(u8i (k:=92) (by decide)).symm
    by_cases d34:d=34
    ·have p34:=m34.2 d34
     rw [d34,unq_34] at j3
     have fin:=hgood _ _ j3.symm
     repeat' (first|refine Yd (m:=acc.length) (m2:=1) (fun o' cap'=>?_) (hroom:=hroom)|refine Zm (s:=s) (i+j) d hdd ?_|refine ZG ?_|refine ZF ?_|refine ZJ ?_|refine ZH ?_|refine ZL ?_|refine ZI ?_|refine ZN ?_|refine ZO (fun b=>?_)|refine ZM (fun b=>?_)|refine ZB ?_|refine ZD ?_|refine ZP ?_|rw [w1]|rw [w2]|(refine ZC (fun hc=>?_) (fun hc=>?_)<;>(try simp at hc)<;>(try omega))|(refine ZE (fun hc=>?_) (fun hc=>?_)<;>(try simp at hc)<;>(try omega)))
     all_goals (
      have e1:acc.length+1=(acc++[(⟨3,ofL tx,i⟩:Tk)]).length:=by simp
      have e2:acc.flatMap tkm++[.int .u8 115,.string (ofL tx),.int .i64 ((i:Int)+1)]=(acc++[(⟨3,ofL tx,i⟩:Tk)]).flatMap tkm:=by simp [kdB]
      refine YE (T:=110) (sz:=3) (o:=o') (cap:=cap') (m:=acc.length+1) _ _ e1 e2 ?_
      rw [e1]
      exact Za ⟨(i+(j+1),acc++[⟨3,ofL tx,i⟩],o',cap'),by show i+(j+1)≤s.size;omega,by show (acc++[_]).length≤i+(j+1);rw [List.length_append,List.length_singleton];omega,nn,by show (s.data.toList.drop (i+(j+1))).length<nn;rw [List.length_drop] at hdl ⊢;omega,fin⟩ (by show s.size - (i+(j+1))<s.size - i;omega) ⟨rfl,rfl,rfl,trivial⟩)
    have p34:¬(d.toNat:Int)=34:=fun h=>d34 (m34.1 h)
    by_cases d92:d=92
    ·have p92:=m92.2 d92
     subst d92
     by_cases klt:i+j+1<s.data.toList.length
     ·have hee:=List.getElem?_eq_getElem klt
      have hee2:=List.drop_eq_getElem_cons klt
      generalize s.data.toList[i+j+1]=e at *
      have klt2:i+j+1<s.size:=by omega
      rw [hee2,unq_92d] at j3
      have hee3:s.data.toList[i+(j+1)]? = some e:=hee
      have n34:(e.toNat:Int)=34↔e=34:=(u8i (k:=34) (by decide)).symm
      have n92:(e.toNat:Int)=92↔e=92:=(u8i (k:=92) (by decide)).symm
      have n110:(e.toNat:Int)=110↔e=110:=(u8i (k:=110) (by decide)).symm
      by_cases ee:e=34∨e=92
      ·rw [if_pos ee] at j3
       have qe:(e.toNat:Int)=34∨(e.toNat:Int)=92:=ee.imp n34.2 n92.2
       have hmid:(s.data.toList.take (i+j+1+1)).drop (i+j+1)=(ofL [e]).data.toList:=by
        rw [Z8,List.drop_take,hee2]
        rw [show i+j+1+1 - (i+j+1)=1 by omega];rfl
       have hcat:ofL tx++ofL [e]=ofL (tx++[e]):=ofL_app tx [e]
       repeat' (first|refine Zm (s:=s) (i+j+1) e hee ?_|refine Zm (s:=s) (i+j) 92 hdd ?_|refine ZG ?_|refine ZF ?_|refine ZJ ?_|refine ZH ?_|refine ZL ?_|refine ZI ?_|refine ZN ?_|refine ZO (fun b=>?_)|refine ZM (fun b=>?_)|refine ZB ?_|refine ZD ?_|rw [w2]|rw [w3]|refine Yc (s:=s) (u:=ofL [e]) (i+j+1) (i+j+1+1) (by omega) (by omega) hmid ?_|refine YO (a:=ofL tx) (b:=ofL [e]) ?_ (h:=by rw [YG,YG];simp;omega)|rw [hcat]|(refine ZC (fun hc=>?_) (fun hc=>?_)<;>(try simp at hc)<;>(try omega))|(refine ZE (fun hc=>?_) (fun hc=>?_)<;>(try simp at hc)<;>(try omega)))
       all_goals exact Za ⟨(j+2,tx++[e]),by show 1≤j+2;omega,by show i+(j+2)≤s.size;omega,by show (tx++[e]).length≤j+2;rw [List.length_append,List.length_singleton];omega,j3⟩ (by show s.size - (i+(j+2))<s.size - (i+j);omega) ⟨rfl,rfl,rfl,rfl,rfl,trivial⟩
      rw [if_neg ee] at j3
      have q34e:¬(e.toNat:Int)=34:=fun h=>ee (.inl (n34.1 h))
      have q92e:¬(e.toNat:Int)=92:=fun h=>ee (.inr (n92.1 h))
      by_cases e110:e=110
      ·rw [if_pos e110] at j3
       have q110:=n110.2 e110
       have hcat:ofL tx++ofL [10]=ofL (tx++[10]):=ofL_app tx [10]
       repeat' (first|refine Zm (s:=s) (i+j+1) e hee ?_|refine Zm (s:=s) (i+j) 92 hdd ?_|refine ZG ?_|refine ZF ?_|refine ZJ ?_|refine ZH ?_|refine ZL ?_|refine ZI ?_|refine ZN ?_|refine ZO (fun b=>?_)|refine ZM (fun b=>?_)|refine ZB ?_|refine ZD ?_|rw [w2]|rw [w3]|refine YO (a:=ofL tx) (b:=ofL [10]) ?_ (h:=by rw [YG,YG];simp;omega)|rw [hcat]|(refine ZC (fun hc=>?_) (fun hc=>?_)<;>(try simp at hc)<;>(try omega))|(refine ZE (fun hc=>?_) (fun hc=>?_)<;>(try simp at hc)<;>(try omega)))
       all_goals exact Za ⟨(j+2,tx++[10]),by show 1≤j+2;omega,by show i+(j+2)≤s.size;omega,by show (tx++[10]).length≤j+2;rw [List.length_append,List.length_singleton];omega,j3⟩ (by show s.size - (i+(j+2))<s.size - (i+j);omega) ⟨rfl,rfl,rfl,rfl,rfl,trivial⟩
      ·rw [if_neg e110] at j3
       have q110:¬(e.toNat:Int)=110:=fun h=>e110 (n110.1 h)
       obtain rfl:=hbad j3.symm
       repeat' (first|refine Zm (s:=s) (i+j+1) e hee ?_|refine Zm (s:=s) (i+j) 92 hdd ?_|refine ZG ?_|refine ZF ?_|refine ZJ ?_|refine ZH ?_|refine ZL ?_|refine ZI ?_|refine ZN ?_|refine ZO (fun b=>?_)|refine ZM (fun b=>?_)|refine ZB ?_|refine ZD ?_|rw [w1]|rw [w2]|rw [w3]|(refine ZC (fun hc=>?_) (fun hc=>?_)<;>(try simp at hc)<;>(try omega))|(refine ZE (fun hc=>?_) (fun hc=>?_)<;>(try simp at hc)<;>(try omega)))
       all_goals (
        refine Zs (F1:=[]) (f:=TmS none 0 []) (fun hp _=>sl_nil0) ?_
        exact Zq (Zr (Zr (Zk (none,0) rfl trivial))))
     ·have klt2:((i+j:Nat):Int)+1=(s.size:Int):=by omega
      have hdn:s.data.toList.drop (i+j+1)=[]:=List.drop_eq_nil_of_le (by omega)
      rw [hdn,unq_92] at j3
      obtain rfl:=hbad j3.symm
      repeat' (first|refine Zm (s:=s) (i+j) 92 hdd ?_|refine ZG ?_|refine ZF ?_|refine ZJ ?_|refine ZH ?_|refine ZL ?_|refine ZI ?_|refine ZN ?_|refine ZO (fun b=>?_)|refine ZM (fun b=>?_)|refine ZB ?_|refine ZD ?_|rw [w1]|rw [w2]|rw [w3]|(refine ZC (fun hc=>?_) (fun hc=>?_)<;>(try simp at hc)<;>(try omega))|(refine ZE (fun hc=>?_) (fun hc=>?_)<;>(try simp at hc)<;>(try omega)))
      all_goals (
       refine Zs (F1:=[]) (f:=TmS none 0 []) (fun hp _=>sl_nil0) ?_
       exact Zq (Zr (Zr (Zk (none,0) rfl trivial))))
    have p92:¬(d.toNat:Int)=92:=fun h=>d92 (m92.1 h)
    rw [unq_c d34 d92] at j3
    have hmid:(s.data.toList.take (i+j+1)).drop (i+j)=(ofL [d]).data.toList:=by
     rw [Z8,List.drop_take,hdd2]
     rw [show i+j+1 - (i+j)=1 by omega];rfl
    have hcat:ofL tx++ofL [d]=ofL (tx++[d]):=ofL_app tx [d]
    repeat' (first|refine Zm (s:=s) (i+j) d hdd ?_|refine ZG ?_|refine ZF ?_|refine ZJ ?_|refine ZH ?_|refine ZL ?_|refine ZI ?_|refine ZN ?_|refine ZO (fun b=>?_)|refine ZM (fun b=>?_)|refine ZB ?_|refine ZD ?_|rw [w2]|refine Yc (s:=s) (u:=ofL [d]) (i+j) (i+j+1) (by omega) (by omega) hmid ?_|refine YO (a:=ofL tx) (b:=ofL [d]) ?_ (h:=by rw [YG,YG];simp;omega)|rw [hcat]|(refine ZC (fun hc=>?_) (fun hc=>?_)<;>(try simp at hc)<;>(try omega))|(refine ZE (fun hc=>?_) (fun hc=>?_)<;>(try simp at hc)<;>(try omega)))
    all_goals exact Za ⟨(j+1,tx++[d]),by show 1≤j+1;omega,by show i+(j+1)≤s.size;omega,by show (tx++[d]).length≤j+1;rw [List.length_append,List.length_singleton];omega,j3⟩ (by show s.size - (i+(j+1))<s.size - (i+j);omega) ⟨rfl,rfl,rfl,rfl,rfl,trivial⟩
   ·have jlt2:((i+j:Nat):Int)=(s.size:Int):=by omega
    have hdn:s.data.toList.drop (i+j)=[]:=List.drop_eq_nil_of_le (by omega)
    rw [hdn] at j3
    have j3:none=U:=j3
    obtain rfl:=hbad j3.symm
    repeat' (first|refine ZG ?_|refine ZF ?_|refine ZJ ?_|refine ZH ?_|refine ZL ?_|refine ZI ?_|refine ZN ?_|refine ZO (fun b=>?_)|refine ZM (fun b=>?_)|refine ZB ?_|refine ZD ?_|refine ZP ?_|rw [w1]|(refine ZC (fun hc=>?_) (fun hc=>?_)<;>(try simp at hc)<;>(try omega))|(refine ZE (fun hc=>?_) (fun hc=>?_)<;>(try simp at hc)<;>(try omega)))
    all_goals (
     refine Zs (F1:=[]) (f:=TmS none 0 []) (fun hp _=>sl_nil0) ?_
     exact Zq (Zr (Zk (none,0) rfl trivial)))
  rw [if_neg (by simpa using c34)] at hi3
  have q34:¬(c.toNat:Int)=34:=fun h=>c34 (k34.1 h)
  have n8:=Ys symS c
  by_cases cs:isSym c=true
  ·rw [if_pos cs] at hi3
   have hx:0≤Lib.indexByte symS.data.toList c:=by have:=sym_ix c;rw [cs] at this;simpa using this
   have hmid:(s.data.toList.take (i+1)).drop i=(ofL [c]).data.toList:=by
    rw [Z8,List.drop_take,hdr]
    rw [show i+1 - i=1 by omega];rfl
   have hkb:kdB ⟨4,ofL [c],i⟩=c.toNat:=kdB4 rfl rfl
   repeat' (first|refine Yd (m:=acc.length) (m2:=1) (fun o' cap'=>?_) (hroom:=hroom)|refine Zm (s:=s) i c hcc ?_|refine ZG ?_|refine ZF ?_|refine ZJ ?_|refine ZH ?_|refine ZL ?_|refine ZI ?_|refine ZN ?_|refine ZO (fun b=>?_)|refine ZM (fun b=>?_)|refine ZB ?_|refine ZD ?_|refine ZA (n8) (fun _ _=>?_)|refine l_call0 (n8) (fun _ _=>?_)|refine Yc (s:=s) (u:=ofL [c]) i (i+1) (by omega) (by omega) hmid ?_|rw [w1]|(refine ZC (fun hc=>?_) (fun hc=>?_)<;>(try simp at hc)<;>(try omega))|(refine ZE (fun hc=>?_) (fun hc=>?_)<;>(try simp at hc)<;>(try omega)))
   all_goals (
    have e1:acc.length+1=(acc++[(⟨4,ofL [c],i⟩:Tk)]).length:=by simp
    have e2:acc.flatMap tkm++[.int .u8 c.toNat,.string (ofL [c]),.int .i64 ((i:Int)+1)]=(acc++[(⟨4,ofL [c],i⟩:Tk)]).flatMap tkm:=by simp [hkb]
    refine YE (T:=110) (sz:=3) (o:=o') (cap:=cap') (m:=acc.length+1) _ _ e1 e2 ?_
    rw [e1]
    exact Za ⟨(i+1,acc++[⟨4,ofL [c],i⟩],o',cap'),by show i+1≤s.size;omega,by show (acc++[_]).length≤i+1;rw [List.length_append,List.length_singleton];omega,nn,by show (s.data.toList.drop (i+1)).length<nn;rw [List.length_drop] at hdl ⊢;omega,hi3⟩ (by show s.size - (i+1)<s.size - i;omega) ⟨rfl,rfl,rfl,trivial⟩)
  ·rw [if_neg cs] at hi3
   subst hi3
   have cs:isSym c=false:=by simpa using cs
   have hx:¬0≤Lib.indexByte symS.data.toList c:=by have:=sym_ix c;rw [cs] at this;simpa using this
   repeat' (first|refine Zm (s:=s) i c hcc ?_|refine ZG ?_|refine ZF ?_|refine ZJ ?_|refine ZH ?_|refine ZL ?_|refine ZI ?_|refine ZN ?_|refine ZO (fun b=>?_)|refine ZM (fun b=>?_)|refine ZB ?_|refine ZD ?_|refine ZA (n8) (fun _ _=>?_)|refine l_call0 (n8) (fun _ _=>?_)|rw [w1]|(refine ZC (fun hc=>?_) (fun hc=>?_)<;>(try simp at hc)<;>(try omega))|(refine ZE (fun hc=>?_) (fun hc=>?_)<;>(try simp at hc)<;>(try omega)))
   all_goals (
    refine Zs (F1:=[]) (f:=TmS none 0 []) (fun hp _=>sl_nil0) ?_
    exact Zq (Zr (Zk (none,0) rfl trivial)))
 ·have hd:s.data.toList.drop i=[]:=List.drop_eq_nil_of_le (by omega)
  rw [hd] at hi3
  have hi3:(acc,i,true)=r:=hi3
  subst hi3
  have hlt2:¬i<s.size:=by omega
  obtain rfl:i=s.size:=by omega
  have w1:=wrapi (z:=(s.size:Int)+1) (by omega) (by omega)
  repeat' (first|refine ZG ?_|refine ZF ?_|refine ZJ ?_|refine ZH ?_|refine ZL ?_|refine ZI ?_|refine ZN ?_|refine ZO (fun b=>?_)|refine ZM (fun b=>?_)|refine ZB ?_|refine ZD ?_|refine ZP ?_|rw [w1]|(refine ZC (fun hc=>?_) (fun hc=>?_)<;>(try simp at hc)<;>(try omega))|(refine ZE (fun hc=>?_) (fun hc=>?_)<;>(try simp at hc)<;>(try omega)))
  refine Xg (T:=110) (sz:=3) (f:=tkm) (o:=o) (cap:=cap) acc ?_ rfl rfl
  exact ZR (o,cap) rfl trivial
theorem row_of1 {T b:Nat} {v:Value} {h:H} (hh:Sep [Pt b (.cells #[v] T)] h):Row T 1 (some ⟨b,0,none⟩) 1 1 [v] h:=by
 obtain ⟨h1,_,_,s1,_,hp,_⟩:=hh
 exact .inr ⟨b,[],(0,0),rfl,s1 _ _ hp,rfl,rfl,Nat.le_refl _,.inl rfl⟩
set_option maxHeartbeats 4000000 in
theorem ruTerm_step (n b r:Nat) (ihf:∀m,m≤n→∀x o cap,PkOK x→4 * x.tk.length+1≤m→SpF 154 b r x o cap (factorF m x)) (x:Ps) (o:Option Addr) (cap:Nat) (hx:PkOK x) (hn:4 * x.tk.length+2≤n+1) :
  SpF 142 b r x o cap (termF (n+1) x):=by
 have n0:=ihf n (Nat.le_refl _) x o cap hx (by omega)
 have hlv:=(lv_all n).1 x
 have s0:=(Yh n).1 x
 have hy1:PkOK (factorF n x).2:=hx.sfx s0 ((Xu n).1 x)
 have l0:=s0.len
 have hln:=hx.ln
 rw [termF]
 generalize hfin:termL n [(factorF n x).1] (factorF n x).2=fin
 generalize factorF n x=y1 at *
 obtain ⟨c1,x1⟩:=y1
 obtain ⟨lf,sf⟩:=fin
 dsimp only at hlv hy1 l0 hfin ⊢
 unfold SpF at n0 ⊢
 generalize b=bp at *
 refine ZT [_] func142 ntmps142 fun G w hp=>?_
 repeat' (first|refine ZG ?_|refine ZF ?_|refine ZJ ?_|refine ZH ?_|refine ZL ?_|refine ZI ?_|refine ZN ?_|refine ZO (fun b=>?_)|refine ZM (fun b=>?_)|refine ZB ?_|refine ZD ?_|refine ZA (n0) (fun _ _=>?_)|refine l_call0 (n0) (fun _ _=>?_)|(refine ZC (fun hc=>?_) (fun hc=>?_)<;>(try simp at hc))|(refine ZE (fun hc=>?_) (fun hc=>?_)<;>(try simp at hc)))
 rename_i q _
 obtain ⟨⟨T,u⟩,q2⟩:=q
 refine Z2 (Lx:=[Pt b (.cells #[ivOf (T,u)] 100)]) (r:=Row 100 1 (some ⟨b,0,none⟩) 1 1 [ivOf (T,u)]) (fun h hh=>row_of1 hh) ?_
 refine Zs (F1:=[CdF c1 (ivOf (T,u))]) (f:=CdsF [c1] [ivOf (T,u)]) (fun hp hF=>XC.2 (hF _ (.head _))) ?_
 refine YJ (X:={q:(Nat×List Cnd×Ps)×List IV×(Option Addr×Nat)×(Option Addr×Nat) // termL q.1.1 q.1.2.1 q.1.2.2=(lf,sf)∧q.1.1≤n∧4 * q.1.2.2.tk.length+1≤q.1.1∧PkOK q.1.2.2∧q.2.1.length=q.1.2.1.length∧lvs q.1.2.1+3 * q.1.2.2.tk.length≤300010})
  (fun q=>[(0,.pointer (some ⟨bp,0,none⟩)),(3,.slice q.1.2.2.2.1 q.1.2.1.length q.1.2.2.2.2)]) (fun q=>[TkS q.1.2.2.1 q.1.1.2.2.tk,ErA,P10,CdsF q.1.1.2.1 (q.1.2.1.map ivOf)]) (fun q=>[Pt bp (psC q.1.1.2.2 q.1.2.2.1.1 q.1.2.2.1.2 r),Mp skv vid r tstL,Row 100 1 q.1.2.2.2.1 q.1.2.1.length q.1.2.2.2.2 (q.1.2.1.flatMap ivl)]) (fun q=>q.1.1.1)
  ⟨((n,[c1],x1),[(T,u)],q2,(some ⟨b,0,none⟩,1)),hfin,Nat.le_refl _,by show 4 * x1.tk.length+1≤n;omega,hy1,rfl,by show lvs [c1]+3 * x1.tk.length≤_;simp only [lvs];omega⟩ ⟨rfl,rfl,trivial⟩ ?_
 rintro ⟨⟨⟨m,l,s⟩,vs,⟨o1,cap1⟩,⟨o2,cap2⟩⟩,i1,i2,i3,i4,i5,i6⟩
 dsimp only at i1 i2 i3 i4 i5 i6 ⊢
 obtain ⟨m,rfl⟩:∃k,m=k+1:=⟨m - 1,by omega⟩
 have n1:=Xa bp r s o1 cap1 i4.kd 1 wAnd
 have hll:=Xs l
 rw [termL] at i1
 cases hi:s.is 1 wAnd with
 | true=>
  rw [hi] at n1 i1
  rw [if_pos rfl] at n1 i1
  have hpl:=is_pass (by decide) hi
  have hps:PkOK s.pass:=i4.sfx (Sfx.pass s) (Sop.pass s)
  have n2:=fun (q:Option Addr×Nat)=>ihf m (by omega) s.pass q.1 q.2 hps (by omega)
  have a1:=(lv_all m).1 s.pass
  have a2:=((Yh m).1 s.pass).len
  have a3:PkOK (factorF m s.pass).2:=hps.sfx ((Yh m).1 s.pass) ((Xu m).1 s.pass)
  unfold SpF at n2
  generalize factorF m s.pass=y at *
  obtain ⟨c,s2⟩:=y
  dsimp only at i1 a1 a2 a3 n2
  have hroom:(2 * (vs.length+1)+200) * 16≤281474976710656:=by omega
  repeat' (first|refine Yd (m:=vs.length) (m2:=1) (fun o3 cap3=>?_) (hroom:=hroom)|refine ZG ?_|refine ZF ?_|refine ZJ ?_|refine ZH ?_|refine ZL ?_|refine ZI ?_|refine ZN ?_|refine ZO (fun b=>?_)|refine ZM (fun b=>?_)|refine ZB ?_|refine ZD ?_|refine ZA (n1) (fun _ _=>?_)|refine l_call0 (n1) (fun _ _=>?_)|refine ZA (n2 _) (fun _ _=>?_)|refine l_call0 (n2 _) (fun _ _=>?_)|(refine ZC (fun hc=>?_) (fun hc=>?_)<;>(try simp at hc)<;>(try omega))|(refine ZE (fun hc=>?_) (fun hc=>?_)<;>(try simp at hc)<;>(try omega)))
  rename_i q0 _ iv _
  obtain ⟨⟨T2,u2⟩,q3⟩:=iv
  have e1:vs.length+1=(vs++[(T2,u2)]).length:=by simp
  have e2:vs.flatMap ivl++[ivOf (T2,u2)]=(vs++[(T2,u2)]).flatMap ivl:=by simp
  refine YE (T:=100) (sz:=1) (o:=o3) (cap:=cap3) (m:=vs.length+1) _ _ e1 e2 ?_
  rw [e1]
  refine Zs (F1:=[CdsF l (vs.map ivOf),CdF c (ivOf (T2,u2))]) (f:=CdsF (l++[c]) ((vs++[(T2,u2)]).map ivOf)) (fun hp hF=>?_) ?_
  ·show CdsP hp _ _
   rw [List.map_append]
   exact XT (hF _ (.head _)) (XC.2 (hF _ (.tail _ (.head _))))
  exact Za ⟨((m,l++[c],s2),vs++[(T2,u2)],q3,(o3,cap3)),i1,by show m≤n;omega,by show 4 * s2.tk.length+1≤m;omega,a3,by show (vs++[_]).length=(l++[c]).length;simp [i5],by show lvs (l++[c])+3 * s2.tk.length≤_;rw [X8];simp only [lvs];omega⟩ (Nat.lt_succ_self m) ⟨rfl,rfl,trivial⟩
 | false=>
  rw [hi] at n1 i1
  rw [if_neg (by decide)] at n1 i1
  obtain ⟨rfl,rfl⟩:=Prod.mk.inj i1
  have hb1:=lvs_alls l
  have hb2:=Xs (l.flatMap allP)
  have n3:=ruBoth_ok o2 cap2 l vs i5 (by omega) (by omega)
  refine Xg (T:=100) (sz:=1) (f:=ivl) (o:=o2) (cap:=cap2) vs ?_ rfl rfl
  repeat' (first|refine ZG ?_|refine ZF ?_|refine ZJ ?_|refine ZH ?_|refine ZL ?_|refine ZI ?_|refine ZN ?_|refine ZO (fun b=>?_)|refine ZM (fun b=>?_)|refine ZB ?_|refine ZD ?_|refine ZP ?_|refine ZA (n1) (fun _ _=>?_)|refine l_call0 (n1) (fun _ _=>?_)|refine ZA (n3) (fun _ _=>?_)|refine l_call0 (n3) (fun _ _=>?_)|(refine ZC (fun hc=>?_) (fun hc=>?_)<;>(try simp at hc)<;>(try omega))|(refine ZE (fun hc=>?_) (fun hc=>?_)<;>(try simp at hc)<;>(try omega)))
  rename_i q0 _ iv _
  exact ZR (iv,q0) rfl trivial
set_option maxHeartbeats 4000000 in
theorem ruCond_step (n b r:Nat) (iht:∀m,m≤n→∀x o cap,PkOK x→4 * x.tk.length+2≤m→SpF 142 b r x o cap (termF m x)) (x:Ps) (o:Option Addr) (cap:Nat) (hx:PkOK x) (hn:4 * x.tk.length+3≤n+1) :
  SpF 107 b r x o cap (condF (n+1) x):=by
 have n0:=iht n (Nat.le_refl _) x o cap hx (by omega)
 have hlv:=(lv_all n).2.1 x
 have s0:=(Yh n).2.1 x
 have hy1:PkOK (termF n x).2:=hx.sfx s0 ((Xu n).2.1 x)
 have l0:=s0.len
 have hln:=hx.ln
 rw [condF]
 generalize hfin:condL n [(termF n x).1] (termF n x).2=fin
 generalize termF n x=y1 at *
 obtain ⟨c1,x1⟩:=y1
 obtain ⟨lf,sf⟩:=fin
 dsimp only at hlv hy1 l0 hfin ⊢
 unfold SpF at n0 ⊢
 generalize b=bp at *
 refine ZT [_] func107 ntmps107 fun G w hp=>?_
 repeat' (first|refine ZG ?_|refine ZF ?_|refine ZJ ?_|refine ZH ?_|refine ZL ?_|refine ZI ?_|refine ZN ?_|refine ZO (fun b=>?_)|refine ZM (fun b=>?_)|refine ZB ?_|refine ZD ?_|refine ZA (n0) (fun _ _=>?_)|refine l_call0 (n0) (fun _ _=>?_)|(refine ZC (fun hc=>?_) (fun hc=>?_)<;>(try simp at hc))|(refine ZE (fun hc=>?_) (fun hc=>?_)<;>(try simp at hc)))
 rename_i q _
 obtain ⟨⟨T,u⟩,q2⟩:=q
 refine Z2 (Lx:=[Pt b (.cells #[ivOf (T,u)] 100)]) (r:=Row 100 1 (some ⟨b,0,none⟩) 1 1 [ivOf (T,u)]) (fun h hh=>row_of1 hh) ?_
 refine Zs (F1:=[CdF c1 (ivOf (T,u))]) (f:=CdsF [c1] [ivOf (T,u)]) (fun hp hF=>XC.2 (hF _ (.head _))) ?_
 refine YJ (X:={q:(Nat×List Cnd×Ps)×List IV×(Option Addr×Nat)×(Option Addr×Nat) // condL q.1.1 q.1.2.1 q.1.2.2=(lf,sf)∧q.1.1≤n∧4 * q.1.2.2.tk.length+2≤q.1.1∧PkOK q.1.2.2∧q.2.1.length=q.1.2.1.length∧lvs q.1.2.1+3 * q.1.2.2.tk.length≤300010})
  (fun q=>[(0,.pointer (some ⟨bp,0,none⟩)),(3,.slice q.1.2.2.2.1 q.1.2.1.length q.1.2.2.2.2)]) (fun q=>[TkS q.1.2.2.1 q.1.1.2.2.tk,ErA,P10,CdsF q.1.1.2.1 (q.1.2.1.map ivOf)]) (fun q=>[Pt bp (psC q.1.1.2.2 q.1.2.2.1.1 q.1.2.2.1.2 r),Mp skv vid r tstL,Row 100 1 q.1.2.2.2.1 q.1.2.1.length q.1.2.2.2.2 (q.1.2.1.flatMap ivl)]) (fun q=>q.1.1.1)
  ⟨((n,[c1],x1),[(T,u)],q2,(some ⟨b,0,none⟩,1)),hfin,Nat.le_refl _,by show 4 * x1.tk.length+2≤n;omega,hy1,rfl,by show lvs [c1]+3 * x1.tk.length≤_;simp only [lvs];omega⟩ ⟨rfl,rfl,trivial⟩ ?_
 rintro ⟨⟨⟨m,l,s⟩,vs,⟨o1,cap1⟩,⟨o2,cap2⟩⟩,i1,i2,i3,i4,i5,i6⟩
 dsimp only at i1 i2 i3 i4 i5 i6 ⊢
 obtain ⟨m,rfl⟩:∃k,m=k+1:=⟨m - 1,by omega⟩
 have n1:=Xa bp r s o1 cap1 i4.kd 1 wOr
 have hll:=Xs l
 rw [condL] at i1
 cases hi:s.is 1 wOr with
 | true=>
  rw [hi] at n1 i1
  rw [if_pos rfl] at n1 i1
  have hpl:=is_pass (by decide) hi
  have hps:PkOK s.pass:=i4.sfx (Sfx.pass s) (Sop.pass s)
  have n2:=fun (q:Option Addr×Nat)=>iht m (by omega) s.pass q.1 q.2 hps (by omega)
  have a1:=(lv_all m).2.1 s.pass
  have a2:=((Yh m).2.1 s.pass).len
  have a3:PkOK (termF m s.pass).2:=hps.sfx ((Yh m).2.1 s.pass) ((Xu m).2.1 s.pass)
  unfold SpF at n2
  generalize termF m s.pass=y at *
  obtain ⟨c,s2⟩:=y
  dsimp only at i1 a1 a2 a3 n2
  have hroom:(2 * (vs.length+1)+200) * 16≤281474976710656:=by omega
  repeat' (first|refine Yd (m:=vs.length) (m2:=1) (fun o3 cap3=>?_) (hroom:=hroom)|refine ZG ?_|refine ZF ?_|refine ZJ ?_|refine ZH ?_|refine ZL ?_|refine ZI ?_|refine ZN ?_|refine ZO (fun b=>?_)|refine ZM (fun b=>?_)|refine ZB ?_|refine ZD ?_|refine ZA (n1) (fun _ _=>?_)|refine l_call0 (n1) (fun _ _=>?_)|refine ZA (n2 _) (fun _ _=>?_)|refine l_call0 (n2 _) (fun _ _=>?_)|(refine ZC (fun hc=>?_) (fun hc=>?_)<;>(try simp at hc)<;>(try omega))|(refine ZE (fun hc=>?_) (fun hc=>?_)<;>(try simp at hc)<;>(try omega)))
  rename_i q0 _ iv _
  obtain ⟨⟨T2,u2⟩,q3⟩:=iv
  have e1:vs.length+1=(vs++[(T2,u2)]).length:=by simp
  have e2:vs.flatMap ivl++[ivOf (T2,u2)]=(vs++[(T2,u2)]).flatMap ivl:=by simp
  refine YE (T:=100) (sz:=1) (o:=o3) (cap:=cap3) (m:=vs.length+1) _ _ e1 e2 ?_
  rw [e1]
  refine Zs (F1:=[CdsF l (vs.map ivOf),CdF c (ivOf (T2,u2))]) (f:=CdsF (l++[c]) ((vs++[(T2,u2)]).map ivOf)) (fun hp hF=>?_) ?_
  ·show CdsP hp _ _
   rw [List.map_append]
   exact XT (hF _ (.head _)) (XC.2 (hF _ (.tail _ (.head _))))
  exact Za ⟨((m,l++[c],s2),vs++[(T2,u2)],q3,(o3,cap3)),i1,by show m≤n;omega,by show 4 * s2.tk.length+2≤m;omega,a3,by show (vs++[_]).length=(l++[c]).length;simp [i5],by show lvs (l++[c])+3 * s2.tk.length≤_;rw [X8];simp only [lvs];omega⟩ (Nat.lt_succ_self m) ⟨rfl,rfl,trivial⟩
 | false=>
  rw [hi] at n1 i1
  rw [if_neg (by decide)] at n1 i1
  obtain ⟨rfl,rfl⟩:=Prod.mk.inj i1
  have hb1:=lvs_anys l
  have hb2:=Xs (l.flatMap anyP)
  have n3:=ruEither_ok o2 cap2 l vs i5 (by omega) (by omega)
  refine Xg (T:=100) (sz:=1) (f:=ivl) (o:=o2) (cap:=cap2) vs ?_ rfl rfl
  repeat' (first|refine ZG ?_|refine ZF ?_|refine ZJ ?_|refine ZH ?_|refine ZL ?_|refine ZI ?_|refine ZN ?_|refine ZO (fun b=>?_)|refine ZM (fun b=>?_)|refine ZB ?_|refine ZD ?_|refine ZP ?_|refine ZA (n1) (fun _ _=>?_)|refine l_call0 (n1) (fun _ _=>?_)|refine ZA (n3) (fun _ _=>?_)|refine l_call0 (n3) (fun _ _=>?_)|(refine ZC (fun hc=>?_) (fun hc=>?_)<;>(try simp at hc)<;>(try omega))|(refine ZE (fun hc=>?_) (fun hc=>?_)<;>(try simp at hc)<;>(try omega)))
  rename_i q0 _ iv _
  exact ZR (iv,q0) rfl trivial
theorem ruAll (b r:Nat):∀n:Nat,
  (∀m,m≤n→∀x o cap,PkOK x→4 * x.tk.length+1≤m→SpF 154 b r x o cap (factorF m x))∧
  (∀m,m≤n→∀x o cap,PkOK x→4 * x.tk.length+2≤m→SpF 142 b r x o cap (termF m x))∧
  (∀m,m≤n→∀x o cap,PkOK x→4 * x.tk.length+3≤m→SpF 107 b r x o cap (condF m x))
 | 0=>⟨fun m hm x o cap _ h=>absurd h (by omega),fun m hm x o cap _ h=>absurd h (by omega),fun m hm x o cap _ h=>absurd h (by omega)⟩
 | n+1=>by
  obtain ⟨h1,h2,h3⟩:=ruAll b r n
  refine ⟨fun m hm x o cap hx hl=>?_,fun m hm x o cap hx hl=>?_,fun m hm x o cap hx hl=>?_⟩
  ·by_cases hmn:m≤n
   ·exact h1 m hmn x o cap hx hl
   ·obtain rfl:m=n+1:=by omega
    by_cases c1:x.peek.kd=1∧x.peek.tx=wNot
    ·have hp:=Xk (p:=x) (by rw [c1.1];decide)
     exact ruFactor_not n b r x o cap hx c1.1 c1.2 fun o cap=>h1 n (Nat.le_refl _) x.pass o cap (hx.sfx (Sfx.pass x) (Sop.pass x)) (by omega)
    ·by_cases c2:x.peek.kd=4∧x.peek.tx=yOpn
     ·have hp:=Xk (p:=x) (by rw [c2.1];decide)
      exact ruFactor_par n b r x o cap hx c2.1 c2.2 fun q o cap hq hl=>h3 n (Nat.le_refl _) q o cap hq (by omega)
     ·by_cases c3:x.peek.kd=1∧isTst x.peek.tx=true
      ·exact ruFactor_test n b r x o cap hx c3.1 c3.2
      ·exact ruFactor_bad n b r x o cap hx c1 c2 c3
  ·by_cases hmn:m≤n
   ·exact h2 m hmn x o cap hx hl
   ·obtain rfl:m=n+1:=by omega
    exact ruTerm_step n b r h1 x o cap hx hl
  ·by_cases hmn:m≤n
   ·exact h3 m hmn x o cap hx hl
   ·obtain rfl:m=n+1:=by omega
    exact ruCond_step n b r h2 x o cap hx hl
theorem ruCond_ok (b r:Nat) (x:Ps) (o:Option Addr) (cap:Nat) (hx:PkOK x):SpF 107 b r x o cap (condF (fuP x) x):=
 (ruAll b r (fuP x)).2.2 _ (Nat.le_refl _) x o cap hx (by unfold fuP;omega)
theorem Zz {f:FuncId} {cs:Array Value} {vs:List Value} {F:List Pf} {R:List HP} {post:Post} (spec:Enters f∧Spec prog f (vs.toArray++cs) F R post):SpecV (.func (.func f) #[] cs) vs F R post:=by
 intro G w hp hsat
 unfold CallsV OpRes
 have e1:(invoke (.fn (.func f) cs) (#[]++vs.toArray)).run prog w = .ok (.enter f (vs.toArray++cs)) w:=by
  simp only [invoke]
  rw [show (#[]++vs.toArray:Array Value)=vs.toArray by rw [←Array.toList_inj];simp]
  exact spec.1 _ w
 simp only [e1]
 refine Calls.mono (spec.2 G w hp hsat) ?_
 rintro e w' ⟨x,rfl,hx,hs⟩
 exact ⟨x,rfl,hx,hs⟩
theorem check1_ok (t:ByteArray) (r:HP):Enters 35∧Spec prog 35 #[.string t] [P10] [r] ⟨Unit,fun _=>.tuple #[],fun _=>True,fun _=>[],fun _=>[r]⟩:=by
 refine ZT [_] func35 ntmps35 fun G w hp=>?_
 repeat' (first|refine ZG ?_|refine ZF ?_|refine ZJ ?_|refine ZH ?_|refine ZL ?_|refine ZI ?_|refine ZN ?_|refine ZO (fun b=>?_)|refine ZM (fun b=>?_)|refine ZB ?_|refine ZD ?_|refine ZP ?_|(refine ZC (fun hc=>?_) (fun hc=>?_)<;>(try simp at hc))|(refine ZE (fun hc=>?_) (fun hc=>?_)<;>(try simp at hc)))
 exact XB () rfl trivial
def Nil0:HP:=fun _=>True
theorem tplV_ge (s:ByteArray) (i:Nat) (h:(tplF s).2=some i):tplV s=(i:Int):=by unfold tplV;rw [h]
theorem tplV_no (s:ByteArray) (h:(tplF s).2=none):tplV s = -1:=by unfold tplV;rw [h]
theorem ruCheck_ok (s:ByteArray) (hs:s.size≤1000000):Enters 14∧Spec prog 14 #[.string s] [P10] [] (RetV (.tuple #[.int .i64 (if (tplF s).2.isSome then tplV s else 0),.int .i64 (if (tplF s).2.isSome then 3 else 0)])):=by
 have n1:=Vg s hs (fnv 35) (fnv 35) (fun _=>Nil0) (fun acc t _=>Zz (check1_ok t _)) (fun acc n _=>Zz (check1_ok n _))
 cases h:(tplF s).2 with
 | none=>
  rw [tplV_no s h] at n1 ⊢
  simp only [Option.isSome_none,Bool.false_eq_true,if_false]
  refine ZT [_] func14 ntmps14 fun G w hp=>?_
  refine Z2 (Lx:=[]) (r:=Nil0) (fun _ _=>trivial) ?_
  repeat' (first|refine ZG ?_|refine ZF ?_|refine ZJ ?_|refine ZH ?_|refine ZL ?_|refine ZI ?_|refine ZN ?_|refine ZO (fun b=>?_)|refine ZM (fun b=>?_)|refine ZB ?_|refine ZD ?_|refine ZP ?_|refine ZA (n1) (fun _ _=>?_)|refine l_call0 (n1) (fun _ _=>?_)|(refine ZC (fun hc=>?_) (fun hc=>?_)<;>(try simp at hc)<;>(try omega))|(refine ZE (fun hc=>?_) (fun hc=>?_)<;>(try simp at hc)<;>(try omega)))
  exact ZR () rfl trivial
 | some i=>
  rw [tplV_ge s i h] at n1 ⊢
  simp only [Option.isSome_some,if_true]
  refine ZT [_] func14 ntmps14 fun G w hp=>?_
  refine Z2 (Lx:=[]) (r:=Nil0) (fun _ _=>trivial) ?_
  repeat' (first|refine ZG ?_|refine ZF ?_|refine ZJ ?_|refine ZH ?_|refine ZL ?_|refine ZI ?_|refine ZN ?_|refine ZO (fun b=>?_)|refine ZM (fun b=>?_)|refine ZB ?_|refine ZD ?_|refine ZP ?_|refine ZA (n1) (fun _ _=>?_)|refine l_call0 (n1) (fun _ _=>?_)|(refine ZC (fun hc=>?_) (fun hc=>?_)<;>(try simp at hc)<;>(try omega))|(refine ZE (fun hc=>?_) (fun hc=>?_)<;>(try simp at hc)<;>(try omega)))
  exact ZR () rfl trivial
theorem pt_both {a b:Nat} {o u:Obj} {h:H} (hh:Sep [Pt b u,Pt a o] h):both (Pt a o) (Pt b u) h:=by
 obtain ⟨h1,h2,dj,s1,s2,hp,k1,k2,_,t1,_,hq,_⟩:=hh
 exact ⟨h2,h1,fun x=>(dj x).symm,s2,s1,t1 _ _ hq,h1,emp,fun _=>.inr rfl,fun _ _ e=>e,fun _ _ e=>(by cases e),hp,trivial⟩
theorem bd_both {a b:Nat} {o:Obj} {h:H} (hh:Sep [Pt b (.cells #[.pointer none,.slice none 0 0] 82),Pt a o] h):both (Pt a o) (Bdr b []) h:=by
 obtain ⟨h1,h2,dj,s1,s2,hp,k1,k2,_,t1,_,hq,_⟩:=hh
 exact ⟨h2,h1,fun x=>(dj x).symm,s2,s1,t1 _ _ hq,h1,emp,fun _=>.inr rfl,fun _ _ e=>e,fun _ _ e=>(by cases e),bd_new ⟨h1,emp,fun _=>.inr rfl,fun _ _ e=>e,fun _ _ e=>(by cases e),hp,trivial⟩,trivial⟩
theorem expand1_ok (b a:Nat) (bs:List UInt8) (t:ByteArray) (c:Cq) (h1:bs.length≤1000000000) (h2:t.size≤1000000000):Enters 37∧Spec prog 37 #[.string t,.pointer (some ⟨b,0,none⟩)] [P10] [both (Pt a (.cells (cqf c).toArray 26)) (Bdr b bs)]
  ⟨Unit,fun _=>.tuple #[],fun _=>True,fun _=>[],fun _=>[both (Pt a (.cells (cqf c).toArray 26)) (Bdr b (bs++t.data.toList))]⟩:=by
 have n1:=Yz b bs t h1 h2
 generalize b=bp at *
 generalize a=ap at *
 refine ZT [_,_] func37 ntmps37 fun G w hp=>?_
 refine Yw (X:=Unit) (Lx:=fun _=>[Pt ap (.cells (cqf c).toArray 26),Bdr bp bs]) (p:=fun _=>True) (r:=both (Pt ap (.cells (cqf c).toArray 26)) (Bdr bp bs)) .here (fun h hh=>⟨(),trivial,hh⟩) (fun _ _=>?_)
 repeat' (first|refine ZG ?_|refine ZF ?_|refine ZJ ?_|refine ZH ?_|refine ZL ?_|refine ZI ?_|refine ZN ?_|refine ZO (fun b=>?_)|refine ZM (fun b=>?_)|refine ZB ?_|refine ZD ?_|refine ZP ?_|refine ZA (n1) (fun _ _=>?_)|refine l_call0 (n1) (fun _ _=>?_)|(refine ZC (fun hc=>?_) (fun hc=>?_)<;>(try simp at hc))|(refine ZE (fun hc=>?_) (fun hc=>?_)<;>(try simp at hc)))
 refine Z2 (Lx:=[Pt ap (.cells (cqf c).toArray 26),Bdr bp (bs++t.data.toList)]) (r:=both (Pt ap (.cells (cqf c).toArray 26)) (Bdr bp (bs++t.data.toList))) (fun h hh=>hh) ?_
 exact XB () rfl trivial
theorem expand2_ok (b a:Nat) (bs:List UInt8) (n:ByteArray) (c:Cq) (hc:CqI c) (h1:bs.length≤1000000000) (h2:(valF n c).size≤1000000000):Enters 39∧Spec prog 39 #[.string n,.pointer (some ⟨a,0,none⟩),.pointer (some ⟨b,0,none⟩)] [P10] [both (Pt a (.cells (cqf c).toArray 26)) (Bdr b bs)]
  ⟨Unit,fun _=>.tuple #[],fun _=>True,fun _=>[],fun _=>[both (Pt a (.cells (cqf c).toArray 26)) (Bdr b (bs++(valF n c).data.toList))]⟩:=by
 have n0:=W5 n c hc
 have n1:=Yz b bs (valF n c) h1 h2
 generalize valF n c=z at *
 generalize b=bp at *
 generalize a=ap at *
 refine ZT [_,_,_] func39 ntmps39 fun G w hp=>?_
 refine Yw (X:=Unit) (Lx:=fun _=>[Pt ap (.cells (cqf c).toArray 26),Bdr bp bs]) (p:=fun _=>True) (r:=both (Pt ap (.cells (cqf c).toArray 26)) (Bdr bp bs)) .here (fun h hh=>⟨(),trivial,hh⟩) (fun _ _=>?_)
 repeat' (first|refine ZG ?_|refine ZF ?_|refine ZJ ?_|refine ZH ?_|refine ZL ?_|refine ZI ?_|refine ZN ?_|refine ZO (fun b=>?_)|refine ZM (fun b=>?_)|refine ZB ?_|refine ZD ?_|refine ZP ?_|refine ZA (n0) (fun _ _=>?_)|refine l_call0 (n0) (fun _ _=>?_)|refine ZA (n1) (fun _ _=>?_)|refine l_call0 (n1) (fun _ _=>?_)|(refine ZC (fun hc=>?_) (fun hc=>?_)<;>(try simp at hc))|(refine ZE (fun hc=>?_) (fun hc=>?_)<;>(try simp at hc)))
 refine Z2 (Lx:=[Pt ap (.cells (cqf c).toArray 26),Bdr bp (bs++z.data.toList)]) (r:=both (Pt ap (.cells (cqf c).toArray 26)) (Bdr bp (bs++z.data.toList))) (fun h hh=>hh) ?_
 exact XB () rfl trivial
def flat (c:Cq) (l:List Seg):List UInt8:=l.flatMap fun x=>(segF c x).data.toList
theorem Wj (c:Cq) (a b:List Seg):flat c (a++b)=flat c a++flat c b:=List.flatMap_append
theorem VA (c:Cq) (x:Seg):flat c [x]=(segF c x).data.toList:=by simp [flat]
theorem flt_pre {c:Cq} {a:List Seg} {x:Seg} {l:List Seg} (h:a++[x] <+: l):(flat c a).length+(segF c x).size≤(flat c l).length:=by
 obtain ⟨r,rfl⟩:=h
 have:=lsz (segF c x)
 rw [Wj,Wj,VA,List.length_append,List.length_append]
 omega
theorem expF_flat (s:ByteArray) (c:Cq):expF s c=ofL (flat c (tplF s).1):=rfl
theorem expF_sz (s:ByteArray) (c:Cq):(expF s c).size=(flat c (tplF s).1).length:=by rw [expF_flat,YG]
set_option maxHeartbeats 1000000 in
theorem ruExpand_ok (s:ByteArray) (c:Cq) (hs:s.size≤1000000) (hc:CqI c) (he:(expF s c).size≤1000000000):Enters 15∧Spec prog 15 #[.string s,cqa c] [P10] [] (RetV (.tuple #[.string (if (tplF s).2.isSome then ⟨#[]⟩ else expF s c),.int .i64 (if (tplF s).2.isSome then 3 else 0)])):=by
 rw [expF_sz] at he
 have n0:=fun (ap bp:Nat)=>Vg s hs (.func (.func 37) #[] #[.pointer (some ⟨bp,0,none⟩)]) (.func (.func 39) #[] #[.pointer (some ⟨ap,0,none⟩),.pointer (some ⟨bp,0,none⟩)]) (fun acc=>both (Pt ap (.cells (cqf c).toArray 26)) (Bdr bp (flat c acc)))
  (fun acc t h=>by
   have:=flt_pre (c:=c) h
   have h2:=expand1_ok bp ap (flat c acc) t c (by omega) (by simp only [segF] at this;omega)
   rw [show flat c acc++t.data.toList=flat c (acc++[.lit t]) by rw [Wj,VA];rfl] at h2
   exact Zz h2)
  (fun acc n h=>by
   have:=flt_pre (c:=c) h
   have h2:=expand2_ok bp ap (flat c acc) n c hc (by omega) (by simp only [segF] at this;omega)
   rw [show flat c acc++(valF n c).data.toList=flat c (acc++[.fld n]) by rw [Wj,VA];rfl] at h2
   exact Zz h2)
 obtain ⟨V,hV⟩:∃V,tplV s=V:=⟨_,rfl⟩
 rw [expF_flat]
 have hV':=hV
 unfold tplV at hV'
 simp only [hV] at n0
 generalize tplF s=T at *
 obtain ⟨L,o⟩:=T
 dsimp only at *
 have hn:flat c []=[]:=rfl
 simp only [hn] at n0
 have n1:=fun (ap bp:Nat)=>Va (L:=[Pt bp (.cells #[.pointer none,.slice none 0 0] 82),Pt ap (.cells (cqf c).toArray 26)]) (fun _ hh=>bd_both hh) (n0 ap bp)
 have n2:=fun (bp:Nat)=>WO bp (flat c L) (by omega)
 cases o with
 | none=>
  subst hV'
  simp only [Option.isSome_none,Bool.false_eq_true,if_false]
  refine ZT [_,_] func15 ntmps15 fun G w hp=>?_
  repeat' (first|refine Yw (X:=Unit) (Lx:=fun _=>[Pt _ (.cells (cqf c).toArray 26),Bdr _ (flat c L)]) (p:=fun _=>True) (r:=both (Pt _ (.cells (cqf c).toArray 26)) (Bdr _ (flat c L))) .here (fun h hh=>⟨(),trivial,hh⟩) (fun _ _=>?_)|refine ZG ?_|refine ZF ?_|refine ZJ ?_|refine ZH ?_|refine ZL ?_|refine ZI ?_|refine ZN ?_|refine ZO (fun b=>?_)|refine ZM (fun b=>?_)|refine ZB ?_|refine ZD ?_|refine ZP ?_|refine ZA (n1 _ _) (fun _ _=>?_)|refine l_call0 (n1 _ _) (fun _ _=>?_)|refine ZA (n2 _) (fun _ _=>?_)|refine l_call0 (n2 _) (fun _ _=>?_)|(refine ZC (fun hc=>?_) (fun hc=>?_)<;>(try simp at hc))|(refine ZE (fun hc=>?_) (fun hc=>?_)<;>(try simp at hc)))
  exact ZR () rfl trivial
 | some i=>
  subst hV'
  simp only [Option.isSome_some,if_true]
  refine ZT [_,_] func15 ntmps15 fun G w hp=>?_
  repeat' (first|refine ZG ?_|refine ZF ?_|refine ZJ ?_|refine ZH ?_|refine ZL ?_|refine ZI ?_|refine ZN ?_|refine ZO (fun b=>?_)|refine ZM (fun b=>?_)|refine ZB ?_|refine ZD ?_|refine ZP ?_|refine ZA (n1 _ _) (fun _ _=>?_)|refine l_call0 (n1 _ _) (fun _ _=>?_)|(refine ZC (fun hc=>?_) (fun hc=>?_)<;>(try simp at hc)<;>(try omega))|(refine ZE (fun hc=>?_) (fun hc=>?_)<;>(try simp at hc)<;>(try omega)))
  exact ZR () rfl trivial
theorem esize1_ok (b a:Nat) (z:Nat) (t:ByteArray) (c:Cq) (h1:z+t.size≤1000000000000):Enters 72∧Spec prog 72 #[.string t,.pointer (some ⟨b,0,none⟩)] [P10] [both (Pt a (.cells (cqf c).toArray 26)) (Pt b (.cells #[.int .i64 z] 3))]
  ⟨Unit,fun _=>.tuple #[],fun _=>True,fun _=>[],fun _=>[both (Pt a (.cells (cqf c).toArray 26)) (Pt b (.cells #[.int .i64 ((z+t.size:Nat):Int)] 3))]⟩:=by
 have w1:=wrapi (z:=(z:Int)+(t.size:Int)) (by omega) (by omega)
 rw [←Int.natCast_add] at w1
 generalize b=bp at *
 generalize a=ap at *
 refine ZT [_,_] func72 ntmps72 fun G w hp=>?_
 refine Yw (X:=Unit) (Lx:=fun _=>[Pt ap (.cells (cqf c).toArray 26),Pt bp (.cells #[.int .i64 z] 3)]) (p:=fun _=>True) (r:=both (Pt ap (.cells (cqf c).toArray 26)) (Pt bp (.cells #[.int .i64 z] 3))) .here (fun h hh=>⟨(),trivial,hh⟩) (fun _ _=>?_)
 repeat' (first|refine ZG ?_|refine ZF ?_|refine ZJ ?_|refine ZH ?_|refine ZL ?_|refine ZI ?_|refine ZN ?_|refine ZO (fun b=>?_)|refine ZM (fun b=>?_)|refine ZB ?_|refine ZD ?_|refine ZP ?_|rw [←Int.natCast_add]|rw [w1]|(refine ZC (fun hc=>?_) (fun hc=>?_)<;>(try simp at hc))|(refine ZE (fun hc=>?_) (fun hc=>?_)<;>(try simp at hc)))
 refine Z2 (Lx:=[Pt ap (.cells (cqf c).toArray 26),Pt bp (.cells #[.int .i64 ((z+t.size:Nat):Int)] 3)]) (r:=both (Pt ap (.cells (cqf c).toArray 26)) (Pt bp (.cells #[.int .i64 ((z+t.size:Nat):Int)] 3))) (fun h hh=>hh) ?_
 exact XB () rfl trivial
theorem esize2_ok (b a:Nat) (z:Nat) (n:ByteArray) (c:Cq) (hc:CqI c) (h1:z+(valF n c).size≤1000000000000):Enters 73∧Spec prog 73 #[.string n,.pointer (some ⟨a,0,none⟩),.pointer (some ⟨b,0,none⟩)] [P10] [both (Pt a (.cells (cqf c).toArray 26)) (Pt b (.cells #[.int .i64 z] 3))]
  ⟨Unit,fun _=>.tuple #[],fun _=>True,fun _=>[],fun _=>[both (Pt a (.cells (cqf c).toArray 26)) (Pt b (.cells #[.int .i64 ((z+(valF n c).size:Nat):Int)] 3))]⟩:=by
 have n0:=W5 n c hc
 generalize valF n c=t at *
 have w1:=wrapi (z:=(z:Int)+(t.size:Int)) (by omega) (by omega)
 rw [←Int.natCast_add] at w1
 generalize b=bp at *
 generalize a=ap at *
 refine ZT [_,_,_] func73 ntmps73 fun G w hp=>?_
 refine Yw (X:=Unit) (Lx:=fun _=>[Pt ap (.cells (cqf c).toArray 26),Pt bp (.cells #[.int .i64 z] 3)]) (p:=fun _=>True) (r:=both (Pt ap (.cells (cqf c).toArray 26)) (Pt bp (.cells #[.int .i64 z] 3))) .here (fun h hh=>⟨(),trivial,hh⟩) (fun _ _=>?_)
 repeat' (first|refine ZG ?_|refine ZF ?_|refine ZJ ?_|refine ZH ?_|refine ZL ?_|refine ZI ?_|refine ZN ?_|refine ZO (fun b=>?_)|refine ZM (fun b=>?_)|refine ZB ?_|refine ZD ?_|refine ZP ?_|refine ZA (n0) (fun _ _=>?_)|refine l_call0 (n0) (fun _ _=>?_)|rw [←Int.natCast_add]|rw [w1]|(refine ZC (fun hc=>?_) (fun hc=>?_)<;>(try simp at hc))|(refine ZE (fun hc=>?_) (fun hc=>?_)<;>(try simp at hc)))
 refine Z2 (Lx:=[Pt ap (.cells (cqf c).toArray 26),Pt bp (.cells #[.int .i64 ((z+t.size:Nat):Int)] 3)]) (r:=both (Pt ap (.cells (cqf c).toArray 26)) (Pt bp (.cells #[.int .i64 ((z+t.size:Nat):Int)] 3))) (fun h hh=>hh) ?_
 exact XB () rfl trivial
set_option maxHeartbeats 1000000 in
theorem ruSize_ok (s:ByteArray) (c:Cq) (hs:s.size≤1000000) (hc:CqI c) (he:(expF s c).size≤1000000000000):Enters 47∧Spec prog 47 #[.string s,cqa c] [P10] [] (RetV (.int .i64 ((expF s c).size:Nat))):=by
 rw [expF_sz] at he ⊢
 have n0:=fun (ap bp:Nat)=>Vg s hs (.func (.func 72) #[] #[.pointer (some ⟨bp,0,none⟩)]) (.func (.func 73) #[] #[.pointer (some ⟨ap,0,none⟩),.pointer (some ⟨bp,0,none⟩)]) (fun acc=>both (Pt ap (.cells (cqf c).toArray 26)) (Pt bp (.cells #[.int .i64 ((flat c acc).length:Nat)] 3)))
  (fun acc t h=>by
   have:=flt_pre (c:=c) h
   have ht:=lsz t
   have h2:=esize1_ok bp ap (flat c acc).length t c (by simp only [segF] at this;omega)
   rw [show (flat c acc).length+t.size=(flat c (acc++[.lit t])).length by rw [Wj,VA,List.length_append];simp only [segF];omega] at h2
   exact Zz h2)
  (fun acc n h=>by
   have:=flt_pre (c:=c) h
   have ht:=lsz (valF n c)
   have h2:=esize2_ok bp ap (flat c acc).length n c hc (by simp only [segF] at this;omega)
   rw [show (flat c acc).length+(valF n c).size=(flat c (acc++[.fld n])).length by rw [Wj,VA,List.length_append];simp only [segF];omega] at h2
   exact Zz h2)
 generalize (flat c (tplF s).1).length=m at *
 generalize tplV s=V at *
 have hn:(((flat c []).length:Nat):Int)=0:=rfl
 simp only [hn] at n0
 have n1:=fun (ap bp:Nat)=>Va (L:=[Pt bp (.cells #[.int .i64 0] 3),Pt ap (.cells (cqf c).toArray 26)]) (fun _ hh=>pt_both hh) (n0 ap bp)
 refine ZT [_,_] func47 ntmps47 fun G w hp=>?_
 repeat' (first|refine Yw (X:=Unit) (Lx:=fun _=>[Pt _ (.cells (cqf c).toArray 26),Pt _ (.cells #[.int .i64 (m:Nat)] 3)]) (p:=fun _=>True) (r:=both (Pt _ (.cells (cqf c).toArray 26)) (Pt _ (.cells #[.int .i64 (m:Nat)] 3))) .here (fun h hh=>⟨(),trivial,hh⟩) (fun _ _=>?_)|refine ZG ?_|refine ZF ?_|refine ZJ ?_|refine ZH ?_|refine ZL ?_|refine ZI ?_|refine ZN ?_|refine ZO (fun b=>?_)|refine ZM (fun b=>?_)|refine ZB ?_|refine ZD ?_|refine ZP ?_|refine ZA (n1 _ _) (fun _ _=>?_)|refine l_call0 (n1 _ _) (fun _ _=>?_)|(refine ZC (fun hc=>?_) (fun hc=>?_)<;>(try simp at hc))|(refine ZE (fun hc=>?_) (fun hc=>?_)<;>(try simp at hc)))
 exact ZR () rfl trivial
theorem mget_act (w:ByteArray):(mget w (mset (⟨#[97,115,107]⟩:ByteArray) (5:Int) (mset (⟨#[104,111,108,100]⟩:ByteArray) (4:Int) (mset (⟨#[115,101,110,100]⟩:ByteArray) 3 (mset (⟨#[99,111,109,112,101,110,115,97,116,101]⟩:ByteArray) 2 (mset (⟨#[107,101,101,112]⟩:ByteArray) 1 []))))))=if idx w wActs<5 then some ((idx w wActs:Nat)+1:Int) else none:=by
 have e:(mset (⟨#[97,115,107]⟩:ByteArray) (5:Int) (mset (⟨#[104,111,108,100]⟩:ByteArray) (4:Int) (mset (⟨#[115,101,110,100]⟩:ByteArray) 3 (mset (⟨#[99,111,109,112,101,110,115,97,116,101]⟩:ByteArray) 2 (mset (⟨#[107,101,101,112]⟩:ByteArray) 1 [])))))=[(⟨#[107,101,101,112]⟩,1),(⟨#[99,111,109,112,101,110,115,97,116,101]⟩,2),(⟨#[115,101,110,100]⟩,3),(⟨#[104,111,108,100]⟩,4),(⟨#[97,115,107]⟩,5)]:=by decide
 rw [e]
 by_cases h1:w=⟨#[107,101,101,112]⟩
 ·subst h1;decide
 by_cases h2:w=⟨#[99,111,109,112,101,110,115,97,116,101]⟩
 ·subst h2;decide
 by_cases h3:w=⟨#[115,101,110,100]⟩
 ·subst h3;decide
 by_cases h4:w=⟨#[104,111,108,100]⟩
 ·subst h4;decide
 by_cases h5:w=⟨#[97,115,107]⟩
 ·subst h5;decide
 have e2:idx w wActs=5:=by simp [wActs,idx,Ne.symm h1,Ne.symm h2,Ne.symm h3,Ne.symm h4,Ne.symm h5]
 rw [e2]
 simp [mget,h1,h2,h3,h4,h5]
abbrev acV (a:Ac):Value:=.agg #[.int .i64 a.k,.string a.t]
set_option maxHeartbeats 2000000 in
theorem Vr (b r:Nat) (x:Ps) (o:Option Addr) (cap:Nat) (hk:KdOK x):Enters 109∧Spec prog 109 #[.pointer (some ⟨b,0,none⟩)] [TkS (o,cap) x.tk,P10] [Pt b (psC x o cap r)] (PsP (acV (actF x).1) b r (actF x).2):=by
 have n1:=Yp b r x o cap hk 1
 have n2:=fun (q:Option Addr×Nat)=>YA b r (x.need 1) q.1 q.2 x.peek.pl 30
 have hg:=mget_act x.peek.tx
 have hk1:=hk.need 1
 unfold actF
 generalize x.need 1=x1 at *
 generalize hp:x.peek=t at *
 obtain ⟨kd,tx,pl⟩:=t
 dsimp only at hg ⊢
 generalize b=bp at *
 by_cases hi:idx tx wActs<5
 ·rw [if_pos hi] at hg
  by_cases h1:idx tx wActs=1
  ·rw [if_pos h1,if_pos hi]
   rw [h1] at hg
   have n3:=fun (q:Option Addr×Nat)=>Yp bp r x1 q.1 q.2 hk1 3
   have hz:=hk1.peek
   have n4:=ruCheck_ok x1.peek.tx (by omega)
   have n5:=fun (q:Option Addr×Nat)=>YA bp r (x1.need 3) q.1 q.2 x1.peek.pl 3
   generalize x1.peek=u at *
   obtain ⟨kd2,tx2,pl2⟩:=u
   dsimp only at n4 n5 ⊢
   generalize x1.need 3=x3 at *
   generalize tplV tx2=V at *
   cases ho:(tplF tx2).2.isSome with
   | true=>
    rw [ho] at n4
    rw [if_pos rfl,if_pos rfl] at n4
    rw [if_pos rfl]
    refine ZT [_] func109 ntmps109 fun G w hp=>?_
    repeat' (first|refine Z4 (V:=ivv) Zb tx (some 2) hg ?_|refine Z5 Zb _ _ ?_|refine Ym Zb ivv (fun r=>?_)|refine ZG ?_|refine ZF ?_|refine ZJ ?_|refine ZH ?_|refine ZL ?_|refine ZI ?_|refine ZN ?_|refine ZO (fun b=>?_)|refine ZM (fun b=>?_)|refine ZB ?_|refine ZD ?_|refine ZP ?_|refine ZA (n1) (fun _ _=>?_)|refine l_call0 (n1) (fun _ _=>?_)|refine ZA (n3 _) (fun _ _=>?_)|refine l_call0 (n3 _) (fun _ _=>?_)|refine ZA (n4) (fun _ _=>?_)|refine l_call0 (n4) (fun _ _=>?_)|refine ZA (n5 _) (fun _ _=>?_)|refine l_call0 (n5 _) (fun _ _=>?_)|(refine ZC (fun hc=>?_) (fun hc=>?_)<;>(try simp at hc)<;>(try omega))|(refine ZE (fun hc=>?_) (fun hc=>?_)<;>(try simp at hc)<;>(try omega)))
    rename_i q _
    exact ZR q rfl trivial
   | false=>
    rw [ho] at n4
    rw [if_neg (by decide),if_neg (by decide)] at n4
    rw [if_neg (by decide)]
    refine ZT [_] func109 ntmps109 fun G w hp=>?_
    repeat' (first|refine Z4 (V:=ivv) Zb tx (some 2) hg ?_|refine Z5 Zb _ _ ?_|refine Ym Zb ivv (fun r=>?_)|refine ZG ?_|refine ZF ?_|refine ZJ ?_|refine ZH ?_|refine ZL ?_|refine ZI ?_|refine ZN ?_|refine ZO (fun b=>?_)|refine ZM (fun b=>?_)|refine ZB ?_|refine ZD ?_|refine ZP ?_|refine ZA (n1) (fun _ _=>?_)|refine l_call0 (n1) (fun _ _=>?_)|refine ZA (n3 _) (fun _ _=>?_)|refine l_call0 (n3 _) (fun _ _=>?_)|refine ZA (n4) (fun _ _=>?_)|refine l_call0 (n4) (fun _ _=>?_)|(refine ZC (fun hc=>?_) (fun hc=>?_)<;>(try simp at hc)<;>(try omega))|(refine ZE (fun hc=>?_) (fun hc=>?_)<;>(try simp at hc)<;>(try omega)))
    rename_i q _ _ _
    exact ZR q rfl trivial
  ·rw [if_neg h1,if_pos hi,if_pos hi]
   have hz2:¬((idx tx wActs:Nat)+1:Int)=2:=by omega
   generalize ((idx tx wActs:Nat)+1:Int)=z at hg hz2 ⊢
   refine ZT [_] func109 ntmps109 fun G w hp=>?_
   repeat' (first|refine Z4 (V:=ivv) Zb tx (some z) hg ?_|refine Z5 Zb _ _ ?_|refine Ym Zb ivv (fun r=>?_)|refine ZG ?_|refine ZF ?_|refine ZJ ?_|refine ZH ?_|refine ZL ?_|refine ZI ?_|refine ZN ?_|refine ZO (fun b=>?_)|refine ZM (fun b=>?_)|refine ZB ?_|refine ZD ?_|refine ZP ?_|refine ZA (n1) (fun _ _=>?_)|refine l_call0 (n1) (fun _ _=>?_)|(refine ZC (fun hc=>?_) (fun hc=>?_)<;>(try simp at hc)<;>(try omega))|(refine ZE (fun hc=>?_) (fun hc=>?_)<;>(try simp at hc)<;>(try omega)))
   rename_i q _
   exact ZR q rfl trivial
 ·rw [if_neg hi] at hg
  rw [if_neg (show ¬idx tx wActs=1 by omega),if_neg hi,if_neg hi]
  refine ZT [_] func109 ntmps109 fun G w hp=>?_
  repeat' (first|refine Z4 (V:=ivv) Zb tx none hg ?_|refine Z5 Zb _ _ ?_|refine Ym Zb ivv (fun r=>?_)|refine ZG ?_|refine ZF ?_|refine ZJ ?_|refine ZH ?_|refine ZL ?_|refine ZI ?_|refine ZN ?_|refine ZO (fun b=>?_)|refine ZM (fun b=>?_)|refine ZB ?_|refine ZD ?_|refine ZP ?_|refine ZA (n1) (fun _ _=>?_)|refine l_call0 (n1) (fun _ _=>?_)|refine ZA (n2 _) (fun _ _=>?_)|refine l_call0 (n2 _) (fun _ _=>?_)|(refine ZC (fun hc=>?_) (fun hc=>?_)<;>(try simp at hc)<;>(try omega))|(refine ZE (fun hc=>?_) (fun hc=>?_)<;>(try simp at hc)<;>(try omega)))
  rename_i q _
  exact ZR q rfl trivial
abbrev ovl (x:Option IV):Value:=match x with
 | none=>.nilIface
 | some i=>ivOf i
def OcP (h:H) (c:Option Cnd) (x:Option IV):Prop:=match c,x with
 | none,none=>True
 | some c,some i=>CdP h c (ivOf i)
 | _,_=>False
def OcF (c:Option Cnd) (x:Option IV):Pf:=⟨fun h=>OcP h c x,fun h k s hh=>by
 unfold OcP at *
 split
 ·trivial
 ·exact VO s _ _ hh
 ·rename_i a b
  revert hh
  split
  ·exact fun _=>a rfl rfl
  ·exact fun _=>b _ _ rfl rfl
  ·exact id⟩
abbrev ruV (i:Option IV) (a:Ac):Value:=.agg #[ovl i,.int .i64 a.k,.string a.t]
abbrev RlQ (b r:Nat) (y:Ru×Ps):Post:=⟨Option IV×Option Addr×Nat,fun q=>ruV q.1 y.1.a,fun _=>True,fun q=>[OcF y.1.c q.1,TkS q.2 y.2.tk],fun q=>[Pt b (psC y.2 q.2.1 q.2.2 r),Mp skv vid r tstL]⟩
set_option maxHeartbeats 4000000 in
theorem ruRule_ok (b r:Nat) (x:Ps) (o:Option Addr) (cap:Nat) (hx:PkOK x):Enters 71∧Spec prog 71 #[.pointer (some ⟨b,0,none⟩)] [TkS (o,cap) x.tk,ErA,P10] [Pt b (psC x o cap r),Mp skv vid r tstL] (RlQ b r (ruleF x)):=by
 have n1:=Xa b r x o cap hx.kd 1 wIf
 unfold ruleF
 dsimp only
 cases hi:x.is 1 wIf with
 | true=>
  rw [hi] at n1
  rw [if_pos rfl] at n1 ⊢
  have hps:PkOK x.pass:=hx.sfx (Sfx.pass x) (Sop.pass x)
  have n2:=fun (q:Option Addr×Nat)=>ruCond_ok b r x.pass q.1 q.2 hps
  have k1:KdOK (condF (fuP x.pass) x.pass).2:=(hps.sfx ((Yh _).2.2.2.1 x.pass) ((Xu _).2.2.2.1 x.pass)).kd
  unfold SpF at n2
  generalize condF (fuP x.pass) x.pass=y at *
  obtain ⟨c,y⟩:=y
  dsimp only at n2 k1 ⊢
  have n3:=fun (q:Option Addr×Nat)=>WV b r y q.1 q.2 k1 yCol
  have k2:=k1.symb yCol
  generalize y.symb yCol=s at *
  have n4:=fun (q:Option Addr×Nat)=>Vr b r s q.1 q.2 k2
  generalize actF s=z at *
  obtain ⟨⟨ak,atx⟩,z⟩:=z
  dsimp only at n4 ⊢
  have n5:=fun (q:Option Addr×Nat)=>Xp b r z q.1 q.2
  have n6:=fun (q:Option Addr×Nat)=>YA b r z q.1 q.2 z.peek.pl 30
  generalize z.peek=t at *
  obtain ⟨kd,tx,pl⟩:=t
  dsimp only at n6 ⊢
  generalize b=bp at *
  by_cases h0:kd=0
  ·rw [if_neg (by simpa using h0)]
   refine ZT [_] func71 ntmps71 fun G w hp=>?_
   repeat' (first|refine ZG ?_|refine ZF ?_|refine ZJ ?_|refine ZH ?_|refine ZL ?_|refine ZI ?_|refine ZN ?_|refine ZO (fun b=>?_)|refine ZM (fun b=>?_)|refine ZB ?_|refine ZD ?_|refine ZP ?_|refine ZA (n1) (fun _ _=>?_)|refine l_call0 (n1) (fun _ _=>?_)|refine ZA (n2 _) (fun _ _=>?_)|refine l_call0 (n2 _) (fun _ _=>?_)|refine ZA (n3 _) (fun _ _=>?_)|refine l_call0 (n3 _) (fun _ _=>?_)|refine ZA (n4 _) (fun _ _=>?_)|refine l_call0 (n4 _) (fun _ _=>?_)|refine ZA (n5 _) (fun _ _=>?_)|refine l_call0 (n5 _) (fun _ _=>?_)|(refine ZC (fun hc=>?_) (fun hc=>?_)<;>(try simp at hc)<;>(try omega))|(refine ZE (fun hc=>?_) (fun hc=>?_)<;>(try simp at hc)<;>(try omega)))
   rename_i iv _ _ _ q _ _ _
   refine Zs (F1:=[CdF c (ivOf iv.1)]) (f:=OcF (some c) (some iv.1)) (fun hp hF=>hF _ (.head _)) ?_
   exact ZR (some iv.1,q) rfl trivial
  ·rw [if_pos h0]
   refine ZT [_] func71 ntmps71 fun G w hp=>?_
   repeat' (first|refine ZG ?_|refine ZF ?_|refine ZJ ?_|refine ZH ?_|refine ZL ?_|refine ZI ?_|refine ZN ?_|refine ZO (fun b=>?_)|refine ZM (fun b=>?_)|refine ZB ?_|refine ZD ?_|refine ZP ?_|refine ZA (n1) (fun _ _=>?_)|refine l_call0 (n1) (fun _ _=>?_)|refine ZA (n2 _) (fun _ _=>?_)|refine l_call0 (n2 _) (fun _ _=>?_)|refine ZA (n3 _) (fun _ _=>?_)|refine l_call0 (n3 _) (fun _ _=>?_)|refine ZA (n4 _) (fun _ _=>?_)|refine l_call0 (n4 _) (fun _ _=>?_)|refine ZA (n5 _) (fun _ _=>?_)|refine l_call0 (n5 _) (fun _ _=>?_)|refine ZA (n6 _) (fun _ _=>?_)|refine l_call0 (n6 _) (fun _ _=>?_)|(refine ZC (fun hc=>?_) (fun hc=>?_)<;>(try simp at hc)<;>(try omega))|(refine ZE (fun hc=>?_) (fun hc=>?_)<;>(try simp at hc)<;>(try omega)))
   rename_i iv _ _ _ _ _ _ _ q _
   refine Zs (F1:=[CdF c (ivOf iv.1)]) (f:=OcF (some c) (some iv.1)) (fun hp hF=>hF _ (.head _)) ?_
   exact ZR (some iv.1,q) rfl trivial
 | false=>
  rw [hi] at n1
  rw [if_neg (by decide)] at n1 ⊢
  have n4:=fun (q:Option Addr×Nat)=>Vr b r x q.1 q.2 hx.kd
  dsimp only
  generalize actF x=z at *
  obtain ⟨⟨ak,atx⟩,z⟩:=z
  dsimp only at n4 ⊢
  have n5:=fun (q:Option Addr×Nat)=>Xp b r z q.1 q.2
  have n6:=fun (q:Option Addr×Nat)=>YA b r z q.1 q.2 z.peek.pl 30
  generalize z.peek=t at *
  obtain ⟨kd,tx,pl⟩:=t
  dsimp only at n6 ⊢
  generalize b=bp at *
  by_cases h0:kd=0
  ·rw [if_neg (by simpa using h0)]
   refine ZT [_] func71 ntmps71 fun G w hp=>?_
   repeat' (first|refine ZG ?_|refine ZF ?_|refine ZJ ?_|refine ZH ?_|refine ZL ?_|refine ZI ?_|refine ZN ?_|refine ZO (fun b=>?_)|refine ZM (fun b=>?_)|refine ZB ?_|refine ZD ?_|refine ZP ?_|refine ZA (n1) (fun _ _=>?_)|refine l_call0 (n1) (fun _ _=>?_)|refine ZA (n4 _) (fun _ _=>?_)|refine l_call0 (n4 _) (fun _ _=>?_)|refine ZA (n5 _) (fun _ _=>?_)|refine l_call0 (n5 _) (fun _ _=>?_)|(refine ZC (fun hc=>?_) (fun hc=>?_)<;>(try simp at hc)<;>(try omega))|(refine ZE (fun hc=>?_) (fun hc=>?_)<;>(try simp at hc)<;>(try omega)))
   rename_i q _ _ _
   refine k_add (f:=OcF none none) (fun _=>trivial) ?_
   exact ZR (none,q) rfl trivial
  ·rw [if_pos h0]
   refine ZT [_] func71 ntmps71 fun G w hp=>?_
   repeat' (first|refine ZG ?_|refine ZF ?_|refine ZJ ?_|refine ZH ?_|refine ZL ?_|refine ZI ?_|refine ZN ?_|refine ZO (fun b=>?_)|refine ZM (fun b=>?_)|refine ZB ?_|refine ZD ?_|refine ZP ?_|refine ZA (n1) (fun _ _=>?_)|refine l_call0 (n1) (fun _ _=>?_)|refine ZA (n4 _) (fun _ _=>?_)|refine l_call0 (n4 _) (fun _ _=>?_)|refine ZA (n5 _) (fun _ _=>?_)|refine l_call0 (n5 _) (fun _ _=>?_)|refine ZA (n6 _) (fun _ _=>?_)|refine l_call0 (n6 _) (fun _ _=>?_)|(refine ZC (fun hc=>?_) (fun hc=>?_)<;>(try simp at hc)<;>(try omega))|(refine ZE (fun hc=>?_) (fun hc=>?_)<;>(try simp at hc)<;>(try omega)))
   rename_i q _
   refine k_add (f:=OcF none none) (fun _=>trivial) ?_
   exact ZR (none,q) rfl trivial
theorem unq_sz:∀(l:List UInt8) (i:Nat) (acc t:List UInt8) (k:Nat),unqF l i acc=some (t,k)→t.length≤acc.length+l.length
 | [],_,_,_,_,h=>by simp [unqF] at h
 | [c],i,acc,t,k,h=>by
  rw [unqF] at h
  split at h
  ·cases h;simp
  ·cases h
 | c::d::r,i,acc,t,k,h=>by
  rw [unqF] at h
  simp only [List.length_cons]
  split at h
  ·cases h;omega
  ·split at h
   ·split at h
    ·have:=unq_sz r _ _ _ _ h;simp only [List.length_append,List.length_cons,List.length_nil] at this;omega
    ·split at h
     ·have:=unq_sz r _ _ _ _ h;simp only [List.length_append,List.length_cons,List.length_nil] at this;omega
     ·cases h
   ·have:=unq_sz (d::r) _ _ _ _ h
    simp only [List.length_append,List.length_cons,List.length_nil] at this;omega
theorem VP (l:List UInt8):(ofL l).size=l.length:=YG l
theorem scan_sz:∀(n:Nat) (l:List UInt8) (i:Nat) (acc:List Tk) (M:Nat),l.length≤M→(∀t ∈ acc,t.kd≠0∧t.tx.size≤M)→(∀t ∈ (scanF n l i acc).1,t.kd≠0∧t.tx.size≤M)∧(scanF n l i acc).1.length≤acc.length+l.length
 | 0,_,_,acc,_,_,h=>⟨h,by show acc.length≤_;omega⟩
 | _+1,[],_,acc,_,_,h=>⟨h,by show acc.length≤_;omega⟩
 | n+1,c::r,i,acc,M,hM,h=>by
  have add:∀t:Tk,(t.kd≠0∧t.tx.size≤M)→∀x ∈ acc++[t],x.kd≠0∧x.tx.size≤M:=fun t ht x hx=>by
   rcases List.mem_append.1 hx with hx|hx
   ·exact h x hx
   ·rcases List.mem_singleton.1 hx with rfl
    exact ht
  have hM':r.length+1≤M:=by simpa using hM
  have key:∀(l':List UInt8) (i':Nat) (t:Tk),l'.length+1≤(c::r).length→(t.kd≠0∧t.tx.size≤M)→(∀x ∈ (scanF n l' i' (acc++[t])).1,x.kd≠0∧x.tx.size≤M)∧(scanF n l' i' (acc++[t])).1.length≤acc.length+(c::r).length:=fun l' i' t hl ht=>by
   obtain ⟨a,b⟩:=scan_sz n l' i' (acc++[t]) M (by simp only [List.length_cons] at hl;omega) (add t ht)
   refine ⟨a,?_⟩
   rw [List.length_append] at b
   simp only [List.length_cons,List.length_nil] at b hl ⊢
   omega
  unfold scanF
  split
  ·exact ⟨h,by show acc.length≤_;omega⟩
  ·split
   ·obtain ⟨a,b⟩:=scan_sz n r (i+1) acc M (by omega) h
    exact ⟨a,by simp only [List.length_cons];omega⟩
   ·split
    ·rename_i hd
     have e:spanF isLet (c::r)=spanF isLet r+1:=by simp [spanF,hd]
     exact key _ _ _ (by rw [e];simp only [List.drop_succ_cons,List.length_drop,List.length_cons];omega) ⟨show (1:Int)≠0 by decide,by show (ofL _).size≤M;rw [VP,List.length_take];simp only [List.length_cons];omega⟩
    ·split
     ·rename_i hd
      have e:spanF inNum (c::r)=spanF inNum r+1:=by simp [spanF,inNum,hd]
      exact key _ _ _ (by rw [e];simp only [List.drop_succ_cons,List.length_drop,List.length_cons];omega) ⟨show (2:Int)≠0 by decide,by show (ofL _).size≤M;rw [VP,List.length_take];simp only [List.length_cons];omega⟩
     ·split
      ·split
       ·rename_i t k hu
        have u1:=WP _ _ _ _ _ hu
        have u2:=unq_sz _ _ _ _ _ hu
        exact key _ _ _ (by simp only [List.length_drop,List.length_cons];omega) ⟨show (3:Int)≠0 by decide,by show (ofL _).size≤M;rw [VP];simp only [List.length_nil] at u2;omega⟩
       ·exact ⟨fun t ht=>(by cases ht),Nat.zero_le _⟩
      ·split
       ·exact key _ _ _ (by simp) ⟨show (4:Int)≠0 by decide,by show (ofL _).size≤M;rw [VP];simp;omega⟩
       ·exact ⟨fun t ht=>(by cases ht),Nat.zero_le _⟩
abbrev RI:=Option IV×Ac
abbrev rul (x:RI):List Value:=[ovl x.1,.int .i64 x.2.k,.string x.2.t]
def RusP (h:H):List Ru→List RI→Prop
 | [],[]=>True
 | x::l,y::ys=>(OcP h x.c y.1∧x.a=y.2)∧RusP h l ys
 | _,_=>False
theorem Vc {h k:H} (s:Sub h k):∀(l:List Ru) (xs:List RI),RusP h l xs→RusP k l xs
 | [],[],_=>trivial
 | x::l,y::ys,hh=>⟨⟨(OcF x.c y.1).m _ _ s hh.1.1,hh.1.2⟩,Vc s l ys hh.2⟩
 | [],_::_,hh=>hh.elim
 | _::_,[],hh=>hh.elim
def RusF (l:List Ru) (xs:List RI):Pf:=⟨fun h=>RusP h l xs,fun _ _ s hh=>Vc s l xs hh⟩
theorem rusP_len {h:H}:∀{l:List Ru} {xs:List RI},RusP h l xs→xs.length=l.length
 | [],[],_=>rfl
 | x::l,y::ys,hh=>by simp [rusP_len hh.2]
 | [],_::_,hh=>hh.elim
 | _::_,[],hh=>hh.elim
theorem rusP_add {h:H} {x:Ru} {y:RI}:∀{l:List Ru} {xs:List RI},RusP h l xs→OcP h x.c y.1→x.a=y.2→RusP h (l++[x]) (xs++[y])
 | [],[],_,h1,h2=>⟨⟨h1,h2⟩,trivial⟩
 | _::_,_::_,hh,h1,h2=>⟨hh.1,rusP_add hh.2 h1 h2⟩
 | [],_::_,hh,_,_=>hh.elim
 | _::_,[],hh,_,_=>hh.elim
theorem rusP_get {h:H}:∀{l:List Ru} {xs:List RI} {j:Nat} {x:Ru} {y:RI},RusP h l xs→l[j]? = some x→xs[j]? = some y→OcP h x.c y.1∧x.a=y.2
 | [],[],j,_,_,_,h1,_=>by simp at h1
 | _::_,_::_,0,_,_,hh,h1,h2=>by simp at h1 h2;subst h1 h2;exact hh.1
 | _::_,_::_,j+1,_,_,hh,h1,h2=>rusP_get (j:=j) hh.2 (by simpa using h1) (by simpa using h2)
 | [],_::_,_,_,_,hh,_,_=>hh.elim
 | _::_,[],_,_,_,hh,_,_=>hh.elim
def addF (s:List UInt8) (l:List Ru):List Ru:=match (lineF s l.length).1 with
 | some x=>l++[x]
 | none=>l
abbrev RlR (b:Nat) (xs:List RI) (o:Option Addr) (cap:Nat):List HP:=[Pt b (.cells #[.slice o xs.length cap] 95),Row 102 3 o xs.length cap (xs.flatMap rul)]
abbrev AdP (b:Nat) (s:List UInt8) (l:List Ru):Post:=⟨List RI×Option Addr×Nat,fun _=>.tuple #[.int .i64 (lineF s l.length).2.1,.int .i64 (lineF s l.length).2.2],fun q=>q.1.length=(addF s l).length,fun q=>[RusF (addF s l) q.1],fun q=>RlR b q.1 q.2.1 q.2.2⟩
set_option maxHeartbeats 4000000 in
theorem ruAdd_ok (b:Nat) (s:ByteArray) (hs:s.size≤70000) (l:List Ru) (xs:List RI) (o:Option Addr) (cap:Nat) (hl:xs.length=l.length) (hn:l.length≤256):Enters 45∧Spec prog 45 #[.pointer (some ⟨b,0,none⟩),.string s] [RusF l xs,ErA,P10] (RlR b xs o cap) (AdP b s.data.toList l):=by
 have n1:=ruScan_ok s hs
 have hsz:=lsz s
 obtain ⟨hk,hkl⟩:=scan_sz (s.data.toList.length+1) s.data.toList 0 [] 100000 (by omega) (fun t ht=>by cases ht)
 obtain ⟨L,hL⟩:∃L,lineF s.data.toList l.length=L:=⟨_,rfl⟩
 unfold AdP addF
 rw [hL]
 unfold lineF at hL
 dsimp only at hL
 generalize scanF (s.data.toList.length+1) s.data.toList 0 []=r at *
 obtain ⟨tk,en,is⟩:=r
 dsimp only at *
 generalize b=bp at *
 cases is with
 | false=>
  rw [if_pos rfl] at hL
  subst hL
  refine ZT [_,_] func45 ntmps45 fun G w hp=>?_
  repeat' (first|refine ZG ?_|refine ZF ?_|refine ZJ ?_|refine ZH ?_|refine ZL ?_|refine ZI ?_|refine ZN ?_|refine ZO (fun b=>?_)|refine ZM (fun b=>?_)|refine ZB ?_|refine ZD ?_|refine ZP ?_|refine ZA (n1) (fun _ _=>?_)|refine l_call0 (n1) (fun _ _=>?_)|(refine ZC (fun hc=>?_) (fun hc=>?_)<;>(try simp at hc)<;>(try omega))|(refine ZE (fun hc=>?_) (fun hc=>?_)<;>(try simp at hc)<;>(try omega)))
  exact ZR (xs,o,cap) rfl hl
 | true=>
  rw [if_neg (by decide)] at hL
  cases tk with
  | nil=>
   dsimp only at hL
   subst hL
   refine ZT [_,_] func45 ntmps45 fun G w hp=>?_
   repeat' (first|refine ZG ?_|refine ZF ?_|refine ZJ ?_|refine ZH ?_|refine ZL ?_|refine ZI ?_|refine ZN ?_|refine ZO (fun b=>?_)|refine ZM (fun b=>?_)|refine ZB ?_|refine ZD ?_|refine ZP ?_|refine ZA (n1) (fun _ _=>?_)|refine l_call0 (n1) (fun _ _=>?_)|(refine ZC (fun hc=>?_) (fun hc=>?_)<;>(try simp at hc)<;>(try omega))|(refine ZE (fun hc=>?_) (fun hc=>?_)<;>(try simp at hc)<;>(try omega)))
   exact ZR (xs,o,cap) rfl hl
  | cons t tk=>
   dsimp only at hL
   by_cases h256:l.length=256
   ·rw [if_pos h256] at hL
    subst hL
    have h0:(t::tk)[0]? = some t:=rfl
    refine ZT [_,_] func45 ntmps45 fun G w hp=>?_
    repeat' (first|refine ZG ?_|refine ZF ?_|refine ZJ ?_|refine ZH ?_|refine ZL ?_|refine ZI ?_|refine ZN ?_|refine ZO (fun b=>?_)|refine ZM (fun b=>?_)|refine ZB ?_|refine ZD ?_|refine ZP ?_|refine ZA (n1) (fun _ _=>?_)|refine l_call0 (n1) (fun _ _=>?_)|refine Zj (es:=t::tk) (f:=tkf) 0 t h0 (fun b off=>?_)|refine Zi ?_|(refine ZC (fun hc=>?_) (fun hc=>?_)<;>(try simp at hc)<;>(try omega))|(refine ZE (fun hc=>?_) (fun hc=>?_)<;>(try simp at hc)<;>(try omega)))
    exact ZR (xs,o,cap) rfl hl
   ·rw [if_neg h256] at hL
    have hpk:PkOK ⟨t::tk,(en:Int),0,0,0⟩:=⟨hk,⟨Int.le_refl 0,by simp only [List.length_nil] at hkl;show (0:Int)+((t::tk).length:Int)≤_;omega⟩,by simp only [List.length_nil] at hkl;show (t::tk).length≤_;omega⟩
    have n2:=ruTests_ok
    have n3:=fun (b r:Nat) (q:Option Addr×Nat)=>ruRule_ok b r ⟨t::tk,(en:Int),0,0,0⟩ q.1 q.2 hpk
    generalize ruleF ⟨t::tk,(en:Int),0,0,0⟩=y at *
    obtain ⟨⟨yc,ya⟩,yp⟩:=y
    dsimp only at hL n3
    by_cases he:yp.e≠0
    ·rw [if_pos he] at hL
     subst hL
     refine ZT [_,_] func45 ntmps45 fun G w hp=>?_
     repeat' (first|refine ZG ?_|refine ZF ?_|refine ZJ ?_|refine ZH ?_|refine ZL ?_|refine ZI ?_|refine ZN ?_|refine ZO (fun b=>?_)|refine ZM (fun b=>?_)|refine ZB ?_|refine ZD ?_|refine ZP ?_|refine ZX ?_|refine ZZ ?_|refine Zg ?_|refine ZY ?_|refine ZW ?_|refine Zh (fun b=>?_)|refine Zf (fun b=>?_)|refine Ze ?_|refine ZV ?_|refine ZA (n1) (fun _ _=>?_)|refine l_call0 (n1) (fun _ _=>?_)|refine ZK (n1) (fun _ _=>?_)|refine ZA (n2) (fun _ _=>?_)|refine l_call0 (n2) (fun _ _=>?_)|refine ZK (n2) (fun _ _=>?_)|refine ZA (n3 _ _ _) (fun _ _=>?_)|refine l_call0 (n3 _ _ _) (fun _ _=>?_)|refine ZK (n3 _ _ _) (fun _ _=>?_)|(refine ZC (fun hc=>?_) (fun hc=>?_)<;>(try simp at hc)<;>(try omega))|(refine ZS (fun hc=>?_) (fun hc=>?_)<;>(try simp at hc)<;>(try omega))|refine ZQ 11 [] [(0,0),(1,0),(2,0),(3,0),(4,0),(5,0),(6,0),(7,0),(8,0),(9,0)] [] ?_|(refine ZE (fun hc=>?_) (fun hc=>?_)<;>(try simp at hc)<;>(try omega)))
     rename_i rr _ b1 q _
     obtain ⟨oc,q2,q3⟩:=q
     obtain _|⟨T,u⟩:=oc
     ·repeat' (first|refine ZG ?_|refine ZF ?_|refine ZJ ?_|refine ZH ?_|refine ZL ?_|refine ZI ?_|refine ZN ?_|refine ZO (fun b=>?_)|refine ZM (fun b=>?_)|refine ZB ?_|refine ZD ?_|refine ZP ?_|refine ZX ?_|refine ZZ ?_|refine Zg ?_|refine ZY ?_|refine ZW ?_|refine Zh (fun b=>?_)|refine Zf (fun b=>?_)|refine Ze ?_|refine ZV ?_|refine ZA (n1) (fun _ _=>?_)|refine l_call0 (n1) (fun _ _=>?_)|refine ZK (n1) (fun _ _=>?_)|refine ZA (n2) (fun _ _=>?_)|refine l_call0 (n2) (fun _ _=>?_)|refine ZK (n2) (fun _ _=>?_)|refine ZA (n3 _ _ _) (fun _ _=>?_)|refine l_call0 (n3 _ _ _) (fun _ _=>?_)|refine ZK (n3 _ _ _) (fun _ _=>?_)|(refine ZC (fun hc=>?_) (fun hc=>?_)<;>(try simp at hc)<;>(try omega))|(refine ZS (fun hc=>?_) (fun hc=>?_)<;>(try simp at hc)<;>(try omega))|refine ZQ 11 [] [(0,0),(1,0),(2,0),(3,0),(4,0),(5,0),(6,0),(7,0),(8,0),(9,0)] [] ?_|(refine ZE (fun hc=>?_) (fun hc=>?_)<;>(try simp at hc)<;>(try omega)))
      exact ZR (xs,o,cap) rfl hl
     ·repeat' (first|refine ZG ?_|refine ZF ?_|refine ZJ ?_|refine ZH ?_|refine ZL ?_|refine ZI ?_|refine ZN ?_|refine ZO (fun b=>?_)|refine ZM (fun b=>?_)|refine ZB ?_|refine ZD ?_|refine ZP ?_|refine ZX ?_|refine ZZ ?_|refine Zg ?_|refine ZY ?_|refine ZW ?_|refine Zh (fun b=>?_)|refine Zf (fun b=>?_)|refine Ze ?_|refine ZV ?_|refine ZA (n1) (fun _ _=>?_)|refine l_call0 (n1) (fun _ _=>?_)|refine ZK (n1) (fun _ _=>?_)|refine ZA (n2) (fun _ _=>?_)|refine l_call0 (n2) (fun _ _=>?_)|refine ZK (n2) (fun _ _=>?_)|refine ZA (n3 _ _ _) (fun _ _=>?_)|refine l_call0 (n3 _ _ _) (fun _ _=>?_)|refine ZK (n3 _ _ _) (fun _ _=>?_)|(refine ZC (fun hc=>?_) (fun hc=>?_)<;>(try simp at hc)<;>(try omega))|(refine ZS (fun hc=>?_) (fun hc=>?_)<;>(try simp at hc)<;>(try omega))|refine ZQ 11 [] [(0,0),(1,0),(2,0),(3,0),(4,0),(5,0),(6,0),(7,0),(8,0),(9,0)] [] ?_|(refine ZE (fun hc=>?_) (fun hc=>?_)<;>(try simp at hc)<;>(try omega)))
      exact ZR (xs,o,cap) rfl hl
    ·rw [if_neg he] at hL
     subst hL
     have he:yp.e=0:=by simpa using he
     refine ZT [_,_] func45 ntmps45 fun G w hp=>?_
     repeat' (first|refine ZG ?_|refine ZF ?_|refine ZJ ?_|refine ZH ?_|refine ZL ?_|refine ZI ?_|refine ZN ?_|refine ZO (fun b=>?_)|refine ZM (fun b=>?_)|refine ZB ?_|refine ZD ?_|refine ZP ?_|refine ZA (n1) (fun _ _=>?_)|refine l_call0 (n1) (fun _ _=>?_)|refine ZA (n2) (fun _ _=>?_)|refine l_call0 (n2) (fun _ _=>?_)|refine ZA (n3 _ _ _) (fun _ _=>?_)|refine l_call0 (n3 _ _ _) (fun _ _=>?_)|(refine ZC (fun hc=>?_) (fun hc=>?_)<;>(try simp at hc)<;>(try omega))|(refine ZE (fun hc=>?_) (fun hc=>?_)<;>(try simp at hc)<;>(try omega)))
     rename_i rr _ b1 q _
     obtain ⟨oc,q2,q3⟩:=q
     dsimp only
     have hroom:(2 * (xs.length+1)+200) * 40≤281474976710656:=by omega
     have e1:∀oc:Option IV,xs.length+1=(xs++[(oc,ya)]).length:=fun oc=>by simp
     have e2:∀oc:Option IV,xs.flatMap rul++rul (oc,ya)=(xs++[(oc,ya)]).flatMap rul:=fun oc=>by simp
     obtain _|⟨T,u⟩:=oc
     ·repeat' (first|refine ZG ?_|refine ZF ?_|refine ZJ ?_|refine ZH ?_|refine ZL ?_|refine ZI ?_|refine ZN ?_|refine ZO (fun b=>?_)|refine ZM (fun b=>?_)|refine ZB ?_|refine ZD ?_|refine ZP ?_|refine ZX ?_|refine ZZ ?_|refine Zg ?_|refine ZY ?_|refine ZW ?_|refine Zh (fun b=>?_)|refine Zf (fun b=>?_)|refine Ze ?_|refine ZV ?_|refine ZA (n1) (fun _ _=>?_)|refine l_call0 (n1) (fun _ _=>?_)|refine ZK (n1) (fun _ _=>?_)|refine ZA (n2) (fun _ _=>?_)|refine l_call0 (n2) (fun _ _=>?_)|refine ZK (n2) (fun _ _=>?_)|refine ZA (n3 _ _ _) (fun _ _=>?_)|refine l_call0 (n3 _ _ _) (fun _ _=>?_)|refine ZK (n3 _ _ _) (fun _ _=>?_)|refine r_app1 (fun o' cap'=>?_)|(refine ZC (fun hc=>?_) (fun hc=>?_)<;>(try simp at hc)<;>(try omega))|(refine ZS (fun hc=>?_) (fun hc=>?_)<;>(try simp at hc)<;>(try omega))|refine ZQ 12 [Row _ _ _ _ _ _] [(0,0),(1,0),(2,0),(3,0),(4,0),(5,0),(6,1),(7,4),(8,0),(9,0)] [10] ?_|(refine ZE (fun hc=>?_) (fun hc=>?_)<;>(try simp at hc)<;>(try omega)))
      refine YE (T:=102) (sz:=3) (o:=o') (cap:=cap') (m:=xs.length+1) _ _ (e1 none) (e2 none) ?_
      rw [e1 none]
      refine Zs (F1:=[OcF yc none,RusF l xs]) (f:=RusF (l++[Ru.mk yc ya]) (xs++[(none,ya)])) (fun hp hF=>rusP_add (x:=Ru.mk yc ya) (y:=(none,ya)) (hF _ (.tail _ (.head _))) (hF _ (.head _)) rfl) ?_
      exact ZR (xs++[(none,ya)],o',cap') rfl (by show (xs++[_]).length=(l++[_]).length;simp [hl])
     ·repeat' (first|refine ZG ?_|refine ZF ?_|refine ZJ ?_|refine ZH ?_|refine ZL ?_|refine ZI ?_|refine ZN ?_|refine ZO (fun b=>?_)|refine ZM (fun b=>?_)|refine ZB ?_|refine ZD ?_|refine ZP ?_|refine ZX ?_|refine ZZ ?_|refine Zg ?_|refine ZY ?_|refine ZW ?_|refine Zh (fun b=>?_)|refine Zf (fun b=>?_)|refine Ze ?_|refine ZV ?_|refine ZA (n1) (fun _ _=>?_)|refine l_call0 (n1) (fun _ _=>?_)|refine ZK (n1) (fun _ _=>?_)|refine ZA (n2) (fun _ _=>?_)|refine l_call0 (n2) (fun _ _=>?_)|refine ZK (n2) (fun _ _=>?_)|refine ZA (n3 _ _ _) (fun _ _=>?_)|refine l_call0 (n3 _ _ _) (fun _ _=>?_)|refine ZK (n3 _ _ _) (fun _ _=>?_)|refine r_app1 (fun o' cap'=>?_)|(refine ZC (fun hc=>?_) (fun hc=>?_)<;>(try simp at hc)<;>(try omega))|(refine ZS (fun hc=>?_) (fun hc=>?_)<;>(try simp at hc)<;>(try omega))|refine ZQ 12 [Row _ _ _ _ _ _] [(0,0),(1,0),(2,0),(3,0),(4,0),(5,0),(6,1),(7,4),(8,0),(9,0)] [10] ?_|(refine ZE (fun hc=>?_) (fun hc=>?_)<;>(try simp at hc)<;>(try omega)))
      refine YE (T:=102) (sz:=3) (o:=o') (cap:=cap') (m:=xs.length+1) _ _ (e1 (some (T,u))) (e2 (some (T,u))) ?_
      rw [e1 (some (T,u))]
      refine Zs (F1:=[OcF yc (some (T,u)),RusF l xs]) (f:=RusF (l++[Ru.mk yc ya]) (xs++[((some (T,u)),ya)])) (fun hp hF=>rusP_add (x:=Ru.mk yc ya) (y:=(some (T,u),ya)) (hF _ (.tail _ (.head _))) (hF _ (.head _)) rfl) ?_
      exact ZR (xs++[((some (T,u)),ya)],o',cap') rfl (by show (xs++[_]).length=(l++[_]).length;simp [hl])
section
variable {γ:Type} {n:Nat} {C:Cx} {Q:Exit→Act→World→Prop} {E E':List (Nat×Value)} {F F' F1 Fs F0:List Pf} {R R' R0 Rs N N' A:List HP} {k k':List Fr} {ops l:List Oper} {L L':List (Nat×Nat)} {Tl:List Nat} {i d:Nat} {t ty0:TypeId} {x y:Operand} {pos:String} {aft:Array Edge} {gd:Option (Nat×Bool)}
def RQG (q:LR) (l:Nat) (G:H) (w0:World) (hp0:H) (Ft:γ→Pf) (Jt Jx:γ→HP):Exit→Act→World→Prop:=
 roundPost prog l fun e w'=>∃(b:Bool) (g:γ),e = .returned (.bool b)∧Sat G w0 hp0 (if b then [Ft g] else []) [if b then both (Pt l (.loop (rcd q .ready none))) (Jt g) else both (Pt l (.loop (rcd q .done (some .ret)))) (Jx g)] w'
theorem k_rnG {q:LR} {l:Nat} {r:Option Nat} {G:H} {w0:World} {hp0:H} {ds:List Deferred} {Ft:γ→Pf} {Jt Jx:γ→HP} (g:γ) (hs:Sels [Pt l (.loop (rcd q .busy none)),Jt g] R R0:=by (repeat (first|exact Sels.nil|exact Sel.here|apply Sel.there|apply Sels.cons));first|done|fail) (hF:EntF F [Ft g]:=by (repeat (first|exact trivial|exact Sel.here|apply Sel.there|apply EntF.cons));first|done|fail) (h:nf 1000 k=[]:=by rfl) :
  Wk n ⟨r,G,w0,hp0,ds⟩ k (RQG q l G w0 hp0 Ft Jt Jx) E F R:=fun a w ha hsat=>Yo 1000 k (by
 rw [h]
 have h1:=hsat.sels hs
 refine ⟨_,_,run_endRound none (h1.pt Sel.here),true,g,rfl,?_⟩
 have h2:=Z3 (o':=.loop (rcd q .ready none)) h1
 exact ((h2.shut (x:=both _ _) fun _ hh=>hh).facts (F':=[Ft g]) hF.all).res fun _ hh=>YX (A:=[_]) hh)
theorem k_rrG {q:LR} {l:Nat} {r:Option Nat} {G:H} {w0:World} {hp0:H} {ds:List Deferred} {Ft:γ→Pf} {Jt Jx:γ→HP} (g:γ) (hs:Sels [Pt l (.loop (rcd q .busy none)),Jx g] R R0:=by (repeat (first|exact Sels.nil|exact Sel.here|apply Sel.there|apply Sels.cons));first|done|fail) (h:nf 1000 k = .c .ret::k':=by rfl) (hn:noR k'=true:=by rfl) :
  Wk n ⟨r,G,w0,hp0,ds⟩ k (RQG q l G w0 hp0 Ft Jt Jx) E F R:=Zq (fun a w ha hsat=>by
 have h1:=hsat.sels hs
 refine ⟨_,_,run_endRound (some .ret) (h1.pt Sel.here),false,g,rfl,?_⟩
 have h2:=Z3 (o':=.loop (rcd q .done (some .ret))) h1
 exact ((h2.shut (x:=both _ _) fun _ hh=>hh).facts (F':=[]) (fun _ _ _ hx=>by cases hx)).res fun _ hh=>YX (A:=[_]) hh) h hn
def YPostG {α:Type} (FI:List α→γ→Pf) (I Ix:List α→γ→HP) (pre:List α) (e:α):Post:=⟨Bool×γ,fun b=>.bool b.1,fun _=>True,fun b=>if b.1 then [FI (pre++[e]) b.2] else [],fun b=>[if b.1 then I (pre++[e]) b.2 else Ix (pre++[e]) b.2]⟩
theorem yield_okG {α:Type} {FJ:List α→γ→Pf} {enc:α→Value} {q:LR} {l p:Nat} {J Jx:List α→γ→HP} {pre:List α} {gz:γ} {e:α} (hps:q.ps = #[p]) (hpn:p<n) (hag:∀a:Act,a.tmps=q.tmps→a.defers=[]→Agree n [] (look E) a)
  (hbody:∀G w0 hp0,Wk n ⟨some l,G,w0,hp0,[]⟩ [.c q.assign,.r l,.c q.body] (RQG q l G w0 hp0 (FJ (pre++[e])) (J (pre++[e])) (Jx (pre++[e]))) ((p,enc e)::E) (FJ pre gz::F) [Pt l (.loop (rcd q .ready none)),J pre gz]) :
  SpecV (.func (.yield l) #[] #[]) [enc e] [⟨fun h=>∀f ∈ F,f.p h,fun _ _ s h f hf=>f.m _ _ s (h f hf)⟩,FJ pre gz] [both (Pt l (.loop (rcd q .ready none))) (J pre gz)]
   (YPostG FJ (fun pre g=>both (Pt l (.loop (rcd q .ready none))) (J pre g)) (fun pre g=>both (Pt l (.loop (rcd q .done (some .ret)))) (Jx pre g)) pre e):=by
 intro G w hp hsat
 have h1:Sat G w hp (FJ pre gz::F) [both (Pt l (.loop (rcd q .ready none))) (J pre gz)] w:=hsat.facts fun hp hF f hf=>by
  rcases List.mem_cons.1 hf with rfl|hf
  ·exact hF _ (.tail _ (.head _))
  ·exact hF _ (List.mem_cons_self ..) f hf
 obtain ⟨_,h2⟩:=h1.open' (X:=Unit) (L:=fun _=>[Pt l (.loop (rcd q .ready none)),J pre gz]) fun _ hh=>⟨(),hh⟩
 have hl:=h2.pt Sel.here
 unfold CallsV OpRes
 have hy:=run_yield (P:=prog) (args:=#[enc e]) hl (by simp [rcd,hps])
 have hi:(invoke (.fn (.yield l) #[]) (#[]++[enc e].toArray)).run prog w=(Instr.yield l #[enc e]).run prog w:=by simp [invoke]
 simp only [hi,hy]
 refine roundIn_of_wpIn trivial ?_
 have ha:Agree n [] (look ((p,enc e)::E)) ({tmps:=((rcd q .ready none).params.zip #[enc e]).foldl (fun tmps (x:Tmp×Value)=>tmps.setIfInBounds x.1 x.2) (rcd q .ready none).tmps,defers:=[]}:Act):=by
  have:=(hag ⟨q.tmps,[]⟩ rfl rfl).put (d:=some p) (fun t ht=>by cases ht;exact hpn) (enc e)
  rw [Yl]
  simpa [rcd,hps,Act.put] using this
 have hb:=hbody G w hp _ w ha h2
 refine wpIn_mono (show q.assign.wpIn (fz (some l)) 0 prog (after (some l) [.r l,.c q.body] (RQG q l G w hp (FJ (pre++[e])) (J (pre++[e])) (Jx (pre++[e])))) _ w from hb) ?_
 rintro ex a1 w1 hx
 cases ex with
 | normal=>
  obtain ⟨w2,g1,g2⟩:=hx
  refine ⟨w2,g1,?_⟩
  have g3:q.body.wpIn (fz (some l)) 0 prog (after (some l) [] (RQG q l G w hp (FJ (pre++[e])) (J (pre++[e])) (Jx (pre++[e])))) a1 w2:=g2
  rw [after_nil] at g3
  refine wpIn_mono g3 (WQ ?_)
  rintro e' w' ⟨b,g,rfl,hs'⟩
  exact ⟨(b,g),rfl,trivial,hs'⟩
 | _=>exact hx.elim
def IterG {α:Type} (gf:FuncId) (lb:List Value) (enc:α→Value) (xs:List α) (Fg:List Pf) (A:List HP):Prop:=
 ∀(γ:Type) (v:Value) (Y:Pf) (FI:List α→γ→Pf) (I Ix:List α→γ→HP) (g0:γ),(∀pre g e,pre++[e] <+: xs→SpecV v [enc e] [Y,FI pre g] [I pre g] (YPostG FI I Ix pre e))→
  Enters gf∧Spec prog gf (v::lb).toArray (Y::FI [] g0::Fg) (I [] g0::A) ⟨Option (List α)×γ,fun _=>.tuple #[],fun r=>∀pre,r.1=some pre→pre <+: xs,fun r=>(match r.1 with|none=>[FI xs r.2]|some _=>[]),fun r=>[match r.1 with|none=>I xs r.2|some pre=>Ix pre r.2]⟩
theorem k_rangeG {α:Type} {g:Operand} {p:Nat} {assign body:Code} {gf:FuncId} {lb:Array Value} {enc:α→Value} {xs:List α} {Fg:List Pf} {G:H} {w0:World} {hp0:H} {ds:List Deferred} (FJ:List α→γ→Pf) (J Jx:List α→γ→HP) (g0:γ) (hit:IterG gf lb.toList enc xs Fg A)
  (hbody:∀(q:LR) (l:Nat) (pre:List α) (gz:γ) (e:α),pre++[e] <+: xs→∀G w0 hp0,Wk n ⟨some l,G,w0,hp0,[]⟩ [.c assign,.r l,.c body] (RQG q l G w0 hp0 (FJ (pre++[e])) (J (pre++[e])) (Jx (pre++[e]))) ((p,enc e)::E) (FJ pre gz::F) [Pt l (.loop (rcd q .ready none)),J pre gz])
  (hdone:∀D g,Wk n ⟨none,G,w0,hp0,{target:=.collected D,args:=#[]}::ds⟩ k' Q E (FJ xs g::F) (J xs g::Pt D (.deferred (some []))::R'))
  (hstop:∀D pre g,pre <+: xs→Wret n ⟨none,G,w0,hp0,{target:=.collected D,args:=#[]}::ds⟩ Q E F (Jx pre g::Pt D (.deferred (some []))::R'))
  (h:nf 1000 k = .c (.rangeFunc g #[p] assign body)::k':=by rfl) (hg:ev E g=some (.func (.func gf) #[] lb):=by rfl) (hpn:Nat.blt p n=true:=by rfl) (hnr:noR k'=true:=by rfl)
  (sel:Sels (J [] g0::A) R R':=by (repeat (first|exact Sels.nil|exact Sel.here|apply Sel.there|apply Sels.cons));first|done|fail) (hF0:EntF F [FJ [] g0]:=by (repeat (first|exact trivial|exact Sel.here|apply Sel.there|apply EntF.cons));first|done|fail) (hFg:EntF F Fg:=by (repeat (first|exact trivial|exact Sel.here|apply Sel.there|apply EntF.cons));first|done|fail):Wk n ⟨none,G,w0,hp0,ds⟩ k Q E F R:=fun a w ha hs=>Yo 1000 k (by
 rw [h]
 show (Code.rangeFunc g #[p] assign body).wpIn (fz none) 0 prog (after none k' Q) a w
 refine wpIn_rangeFunc fun fn hfn=>?_
 let q:LR:=⟨fn,a.tmps,#[p],assign,body,w.heap.size⟩
 let lo:Obj:=.loop (rcd q .ready none)
 have hs1:Sat G w0 hp0 F (Pt (w.heap.size+1) lo::Pt w.heap.size (.deferred (some []))::J [] g0::(A++R')) ((w.alloc (.deferred (some []))).alloc lo):=by
  have:=((hs.sels sel).alloc (.deferred (some []))).alloc lo
  simpa using this
 have hs2:Sat G w0 hp0 F (both (Pt (w.heap.size+1) lo) (J [] g0)::Pt w.heap.size (.deferred (some []))::(A++R')) ((w.alloc (.deferred (some []))).alloc lo):=
  (hs1.sels (A:=[Pt (w.heap.size+1) lo,J [] g0]) (.cons .here (.cons (.there .here) .nil))).shut (x:=both _ _) fun _ hh=>hh
 have hy:∀pre g e,pre++[e] <+: xs→SpecV (.func (.yield (w.heap.size+1)) #[] #[]) [enc e] _ _ _:=fun pre g e hpre=>
  yield_okG (n:=n) (E:=E) (F:=F) (enc:=enc) (q:=q) (l:=w.heap.size+1) (p:=p) (FJ:=FJ) (J:=J) (Jx:=Jx) (pre:=pre) (gz:=g) (e:=e) rfl (Nat.le_of_ble_eq_true hpn)
   (fun b hb hd=>⟨by rw [hb];exact ha.size,hd,fun t v hv=>by rw [hb];exact ha.slots t v hv⟩) (fun G w0 hp0=>hbody q _ pre g e hpre G w0 hp0)
 obtain ⟨eg,hsp⟩:=hit _ _ _ _ _ _ g0 hy
 have hev:=ha.ev (x:=g) (by rw [ZU];exact hg)
 refine ⟨w.heap.size+1,[{target:=.collected w.heap.size,args:=#[]}],(w.alloc (.deferred (some []))).alloc lo,{target:=.fn (.func gf) lb,args:=#[.func (.yield (w.heap.size+1)) #[] #[]]},(w.alloc (.deferred (some []))).alloc lo,gf,#[.func (.yield (w.heap.size+1)) #[] #[]]++lb,(w.alloc (.deferred (some []))).alloc lo,run_enterLoop_outer _ _ _ _ _,?_,fun _ _=>trivial,?_,(fun hx=>by cases hx),?_⟩
 ·simp only [resolve,hev]
  simp [go_sem,Deferred.ofValue,Act.eval]
 ·simp only [invoke]
  exact eg _ _
 ·have e1 : #[Value.func (.yield (w.heap.size+1)) #[] #[]]++lb=(Value.func (.yield (w.heap.size+1)) #[] #[]::lb.toList).toArray:=by rw [←Array.toList_inj];simp
  rw [e1]
  refine W0 (Xi hsp hs2 (.cons .here (VL A _ R')) (fun hp hF f hf=>?_) fun r w' hr hs3=>?_)
  ·rcases List.mem_cons.1 hf with rfl|hf
   ·exact hF
   ·rcases List.mem_cons.1 hf with rfl|hf
    ·exact hF0.all hp hF _ (.head _)
    ·exact hFg.all hp hF f hf
  ·have hds:({a with defers:=[{target:=.collected w.heap.size,args:=#[]}]++a.defers}:Act).defers={target:=.collected w.heap.size,args:=#[]}::ds:=by simp [ha.defers]
   have ha':Agree n ({target:=.collected w.heap.size,args:=#[]}::ds) (look E) {a with defers:=[{target:=.collected w.heap.size,args:=#[]}]++a.defers}:=⟨ha.size,hds,ha.slots⟩
   obtain ⟨r,gr⟩:=r
   cases r with
   | none=>
    obtain ⟨_,h4⟩:=(show Sat G w0 hp0 (FJ xs gr::F) (both (Pt (w.heap.size+1) lo) (J xs gr)::Pt w.heap.size (.deferred (some []))::R') w' from hs3).open' (X:=Unit) (L:=fun _=>[Pt (w.heap.size+1) lo,J xs gr]) fun _ hh=>⟨(),hh⟩
    refine ⟨none,_,run_endLoop (h4.pt Sel.here) (by simp [rcd]),?_⟩
    have h5:=Z3 (o':=.loop (rcd q .exhausted none)) h4
    exact hdone w.heap.size gr _ _ ha' (h5.res fun _ hh=>WZ hh)
   | some pre=>
    obtain ⟨_,h4⟩:=(show Sat G w0 hp0 F (both (Pt (w.heap.size+1) (.loop (rcd q .done (some .ret)))) (Jx pre gr)::Pt w.heap.size (.deferred (some []))::R') w' from hs3).open' (X:=Unit) (L:=fun _=>[Pt (w.heap.size+1) (.loop (rcd q .done (some .ret))),Jx pre gr]) fun _ hh=>⟨(),hh⟩
    refine ⟨some .ret,_,run_endLoop (h4.pt Sel.here) (by simp [rcd]),?_⟩
    have h5:=Z3 (o':=.loop (rcd q .exhausted (some .ret))) h4
    refine wpIn_ret ?_
    rw [XI hnr]
    exact hstop w.heap.size pre gr (hr pre rfl) _ _ ha' (h5.res fun _ hh=>WZ hh))
end
def nlS:ByteArray:=⟨#[10]⟩
theorem Ve:∀(l:List UInt8),spanF (fun x=>!(x == 10)) l=l.length→linesF l=[l]
 | [],_=>rfl
 | c::r,h=>by
  by_cases hc:c=10
  ·subst hc;simp [spanF] at h
  ·have e:spanF (fun x=>!(x == 10)) (c::r)=spanF (fun x=>!(x == 10)) r+1:=by simp [spanF,hc]
   rw [linesF,if_neg (by simpa using hc),Ve r (by rw [e] at h;simpa using h)]
theorem Wx:∀(l:List UInt8),spanF (fun x=>!(x == 10)) l<l.length→linesF l=l.take (spanF (fun x=>!(x == 10)) l)::linesF (l.drop (spanF (fun x=>!(x == 10)) l+1))
 | [],h=>by simp at h
 | c::r,h=>by
  by_cases hc:c=10
  ·subst hc
   have e:spanF (fun x=>!(x == 10)) ((10:UInt8)::r)=0:=by simp [spanF]
   rw [e,linesF];simp
  ·have e:spanF (fun x=>!(x == 10)) (c::r)=spanF (fun x=>!(x == 10)) r+1:=by simp [spanF,hc]
   rw [e] at h ⊢
   rw [linesF,if_neg (by simpa using hc),Wx r (by simpa using h)]
   simp
theorem sIndex_ok (s:ByteArray) (c:UInt8):Enters 82∧Spec prog 82 #[.string s,.string ⟨#[c]⟩] [] [] (RetV (.int .i64 (Lib.indexByte s.data.toList c))):=by
 have n1:=index1_ok s c
 generalize Lib.indexByte s.data.toList c=z at *
 refine ZT [_,_] func82 ntmps82 fun G w hp=>?_
 repeat' (first|refine ZG ?_|refine ZF ?_|refine ZJ ?_|refine ZH ?_|refine ZL ?_|refine ZI ?_|refine ZN ?_|refine ZO (fun b=>?_)|refine ZM (fun b=>?_)|refine ZB ?_|refine ZD ?_|refine ZP ?_|refine ZA (n1) (fun _ _=>?_)|refine l_call0 (n1) (fun _ _=>?_)|(refine ZC (fun hc=>?_) (fun hc=>?_)<;>(try simp at hc))|(refine ZE (fun hc=>?_) (fun hc=>?_)<;>(try simp at hc)))
 exact ZR () rfl trivial
abbrev spl (b1 b2 b3:Nat):List Value:=[pv0 b1,pv0 b2,pv0 b3]
abbrev SpR (b1 b2 b3:Nat) (L:List UInt8):List HP:=[Pt b1 (.cells #[.string nlS] 9),Pt b2 (.cells #[.string (ofL L)] 9),Pt b3 (.cells #[.int .i64 0] 3)]
theorem splitSeq_ok (L:List UInt8):Enters 44∧Spec prog 44 #[.string (ofL L),.string nlS] [] [] ⟨Nat×Nat×Nat,fun q=>.func (.func 94) #[] #[pv0 q.1,pv0 q.2.1,pv0 q.2.2],fun _=>True,fun _=>[],fun q=>SpR q.1 q.2.1 q.2.2 L⟩:=by
 have n1:Enters 68∧Spec prog 68 #[.string (ofL L),.string nlS,.int .i64 0] [] [] ⟨Nat×Nat×Nat,fun q=>.func (.func 94) #[] #[pv0 q.1,pv0 q.2.1,pv0 q.2.2],fun _=>True,fun _=>[],fun q=>SpR q.1 q.2.1 q.2.2 L⟩:=by
  refine ZT [_,_,_] func68 ntmps68 fun G w hp=>?_
  repeat' (first|refine ZG ?_|refine ZF ?_|refine ZJ ?_|refine ZH ?_|refine ZL ?_|refine ZI ?_|refine ZN ?_|refine ZO (fun b=>?_)|refine ZM (fun b=>?_)|refine ZB ?_|refine ZD ?_|refine ZP ?_|(refine ZC (fun hc=>?_) (fun hc=>?_)<;>(try simp at hc))|(refine ZE (fun hc=>?_) (fun hc=>?_)<;>(try simp at hc)))
  rename_i b1 b2
  exact ZR (b2,b1,b) rfl trivial
 refine ZT [_,_] func44 ntmps44 fun G w hp=>?_
 repeat' (first|refine ZG ?_|refine ZF ?_|refine ZJ ?_|refine ZH ?_|refine ZL ?_|refine ZI ?_|refine ZN ?_|refine ZO (fun b=>?_)|refine ZM (fun b=>?_)|refine ZB ?_|refine ZD ?_|refine ZP ?_|refine ZA (n1) (fun _ _=>?_)|refine l_call0 (n1) (fun _ _=>?_)|(refine ZC (fun hc=>?_) (fun hc=>?_)<;>(try simp at hc))|(refine ZE (fun hc=>?_) (fun hc=>?_)<;>(try simp at hc)))
 rename_i q _
 exact ZR q rfl trivial
set_option maxHeartbeats 4000000 in
theorem split_iter (b1 b2 b3:Nat) (L:List UInt8) (hL:L.length≤1000000):IterG 94 (spl b1 b2 b3) (fun l=>.string (ofL l)) (linesF L) [] (SpR b1 b2 b3 L):=by
 intro γ v Y FI I Ix g0 hy
 obtain ⟨XS,hXS⟩:∃XS,linesF L=XS:=⟨_,rfl⟩
 rw [hXS] at hy ⊢
 have sz1:(((nlS).size:Nat):Int)=1:=rfl
 generalize b1=c1,b2=c2,b3=c3 at *
 show Enters 94∧Spec prog 94 #[v,pv0 c1,pv0 c2,pv0 c3] _ _ _
 refine ZT [_,_,_,_] func94 ntmps94 fun G w hp=>?_
 repeat' (first|refine ZG ?_|refine ZF ?_|refine ZJ ?_|refine ZH ?_|refine ZL ?_|refine ZI ?_|refine ZN ?_|refine ZO (fun b=>?_)|refine ZM (fun b=>?_)|refine ZB ?_|refine ZD ?_|(refine ZC (fun hc=>?_) (fun hc=>?_)<;>(try simp at hc)<;>(try omega))|(refine ZE (fun hc=>?_) (fun hc=>?_)<;>(try simp at hc)<;>(try omega)))
 refine YJ (X:={q:List (List UInt8)×List UInt8×γ // q.1++linesF q.2.1=XS∧q.2.1.length≤1000000}) (fun _=>[(0,v),(1,pv0 c1),(2,pv0 c2),(3,pv0 c3)]) (fun q=>[Y,FI q.1.1 q.1.2.2]) (fun q=>I q.1.1 q.1.2.2::SpR c1 c2 c3 q.1.2.1) (fun q=>q.1.2.1.length) ⟨([],L,g0),hXS,hL⟩ ⟨rfl,rfl,rfl,rfl,trivial⟩ ?_
 rintro ⟨⟨pre,l,gz⟩,hp,hl⟩
 dsimp only at hp hl ⊢
 have n1:=sIndex_ok (ofL l) 10
 rw [Z8,W6] at n1
 have hm:=YB (fun x=>!(x == 10)) l
 have hone:=Ve l
 have hmore:=Wx l
 have hsz:=YG l
 have hll:=Z8 l
 generalize spanF (fun x=>!(x == 10)) l=m at *
 by_cases c:m=l.length
 ·rw [if_pos c] at n1
  have e:=hone c
  rw [e] at hp
  have y1:=hy pre gz l (by rw [hp];exact List.prefix_rfl)
  repeat' (first|refine ZG ?_|refine ZF ?_|refine ZJ ?_|refine ZH ?_|refine ZL ?_|refine ZI ?_|refine ZN ?_|refine ZO (fun b=>?_)|refine ZM (fun b=>?_)|refine ZB ?_|refine ZD ?_|refine ZP ?_|refine ZA (n1) (fun _ _=>?_)|refine l_call0 (n1) (fun _ _=>?_)|refine XE y1 (fun _ _=>?_)|(refine ZC (fun hc=>?_) (fun hc=>?_)<;>(try simp at hc)<;>(try omega))|(refine ZE (fun hc=>?_) (fun hc=>?_)<;>(try simp at hc)<;>(try omega)))
  rename_i b _
  obtain ⟨b,gy⟩:=b
  subst hp
  cases b with
  | true=>exact XB (none,gy) rfl (fun _ h=>by cases h)
  | false=>exact XB (some (pre++[l]),gy) rfl (fun _ h=>by cases h;exact List.prefix_rfl)
 ·rw [if_neg c] at n1
  have hlt:m<l.length:=by omega
  have e:=hmore hlt
  rw [e] at hp
  have hp2:pre++[l.take m]++linesF (l.drop (m+1))=XS:=by rw [←hp];simp
  have y1:=hy pre gz (l.take m) (by rw [←hp2];exact List.prefix_append _ _)
  have w1:=wrapi (z:=(m:Int)+0) (by omega) (by omega)
  have w2:=wrapi (z:=(m:Int)+1) (by omega) (by omega)
  repeat' (first|refine ZG ?_|refine ZF ?_|refine ZJ ?_|refine ZH ?_|refine ZL ?_|refine ZI ?_|refine ZN ?_|refine ZO (fun b=>?_)|refine ZM (fun b=>?_)|refine ZB ?_|refine ZD ?_|refine ZA (n1) (fun _ _=>?_)|refine l_call0 (n1) (fun _ _=>?_)|refine XE y1 (fun _ _=>?_)|rw [sz1]|rw [w1]|rw [w2]|refine l_sTo (s:=ofL l) (u:=ofL (l.take m)) m (by omega) (by rw [Z8,Z8]) ?_|refine YI (s:=ofL l) (u:=ofL (l.drop (m+1))) (m+1) (by omega) (by rw [Z8,Z8]) ?_|(refine ZC (fun hc=>?_) (fun hc=>?_)<;>(try simp at hc)<;>(try omega))|(refine ZE (fun hc=>?_) (fun hc=>?_)<;>(try simp at hc)<;>(try omega)))
  all_goals rename_i b _
  all_goals obtain ⟨b,gy⟩:=b
  ·cases b with
   | true=>cases hc
   | false=>exact Zq (Zr (Zk (some (pre++[l.take m]),gy) rfl (fun _ h=>by cases h;rw [←hp2];exact List.prefix_append _ _)))
  ·cases b with
   | false=>cases hc
   | true=>exact Za ⟨(pre++[l.take m],l.drop (m+1),gy),hp2,by show (l.drop (m+1)).length≤_;rw [List.length_drop];omega⟩ (by show (l.drop (m+1)).length<l.length;rw [List.length_drop];omega) ⟨rfl,rfl,rfl,rfl,trivial⟩
section
structure PB (M:Int) (x:Ps):Prop where
 t:∀t ∈ x.tk,0≤t.pl∧t.pl≤M
 n:0≤x.en∧x.en≤M
 p:0≤x.pl∧x.pl≤M
namespace PB
variable {M:Int} {x:Ps}
theorem peek (h:PB M x):0≤x.peek.pl∧x.peek.pl≤M:=by
 unfold Ps.peek
 split
 ·exact h.n
 ·rename_i t l ht;exact h.t t (by rw [ht];exact .head _)
theorem pass (h:PB M x):PB M x.pass:=⟨fun t ht=>h.t t (List.mem_of_mem_tail ht),h.n,h.p⟩
theorem fail (h:PB M x) {i:Int} (hi:0≤i∧i≤M) (e:Int):PB M (x.fail i e):=by
 unfold Ps.fail
 split
 ·exact ⟨fun t ht=>(by cases ht),h.n,hi⟩
 ·exact h
theorem need (h:PB M x) (k:Int):PB M (x.need k):=by
 unfold Ps.need
 split
 ·exact h.pass
 ·exact h.pass.fail h.peek _
theorem symb (h:PB M x) (s:ByteArray):PB M (x.symb s):=by
 unfold Ps.symb
 split
 ·exact h.pass
 ·exact h.fail h.peek _
theorem ite {c:Prop} [Decidable c] {q r:Ps} (h:PB M q) (k:PB M r):PB M (if c then q else r):=by split<;>assumption
theorem num (h:PB M x):PB M (numF x).2:=by
 unfold numF
 dsimp only
 have a:=h.need 2
 exact ite ((ite (a.fail h.peek _) a).fail h.peek _) (ite (a.fail h.peek _) a)
theorem test (h:PB M x) (w:ByteArray):PB M (testF w x).2:=by
 unfold testF
 split
 ·exact h
 ·split
  ·dsimp only
   exact ite (h.need 1) ((h.need 1).fail h.peek _)
  ·split
   ·dsimp only
    exact (ite (h.need 1) ((h.need 1).fail h.peek _)).need 3
   ·split
    ·dsimp only
     exact (ite (h.need 4) ((h.need 4).fail h.peek _)).num
    ·dsimp only
     exact ite (h.need 2) ((h.need 2).fail h.peek _)
theorem op (h:PB M x) (d:Int):PB M {x with op:=d}:=⟨h.t,h.n,h.p⟩
end PB
theorem pb_all (M:Int):∀n:Nat,(∀p,PB M p→PB M (factorF n p).2)∧(∀p,PB M p→PB M (termF n p).2)∧(∀l p,PB M p→PB M (termL n l p).2)∧(∀p,PB M p→PB M (condF n p).2)∧(∀l p,PB M p→PB M (condL n l p).2)
 | 0=>⟨fun _ h=>h.fail h.peek _,fun _ h=>h.fail h.peek _,fun _ _ h=>h.fail h.peek _,fun _ h=>h.fail h.peek _,fun _ _ h=>h.fail h.peek _⟩
 | n+1=>by
  obtain ⟨h1,h2,h3,h4,h5⟩:=pb_all M n
  refine ⟨fun p h=>?_,fun p h=>?_,fun l p h=>?_,fun p h=>?_,fun l p h=>?_⟩
  ·unfold factorF
   dsimp only
   split
   ·exact h1 _ h.pass
   ·split
    ·have a:PB M (if p.pass.op=32 then p.pass.fail p.peek.pl 9 else p.pass):=PB.ite (h.pass.fail h.peek _) h.pass
     generalize (if p.pass.op=32 then p.pass.fail p.peek.pl 9 else p.pass)=q at a
     exact ((h4 _ (a.op _)).symb _).op _
    ·split
     ·exact h.pass.test _
     ·exact h.pass.fail h.peek _
  ·exact h3 _ _ (h1 p h)
  ·unfold termL
   split
   ·exact h3 _ _ (h1 _ h.pass)
   ·exact h
  ·exact h5 _ _ (h2 p h)
  ·unfold condL
   split
   ·exact h5 _ _ (h2 _ h.pass)
   ·exact h
theorem PB.act {M:Int} {x:Ps} (h:PB M x):PB M (actF x).2:=by
 unfold actF
 dsimp only
 have a:PB M (if idx x.peek.tx wActs<5 then x.need 1 else (x.need 1).fail x.peek.pl 30):=PB.ite (h.need 1) ((h.need 1).fail h.peek _)
 generalize (if idx x.peek.tx wActs<5 then x.need 1 else (x.need 1).fail x.peek.pl 30)=q at a ⊢
 split
 ·exact PB.ite ((a.need 3).fail a.peek _) (a.need 3)
 ·exact a
theorem PB.rule {M:Int} {x:Ps} (h:PB M x):PB M (ruleF x).2:=by
 unfold ruleF
 dsimp only
 have a:PB M (if x.is 1 wIf=true then ((some (condF (fuP x.pass) x.pass).1:Option Cnd),(condF (fuP x.pass) x.pass).2.symb yCol) else (none,x)).2:=by
  split
  ·exact ((pb_all M _).2.2.2.1 _ h.pass).symb _
  ·exact h
 exact PB.ite (a.act.fail a.act.peek _) a.act
theorem scan_pl:∀(n:Nat) (l:List UInt8) (i:Nat) (acc:List Tk) (M:Int),(i:Int)+l.length≤M→(∀t ∈ acc,0≤t.pl∧t.pl≤M)→(∀t ∈ (scanF n l i acc).1,0≤t.pl∧t.pl≤M)∧((scanF n l i acc).2.1:Int)≤M
 | 0,_,i,acc,M,hM,h=>⟨h,by show (i:Int)≤M;omega⟩
 | _+1,[],i,acc,M,hM,h=>⟨h,by show (i:Int)≤M;simp at hM;omega⟩
 | n+1,c::r,i,acc,M,hM,h=>by
  have add:∀t:Tk,(0≤t.pl∧t.pl≤M)→∀x ∈ acc++[t],0≤x.pl∧x.pl≤M:=fun t ht x hx=>by
   rcases List.mem_append.1 hx with hx|hx
   ·exact h x hx
   ·rcases List.mem_singleton.1 hx with rfl
    exact ht
  have hM':(i:Int)+r.length+1≤M:=by simp at hM;omega
  have key:∀(k:Nat) (t:Tk),1≤k→k≤(c::r).length→t.pl=(i:Int)→(∀x ∈ (scanF n ((c::r).drop k) (i+k) (acc++[t])).1,0≤x.pl∧x.pl≤M)∧((scanF n ((c::r).drop k) (i+k) (acc++[t])).2.1:Int)≤M:=fun k t h1 h2 ht=>
   scan_pl n _ _ _ M (by rw [List.length_drop];simp only [List.length_cons] at h2 ⊢;omega) (add t (by rw [ht];omega))
  unfold scanF
  split
  ·exact ⟨h,by show (i:Int)≤M;omega⟩
  ·split
   ·exact scan_pl n r (i+1) acc M (by omega) h
   ·split
    ·rename_i hd
     have e:spanF isLet (c::r)=spanF isLet r+1:=by simp [spanF,hd]
     exact key _ _ (by omega) (YB _ _) rfl
    ·split
     ·rename_i hd
      have e:spanF inNum (c::r)=spanF inNum r+1:=by simp [spanF,inNum,hd]
      exact key _ _ (by omega) (YB _ _) rfl
     ·split
      ·split
       ·rename_i t k hu
        have u1:=WP _ _ _ _ _ hu
        exact key _ _ (by omega) (by simp only [List.length_cons];omega) rfl
       ·exact ⟨fun t ht=>(by cases ht),by show (i:Int)≤M;omega⟩
      ·split
       ·exact key 1 _ (by omega) (by simp) rfl
       ·exact ⟨fun t ht=>(by cases ht),by show (i:Int)≤M;omega⟩
theorem lineF_pl (s:List UInt8) (n:Nat):0≤(lineF s n).2.1∧(lineF s n).2.1≤s.length:=by
 obtain ⟨h1,h2⟩:=scan_pl (s.length+1) s 0 [] s.length (by omega) (fun t ht=>by cases ht)
 unfold lineF
 dsimp only
 generalize scanF (s.length+1) s 0 []=r at *
 obtain ⟨tk,en,is⟩:=r
 dsimp only at *
 split
 ·exact ⟨by show (0:Int)≤(en:Int);omega,h2⟩
 ·split
  ·exact ⟨by show (0:Int)≤0;omega,by show (0:Int)≤_;omega⟩
  ·rename_i t tk
   split
   ·exact h1 t (.head _)
   ·have hp:PB s.length (⟨t::tk,(en:Int),0,0,0⟩:Ps):=⟨h1,⟨by show (0:Int)≤(en:Int);omega,h2⟩,⟨Int.le_refl 0,by show (0:Int)≤_;omega⟩⟩
    split
    ·exact hp.rule.p
    ·exact ⟨by show (0:Int)≤0;omega,by show (0:Int)≤_;omega⟩
theorem lineF_ok {s:List UInt8} {n:Nat} {x:Ru} (h:(lineF s n).1=some x):(lineF s n).2.2=0∧n≠256:=by
 revert h
 unfold lineF
 dsimp only
 generalize scanF (s.length+1) s 0 []=r
 obtain ⟨tk,en,is⟩:=r
 dsimp only
 split
 ·intro h;cases h
 ·split
  ·intro h;cases h
  ·split
   ·intro h;cases h
   ·rename_i hn
    split
    ·intro h;cases h
    ·intro _;exact ⟨rfl,hn⟩
theorem addF_len {s:List UInt8} {l:List Ru} (h:l.length≤256):(addF s l).length≤256:=by
 unfold addF
 split
 ·rename_i x hx
  have:=(lineF_ok hx).2
  simp only [List.length_append,List.length_cons,List.length_nil];omega
 ·exact h
theorem rows_step {s:List UInt8} {rest:List (List UInt8)} {i:Nat} {acc:List Ru} (h:(lineF s acc.length).2.2=0):rowsF (s::rest) i acc=rowsF rest (i+1) (addF s acc):=by
 unfold addF
 generalize hq:lineF s acc.length=q at *
 obtain ⟨o,a,e⟩:=q
 dsimp only at h
 cases o with
 | some x=>simp [rowsF,hq]
 | none=>simp [rowsF,hq,h]
theorem rows_bad {s:List UInt8} {rest:List (List UInt8)} {i:Nat} {acc:List Ru} (h:(lineF s acc.length).2.2≠0):rowsF (s::rest) i acc = .error ((i:Int)+1,(lineF s acc.length).2.1+1,(lineF s acc.length).2.2):=by
 generalize hq:lineF s acc.length=q at *
 obtain ⟨o,a,e⟩:=q
 dsimp only at h
 cases o with
 | some x=>
  have:=lineF_ok (s:=s) (n:=acc.length) (x:=x) (by rw [hq])
  rw [hq] at this
  exact absurd this.1 h
 | none=>simp [rowsF,hq,h]
theorem Wb:∀(l:List UInt8),(linesF l).length≤l.length+1∧∀x ∈ linesF l,x.length≤l.length
 | []=>⟨by simp [linesF],fun x hx=>by simp [linesF] at hx;subst hx;simp⟩
 | c::r=>by
  obtain ⟨h1,h2⟩:=Wb r
  rw [linesF]
  split
  ·refine ⟨by simp;omega,fun x hx=>?_⟩
   rcases List.mem_cons.1 hx with rfl|hx
   ·simp
   ·have:=h2 x hx;simp;omega
  ·generalize linesF r=m at *
   cases m with
   | nil=>exact ⟨by simp,fun x hx=>by simp at hx;subst hx;simp⟩
   | cons y m=>
    refine ⟨by simp at h1 ⊢;omega,fun x hx=>?_⟩
    rcases List.mem_cons.1 hx with rfl|hx
    ·have:=h2 y (.head _);simp;omega
    ·have:=h2 x (.tail _ hx);simp;omega
end
theorem anyH_eq (c:Cq):∀l:List Cnd,anyH c l=l.any (holF c)
 | []=>by simp [anyH]
 | x::l=>by rw [anyH,anyH_eq c l];rfl
theorem allH_eq (c:Cq):∀l:List Cnd,allH c l=l.all (holF c)
 | []=>by simp [allH]
 | x::l=>by rw [allH,allH_eq c l];rfl
theorem any_anyP (c:Cq) (x:Cnd):(anyP x).any (holF c)=holF c x:=by
 cases x with
 | any l=>rw [anyP,holF,anyH_eq]
 | _=>simp [anyP]
theorem all_allP (c:Cq) (x:Cnd):(allP x).all (holF c)=holF c x:=by
 cases x with
 | all l=>rw [allP,holF,allH_eq]
 | _=>simp [allP]
theorem hol_either (c:Cq) (l:List Cnd):holF c (eitherF l)=l.any (holF c):=by
 have h:(l.flatMap anyP).any (holF c)=l.any (holF c):=by
  induction l with
  | nil=>rfl
  | cons x l ih=>rw [List.flatMap_cons,List.any_append,ih,any_anyP];rfl
 unfold eitherF
 split
 ·rename_i d hd
  rw [←h,hd];simp
 ·rw [←h,holF,anyH_eq]
theorem hol_both (c:Cq) (l:List Cnd):holF c (bothF l)=l.all (holF c):=by
 have h:(l.flatMap allP).all (holF c)=l.all (holF c):=by
  induction l with
  | nil=>rfl
  | cons x l ih=>rw [List.flatMap_cons,List.all_append,ih,all_allP];rfl
 unfold bothF
 split
 ·rename_i d hd
  rw [←h,hd];simp
 ·rw [←h,holF,allH_eq]
mutual
def holM (c:Cq):Tr5→Bool
 | .mk op args rel tx n=>
  if op=wOr then anyM c args else if op=wAnd then allM c args else if op=wNot then !headM c args
  else if idx op wKinds<3 then c.kind == ((idx op wKinds:Nat)+2:Int)
  else if op=wChan then (subO c).ch == n
  else if op=wBy then lwith c.who tx
  else if idx op wTxs<3 then cmpB (idx rel wCts) (fldT (idx op wTxs) c) tx
  else cmpZ (idx rel yCns) (fldN (idx op wNms) c) n
def anyM (c:Cq):List Tr5→Bool
 | []=>false
 | t::l=>holM c t || anyM c l
def allM (c:Cq):List Tr5→Bool
 | []=>true
 | t::l=>holM c t && allM c l
def headM (c:Cq):List Tr5→Bool
 | []=>false
 | t::_=>holM c t
end
mutual
theorem VB (c:Cq):∀t:Tr5,WfT t→holF c (toC t)=holM c t
 | .mk op args rel tx n,h=>by
  rw [WfT] at h
  rw [toC,holM]
  by_cases h1:op=wOr
  ·rw [if_pos (.inl h1)] at h
   rw [if_pos h1,if_pos h1,hol_either,any_tree c args h.2]
  rw [if_neg h1,if_neg h1]
  by_cases h2:op=wAnd
  ·rw [if_pos (.inr h2)] at h
   rw [if_pos h2,if_pos h2,hol_both,all_tree c args h.2]
  rw [if_neg h2,if_neg h2]
  by_cases h3:op=wNot
  ·rw [if_neg (by rintro (h|h);exact h1 h;exact h2 h),if_pos h3] at h
   rw [if_pos h3,if_pos h3]
   obtain ⟨⟨t,rfl⟩,h4,_⟩:=h
   show (!holF c (toC t))=_
   rw [VB c t h4,headM]
  rw [if_neg h3,if_neg h3]
  rw [if_neg (by rintro (h|h);exact h1 h;exact h2 h),if_neg h3] at h
  by_cases h4:idx op wKinds<3
  ·rw [if_pos h4,if_pos h4,holF]
  rw [if_neg h4,if_neg h4]
  by_cases h5:op=wChan
  ·rw [if_pos h5,if_pos h5,holF]
  rw [if_neg h5,if_neg h5]
  have ht:=h.2.1
  by_cases h6:op=wBy
  ·have x1:¬idx op wTxs<3:=by rw [h6];decide
   have x2:¬idx op wNms<4:=by rw [h6];decide
   rw [if_neg x1,if_neg x2,if_pos h6,holF]
  rw [if_neg h6]
  by_cases h7:idx op wTxs<3
  ·rw [if_pos h7,if_pos h7,holF]
  rw [if_neg h7,if_neg h7]
  have h8:idx op wNms<4:=by
   simp only [isTst,Bool.or_eq_true,decide_eq_true_eq] at ht
   rcases ht with (((ht|ht)|ht)|ht)|ht
   ·exact absurd ht h4
   ·exact absurd ht h5
   ·exact absurd ht h7
   ·exact ht
   ·exact absurd ht h6
  rw [if_pos h8,holF]
theorem any_tree (c:Cq):∀l:List Tr5,WfTs l→(toCs l).any (holF c)=anyM c l
 | [],_=>by simp [toCs,anyM]
 | t::l,h=>by rw [WfTs] at h;rw [toCs,List.any_cons,VB c t h.1,any_tree c l h.2,anyM]
theorem all_tree (c:Cq):∀l:List Tr5,WfTs l→(toCs l).all (holF c)=allM c l
 | [],_=>by simp [toCs,allM]
 | t::l,h=>by rw [WfTs] at h;rw [toCs,List.all_cons,VB c t h.1,all_tree c l h.2,allM]
end
def AcOK (a:Ac):Prop:=1≤a.k∧a.k≤5∧(a.k=2→(tplF a.t).2=none)∧(a.k≠2→a.t=ofL [])
theorem act_tpl {p:Ps} (h:(actE p).2.e=0):AcOK (actE p).1:=by
 have h1:(actF p).2.e=0:=by
  by_cases hz:(actF p).2.e=0
  ·exact hz
  ·exact absurd h (end_e hz)
 show AcOK (actF p).1
 unfold actF at h1 ⊢
 dsimp only at h1 ⊢
 by_cases hk:idx p.peek.tx wActs=1
 ·simp only [hk,if_true] at h1 ⊢
  refine ⟨show (1:Int)≤2 by decide,show (2:Int)≤5 by decide,fun _=>?_,fun h=>absurd rfl h⟩
  by_cases hq:(tplF (if 1<5 then p.need 1 else (p.need 1).fail p.peek.pl 30).peek.tx).2.isSome=true
  ·rw [if_pos hq] at h1
   exact absurd h1 (Z0 (by decide))
  ·simpa using hq
 ·simp only [eq_false hk,if_false] at h1 ⊢
  by_cases h5:idx p.peek.tx wActs<5
  ·simp only [h5,if_true]
   exact ⟨show (1:Int)≤(idx p.peek.tx wActs:Int)+1 by omega,show (idx p.peek.tx wActs:Int)+1≤5 by omega,fun h=>absurd (show (idx p.peek.tx wActs:Int)+1=2 from h) (by omega),fun _=>rfl⟩
  ·simp only [h5,if_false] at h1
   exact absurd h1 (Z0 (by decide))
theorem rule_ac {p:Ps} (h:(ruleF p).2.e=0):AcOK (ruleF p).1.a:=by
 rw [rule_eq] at h ⊢
 exact act_tpl h
theorem line_ac {s:List UInt8} {n:Nat} {x:Ru} {a e:Int} (h:lineF s n=(some x,a,e)):AcOK x.a:=by
 unfold lineF at h
 dsimp only at h
 split at h
 ·cases h
 ·split at h
  ·cases h
  ·split at h
   ·cases h
   ·split at h
    ·cases h
    ·rename_i hz
     cases h
     exact rule_ac (by omega)
theorem rows_ac:∀(l:List (List UInt8)) (i:Nat) (acc:List Ru),(∀x ∈ acc,AcOK x.a)→∀r,rowsF l i acc = .ok r→∀x ∈ r,AcOK x.a
 | [],_,acc,h,r,hr=>by cases hr;exact h
 | s::l,i,acc,h,r,hr=>by
  unfold rowsF at hr
  split at hr
  ·rename_i x a e hx
   refine rows_ac l (i+1) _ (fun z hz=>?_) r hr
   rcases List.mem_append.1 hz with hz|hz
   ·exact h z hz
   ·rcases List.mem_singleton.1 hz with rfl
    exact line_ac hx
  ·split at hr
   ·exact rows_ac l (i+1) acc h r hr
   ·cases hr
theorem par_ac {s:ByteArray} {r:List Ru} (h:parF s = .ok r):∀x ∈ r,AcOK x.a:=by
 unfold parF at h
 split at h
 ·cases h
 ·exact rows_ac _ 0 [] (fun x hx=>by cases hx) r h
section
mutual
def WfC:Cnd→Prop
 | .any l=>WfCs l
 | .all l=>WfCs l
 | .nt c=>WfC c
 | .nul=>False
 | .kd _ _=>True
 | .ch _ _=>True
 | .tx _ f k _=>f<3∧k<3
 | .nm _ f k _=>f<4∧k<3
 | .by_ _ _=>True
def WfCs:List Cnd→Prop
 | []=>True
 | c::l=>WfC c∧WfCs l
end
theorem XJ:∀l:List Cnd,WfCs l↔∀c ∈ l,WfC c
 | []=>by simp [WfCs]
 | c::l=>by simp [WfCs,XJ l]
theorem wf_anyP {c:Cnd} (h:WfC c):∀x ∈ anyP c,WfC x:=by
 cases c with
 | any l=>intro x hx;rw [WfC] at h;exact (XJ l).1 h x hx
 | _=>intro x hx;rcases List.mem_singleton.1 hx with rfl;exact h
theorem wf_allP {c:Cnd} (h:WfC c):∀x ∈ allP c,WfC x:=by
 cases c with
 | all l=>intro x hx;rw [WfC] at h;exact (XJ l).1 h x hx
 | _=>intro x hx;rcases List.mem_singleton.1 hx with rfl;exact h
theorem wf_either {l:List Cnd} (h:WfCs l):WfC (eitherF l):=by
 have k:∀x ∈ l.flatMap anyP,WfC x:=fun x hx=>by
  obtain ⟨c,hc,hx⟩:=List.mem_flatMap.1 hx
  exact wf_anyP ((XJ l).1 h c hc) x hx
 unfold eitherF
 split
 ·rename_i c hc;exact k c (by rw [hc];exact .head _)
 ·rw [WfC];exact (XJ _).2 k
theorem wf_both {l:List Cnd} (h:WfCs l):WfC (bothF l):=by
 have k:∀x ∈ l.flatMap allP,WfC x:=fun x hx=>by
  obtain ⟨c,hc,hx⟩:=List.mem_flatMap.1 hx
  exact wf_allP ((XJ l).1 h c hc) x hx
 unfold bothF
 split
 ·rename_i c hc;exact k c (by rw [hc];exact .head _)
 ·rw [WfC];exact (XJ _).2 k
mutual
theorem wf_tree:∀t:Tr5,WfT t→WfC (toC t)
 | .mk op args rel tx n,h=>by
  rw [WfT] at h
  rw [toC]
  by_cases h1:op=wOr
  ·rw [if_pos (.inl h1)] at h
   rw [if_pos h1];exact wf_either (wf_trees args h.2)
  rw [if_neg h1]
  by_cases h2:op=wAnd
  ·rw [if_pos (.inr h2)] at h
   rw [if_pos h2];exact wf_both (wf_trees args h.2)
  rw [if_neg h2]
  by_cases h3:op=wNot
  ·rw [if_neg (by rintro (h|h);exact h1 h;exact h2 h),if_pos h3] at h
   rw [if_pos h3]
   obtain ⟨⟨t,rfl⟩,h4,_⟩:=h
   show WfC (.nt (toC t))
   rw [WfC];exact wf_tree t h4
  rw [if_neg h3]
  rw [if_neg (by rintro (h|h);exact h1 h;exact h2 h),if_neg h3] at h
  obtain ⟨_,_,h6,h7⟩:=h
  split
  ·rw [WfC];trivial
  ·split
   ·rw [WfC];trivial
   ·split
    ·rename_i a;rw [WfC];exact ⟨a,h6 a⟩
    ·split
     ·rename_i a;rw [WfC];exact ⟨a,h7 a⟩
     ·rw [WfC];trivial
theorem wf_trees:∀l:List Tr5,WfTs l→WfCs (toCs l)
 | [],_=>by simp [toCs,WfCs]
 | t::l,h=>by rw [WfTs] at h;rw [toCs,WfCs];exact ⟨wf_tree t h.1,wf_trees l h.2⟩
end
mutual
def SzC (M:Nat):Cnd→Prop
 | .any l=>SzCs M l
 | .all l=>SzCs M l
 | .nt c=>SzC M c
 | .nul=>True
 | .kd w _=>w.size≤4 * M+400
 | .ch w _=>w.size≤4 * M+400
 | .tx w _ _ s=>w.size≤4 * M+400∧s.size≤M
 | .nm w _ _ _=>w.size≤4 * M+400
 | .by_ w s=>w.size≤4 * M+400∧s.size≤M
def SzCs (M:Nat):List Cnd→Prop
 | []=>True
 | c::l=>SzC M c∧SzCs M l
end
theorem Yv (M:Nat):∀l:List Cnd,SzCs M l↔∀c ∈ l,SzC M c
 | []=>by simp [SzCs]
 | c::l=>by simp [SzCs,Yv M l]
theorem sz_anyP {M:Nat} {c:Cnd} (h:SzC M c):∀x ∈ anyP c,SzC M x:=by
 cases c with
 | any l=>intro x hx;rw [SzC] at h;exact (Yv M l).1 h x hx
 | _=>intro x hx;rcases List.mem_singleton.1 hx with rfl;exact h
theorem sz_allP {M:Nat} {c:Cnd} (h:SzC M c):∀x ∈ allP c,SzC M x:=by
 cases c with
 | all l=>intro x hx;rw [SzC] at h;exact (Yv M l).1 h x hx
 | _=>intro x hx;rcases List.mem_singleton.1 hx with rfl;exact h
theorem sz_either {M:Nat} {l:List Cnd} (h:SzCs M l):SzC M (eitherF l):=by
 have k:∀x ∈ l.flatMap anyP,SzC M x:=fun x hx=>by
  obtain ⟨c,hc,hx⟩:=List.mem_flatMap.1 hx
  exact sz_anyP ((Yv M l).1 h c hc) x hx
 unfold eitherF
 split
 ·rename_i c hc;exact k c (by rw [hc];exact .head _)
 ·rw [SzC];exact (Yv M _).2 k
theorem sz_both {M:Nat} {l:List Cnd} (h:SzCs M l):SzC M (bothF l):=by
 have k:∀x ∈ l.flatMap allP,SzC M x:=fun x hx=>by
  obtain ⟨c,hc,hx⟩:=List.mem_flatMap.1 hx
  exact sz_allP ((Yv M l).1 h c hc) x hx
 unfold bothF
 split
 ·rename_i c hc;exact k c (by rw [hc];exact .head _)
 ·rw [SzC];exact (Yv M _).2 k
theorem szs_add {M:Nat} {l:List Cnd} {c:Cnd} (h:SzCs M l) (k:SzC M c):SzCs M (l++[c]):=(Yv M _).2 fun x hx=>by
 rcases List.mem_append.1 hx with hx|hx
 ·exact (Yv M l).1 h x hx
 ·rcases List.mem_singleton.1 hx with rfl;exact k
def TB (M:Nat) (p:Ps):Prop:=∀t ∈ p.tk,t.tx.size≤M
namespace TB
variable {M:Nat} {x:Ps}
theorem peek (h:TB M x):x.peek.tx.size≤M:=by
 unfold Ps.peek
 split
 ·exact Nat.zero_le _
 ·rename_i t l ht;exact h t (by rw [ht];exact .head _)
theorem sfx {y:Ps} (h:TB M x) (s:Sfx x y):TB M y:=fun t ht=>h t (s.subset ht)
end TB
theorem Y1 (a b:ByteArray):(a++b).size=a.size+b.size:=by
 have h:=congrArg List.length (Xd a b)
 rw [List.length_append,lsz,lsz,lsz] at h
 exact h
theorem wSp_sz:wSp.size=1:=rfl
theorem sz_test {M:Nat} {x:Ps} (h:TB M x) {w:ByteArray} (hw:w.size≤M):SzC M (testF w x).1:=by
 unfold testF
 have hp:=h.peek
 split
 ·rw [SzC];omega
 ·split
  ·dsimp only
   rw [SzC,Y1,Y1,wSp_sz];omega
  ·split
   ·dsimp only
    have a:TB M (if idx x.peek.tx wCts<3 then x.need 1 else (x.need 1).fail x.peek.pl 30):=h.sfx (Sfx.ite (Sfx.need _ _) ((Sfx.need _ _).trans (Sfx.fail _ _ _)))
    have b:=a.peek
    have c:=quo_size (if idx x.peek.tx wCts<3 then x.need 1 else (x.need 1).fail x.peek.pl 30).peek.tx
    rw [SzC,Y1,Y1,Y1,Y1,wSp_sz]
    exact ⟨by omega,b⟩
   ·split
    ·dsimp only
     have b:=numF_bd (if idx x.peek.tx yCns<3 then x.need 4 else (x.need 4).fail x.peek.pl 30)
     have c:=W2 _ b.1 b.2
     rw [SzC,Y1,Y1,Y1,Y1,wSp_sz]
     omega
    ·dsimp only
     rw [SzC,Y1,Y1,wSp_sz]
     exact ⟨by omega,hp⟩
theorem sz_all (M:Nat):∀n:Nat,(∀p,TB M p→SzC M (factorF n p).1)∧(∀p,TB M p→SzC M (termF n p).1)∧(∀l p,TB M p→SzCs M l→SzCs M (termL n l p).1)∧(∀p,TB M p→SzC M (condF n p).1)∧(∀l p,TB M p→SzCs M l→SzCs M (condL n l p).1)
 | 0=>by
  have a:SzC M (.nt .nul):=by rw [SzC,SzC];trivial
  exact ⟨fun _ _=>a,fun _ _=>a,fun _ _ _ h=>h,fun _ _=>a,fun _ _ _ h=>h⟩
 | n+1=>by
  obtain ⟨h1,h2,h3,h4,h5⟩:=sz_all M n
  obtain ⟨g1,g2,_,_,_⟩:=Yh n
  refine ⟨fun p h=>?_,fun p h=>?_,fun l p h hl=>?_,fun p h=>?_,fun l p h hl=>?_⟩
  ·have hq:TB M p.pass:=h.sfx (Sfx.pass _)
   unfold factorF
   dsimp only
   split
   ·rw [SzC];exact h1 _ hq
   ·split
    ·exact h4 _ (h.sfx (Sfx.ite ((Sfx.pass _).trans (Sfx.fail _ _ _)) (Sfx.pass _)))
    ·split
     ·exact sz_test hq h.peek
     ·rw [SzC,SzC];trivial
  ·unfold termF
   dsimp only
   exact sz_both (h3 _ _ (h.sfx (g1 p)) (by rw [SzCs,SzCs];exact ⟨h1 p h,trivial⟩))
  ·unfold termL
   split
   ·exact h3 _ _ (h.sfx ((Sfx.pass _).trans (g1 _))) (szs_add hl (h1 _ (h.sfx (Sfx.pass _))))
   ·exact hl
  ·unfold condF
   dsimp only
   exact sz_either (h5 _ _ (h.sfx (g2 p)) (by rw [SzCs,SzCs];exact ⟨h2 p h,trivial⟩))
  ·unfold condL
   split
   ·exact h5 _ _ (h.sfx ((Sfx.pass _).trans (g2 _))) (szs_add hl (h2 _ (h.sfx (Sfx.pass _))))
   ·exact hl
structure RuOK (M:Nat) (x:Ru):Prop where
 a:AcOK x.a
 t:x.a.t.size≤M
 c:∀d,x.c=some d→WfC d∧SzC M d∧lv d≤3 * M+10
def RuSz (M:Nat) (x:Ru):Prop:=x.a.t.size≤M∧∀d,x.c=some d→SzC M d∧lv d≤3 * M+10
theorem act_sz {M:Nat} {x:Ps} (h:TB M x):(actF x).1.t.size≤M:=by
 unfold actF
 dsimp only
 have a:TB M (if idx x.peek.tx wActs<5 then x.need 1 else (x.need 1).fail x.peek.pl 30):=h.sfx (Sfx.ite (Sfx.need _ _) ((Sfx.need _ _).trans (Sfx.fail _ _ _)))
 generalize (if idx x.peek.tx wActs<5 then x.need 1 else (x.need 1).fail x.peek.pl 30)=q at a ⊢
 split
 ·exact a.peek
 ·exact Nat.zero_le _
theorem rule_sz {M:Nat} {x:Ps} (h:TB M x) (hn:x.tk.length≤M):RuSz M (ruleF x).1:=by
 unfold ruleF
 dsimp only
 have hp:TB M x.pass:=h.sfx (Sfx.pass _)
 split
 ·exact ⟨act_sz (hp.sfx (((Yh _).2.2.2.1 _).trans (Sfx.symb _ _))),fun d hd=>by
   cases hd
   have h1:=(lv_all (fuP x.pass)).2.2.2.1 x.pass
   have h2:x.pass.tk.length≤x.tk.length:=(Sfx.pass x).len
   exact ⟨(sz_all M _).2.2.2.1 _ hp,by omega⟩⟩
 ·exact ⟨act_sz h,fun d hd=>by cases hd⟩
theorem line_sz {s:List UInt8} {n M:Nat} (hM:s.length≤M) {x:Ru} {a e:Int} (h:lineF s n=(some x,a,e)):RuSz M x:=by
 obtain ⟨g,g2⟩:=scan_sz (s.length+1) s 0 [] M hM (fun t ht=>by cases ht)
 unfold lineF at h
 dsimp only at h
 split at h
 ·cases h
 ·split at h
  ·cases h
  ·split at h
   ·cases h
   ·split at h
    ·cases h
    ·cases h
     exact rule_sz (fun t ht=>(g t ht).2) (by simp only [List.length_nil] at g2;show (scanF _ _ _ _).1.length≤M;omega)
theorem rows_szs {M:Nat}:∀(l:List (List UInt8)) (i:Nat) (acc:List Ru),(∀x ∈ l,x.length≤M)→(∀x ∈ acc,RuSz M x)→∀r,rowsF l i acc = .ok r→∀x ∈ r,RuSz M x
 | [],_,acc,_,h,r,hr=>by cases hr;exact h
 | s::l,i,acc,hl,h,r,hr=>by
  have hl':∀x ∈ l,x.length≤M:=fun x hx=>hl x (.tail _ hx)
  unfold rowsF at hr
  split at hr
  ·rename_i x a e hx
   refine rows_szs l (i+1) _ hl' (fun z hz=>?_) r hr
   rcases List.mem_append.1 hz with hz|hz
   ·exact h z hz
   ·rcases List.mem_singleton.1 hz with rfl
    exact line_sz (hl s (.head _)) hx
  ·split at hr
   ·exact rows_szs l (i+1) acc hl' h r hr
   ·cases hr
theorem par_ok {s:ByteArray} {r:List Ru} (h:parF s = .ok r):r.length≤256∧∀x ∈ r,RuOK s.size x:=by
 have h1:=par_ac h
 have h2:=par_sim s
 rw [h] at h2
 cases hm:parM s with
 | error e=>rw [hm] at h2;exact absurd h2 id
 | ok b=>
  rw [hm] at h2
  obtain ⟨h3,h4⟩:=h2
  have h0:rowsF (linesF s.data.toList) 0 [] = .ok r:=by
   unfold parF at h
   split at h
   ·cases h
   ·exact h
  have h5:=rows_szs (M:=s.size) (linesF s.data.toList) 0 [] (fun x hx=>by rw [←lsz];exact (Wb _).2 x hx) (fun x hx=>by cases hx) r h0
  refine ⟨?_,fun x hx=>⟨h1 x hx,(h5 x hx).1,fun d hd=>⟨?_,(h5 x hx).2 d hd⟩⟩⟩
  ·have go:∀(l:List (List UInt8)) (i:Nat) (acc:List Ru),acc.length≤256→∀r,rowsF l i acc = .ok r→r.length≤256:=by
    intro l
    induction l with
    | nil=>intro i acc ha r hr;cases hr;exact ha
    | cons s l ih=>
     intro i acc ha r hr
     unfold rowsF at hr
     split at hr
     ·rename_i x a e hx
      refine ih _ _ ?_ r hr
      have:=(lineF_ok (x:=x) (by rw [hx])).2
      rw [List.length_append,List.length_singleton];omega
     ·split at hr
      ·exact ih _ _ ha r hr
      ·cases hr
   exact go _ _ _ (by decide) r h0
  ·subst h3
   obtain ⟨y,hy,rfl⟩:=List.mem_map.1 hx
   have hd:y.c.map toC=some d:=hd
   cases hc:y.c with
   | none=>rw [hc] at hd;cases hd
   | some t=>
    rw [hc] at hd
    obtain rfl:toC t=d:=Option.some.inj hd
    exact wf_tree t (h4 y hy t hc)
end
structure CqS (c:Cq):Prop where
 ot:c.old.tg.size≤5000
 ox:c.old.tx.size≤5000
 nt:c.new.tg.size≤5000
 nx:c.new.tx.size≤5000
 wh:c.who.size≤5000
theorem CqS.tg {c:Cq} (h:CqS c):(subO c).tg.size≤5000:=by
 unfold subO;split
 ·exact h.nt
 ·exact h.ot
theorem CqS.fld {c:Cq} (h:CqS c) (f:Nat):(fldT f c).size≤5000:=by
 unfold fldT;split
 ·exact h.tg
 ·split
  ·exact h.ox
  ·exact h.nx
theorem CqS.val {c:Cq} (h:CqS c) (hi:CqI c) (n:ByteArray):(valF n c).size≤5000:=by
 have i1:=W2 (subO c).us hi.u0 hi.u1
 have i2:=W2 (subT c) hi.t0 hi.t1
 have i3:=W2 c.nu hi.n0 hi.n1
 unfold valF
 dsimp only
 split
 ·exact h.tg
 split
 ·omega
 split
 ·omega
 split
 ·exact h.wh
 split
 ·omega
 split
 ·exact h.ox
 split
 ·exact h.nx
 ·exact Nat.zero_le _
theorem divF_sz:∀(n:Nat) (l:List UInt8) (i:Nat) (acc:List Seg) (M:Nat),l.length≤M→1≤M→(∀t,Seg.lit t ∈ acc→t.size≤M)→
  (∀t,Seg.lit t ∈ (divF n l i acc).1→t.size≤M)∧(divF n l i acc).1.length≤acc.length+n
 | 0,_,i,acc,M,_,_,h=>⟨h,by show acc.length≤_;omega⟩
 | n+1,[],i,acc,M,_,_,h=>⟨h,by show acc.length≤_;omega⟩
 | n+1,c::r,i,acc,M,hM,h1,h=>by
  have add:∀s:Seg,(∀t,s = .lit t→t.size≤M)→∀t,Seg.lit t ∈ acc++[s]→t.size≤M:=fun s hs t ht=>by
   rcases List.mem_append.1 ht with ht|ht
   ·exact h t ht
   ·exact hs t (List.mem_singleton.1 ht).symm
  have len:∀s:Seg,(acc++[s]).length=acc.length+1:=fun s=>by simp
  have go:∀(l:List UInt8) (i:Nat) (s:Seg),l.length≤M→(∀t,s = .lit t→t.size≤M)→(∀t,Seg.lit t ∈ (divF n l i (acc++[s])).1→t.size≤M)∧(divF n l i (acc++[s])).1.length≤acc.length+(n+1):=fun l i s hl hs=>by
   obtain ⟨a,b⟩:=divF_sz n l i (acc++[s]) M hl h1 (add s hs)
   exact ⟨a,by rw [len] at b;omega⟩
  rw [divF]
  dsimp only
  split
  ·refine ⟨add _ fun t ht=>?_,by rw [len];omega⟩
   obtain rfl:=Seg.lit.inj ht
   rw [YG];exact hM
  ·split
   ·refine go _ _ _ (by rw [List.length_drop];omega) fun t ht=>?_
    obtain rfl:=Seg.lit.inj ht
    rw [YG,List.length_take];omega
   ·split
    ·refine go _ _ _ (by rw [List.length_drop];simp only [List.length_cons] at hM;omega) fun t ht=>?_
     obtain rfl:=Seg.lit.inj ht
     exact h1
    ·split
     ·exact go _ _ _ (by rw [List.length_drop];simp only [List.length_cons] at hM;omega) (fun t ht=>by cases ht)
     ·exact ⟨h,by show acc.length≤_;omega⟩
theorem flat_le (c:Cq) (K:Nat):∀l:List Seg,(∀x ∈ l,(segF c x).size≤K)→(flat c l).length≤l.length * K
 | [],_=>by simp [flat]
 | x::l,h=>by
  have ih:=flat_le c K l fun y hy=>h y (.tail _ hy)
  have hx:=h x (.head _)
  have e:flat c (x::l)=(segF c x).data.toList++flat c l:=rfl
  rw [e,List.length_append,lsz,List.length_cons,Nat.succ_mul]
  omega
theorem exp_sz {s:ByteArray} {c:Cq} {M:Nat} (hs:s.size≤M) (h:CqS c) (hi:CqI c):(expF s c).size≤(M+1) * (M+5000):=by
 obtain ⟨a,b⟩:=divF_sz (s.size+1) s.data.toList 0 [] (s.size+1) (by rw [lsz];omega) (by omega) (fun t ht=>by cases ht)
 rw [expF_sz]
 refine Nat.le_trans (flat_le c (M+5000) _ fun x hx=>?_) (Nat.mul_le_mul_right _ ?_)
 ·cases x with
  | lit t=>have:=a t hx;show t.size≤_;omega
  | fld n=>have:=h.val hi n;show (valF n c).size≤_;omega
 ·simp only [List.length_nil] at b
  show (divF (s.size+1) s.data.toList 0 []).1.length≤_
  omega
end Go.Proofs.YtodkipbnefngkaaGreatDoor
set_option maxRecDepth 10000
namespace Go.Proofs
open Go.Shelf
def Tryz.lays99_ren:Go.Shelf.Ren:=⟨fun|99=>55|206=>85|n=>n,fun|9=>9|4=>4|3=>3|n=>n,fun|n=>n⟩
theorem Tryz.lays99:Go.Proofs.Lays.n99 Tryz.prog Tryz.lays99_ren:={
 mixed:=by kernel_rfl
 f99:=Tryz.func55.trans (congrArg some (by kernel_rfl))
 f206:=Tryz.func85.trans (congrArg some (by kernel_rfl))
 t3:=Tryz.underlying3
 a3:=Tryz.isAgg3
 z3:=Tryz.sizeOf3
 v3:=Tryz.zeroValue3
 t4:=Tryz.underlying4
 a4:=Tryz.isAgg4
 z4:=Tryz.sizeOf4
 v4:=Tryz.zeroValue4
 t9:=Tryz.underlying9
 a9:=Tryz.isAgg9
 z9:=Tryz.sizeOf9
 v9:=Tryz.zeroValue9}
end Go.Proofs
namespace Go.Proofs.YtodkipbnefngkaaGreatDoor
open Go.Proofs.Tryz
open Go.RowKit
section
variable {n:Nat} {C:Cx} {Q:Exit→Act→World→Prop} {E E':List (Nat×Value)} {F F' F1 Fs F0:List Pf} {R R' R0 Rs N N' A:List HP} {k k':List Fr} {ops l:List Oper} {L L':List (Nat×Nat)} {Tl:List Nat} {i d:Nat} {t t2 ty0:TypeId} {x y z:Operand} {pos:String} {aft:Array Edge} {gd:Option (Nat×Bool)}
theorem r_callV {v:Value} {args:Array Operand} {tys:Array TypeId} {vs:List Value} {post:Post} (spec:SpecV v vs F1 A post)
  (nx:∀x,post.pure x→Wr n C ops k Q Tl Fs R L ((d,post.val x)::E) (post.F x++F) (post.R x++N')) (ho:nth ops i=some ⟨some d,.call ⟨.value x,args,tys⟩,ty0,pos,aft,gd⟩:=by rfl)
  (hw:wantL ops E ⟨some d,.call ⟨.value x,args,tys⟩,ty0,pos,aft,gd⟩=some true:=by rfl) (hx:ev E x=some v:=by rfl) (hargs:evs (ev E) args.toList some=some vs:=by rfl)
  (sel:Sels A N N':=by (repeat (first|exact Sels.nil|exact Sel.here|apply Sel.there|apply Sels.cons));first|done|fail)
  (hF:EntF F F1:=by (repeat (first|exact trivial|exact Sel.here|apply Sel.there|apply EntF.cons));first|done|fail):Wr n C ops k Q Tl Fs R ((i,4)::L) E F N:=
 Yt ho fun hp hr w st hz sb=>by
  simp only [Zw hw]
  refine ⟨⟨post.X,post.val,post.pure,fun x=>post.F x++F,fun x=>post.R x++N'⟩,fun a G w hp' ha hsub hsat=>?_,fun x hx=>nx x hx hp hr w st hz sb⟩
  obtain ⟨G',hp2,h1,h2⟩:=Wc hsat sel hF.all
  have h3:=spec G' w hp2 h1
  obtain ⟨us,_,e2,e3⟩:=Xw _ _ _ hargs
  obtain rfl:=Option.some.inj e2
  have e1:=e3 a.eval fun x _ u hu=>ha.ev (by rw [ZU];exact hu)
  have e4:args.map a.eval=us.toArray:=by rw [←Array.toList_inj];simpa using e1
  have e5:(args.map fun x=>a.eval x)=us.toArray:=e4
  have e0:=ha.ev (x:=x) (by rw [ZU];exact hx)
  unfold CallsV at h3
  split at h3
  ·rename_i fn fs cs
   have h4:=h3.mono (R':=fun v w'=>∃x,v=post.val x∧post.pure x∧Sat G w hp' (post.F x++F) (post.R x++N') w') (by
    rintro v w' ⟨x,rfl,hx,hs⟩
    exact ⟨x,rfl,hx,h2 _ _ _ hs⟩)
   unfold OpRes at h4 ⊢
   have er:(execOp a.eval ⟨some d,.call ⟨.value x,args,tys⟩,ty0,pos,aft,gd⟩).run prog w=(invoke (.fn fn cs) (fs++us.toArray)).run prog w:=by
    simp only [execOp,resolve,e0,Deferred.ofValue,Sem.run_bind,Sem.run_pure,Result.andThen]
    rw [e5]
   rw [er]
   exact h4
  ·exact h3.elim
end
theorem sPrefix_ok (s p:ByteArray):Enters 55∧Spec prog 55 #[.string s,.string p] [] [] (RetV (.bool (Lib.hasPrefix s.data.toList p.data.toList))):=by
 refine ⟨enters_of func55 (by kernel_rfl) rfl,fun G w hp hs=>?_⟩
 refine (Any.strings_HasPrefix Tryz.lays99 s p w).mono ?_
 rintro e w' ⟨rfl,rfl⟩
 exact ⟨(),rfl,trivial,hs⟩
def MxL:Pf:=⟨fun h=>∃m T fz,h 0=some (.cells #[.int .i64 m] T fz),fun _ _ s ⟨m,T,fz,h1⟩=>⟨m,T,fz,s _ _ h1⟩⟩
theorem W3 (s u:ByteArray) (hs:s.size≤1000000):Enters 53∧Spec prog 53 #[.string s,.string u] [MxL] [] (RetV (.bool (Lib.contains s.data.toList u.data.toList))):=by
 refine ⟨enters_of func53 (by kernel_rfl) rfl,fun G w hp hs0=>?_⟩
 obtain ⟨hp',hr,st⟩:=hs0
 obtain ⟨m,T,fz,h1⟩:=st.f MxL (by simp)
 refine (Any.strings_Contains Tryz.lays144 s u m w (by omega) (cell_of (st.inp _ _ h1))).mono ?_
 rintro e w' ⟨rfl,rfl⟩
 exact ⟨(),rfl,trivial,(show Sat G _ hp [MxL] [] _ from ⟨hp',hr,st⟩).facts fun _ _ x hx=>by cases hx⟩
theorem Vq (s a:ByteArray) (hs:s.size≤1000000) (ha:a.size≤1000000):Enters 52∧Spec prog 52 #[.string s,.string a] [] [] (RetV (.bool (lwith s a))):=by
 have n1:=W9 s (by omega)
 have n2:=W9 a (by omega)
 have e:(a++(⟨#[46]⟩:ByteArray)).data.toList=a.data.toList++[46]:=Xd _ _
 have n3:=sPrefix_ok s (a++⟨#[46]⟩)
 rw [e] at n3
 obtain ⟨R,hR⟩:∃R,lwith s a=R:=⟨_,rfl⟩
 rw [hR]
 unfold lwith isE at hR
 generalize lvalid s.data.toList=v1 at *
 generalize lvalid a.data.toList=v2 at *
 generalize Lib.hasPrefix s.data.toList (a.data.toList++[46])=v3 at *
 cases v1
 ·obtain rfl:R=false:=by rw [←hR];rfl
  refine ZT [_,_] func52 ntmps52 fun G w hp=>?_
  repeat' (first|refine ZG ?_|refine ZF ?_|refine ZJ ?_|refine ZH ?_|refine ZL ?_|refine ZI ?_|refine ZN ?_|refine ZO (fun b=>?_)|refine ZM (fun b=>?_)|refine ZB ?_|refine ZD ?_|refine ZP ?_|refine ZA (n1) (fun _ _=>?_)|refine l_call0 (n1) (fun _ _=>?_)|refine ZA (n2) (fun _ _=>?_)|refine l_call0 (n2) (fun _ _=>?_)|(refine ZC (fun hc=>?_) (fun hc=>?_)<;>(try simp at hc)<;>(try omega))|(refine ZE (fun hc=>?_) (fun hc=>?_)<;>(try simp at hc)<;>(try omega)))
  all_goals exact ZR () rfl trivial
 cases v2
 ·obtain rfl:R=false:=by rw [←hR];rfl
  refine ZT [_,_] func52 ntmps52 fun G w hp=>?_
  repeat' (first|refine ZG ?_|refine ZF ?_|refine ZJ ?_|refine ZH ?_|refine ZL ?_|refine ZI ?_|refine ZN ?_|refine ZO (fun b=>?_)|refine ZM (fun b=>?_)|refine ZB ?_|refine ZD ?_|refine ZP ?_|refine ZA (n1) (fun _ _=>?_)|refine l_call0 (n1) (fun _ _=>?_)|refine ZA (n2) (fun _ _=>?_)|refine l_call0 (n2) (fun _ _=>?_)|(refine ZC (fun hc=>?_) (fun hc=>?_)<;>(try simp at hc)<;>(try omega))|(refine ZE (fun hc=>?_) (fun hc=>?_)<;>(try simp at hc)<;>(try omega)))
  all_goals exact ZR () rfl trivial
 by_cases h1:s=a
 ·have b1:=beqT h1
  obtain rfl:R=true:=by rw [←hR,b1];rfl
  refine ZT [_,_] func52 ntmps52 fun G w hp=>?_
  repeat' (first|rw [b1]|refine ZG ?_|refine ZF ?_|refine ZJ ?_|refine ZH ?_|refine ZL ?_|refine ZI ?_|refine ZN ?_|refine ZO (fun b=>?_)|refine ZM (fun b=>?_)|refine ZB ?_|refine ZD ?_|refine ZP ?_|refine ZA (n1) (fun _ _=>?_)|refine l_call0 (n1) (fun _ _=>?_)|refine ZA (n2) (fun _ _=>?_)|refine l_call0 (n2) (fun _ _=>?_)|refine ZA (n3) (fun _ _=>?_)|refine l_call0 (n3) (fun _ _=>?_)|refine YO ?_|(refine ZC (fun hc=>?_) (fun hc=>?_)<;>(try simp at hc)<;>(try omega))|(refine ZE (fun hc=>?_) (fun hc=>?_)<;>(try simp at hc)<;>(try omega)))
  all_goals exact ZR () rfl trivial
 have b1:=beqF h1
 by_cases h2:a=⟨#[]⟩
 ·have b2:=beqT h2
  obtain rfl:R=true:=by rw [←hR,b1,b2];rfl
  refine ZT [_,_] func52 ntmps52 fun G w hp=>?_
  repeat' (first|rw [b2]|rw [b1]|refine ZG ?_|refine ZF ?_|refine ZJ ?_|refine ZH ?_|refine ZL ?_|refine ZI ?_|refine ZN ?_|refine ZO (fun b=>?_)|refine ZM (fun b=>?_)|refine ZB ?_|refine ZD ?_|refine ZP ?_|refine ZA (n1) (fun _ _=>?_)|refine l_call0 (n1) (fun _ _=>?_)|refine ZA (n2) (fun _ _=>?_)|refine l_call0 (n2) (fun _ _=>?_)|refine ZA (n3) (fun _ _=>?_)|refine l_call0 (n3) (fun _ _=>?_)|refine YO ?_|(refine ZC (fun hc=>?_) (fun hc=>?_)<;>(try simp at hc)<;>(try omega))|(refine ZE (fun hc=>?_) (fun hc=>?_)<;>(try simp at hc)<;>(try omega)))
  all_goals exact ZR () rfl trivial
 ·have b2:=beqF h2
  obtain rfl:R=v3:=by rw [←hR,b1,b2];cases v3<;>rfl
  refine ZT [_,_] func52 ntmps52 fun G w hp=>?_
  repeat' (first|rw [b2]|rw [b1]|refine ZG ?_|refine ZF ?_|refine ZJ ?_|refine ZH ?_|refine ZL ?_|refine ZI ?_|refine ZN ?_|refine ZO (fun b=>?_)|refine ZM (fun b=>?_)|refine ZB ?_|refine ZD ?_|refine ZP ?_|refine ZA (n1) (fun _ _=>?_)|refine l_call0 (n1) (fun _ _=>?_)|refine ZA (n2) (fun _ _=>?_)|refine l_call0 (n2) (fun _ _=>?_)|refine ZA (n3) (fun _ _=>?_)|refine l_call0 (n3) (fun _ _=>?_)|refine YO ?_|(refine ZC (fun hc=>?_) (fun hc=>?_)<;>(try simp at hc)<;>(try omega))|(refine ZE (fun hc=>?_) (fun hc=>?_)<;>(try simp at hc)<;>(try omega)))
  all_goals exact ZR () rfl trivial
section
variable {c:Cq}
theorem kind1_ok (c:Cq) (b:Nat) (k:Int):Enters 123∧Spec prog 123 #[cqa c,pv0 b] [Blk b (.cells #[.int .i64 k] 3)] [] (RetV (.bool (c.kind == k))):=by
 refine ZT [_,_] func123 ntmps123 fun G w hp=>?_
 repeat' (first|refine ZG ?_|refine ZF ?_|refine ZJ ?_|refine ZH ?_|refine ZL ?_|refine ZI ?_|refine ZN ?_|refine ZO (fun b=>?_)|refine ZM (fun b=>?_)|refine ZB ?_|refine ZD ?_|refine ZP ?_|(refine ZC (fun hc=>?_) (fun hc=>?_)<;>(try simp at hc))|(refine ZE (fun hc=>?_) (fun hc=>?_)<;>(try simp at hc)))
 exact ZR () rfl trivial
theorem channel1_ok (c:Cq) (b:Nat) (k:Int):Enters 125∧Spec prog 125 #[cqa c,pv0 b] [Blk b (.cells #[.int .i64 k] 3)] [] (RetV (.bool ((subO c).ch == k))):=by
 have n1:=Xr c
 refine ZT [_,_] func125 ntmps125 fun G w hp=>?_
 repeat' (first|refine ZG ?_|refine ZF ?_|refine ZJ ?_|refine ZH ?_|refine ZL ?_|refine ZI ?_|refine ZN ?_|refine ZO (fun b=>?_)|refine ZM (fun b=>?_)|refine ZB ?_|refine ZD ?_|refine ZP ?_|refine ZA (n1) (fun _ _=>?_)|refine l_call0 (n1) (fun _ _=>?_)|(refine ZC (fun hc=>?_) (fun hc=>?_)<;>(try simp at hc))|(refine ZE (fun hc=>?_) (fun hc=>?_)<;>(try simp at hc)))
 exact ZR () rfl trivial
theorem by1_ok (c:Cq) (hc:CqS c) (b:Nat) (a:ByteArray) (ha:a.size≤1000000):Enters 140∧Spec prog 140 #[cqa c,pv0 b] [Blk b (.cells #[.string a] 22)] [] (RetV (.bool (lwith c.who a))):=by
 have n1:=Vq c.who a (by have:=hc.wh;omega) ha
 refine ZT [_,_] func140 ntmps140 fun G w hp=>?_
 repeat' (first|refine ZG ?_|refine ZF ?_|refine ZJ ?_|refine ZH ?_|refine ZL ?_|refine ZI ?_|refine ZN ?_|refine ZO (fun b=>?_)|refine ZM (fun b=>?_)|refine ZB ?_|refine ZD ?_|refine ZP ?_|refine ZA (n1) (fun _ _=>?_)|refine l_call0 (n1) (fun _ _=>?_)|(refine ZC (fun hc=>?_) (fun hc=>?_)<;>(try simp at hc))|(refine ZE (fun hc=>?_) (fun hc=>?_)<;>(try simp at hc)))
 exact ZR () rfl trivial
theorem fldT_ok (c:Cq) (f:Nat) (hf:f<3):SpecV (fdT f) [cqa c] [] [] (RetV (.string (fldT f c))):=by
 have n1:=Xr c
 match f,hf with
 | 0,_=>
  refine Zz (f:=126) ?_
  refine ZT [_] func126 ntmps126 fun G w hp=>?_
  repeat' (first|refine ZG ?_|refine ZF ?_|refine ZJ ?_|refine ZH ?_|refine ZL ?_|refine ZI ?_|refine ZN ?_|refine ZO (fun b=>?_)|refine ZM (fun b=>?_)|refine ZB ?_|refine ZD ?_|refine ZP ?_|refine ZA (n1) (fun _ _=>?_)|refine l_call0 (n1) (fun _ _=>?_)|(refine ZC (fun hc=>?_) (fun hc=>?_)<;>(try simp at hc))|(refine ZE (fun hc=>?_) (fun hc=>?_)<;>(try simp at hc)))
  exact ZR () rfl trivial
 | 1,_=>
  refine Zz (f:=127) ?_
  refine ZT [_] func127 ntmps127 fun G w hp=>?_
  repeat' (first|refine ZG ?_|refine ZF ?_|refine ZJ ?_|refine ZH ?_|refine ZL ?_|refine ZI ?_|refine ZN ?_|refine ZO (fun b=>?_)|refine ZM (fun b=>?_)|refine ZB ?_|refine ZD ?_|refine ZP ?_|(refine ZC (fun hc=>?_) (fun hc=>?_)<;>(try simp at hc))|(refine ZE (fun hc=>?_) (fun hc=>?_)<;>(try simp at hc)))
  exact ZR () rfl trivial
 | 2,_=>
  refine Zz (f:=128) ?_
  refine ZT [_] func128 ntmps128 fun G w hp=>?_
  repeat' (first|refine ZG ?_|refine ZF ?_|refine ZJ ?_|refine ZH ?_|refine ZL ?_|refine ZI ?_|refine ZN ?_|refine ZO (fun b=>?_)|refine ZM (fun b=>?_)|refine ZB ?_|refine ZD ?_|refine ZP ?_|(refine ZC (fun hc=>?_) (fun hc=>?_)<;>(try simp at hc))|(refine ZE (fun hc=>?_) (fun hc=>?_)<;>(try simp at hc)))
  exact ZR () rfl trivial
theorem fldN_ok (c:Cq) (f:Nat) (hf:f<4):SpecV (fdN f) [cqa c] [] [] (RetV (.int .i64 (fldN f c))):=by
 have n1:=Xr c
 match f,hf with
 | 0,_=>
  refine Zz (f:=131) ?_
  refine ZT [_] func131 ntmps131 fun G w hp=>?_
  repeat' (first|refine ZG ?_|refine ZF ?_|refine ZJ ?_|refine ZH ?_|refine ZL ?_|refine ZI ?_|refine ZN ?_|refine ZO (fun b=>?_)|refine ZM (fun b=>?_)|refine ZB ?_|refine ZD ?_|refine ZP ?_|refine ZA (n1) (fun _ _=>?_)|refine l_call0 (n1) (fun _ _=>?_)|(refine ZC (fun hc=>?_) (fun hc=>?_)<;>(try simp at hc))|(refine ZE (fun hc=>?_) (fun hc=>?_)<;>(try simp at hc)))
  exact ZR () rfl trivial
 | 1,_=>
  refine Zz (f:=132) ?_
  refine ZT [_] func132 ntmps132 fun G w hp=>?_
  repeat' (first|refine ZG ?_|refine ZF ?_|refine ZJ ?_|refine ZH ?_|refine ZL ?_|refine ZI ?_|refine ZN ?_|refine ZO (fun b=>?_)|refine ZM (fun b=>?_)|refine ZB ?_|refine ZD ?_|refine ZP ?_|(refine ZC (fun hc=>?_) (fun hc=>?_)<;>(try simp at hc))|(refine ZE (fun hc=>?_) (fun hc=>?_)<;>(try simp at hc)))
  exact ZR () rfl trivial
 | 2,_=>
  refine Zz (f:=133) ?_
  refine ZT [_] func133 ntmps133 fun G w hp=>?_
  repeat' (first|refine ZG ?_|refine ZF ?_|refine ZJ ?_|refine ZH ?_|refine ZL ?_|refine ZI ?_|refine ZN ?_|refine ZO (fun b=>?_)|refine ZM (fun b=>?_)|refine ZB ?_|refine ZD ?_|refine ZP ?_|refine ZA (n1) (fun _ _=>?_)|refine l_call0 (n1) (fun _ _=>?_)|(refine ZC (fun hc=>?_) (fun hc=>?_)<;>(try simp at hc))|(refine ZE (fun hc=>?_) (fun hc=>?_)<;>(try simp at hc)))
  exact ZR () rfl trivial
 | 3,_=>
  refine Zz (f:=134) ?_
  refine ZT [_] func134 ntmps134 fun G w hp=>?_
  repeat' (first|refine ZG ?_|refine ZF ?_|refine ZJ ?_|refine ZH ?_|refine ZL ?_|refine ZI ?_|refine ZN ?_|refine ZO (fun b=>?_)|refine ZM (fun b=>?_)|refine ZB ?_|refine ZD ?_|refine ZP ?_|refine ZA (n1) (fun _ _=>?_)|refine l_call0 (n1) (fun _ _=>?_)|(refine ZC (fun hc=>?_) (fun hc=>?_)<;>(try simp at hc))|(refine ZE (fun hc=>?_) (fun hc=>?_)<;>(try simp at hc)))
  exact ZR () rfl trivial
theorem cmpT_ok (k:Nat) (hk:k<3) (s u:ByteArray) (hs:s.size≤1000000):SpecV (cmT k) [.string s,.string u] [MxL] [] (RetV (.bool (cmpB k s u))):=by
 match k,hk with
 | 0,_=>
  refine Zz (f:=129) ?_
  refine ZT [_,_] func129 ntmps129 fun G w hp=>?_
  repeat' (first|refine ZG ?_|refine ZF ?_|refine ZJ ?_|refine ZH ?_|refine ZL ?_|refine ZI ?_|refine ZN ?_|refine ZO (fun b=>?_)|refine ZM (fun b=>?_)|refine ZB ?_|refine ZD ?_|refine ZP ?_|(refine ZC (fun hc=>?_) (fun hc=>?_)<;>(try simp at hc))|(refine ZE (fun hc=>?_) (fun hc=>?_)<;>(try simp at hc)))
  exact ZR () rfl trivial
 | 1,_=>exact Zz (f:=53) (W3 s u hs)
 | 2,_=>exact Zz (f:=55) ((sPrefix_ok s u).imp_right fun h G w hp hs=>h G w hp (hs.facts fun _ _ x hx=>by cases hx))
theorem cmpN_ok (k:Nat) (hk:k<3) (n m:Int):SpecV (cmN k) [.int .i64 n,.int .i64 m] [] [] (RetV (.bool (cmpZ k n m))):=by
 match k,hk with
 | 0,_=>
  refine Zz (f:=135) ?_
  refine ZT [_,_] func135 ntmps135 fun G w hp=>?_
  repeat' (first|refine ZG ?_|refine ZF ?_|refine ZJ ?_|refine ZH ?_|refine ZL ?_|refine ZI ?_|refine ZN ?_|refine ZO (fun b=>?_)|refine ZM (fun b=>?_)|refine ZB ?_|refine ZD ?_|refine ZP ?_|(refine ZC (fun hc=>?_) (fun hc=>?_)<;>(try simp at hc))|(refine ZE (fun hc=>?_) (fun hc=>?_)<;>(try simp at hc)))
  exact ZR () rfl trivial
 | 1,_=>
  refine Zz (f:=136) ?_
  refine ZT [_,_] func136 ntmps136 fun G w hp=>?_
  repeat' (first|refine ZG ?_|refine ZF ?_|refine ZJ ?_|refine ZH ?_|refine ZL ?_|refine ZI ?_|refine ZN ?_|refine ZO (fun b=>?_)|refine ZM (fun b=>?_)|refine ZB ?_|refine ZD ?_|refine ZP ?_|(refine ZC (fun hc=>?_) (fun hc=>?_)<;>(try simp at hc))|(refine ZE (fun hc=>?_) (fun hc=>?_)<;>(try simp at hc)))
  exact ZR () rfl trivial
 | 2,_=>
  refine Zz (f:=137) ?_
  refine ZT [_,_] func137 ntmps137 fun G w hp=>?_
  repeat' (first|refine ZG ?_|refine ZF ?_|refine ZJ ?_|refine ZH ?_|refine ZL ?_|refine ZI ?_|refine ZN ?_|refine ZO (fun b=>?_)|refine ZM (fun b=>?_)|refine ZB ?_|refine ZD ?_|refine ZP ?_|(refine ZC (fun hc=>?_) (fun hc=>?_)<;>(try simp at hc))|(refine ZE (fun hc=>?_) (fun hc=>?_)<;>(try simp at hc)))
  exact ZR () rfl trivial
theorem text5_ok (c:Cq) (hc:CqS c) (f k:Nat) (hf:f<3) (hk:k<3) (b1 b2 b3:Nat) (s:ByteArray):Enters 130∧Spec prog 130 #[cqa c,pv0 b1,pv0 b2,pv0 b3]
  [Blk b1 (.cells #[cmT k] 116),Blk b2 (.cells #[fdT f] 187),Blk b3 (.cells #[.string s] 9),MxL] [] (RetV (.bool (cmpB k (fldT f c) s))):=by
 have n1:=fldT_ok c f hf
 have n2:=cmpT_ok k hk (fldT f c) s (by have:=hc.fld f;omega)
 obtain ⟨v1,e1⟩:∃v,cmT k=v:=⟨_,rfl⟩
 obtain ⟨v2,e2⟩:∃v,fdT f=v:=⟨_,rfl⟩
 rw [e1] at n2 ⊢
 rw [e2] at n1 ⊢
 refine ZT [_,_,_,_] func130 ntmps130 fun G w hp=>?_
 repeat' (first|refine ZG ?_|refine ZF ?_|refine ZJ ?_|refine ZH ?_|refine ZL ?_|refine ZI ?_|refine ZN ?_|refine ZO (fun b=>?_)|refine ZM (fun b=>?_)|refine ZB ?_|refine ZD ?_|refine ZP ?_|refine ZX ?_|refine ZZ ?_|refine Zg ?_|refine ZY ?_|refine ZW ?_|refine Zh (fun b=>?_)|refine Zf (fun b=>?_)|refine Ze ?_|refine ZV ?_|refine r_callV n1 (fun _ _=>?_)|refine r_callV n2 (fun _ _=>?_)|(refine ZC (fun hc=>?_) (fun hc=>?_)<;>(try simp at hc))|(refine ZS (fun hc=>?_) (fun hc=>?_)<;>(try simp at hc))|refine ZQ 1 [] [(0,0),(1,0),(2,0),(4,0),(3,4),(5,4),(6,0)] [] ?_|(refine ZE (fun hc=>?_) (fun hc=>?_)<;>(try simp at hc)))
 exact ZR () rfl trivial
theorem number8_ok (c:Cq) (f k:Nat) (hf:f<4) (hk:k<3) (b1 b2 b3:Nat) (m:Int):Enters 139∧Spec prog 139 #[cqa c,pv0 b1,pv0 b2,pv0 b3]
  [Blk b1 (.cells #[cmN k] 37),Blk b2 (.cells #[fdN f] 191),Blk b3 (.cells #[.int .i64 m] 3)] [] (RetV (.bool (cmpZ k (fldN f c) m))):=by
 have n1:=fldN_ok c f hf
 have n2:=cmpN_ok k hk (fldN f c) m
 obtain ⟨v1,e1⟩:∃v,cmN k=v:=⟨_,rfl⟩
 obtain ⟨v2,e2⟩:∃v,fdN f=v:=⟨_,rfl⟩
 rw [e1] at n2 ⊢
 rw [e2] at n1 ⊢
 refine ZT [_,_,_,_] func139 ntmps139 fun G w hp=>?_
 repeat' (first|refine ZG ?_|refine ZF ?_|refine ZJ ?_|refine ZH ?_|refine ZL ?_|refine ZI ?_|refine ZN ?_|refine ZO (fun b=>?_)|refine ZM (fun b=>?_)|refine ZB ?_|refine ZD ?_|refine ZP ?_|refine ZX ?_|refine ZZ ?_|refine Zg ?_|refine ZY ?_|refine ZW ?_|refine Zh (fun b=>?_)|refine Zf (fun b=>?_)|refine Ze ?_|refine ZV ?_|refine r_callV n1 (fun _ _=>?_)|refine r_callV n2 (fun _ _=>?_)|(refine ZC (fun hc=>?_) (fun hc=>?_)<;>(try simp at hc))|(refine ZS (fun hc=>?_) (fun hc=>?_)<;>(try simp at hc))|refine ZQ 1 [] [(0,0),(1,0),(2,0),(4,0),(3,4),(5,4),(6,0)] [] ?_|(refine ZE (fun hc=>?_) (fun hc=>?_)<;>(try simp at hc)))
 exact ZR () rfl trivial
end
end Go.Proofs.YtodkipbnefngkaaGreatDoor
set_option maxRecDepth 10000
namespace Go.Proofs
open Go.Shelf
def Tryz.lays146_ren:Go.Shelf.Ren:=⟨fun|146=>49|221=>75|268=>112|138=>113|143=>82|195=>144|197=>95|218=>145|219=>116|260=>122|217=>48|225=>120|224=>119|267=>148|266=>74|314=>159|n=>n,fun|9=>9|31=>38|3=>3|4=>4|0=>0|105=>163|21=>21|5=>5|46=>118|119=>206|139=>209|138=>208|146=>149|51=>148|n=>n,fun|1=>0|3=>1|4=>2|n=>n⟩
theorem Tryz.lays146:Go.Proofs.Lays.n146 Tryz.prog Tryz.lays146_ren:={
 mixed:=by kernel_rfl
 f138:=Tryz.func113.trans (congrArg some (by kernel_rfl))
 f143:=Tryz.func82.trans (congrArg some (by kernel_rfl))
 f146:=Tryz.func49.trans (congrArg some (by kernel_rfl))
 f195:=Tryz.func144.trans (congrArg some (by kernel_rfl))
 f197:=Tryz.func95.trans (congrArg some (by kernel_rfl))
 f217:=Tryz.func48.trans (congrArg some (by kernel_rfl))
 f218:=Tryz.func145.trans (congrArg some (by kernel_rfl))
 f219:=Tryz.func116.trans (congrArg some (by kernel_rfl))
 f221:=Tryz.func75.trans (congrArg some (by kernel_rfl))
 f224:=Tryz.func119.trans (congrArg some (by kernel_rfl))
 f225:=Tryz.func120.trans (congrArg some (by kernel_rfl))
 f260:=Tryz.func122.trans (congrArg some (by kernel_rfl))
 f266:=Tryz.func74.trans (congrArg some (by kernel_rfl))
 f267:=Tryz.func148.trans (congrArg some (by kernel_rfl))
 f268:=Tryz.func112.trans (congrArg some (by kernel_rfl))
 f314:=Tryz.func159.trans (congrArg some (by kernel_rfl))
 t0:=Tryz.underlying0
 a0:=Tryz.isAgg0
 z0:=Tryz.sizeOf0
 v0:=Tryz.zeroValue0
 t3:=Tryz.underlying3
 a3:=Tryz.isAgg3
 z3:=Tryz.sizeOf3
 v3:=Tryz.zeroValue3
 t4:=Tryz.underlying4
 a4:=Tryz.isAgg4
 z4:=Tryz.sizeOf4
 v4:=Tryz.zeroValue4
 t5:=Tryz.underlying5
 a5:=Tryz.isAgg5
 z5:=Tryz.sizeOf5
 v5:=Tryz.zeroValue5
 t9:=Tryz.underlying9
 a9:=Tryz.isAgg9
 z9:=Tryz.sizeOf9
 v9:=Tryz.zeroValue9
 t21:=Tryz.underlying21
 a21:=Tryz.isAgg21
 z21:=Tryz.sizeOf21
 v21:=Tryz.zeroValue21
 t31:=Tryz.underlying38
 a31:=Tryz.isAgg38
 z31:=Tryz.sizeOf38
 v31:=Tryz.zeroValue38
 t46:=Tryz.underlying118
 a46:=Tryz.isAgg118
 z46:=Tryz.sizeOf118
 v46:=Tryz.zeroValue118
 t51:=Tryz.underlying148
 a51:=Tryz.isAgg148
 z51:=Tryz.sizeOf148
 v51:=Tryz.zeroValue148
 t105:=Tryz.underlying163
 a105:=Tryz.isAgg163
 z105:=Tryz.sizeOf163
 v105:=Tryz.zeroValue163
 t119:=Tryz.underlying206
 a119:=Tryz.isAgg206
 z119:=Tryz.sizeOf206
 t138:=Tryz.underlying208
 a138:=Tryz.isAgg208
 z138:=Tryz.sizeOf208
 v138:=Tryz.zeroValue208
 t139:=Tryz.underlying209
 a139:=Tryz.isAgg209
 z139:=Tryz.sizeOf209
 v139:=Tryz.zeroValue209
 t146:=Tryz.underlying149
 a146:=Tryz.isAgg149
 z146:=Tryz.sizeOf149
 v146:=Tryz.zeroValue149
 g1:=by kernel_rfl
 g3:=by kernel_rfl
 g4:=by kernel_rfl}
end Go.Proofs
namespace Go.Proofs.YtodkipbnefngkaaGreatDoor
open Go.Proofs.Tryz
open Go.RowKit
theorem unq_len:∀(l:List UInt8) (i:Nat) (acc t:List UInt8) (k:Nat),unqF l i acc=some (t,k)→t.length≤acc.length+l.length
 | [],_,_,_,_,h=>by simp [unqF] at h
 | [c],i,acc,t,k,h=>by
  rw [unqF] at h
  split at h
  ·cases h;simp
  ·cases h
 | c::d::r,i,acc,t,k,h=>by
  rw [unqF] at h
  simp only [List.length_cons]
  split at h
  ·cases h;omega
  ·split at h
   ·split at h
    ·have:=unq_len r _ _ _ _ h;rw [List.length_append,List.length_singleton] at this;omega
    ·split at h
     ·have:=unq_len r _ _ _ _ h;rw [List.length_append,List.length_singleton] at this;omega
     ·cases h
   ·have:=unq_len (d::r) _ _ _ _ h
    simp only [List.length_cons,List.length_append,List.length_nil] at this;omega
theorem take_sz (l:List UInt8) (k:Nat):(ofL (l.take k)).size≤l.length:=by rw [YG,List.length_take];omega
theorem Wo:∀(n:Nat) (l:List UInt8) (i:Nat) (acc:List Tk),l.length≤100000→(∀t ∈ acc,TmOK t)→∀t ∈ (scanF n l i acc).1,TmOK t
 | 0,l,i,acc,_,h=>by unfold scanF;exact h
 | n+1,[],i,acc,_,h=>by unfold scanF;exact h
 | n+1,c::r,i,acc,hl,h=>by
  have add:∀(t:Tk),TmOK t→∀u ∈ acc++[t],TmOK u:=fun t ht u hu=>by
   rcases List.mem_append.1 hu with hu|hu
   ·exact h u hu
   ·rw [List.mem_singleton.1 hu];exact ht
  have hr:r.length≤100000:=by rw [List.length_cons] at hl;omega
  have hd:∀k,((c::r).drop k).length≤100000:=fun k=>by rw [List.length_drop];omega
  unfold scanF
  split
  ·exact h
  ·split
   ·exact Wo n r _ _ hr h
   ·split
    ·exact Wo n _ _ _ (hd _) (add _ ⟨.inl (.inl rfl),Nat.le_trans (take_sz _ _) hl⟩)
    ·split
     ·exact Wo n _ _ _ (hd _) (add _ ⟨.inl (.inr (.inl rfl)),Nat.le_trans (take_sz _ _) hl⟩)
     ·split
      ·split
       ·rename_i t k hu
        exact Wo n _ _ _ (hd _) (add _ ⟨.inl (.inr (.inr rfl)),by
         have:=unq_len _ _ _ _ _ hu
         show (ofL t).size≤_
         rw [YG];simp only [List.length_nil] at this;omega⟩)
       ·intro t ht;cases ht
      ·split
       ·rename_i hs
        exact Wo n r _ _ hr (add _ ⟨.inr ⟨rfl,c,hs,rfl⟩,by show (ofL [c]).size≤_;rw [YG,List.length_singleton];omega⟩)
       ·intro t ht;cases ht
theorem scan_cnt:∀(n:Nat) (l:List UInt8) (i:Nat) (acc:List Tk),(scanF n l i acc).1.length≤acc.length+l.length
 | 0,l,i,acc=>by unfold scanF;show acc.length≤_;omega
 | n+1,[],i,acc=>by unfold scanF;show acc.length≤_;omega
 | n+1,c::r,i,acc=>by
  have step:∀(t:Tk) (k j:Nat),1≤k→(scanF n ((c::r).drop k) j (acc++[t])).1.length≤acc.length+(c::r).length:=fun t k j hk=>by
   have:=scan_cnt n ((c::r).drop k) j (acc++[t])
   rw [List.length_append,List.length_singleton,List.length_drop] at this
   rw [List.length_cons] at this ⊢;omega
  unfold scanF
  split
  ·show acc.length≤_;omega
  ·split
   ·have:=scan_cnt n r (i+1) acc
    rw [List.length_cons];omega
   ·split
    ·rename_i hc
     exact step _ _ _ (by simp [spanF,hc])
    ·split
     ·rename_i hc
      exact step _ _ _ (by simp [spanF,inNum,hc])
     ·split
      ·split
       ·rename_i t k hu
        exact step _ _ _ (by have:=(WP _ _ _ _ _ hu).1;omega)
       ·exact Nat.zero_le _
      ·split
       ·have:=step ⟨4,ofL [c],i⟩ 1 (i+1) (Nat.le_refl _)
        exact this
       ·exact Nat.zero_le _
theorem scan_lok {L:List UInt8} (h:L.length≤100000):LOK (scanF (L.length+1) L 0 []).1:=
 ⟨Wo _ _ _ _ h (fun t ht=>by cases ht),by have:=scan_cnt (L.length+1) L 0 [];simp only [List.length_nil] at this;omega,X1 _ _ _ _ (fun t ht=>by cases ht)⟩
theorem splitK_lines:∀(n:Nat) (l:List UInt8),l.length≤n→Lib.splitK [10] 0 (l.count 10) l=linesF l:=by
 intro n
 induction n with
 | zero=>
  intro l h
  cases l with
  | nil=>rfl
  | cons c l=>simp at h
 | succ n ih=>
  intro l h
  have hx:=W6 10 l
  have hta:=XR (fun x=>!(x == 10)) l
  have hle:=YB (fun x=>!(x == 10)) l
  by_cases hm:spanF (fun x=>!(x == 10)) l=l.length
  ·rw [Ve l hm]
   rw [hm,List.take_length] at hta
   rw [List.count_eq_zero.2 (fun hh=>by have:=hta 10 hh;simp at this)]
   rfl
  ·have hlt:spanF (fun x=>!(x == 10)) l<l.length:=by omega
   have hst:=X9 (fun x=>!(x == 10)) l hlt
   rw [Wx l hlt]
   rw [if_neg hm] at hx
   generalize spanF (fun x=>!(x == 10)) l=m at *
   have hd:=List.drop_eq_getElem_cons hlt
   have h10:l[m]=10:=by simpa using hst
   rw [h10] at hd
   have hc:l.count 10=(l.drop (m+1)).count 10+1:=by
    conv=>lhs;rw [←List.take_append_drop m l,List.count_append,hd,List.count_cons_self]
    rw [List.count_eq_zero.2 (fun hh=>by have:=hta 10 hh;simp at this)];omega
   rw [hc]
   have hi:Lib.index l [10]=(m:Int):=by rw [Lib.index_one,hx]
   have hn:¬(Lib.index l [10] == -1)=true:=fun e=>by have:=beq_iff_eq.1 e;omega
   rw [Lib.splitK,if_neg hn,hi]
   have e1:((m:Int)).toNat+0=m:=by omega
   have e2:((m:Int)).toNat+([10]:List UInt8).length=m+1:=by simp
   rw [e1,e2,ih _ (by rw [List.length_drop];omega)]
theorem split_lines (s:ByteArray):Lib.splitB nlS 0 (Lib.countB s nlS) s=(linesF s.data.toList).map ofL∧Lib.countB s nlS+1=(linesF s.data.toList).length:=by
 have hc:Lib.countB s nlS=s.data.toList.count 10:=Lib.count_one 10 s.data.toList
 have h:=Lib.splitB_data nlS 0 (Lib.countB s nlS) s
 rw [hc] at h
 have h2:(Lib.splitB nlS 0 (s.data.toList.count 10) s).map (·.data.toList)=linesF s.data.toList:=h.trans (splitK_lines _ _ (Nat.le_refl _))
 have h3:(Lib.splitB nlS 0 (s.data.toList.count 10) s)=(linesF s.data.toList).map ofL:=by
  rw [←h2,List.map_map]
  conv=>lhs;rw [←List.map_id (Lib.splitB nlS 0 (s.data.toList.count 10) s)]
  exact List.map_congr_left fun x _=>rfl
 rw [hc]
 refine ⟨h3,?_⟩
 have h4:=Lib.splitB_all nlS (by decide) 0 _ s hc
 rw [h3,List.length_map] at h4
 exact h4.symm
theorem sSplit_ok (s:ByteArray) (hs:s.size≤1000000):Enters 49∧Spec prog 49 #[.string s,.string nlS] [MxL] []
  ⟨Nat,fun b=>.slice (some ⟨b,0,none⟩) (linesF s.data.toList).length (linesF s.data.toList).length,fun _=>True,fun _=>[MxL],fun b=>[Pt b (.cells (((linesF s.data.toList).map ofL).map Value.string).toArray 9)]⟩:=by
 refine ⟨enters_of func49 (by kernel_rfl) rfl,fun G w hp hs0=>?_⟩
 obtain ⟨h1,h2⟩:=split_lines s
 have hs1:=hs0
 obtain ⟨hp',hr,st⟩:=hs0
 obtain ⟨m,T,fz,hm⟩:=st.f MxL (by simp)
 refine (Any.strings_Split Tryz.lays146 (by kernel_rfl) s nlS m w (by omega) (cell_of (st.inp _ _ hm)) (by decide)).mono ?_
 rintro e w' ⟨rfl,rfl⟩
 rw [h1,h2]
 exact ⟨w.heap.size,rfl,trivial,(hs1.alloc _)⟩
end Go.Proofs.YtodkipbnefngkaaGreatDoor
namespace Go.Proofs.YtodkipbnefngkaaGreatDoor
open Go.RowKit Go.Proofs.Tryz
def LnsP (h:H):List RuM→List LC→Prop
 | [],vs=>vs=[]
 | x::l,vs=>∃v ws,vs=v::ws∧(v.k=x.a.k∧v.t=x.a.t∧LnP h x.c v.p)∧LnsP h l ws
theorem lnsP_mono {h k:H} (s:Sub h k):∀(l:List RuM) (vs:List LC),LnsP h l vs→LnsP k l vs
 | [],_,hh=>hh
 | x::l,_,⟨v,ws,h1,⟨h2,h3,h4⟩,h5⟩=>⟨v,ws,h1,⟨h2,h3,lnP_mono s x.c v.p h4⟩,lnsP_mono s l ws h5⟩
def LnsF (l:List RuM) (vs:List LC):Pf:=⟨fun h=>LnsP h l vs,fun _ _ s hh=>lnsP_mono s l vs hh⟩
theorem lnsP_app {h:H} {x:RuM} {v:LC}:∀{l:List RuM} {vs:List LC},LnsP h l vs→v.k=x.a.k∧v.t=x.a.t∧LnP h x.c v.p→LnsP h (l++[x]) (vs++[v])
 | [],_,h1,h2=>by rw [show _=[] from h1];exact ⟨v,[],rfl,h2,rfl⟩
 | y::l,_,⟨u,ws,h1,h3,h4⟩,h2=>by rw [h1];exact ⟨u,ws++[v],rfl,h3,lnsP_app h4 h2⟩
theorem lnsP_get {h:H}:∀{l:List RuM} {vs:List LC} {i:Nat} {x:RuM} {v:LC},LnsP h l vs→l[i]? = some x→vs[i]? = some v→v.k=x.a.k∧v.t=x.a.t∧LnP h x.c v.p
 | y::l,_,0,x,v,⟨u,ws,h1,h3,h4⟩,e1,e2=>by
  subst h1
  cases e1;cases e2;exact h3
 | y::l,_,i+1,x,v,⟨u,ws,h1,h3,h4⟩,e1,e2=>by
  subst h1
  exact lnsP_get h4 e1 e2
abbrev lnS (o:Option Addr) (cap:Nat) (vs:List LC):Pf:=Sl 61 lnf o cap vs
abbrev MpaP (r:Except (Int×Int×Int) (List RuM)):Post:=match r with
 | .ok l=>⟨List LC×Option Addr×Nat,fun q=>.tuple #[.slice q.2.1 q.1.length q.2.2,.int .i64 0,.int .i64 0,.int .i64 0],fun q=>q.1.length=l.length,fun q=>[lnS q.2.1 q.2.2 q.1,LnsF l q.1],fun _=>[]⟩
 | .error x=>⟨Unit,fun _=>.tuple #[.slice none 0 0,.int .i64 x.1,.int .i64 x.2.1,.int .i64 x.2.2],fun _=>True,fun _=>[],fun _=>[]⟩
theorem lineM_eq {e:List UInt8} {n:Nat} {ts:List Tk} {en:Nat} {ok:Bool} (h:scanF (e.length+1) e 0 []=(ts,en,ok)):lineM e n=if ok=false then (none,(en:Int)+1,6) else match ts with
  | []=>(none,0,0)
  | t::_=>if n=256 then (none,t.pl+1,9) else if (ruleM ⟨ts,(en:Int)+1,0,0,0⟩).2.e≠0 then (none,(ruleM ⟨ts,(en:Int)+1,0,0,0⟩).2.cl,(ruleM ⟨ts,(en:Int)+1,0,0,0⟩).2.e) else (some (ruleM ⟨ts,(en:Int)+1,0,0,0⟩).1,0,0):=by
 unfold lineM
 rw [h]
 rfl
def rwF (x:Option RuM×Int×Int) (l:List (List UInt8)) (i:Nat) (acc:List RuM):Except (Int×Int×Int) (List RuM):=match x with
 | (some x,_,_)=>rowsM l (i+1) (acc++[x])
 | (none,a,e)=>if e=0 then rowsM l (i+1) acc else .error ((i:Int)+1,a,e)
theorem XP (e:List UInt8) (l:List (List UInt8)) (i:Nat) (acc:List RuM):rowsM (e::l) i acc=rwF (lineM e acc.length) l i acc:=by
 rw [rowsM]
 rfl
theorem skl_flat:∀ws:List ByteArray,ws.map Value.string=ws.flatMap skl
 | []=>rfl
 | w::ws=>by rw [List.map_cons,List.flatMap_cons,skl_flat ws];rfl
theorem scan_en:∀(n:Nat) (l:List UInt8) (i:Nat) (acc:List Tk),(scanF n l i acc).2.1≤i+l.length
 | 0,l,i,acc=>by unfold scanF;show i≤_;omega
 | n+1,[],i,acc=>by unfold scanF;show i≤_;omega
 | n+1,c::r,i,acc=>by
  have step:∀(a:List Tk) (k:Nat),k≤(c::r).length→(scanF n ((c::r).drop k) (i+k) a).2.1≤i+(c::r).length:=fun a k hk=>by
   have:=scan_en n ((c::r).drop k) (i+k) a
   rw [List.length_drop] at this
   omega
  unfold scanF
  split
  ·show i≤_;omega
  ·split
   ·exact step acc 1 (by rw [List.length_cons];omega)
   ·split
    ·exact step _ _ (YB _ _)
    ·split
     ·exact step _ _ (YB _ _)
     ·split
      ·split
       ·rename_i t k hu
        exact step _ _ (by have:=(WP _ _ _ _ _ hu).2;rw [List.length_cons];omega)
       ·show i≤_;omega
      ·split
       ·exact step _ 1 (by rw [List.length_cons];omega)
       ·show i≤_;omega
set_option maxHeartbeats 8000000 in
theorem Wu (s:ByteArray) (hs:s.size≤100000):Enters 27∧Spec prog 27 #[.string s] [MxL] [] (MpaP (parM s)):=by
 have hsz:=lsz s
 by_cases hb:65536<s.size
 ·have e:parM s = .error (0,0,5):=if_pos hb
  rw [e]
  refine ZT [_] func27 ntmps27 fun G w hp=>?_
  repeat' (first|refine ZG ?_|refine ZF ?_|refine ZJ ?_|refine ZH ?_|refine ZL ?_|refine ZI ?_|refine ZN ?_|refine ZO (fun b=>?_)|refine ZM (fun b=>?_)|refine ZB ?_|refine ZD ?_|(refine ZC (fun hc=>?_) (fun hc=>?_)<;>(try simp at hc)<;>(try omega))|(refine ZE (fun hc=>?_) (fun hc=>?_)<;>(try simp at hc)<;>(try omega)))
  exact ZR () rfl trivial
 ·have e0:parM s=rowsM (linesF s.data.toList) 0 []:=if_neg hb
  rw [e0]
  obtain ⟨hl1,hl2⟩:=Wb s.data.toList
  have n0:=sSplit_ok s (by omega)
  obtain ⟨R,hR⟩:∃R,rowsM (linesF s.data.toList) 0 []=R:=⟨_,rfl⟩
  rw [hR]
  generalize linesF s.data.toList=LS at *
  obtain ⟨ES,hES⟩:∃ES,LS.map ofL=ES:=⟨_,rfl⟩
  have hEl:LS.length=ES.length:=by rw [←hES,List.length_map]
  rw [hES,hEl] at n0
  refine ZT [_] func27 ntmps27 fun G w hp=>?_
  repeat' (first|refine ZG ?_|refine ZF ?_|refine ZJ ?_|refine ZH ?_|refine ZL ?_|refine ZI ?_|refine ZN ?_|refine ZO (fun b=>?_)|refine ZM (fun b=>?_)|refine ZB ?_|refine ZD ?_|refine ZA (n0) (fun _ _=>?_)|refine l_call0 (n0) (fun _ _=>?_)|(refine ZC (fun hc=>?_) (fun hc=>?_)<;>(try simp at hc)<;>(try omega))|(refine ZE (fun hc=>?_) (fun hc=>?_)<;>(try simp at hc)<;>(try omega)))
  rename_i bL _
  refine Yx (b:=bL) (o:=.cells (ES.map Value.string).toArray 9) ?_
  refine Zs (F1:=[Blk bL (.cells (ES.map Value.string).toArray 9)]) (f:=Sl 9 skl (some ⟨bL,0,none⟩) ES.length ES) (fun hp hF=>Xz (hF _ (.head _)) (skl_flat ES) (Nat.le_refl _)) ?_
  refine Z2 (Lx:=[]) (r:=Row 61 3 none 0 0 []) (fun h _=>XW _ _ h) ?_
  refine k_add (f:=LnsF [] []) (fun _=>rfl) ?_
  refine YJ (X:={q:Nat×List RuM×List LC×Option Addr×Nat // q.1≤LS.length∧rowsM (LS.drop q.1) q.1 q.2.1=R∧q.2.2.1.length=q.2.1.length∧q.2.1.length≤256}) (fun q=>[(2,.slice q.1.2.2.2.1 q.1.2.2.1.length q.1.2.2.2.2),(17,.slice (some ⟨bL,0,none⟩) ES.length ES.length),(18,.int .i64 (ES.length:Nat)),(19,.int .i64 (q.1.1:Int))]) (fun q=>[Sl 9 skl (some ⟨bL,0,none⟩) ES.length ES,LnsF q.1.2.1 q.1.2.2.1]) (fun q=>[Row 61 3 q.1.2.2.2.1 q.1.2.2.1.length q.1.2.2.2.2 (q.1.2.2.1.flatMap lnf)]) (fun q=>LS.length - q.1.1) ⟨(0,[],[],none,0),Nat.zero_le _,hR,rfl,by decide⟩ ⟨rfl,rfl,rfl,rfl,trivial⟩ ?_
  rintro ⟨⟨i,acc,vs,o,cap⟩,i1,i2,i3,i4⟩
  dsimp only at i1 i2 i3 i4 ⊢
  by_cases hlt:i<LS.length
  ·have hee:=List.getElem?_eq_getElem hlt
   have hdr:=List.drop_eq_getElem_cons hlt
   have hel:=hl2 _ (List.getElem_mem hlt)
   generalize LS[i]=e at *
   rw [hdr] at i2
   have hlt2:(i:Int)<(ES.length:Int):=by omega
   have hee2:ES[i]? = some (ofL e):=by rw [←hES,List.getElem?_map,hee];rfl
   have hes:(ofL e).size≤100000:=by rw [YG];omega
   have n1:=mpScan_ok (ofL e) hes
   rw [Z8] at n1
   have hlok:=scan_lok (L:=e) (by omega)
   have hen:=scan_en (e.length+1) e 0 []
   obtain ⟨⟨ts,en,ok⟩,hsc⟩:∃r,scanF (e.length+1) e 0 []=r:=⟨_,rfl⟩
   rw [hsc] at n1 hlok hen
   have hle:=lineM_eq (n:=acc.length) hsc
   dsimp only at n1 hlok hen
   have w1:=wrapi (z:=(i:Int)+1) (by omega) (by omega)
   have hroom:(2 * (vs.length+1)+200) * 32≤281474976710656:=by omega
   cases ok with
   | false=>
    have n1:Enters 50∧Spec prog 50 #[.string (ofL e)] [] [] ⟨Option Addr×Nat,fun q=>.tuple #[.slice q.1 ts.length q.2,.int .i64 0,.int .i64 ((en:Int)+1)],fun _=>True,fun q=>[TmS q.1 q.2 ts],fun _=>[]⟩:=n1
    rw [if_pos rfl] at hle
    rw [XP,hle] at i2
    have i2:Except.error ((i:Int)+1,(en:Int)+1,6)=R:=by rw [←i2];rfl
    subst i2
    have hbp:0<(en:Int)+1:=by omega
    repeat' (first|refine Zi ?_|refine Zj (es:=ES) (f:=skl) i (ofL e) hee2 (fun b off=>?_)|refine ZG ?_|refine ZF ?_|refine ZJ ?_|refine ZH ?_|refine ZL ?_|refine ZI ?_|refine ZN ?_|refine ZO (fun b=>?_)|refine ZM (fun b=>?_)|refine ZB ?_|refine ZD ?_|refine ZA (n1) (fun _ _=>?_)|refine l_call0 (n1) (fun _ _=>?_)|rw [w1]|(refine ZC (fun hc=>?_) (fun hc=>?_)<;>(try simp at hc)<;>(try omega))|(refine ZE (fun hc=>?_) (fun hc=>?_)<;>(try simp at hc)<;>(try omega)))
    all_goals exact Zq (Zr (Zk () rfl trivial))
   | true=>
    have n1:Enters 50∧Spec prog 50 #[.string (ofL e)] [] [] ⟨Option Addr×Nat,fun q=>.tuple #[.slice q.1 ts.length q.2,.int .i64 ((en:Int)+1),.int .i64 0],fun _=>True,fun q=>[TmS q.1 q.2 ts],fun _=>[]⟩:=n1
    rw [if_neg (by decide)] at hle
    cases ts with
    | nil=>
     rw [XP,hle] at i2
     have i2:rowsM (LS.drop (i+1)) (i+1) acc=R:=by rw [←i2];rfl
     repeat' (first|refine Zi ?_|refine Zj (es:=ES) (f:=skl) i (ofL e) hee2 (fun b off=>?_)|refine ZG ?_|refine ZF ?_|refine ZJ ?_|refine ZH ?_|refine ZL ?_|refine ZI ?_|refine ZN ?_|refine ZO (fun b=>?_)|refine ZM (fun b=>?_)|refine ZB ?_|refine ZD ?_|refine ZA (n1) (fun _ _=>?_)|refine l_call0 (n1) (fun _ _=>?_)|rw [w1]|(refine ZC (fun hc=>?_) (fun hc=>?_)<;>(try simp at hc)<;>(try omega))|(refine ZE (fun hc=>?_) (fun hc=>?_)<;>(try simp at hc)<;>(try omega)))
     all_goals exact Za ⟨(i+1,acc,vs,o,cap),by show i+1≤LS.length;omega,i2,i3,i4⟩ (by show LS.length - (i+1)<LS.length - i;omega) ⟨rfl,rfl,rfl,rfl,trivial⟩
    | cons t tl=>
     dsimp only at hle
     have hpos:¬(((t::tl).length:Nat):Int)=0:=by rw [List.length_cons];omega
     have hlb:((((t::tl).length:Nat):Int) == 0)=false:=beq_eq_false_iff_ne.2 hpos
     by_cases h256:acc.length=256
     ·rw [if_pos h256] at hle
      rw [XP,hle] at i2
      have i2:Except.error ((i:Int)+1,t.pl+1,9)=R:=by rw [←i2];rfl
      subst i2
      have hv:((vs.length:Nat):Int)=256:=by omega
      have ht0:(t::tl)[0]? = some t:=rfl
      generalize hlt:t::tl=l at *
      repeat' (first|refine Zi ?_|refine Zj (es:=ES) (f:=skl) i (ofL e) hee2 (fun b off=>?_)|rw [hlb]|refine ZG ?_|refine ZF ?_|refine ZJ ?_|refine ZH ?_|refine ZL ?_|refine ZI ?_|refine ZN ?_|refine ZO (fun b=>?_)|refine ZM (fun b=>?_)|refine ZB ?_|refine ZD ?_|refine ZX ?_|refine ZZ ?_|refine Zg ?_|refine ZY ?_|refine ZW ?_|refine Zh (fun b=>?_)|refine Zf (fun b=>?_)|refine Ze ?_|refine ZV ?_|refine ZA (n1) (fun _ _=>?_)|refine l_call0 (n1) (fun _ _=>?_)|refine ZK (n1) (fun _ _=>?_)|rw [w1]|refine YK (es:=l) (f:=tkm) 0 t ht0 (fun b off=>?_)|refine YL ?_|(refine ZC (fun hc=>?_) (fun hc=>?_)<;>(try simp at hc)<;>(try omega))|(refine ZS (fun hc=>?_) (fun hc=>?_)<;>(try simp at hc)<;>(try omega))|refine ZQ 11 [] [(0,0),(1,0),(2,0),(3,0),(4,0),(5,0),(6,0),(7,0),(8,0),(9,0)] [] ?_|(refine ZE (fun hc=>?_) (fun hc=>?_)<;>(try simp at hc)<;>(try omega)))
      all_goals exact Zq (Zr (Zk () rfl trivial))
     ·rw [if_neg h256] at hle
      have hv:¬((vs.length:Nat):Int)=256:=by omega
      have n2:=fun (bp:Nat) (o:Option Addr) (cap:Nat)=>mpRule_ok bp (t::tl) o cap hlok ⟨t::tl,(en:Int)+1,0,0,0⟩ ⟨0,rfl⟩ (Int.le_refl _) (by show (0:Int)≤32;decide)
      dsimp only at n2
      generalize ruleM ⟨t::tl,(en:Int)+1,0,0,0⟩=y at *
      obtain ⟨⟨yc,ya⟩,ym⟩:=y
      dsimp only at n2 hle
      generalize hlt:t::tl=l at *
      by_cases hye:ym.e=0
      ·rw [if_neg (by simpa using hye)] at hle
       rw [XP,hle] at i2
       have i2:rowsM (LS.drop (i+1)) (i+1) (acc++[⟨yc,ya⟩])=R:=i2
       repeat' (first|refine Yd (m:=vs.length) (m2:=1) (fun o' cap'=>?_) (hroom:=hroom)|refine Zi ?_|refine Zj (es:=ES) (f:=skl) i (ofL e) hee2 (fun b off=>?_)|rw [hlb]|refine ZG ?_|refine ZF ?_|refine ZJ ?_|refine ZH ?_|refine ZL ?_|refine ZI ?_|refine ZN ?_|refine ZO (fun b=>?_)|refine ZM (fun b=>?_)|refine ZB ?_|refine ZD ?_|refine ZA (n1) (fun _ _=>?_)|refine l_call0 (n1) (fun _ _=>?_)|refine ZA (n2 _ _ _) (fun _ _=>?_)|refine l_call0 (n2 _ _ _) (fun _ _=>?_)|rw [w1]|(refine ZC (fun hc=>?_) (fun hc=>?_)<;>(try simp at hc)<;>(try omega))|(refine ZE (fun hc=>?_) (fun hc=>?_)<;>(try simp at hc)<;>(try omega)))
       rename_i bp q _ bl
       obtain ⟨yp,kq⟩:=q
       have e1:vs.length+1=(vs++[(⟨yp,ya.k,ya.t⟩:LC)]).length:=by simp
       have e2:vs.flatMap lnf++[.pointer yp,.int .i64 ya.k,.string ya.t]=(vs++[(⟨yp,ya.k,ya.t⟩:LC)]).flatMap lnf:=by simp
       refine YE (T:=61) (sz:=3) (o:=o') (cap:=cap') (m:=vs.length+1) _ _ e1 e2 ?_
       rw [e1]
       refine Zs (F1:=[LnsF acc vs,LnF yc yp]) (f:=LnsF (acc++[(⟨yc,ya⟩:RuM)]) (vs++[(⟨yp,ya.k,ya.t⟩:LC)])) (fun hp hF=>lnsP_app (x:=⟨yc,ya⟩) (v:=⟨yp,ya.k,ya.t⟩) (hF _ (.head _)) ⟨rfl,rfl,hF _ (.tail _ (.head _))⟩) ?_
       exact Za ⟨(i+1,acc++[⟨yc,ya⟩],vs++[⟨yp,ya.k,ya.t⟩],o',cap'),by show i+1≤LS.length;omega,i2,by show (vs++[_]).length=(acc++[_]).length;simp [i3],by show (acc++[_]).length≤256;rw [List.length_append,List.length_singleton];omega⟩ (by show LS.length - (i+1)<LS.length - i;omega) ⟨rfl,rfl,rfl,rfl,trivial⟩
      ·rw [if_pos (by simpa using hye)] at hle
       rw [XP,hle] at i2
       have i2:Except.error ((i:Int)+1,ym.cl,ym.e)=R:=by
        rw [←i2]
        unfold rwF
        dsimp only
        rw [if_neg hye]
       subst i2
       repeat' (first|refine Zi ?_|refine Zj (es:=ES) (f:=skl) i (ofL e) hee2 (fun b off=>?_)|rw [hlb]|refine ZG ?_|refine ZF ?_|refine ZJ ?_|refine ZH ?_|refine ZL ?_|refine ZI ?_|refine ZN ?_|refine ZO (fun b=>?_)|refine ZM (fun b=>?_)|refine ZB ?_|refine ZD ?_|refine ZX ?_|refine ZZ ?_|refine Zg ?_|refine ZY ?_|refine ZW ?_|refine Zh (fun b=>?_)|refine Zf (fun b=>?_)|refine Ze ?_|refine ZV ?_|refine ZA (n1) (fun _ _=>?_)|refine l_call0 (n1) (fun _ _=>?_)|refine ZK (n1) (fun _ _=>?_)|refine ZA (n2 _ _ _) (fun _ _=>?_)|refine l_call0 (n2 _ _ _) (fun _ _=>?_)|refine ZK (n2 _ _ _) (fun _ _=>?_)|rw [w1]|(refine ZC (fun hc=>?_) (fun hc=>?_)<;>(try simp at hc)<;>(try omega))|(refine ZS (fun hc=>?_) (fun hc=>?_)<;>(try simp at hc)<;>(try omega))|refine ZQ 15 [] [(0,0),(1,0),(2,0),(3,0),(4,0),(5,0),(6,0),(7,0),(8,0),(9,0),(10,0),(11,0),(12,0),(13,0)] [] ?_|(refine ZE (fun hc=>?_) (fun hc=>?_)<;>(try simp at hc)<;>(try omega)))
       all_goals exact Zq (Zr (Zk () rfl trivial))
  ·rw [List.drop_eq_nil_of_le (by omega)] at i2
   have i2:Except.ok acc=R:=i2
   subst i2
   have hlt2:¬(i:Int)<(ES.length:Int):=by omega
   repeat' (first|refine ZG ?_|refine ZF ?_|refine ZJ ?_|refine ZH ?_|refine ZL ?_|refine ZI ?_|refine ZN ?_|refine ZO (fun b=>?_)|refine ZM (fun b=>?_)|refine ZB ?_|refine ZD ?_|refine ZP ?_|(refine ZC (fun hc=>?_) (fun hc=>?_)<;>(try simp at hc)<;>(try omega))|(refine ZE (fun hc=>?_) (fun hc=>?_)<;>(try simp at hc)<;>(try omega)))
   refine Xg (T:=61) (sz:=3) (f:=lnf) (o:=o) (cap:=cap) vs ?_ rfl rfl
   exact ZR (vs,o,cap) rfl i3
theorem sat_fact {G:H} {w0 w:World} {hp0:H} {F:List Pf} {R:List HP} {X:Type} {f:Pf} {Fx:X→List Pf} {p:X→Prop} (hs:Sat G w0 hp0 (f::F) R w) (h:∀hp,f.p hp→∃x,p x∧∀g ∈ Fx x,g.p hp):∃x,p x∧Sat G w0 hp0 (Fx x++F) R w:=by
 obtain ⟨hp,hr,st⟩:=hs
 obtain ⟨x,hpx,hfx⟩:=h hp (st.f f (.head _))
 refine ⟨x,hpx,hp,hr,st.inp,st.inr,st.ing,st.d1,st.d2,st.d3,st.sub,fun g hg=>?_,st.r,st.same⟩
 rcases List.mem_append.1 hg with h|h
 ·exact hfx g h
 ·exact st.f g (.tail _ h)
theorem YZ {v:Value} {name:String} {vs:List Value} {F:List Pf} {R:List HP} {post:Post} {X:Type} {f:Pf} {Fx:X→List Pf} {p:X→Prop} (h:∀hp,f.p hp→∃x,p x∧∀g ∈ Fx x,g.p hp)
  (s:∀x,p x→SpecI v name vs (Fx x++F) R post):SpecI v name vs (f::F) R post:=fun G w hp hs=>by
 obtain ⟨x,hx,hs⟩:=sat_fact hs h
 exact s x hx G w hp hs
theorem specMore {P:Program} {f:FuncId} {args:Array Value} {F F1:List Pf} {R:List HP} {post:Post} (s:Spec P f args F R post):Spec P f args (F++F1) R post:=fun G w hp hs=>s G w hp (hs.facts fun _ h x hx=>h x (List.mem_append_left _ hx))
theorem test_holds (wd:ByteArray) (fv:Value) (c:Cq) {F:List Pf} {x:Bool} (spec:SpecV fv [cqa c] F [] (RetV (.bool x))):Enters 199∧Spec prog 199 #[.agg #[.string wd,fv],cqa c] F [] (RetV (.bool x)):=by
 refine ZT [_,_] func199 ntmps199 fun G w hp=>?_
 repeat' (first|refine ZG ?_|refine ZF ?_|refine ZJ ?_|refine ZH ?_|refine ZL ?_|refine ZI ?_|refine ZN ?_|refine ZO (fun b=>?_)|refine ZM (fun b=>?_)|refine ZB ?_|refine ZD ?_|refine ZP ?_|refine XE spec (fun _ _=>?_) (hF:=Zc _)|(refine ZC (fun hc=>?_) (fun hc=>?_)<;>(try simp at hc))|(refine ZE (fun hc=>?_) (fun hc=>?_)<;>(try simp at hc)))
 exact ZR () rfl trivial
abbrev HoI (c : Cq) (d : Cnd) : Prop := ∀ v, SpecI v "replevin/rule.holds" [cqa c] [CdF d v, MxL] [] (RetV (.bool (holF c d)))
theorem tst_ho {c : Cq} {wd : ByteArray} {f : FuncId} {cs : Array Value} {F : List Pf} {x : Bool} (spec : Enters f ∧ Spec prog f ([cqa c].toArray ++ cs) F [] (RetV (.bool x))) : SpecI (tsv wd f cs) "replevin/rule.holds" [cqa c] F [] (RetV (.bool x)) :=
 VD (f:=199) (by intro w;kernel_rfl) (test_holds wd _ c (Zz spec))
theorem not_holds (c:Cq) (d:Cnd) (u:Value) (ih:HoI c d):Enters 203∧Spec prog 203 #[.agg #[u],cqa c] [CdF d u,MxL] [] (RetV (.bool (!holF c d))):=by
 have n1:=ih u
 refine ZT [_,_] func203 ntmps203 fun G w hp=>?_
 repeat' (first|refine ZG ?_|refine ZF ?_|refine ZJ ?_|refine ZH ?_|refine ZL ?_|refine ZI ?_|refine ZN ?_|refine ZO (fun b=>?_)|refine ZM (fun b=>?_)|refine ZB ?_|refine ZD ?_|refine ZP ?_|refine l_inv n1 (fun _ _=>?_)|(refine ZC (fun hc=>?_) (fun hc=>?_)<;>(try simp at hc))|(refine ZE (fun hc=>?_) (fun hc=>?_)<;>(try simp at hc)))
 exact ZR () rfl trivial
set_option maxHeartbeats 4000000 in
theorem any_holds (c:Cq) (l:List Cnd) (hbd:l.length≤1000000) (ih:∀d ∈ l,HoI c d) (o:Option Addr) (cap:Nat) (vs:List IV) (hl:vs.length=l.length):Enters 201∧Spec prog 201 #[.agg #[.slice o vs.length cap],cqa c] [Sl 100 ivl o cap vs,CdsF l (vs.map ivOf),MxL] [] (RetV (.bool (anyH c l))):=by
 obtain ⟨R,hR⟩:∃R,anyH c l=R:=⟨_,rfl⟩
 rw [hR]
 refine ZT [_,_] func201 ntmps201 fun G w hp=>?_
 repeat' (first|refine ZG ?_|refine ZF ?_|refine ZJ ?_|refine ZH ?_|refine ZL ?_|refine ZI ?_|refine ZN ?_|refine ZO (fun b=>?_)|refine ZM (fun b=>?_)|refine ZB ?_|refine ZD ?_|(refine ZC (fun hc=>?_) (fun hc=>?_)<;>(try simp at hc))|(refine ZE (fun hc=>?_) (fun hc=>?_)<;>(try simp at hc)))
 rename_i b2
 refine YJ (X:={j:Nat // j≤vs.length∧anyH c (l.drop j)=R}) (fun j=>[(3,pv0 b),(8,.slice o vs.length cap),(9,.int .i64 (vs.length:Int)),(10,.int .i64 (j.1:Int))]) (fun _=>[Sl 100 ivl o cap vs,CdsF l (vs.map ivOf),MxL]) (fun _=>[Pt b (.cells (cqf c).toArray 26)]) (fun j=>vs.length - j.1) ⟨0,Nat.zero_le _,hR⟩ ⟨rfl,rfl,rfl,rfl,trivial⟩ ?_
 rintro ⟨j,hj,hRj⟩
 dsimp only at hj hRj ⊢
 by_cases hlt:j<vs.length
 ·have hxj:=List.getElem?_eq_getElem hlt
  have hltc:j<l.length:=by omega
  have hcj:=List.getElem?_eq_getElem hltc
  rw [List.drop_eq_getElem_cons hltc] at hRj
  have ihd:=ih _ (List.getElem_mem hltc)
  generalize vs[j]=x at *
  generalize l[j]=d at *
  rw [anyH] at hRj
  obtain ⟨T,u⟩:=x
  have n1:=ihd (ivOf (T,u))
  refine Zs (F1:=[CdsF l (vs.map ivOf)]) (f:=CdF d (ivOf (T,u))) (fun hp hF=>WF (hF _ (.head _)) hcj (by rw [List.getElem?_map,hxj];rfl)) ?_
  have w1:=wrapi (z:=(j:Int)+1) (by omega) (by omega)
  cases hh:holF c d with
  | true=>
   rw [hh] at n1 hRj
   obtain rfl:R=true:=hRj.symm
   repeat' (first|refine ZG ?_|refine ZF ?_|refine ZJ ?_|refine ZH ?_|refine ZL ?_|refine ZI ?_|refine ZN ?_|refine ZO (fun b=>?_)|refine ZM (fun b=>?_)|refine ZB ?_|refine ZD ?_|refine Zj (es:=vs) (f:=ivl) j _ hxj (fun b off=>?_)|refine Zi ?_|refine l_inv n1 (fun _ _=>?_)|rw [w1]|(refine ZC (fun hc=>?_) (fun hc=>?_)<;>(try simp at hc)<;>(try omega))|(refine ZE (fun hc=>?_) (fun hc=>?_)<;>(try simp at hc)<;>(try omega)))
   exact Zq (Zr (Zk () rfl trivial))
  | false=>
   rw [hh] at n1 hRj
   repeat' (first|refine ZG ?_|refine ZF ?_|refine ZJ ?_|refine ZH ?_|refine ZL ?_|refine ZI ?_|refine ZN ?_|refine ZO (fun b=>?_)|refine ZM (fun b=>?_)|refine ZB ?_|refine ZD ?_|refine Zj (es:=vs) (f:=ivl) j _ hxj (fun b off=>?_)|refine Zi ?_|refine l_inv n1 (fun _ _=>?_)|rw [w1]|(refine ZC (fun hc=>?_) (fun hc=>?_)<;>(try simp at hc)<;>(try omega))|(refine ZE (fun hc=>?_) (fun hc=>?_)<;>(try simp at hc)<;>(try omega)))
   exact Za ⟨j+1,by show j+1≤vs.length;omega,hRj⟩ (by show vs.length - (j+1)<vs.length - j;omega) ⟨rfl,rfl,rfl,rfl,trivial⟩
 ·rw [List.drop_eq_nil_of_le (by omega)] at hRj
  obtain rfl:R=false:=hRj.symm
  repeat' (first|refine ZG ?_|refine ZF ?_|refine ZJ ?_|refine ZH ?_|refine ZL ?_|refine ZI ?_|refine ZN ?_|refine ZO (fun b=>?_)|refine ZM (fun b=>?_)|refine ZB ?_|refine ZD ?_|refine ZP ?_|(refine ZC (fun hc=>?_) (fun hc=>?_)<;>(try simp at hc)<;>(try omega))|(refine ZE (fun hc=>?_) (fun hc=>?_)<;>(try simp at hc)<;>(try omega)))
  exact ZR () rfl trivial
set_option maxHeartbeats 4000000 in
theorem all_holds (c:Cq) (l:List Cnd) (hbd:l.length≤1000000) (ih:∀d ∈ l,HoI c d) (o:Option Addr) (cap:Nat) (vs:List IV) (hl:vs.length=l.length):Enters 206∧Spec prog 206 #[.agg #[.slice o vs.length cap],cqa c] [Sl 100 ivl o cap vs,CdsF l (vs.map ivOf),MxL] [] (RetV (.bool (allH c l))):=by
 obtain ⟨R,hR⟩:∃R,allH c l=R:=⟨_,rfl⟩
 rw [hR]
 refine ZT [_,_] func206 ntmps206 fun G w hp=>?_
 repeat' (first|refine ZG ?_|refine ZF ?_|refine ZJ ?_|refine ZH ?_|refine ZL ?_|refine ZI ?_|refine ZN ?_|refine ZO (fun b=>?_)|refine ZM (fun b=>?_)|refine ZB ?_|refine ZD ?_|(refine ZC (fun hc=>?_) (fun hc=>?_)<;>(try simp at hc))|(refine ZE (fun hc=>?_) (fun hc=>?_)<;>(try simp at hc)))
 rename_i b2
 refine YJ (X:={j:Nat // j≤vs.length∧allH c (l.drop j)=R}) (fun j=>[(3,pv0 b),(8,.slice o vs.length cap),(9,.int .i64 (vs.length:Int)),(10,.int .i64 (j.1:Int))]) (fun _=>[Sl 100 ivl o cap vs,CdsF l (vs.map ivOf),MxL]) (fun _=>[Pt b (.cells (cqf c).toArray 26)]) (fun j=>vs.length - j.1) ⟨0,Nat.zero_le _,hR⟩ ⟨rfl,rfl,rfl,rfl,trivial⟩ ?_
 rintro ⟨j,hj,hRj⟩
 dsimp only at hj hRj ⊢
 by_cases hlt:j<vs.length
 ·have hxj:=List.getElem?_eq_getElem hlt
  have hltc:j<l.length:=by omega
  have hcj:=List.getElem?_eq_getElem hltc
  rw [List.drop_eq_getElem_cons hltc] at hRj
  have ihd:=ih _ (List.getElem_mem hltc)
  generalize vs[j]=x at *
  generalize l[j]=d at *
  rw [allH] at hRj
  obtain ⟨T,u⟩:=x
  have n1:=ihd (ivOf (T,u))
  refine Zs (F1:=[CdsF l (vs.map ivOf)]) (f:=CdF d (ivOf (T,u))) (fun hp hF=>WF (hF _ (.head _)) hcj (by rw [List.getElem?_map,hxj];rfl)) ?_
  have w1:=wrapi (z:=(j:Int)+1) (by omega) (by omega)
  cases hh:holF c d with
  | false=>
   rw [hh] at n1 hRj
   obtain rfl:R=false:=hRj.symm
   repeat' (first|refine ZG ?_|refine ZF ?_|refine ZJ ?_|refine ZH ?_|refine ZL ?_|refine ZI ?_|refine ZN ?_|refine ZO (fun b=>?_)|refine ZM (fun b=>?_)|refine ZB ?_|refine ZD ?_|refine Zj (es:=vs) (f:=ivl) j _ hxj (fun b off=>?_)|refine Zi ?_|refine l_inv n1 (fun _ _=>?_)|rw [w1]|(refine ZC (fun hc=>?_) (fun hc=>?_)<;>(try simp at hc)<;>(try omega))|(refine ZE (fun hc=>?_) (fun hc=>?_)<;>(try simp at hc)<;>(try omega)))
   exact Zq (Zr (Zk () rfl trivial))
  | true=>
   rw [hh] at n1 hRj
   repeat' (first|refine ZG ?_|refine ZF ?_|refine ZJ ?_|refine ZH ?_|refine ZL ?_|refine ZI ?_|refine ZN ?_|refine ZO (fun b=>?_)|refine ZM (fun b=>?_)|refine ZB ?_|refine ZD ?_|refine Zj (es:=vs) (f:=ivl) j _ hxj (fun b off=>?_)|refine Zi ?_|refine l_inv n1 (fun _ _=>?_)|rw [w1]|(refine ZC (fun hc=>?_) (fun hc=>?_)<;>(try simp at hc)<;>(try omega))|(refine ZE (fun hc=>?_) (fun hc=>?_)<;>(try simp at hc)<;>(try omega)))
   exact Za ⟨j+1,by show j+1≤vs.length;omega,hRj⟩ (by show vs.length - (j+1)<vs.length - j;omega) ⟨rfl,rfl,rfl,rfl,trivial⟩
 ·rw [List.drop_eq_nil_of_le (by omega)] at hRj
  obtain rfl:R=true:=hRj.symm
  repeat' (first|refine ZG ?_|refine ZF ?_|refine ZJ ?_|refine ZH ?_|refine ZL ?_|refine ZI ?_|refine ZN ?_|refine ZO (fun b=>?_)|refine ZM (fun b=>?_)|refine ZB ?_|refine ZD ?_|refine ZP ?_|(refine ZC (fun hc=>?_) (fun hc=>?_)<;>(try simp at hc)<;>(try omega))|(refine ZE (fun hc=>?_) (fun hc=>?_)<;>(try simp at hc)<;>(try omega)))
  exact ZR () rfl trivial
mutual
theorem Vi (c:Cq) (hc:CqS c) {M:Nat} (hM:M≤100000):∀d:Cnd,WfC d→SzC M d→lv d≤1000000→HoI c d
 | .any l,hw,hz,hv,v=>by
  rw [WfC] at hw;rw [SzC] at hz;rw [lv] at hv
  have hll:=Xs l
  refine YZ (X:=Option Addr×Nat×List IV) (Fx:=fun q=>[Sl 100 ivl q.1 q.2.1 q.2.2,CdsF l (q.2.2.map ivOf)]) (p:=fun q=>v = .iface 211 (.agg #[.slice q.1 q.2.2.length q.2.1])∧q.2.2.length=l.length) (fun h hh=>?_) (fun q hq=>?_)
  ·have hh:CdP h (.any l) v:=hh
   rw [CdP] at hh
   obtain ⟨o,cap,vs,h1,h2,h3⟩:=hh
   exact ⟨(o,cap,vs),⟨h1,by have:=WR h3;simpa using this⟩,fun g hg=>by
    simp only [List.mem_cons,List.not_mem_nil,or_false] at hg
    rcases hg with rfl|rfl
    ·exact h2
    ·exact h3⟩
  ·obtain ⟨rfl,hl⟩:=hq
   rw [holF]
   exact VD (f:=201) (by intro w;kernel_rfl) (any_holds c l (by omega) (Ws c hc hM l hw hz (by omega)) _ _ _ hl)
 | .all l,hw,hz,hv,v=>by
  rw [WfC] at hw;rw [SzC] at hz;rw [lv] at hv
  have hll:=Xs l
  refine YZ (X:=Option Addr×Nat×List IV) (Fx:=fun q=>[Sl 100 ivl q.1 q.2.1 q.2.2,CdsF l (q.2.2.map ivOf)]) (p:=fun q=>v = .iface 225 (.agg #[.slice q.1 q.2.2.length q.2.1])∧q.2.2.length=l.length) (fun h hh=>?_) (fun q hq=>?_)
  ·have hh:CdP h (.all l) v:=hh
   rw [CdP] at hh
   obtain ⟨o,cap,vs,h1,h2,h3⟩:=hh
   exact ⟨(o,cap,vs),⟨h1,by have:=WR h3;simpa using this⟩,fun g hg=>by
    simp only [List.mem_cons,List.not_mem_nil,or_false] at hg
    rcases hg with rfl|rfl
    ·exact h2
    ·exact h3⟩
  ·obtain ⟨rfl,hl⟩:=hq
   rw [holF]
   exact VD (f:=206) (by intro w;kernel_rfl) (all_holds c l (by omega) (Ws c hc hM l hw hz (by omega)) _ _ _ hl)
 | .nt d,hw,hz,hv,v=>by
  rw [WfC] at hw;rw [SzC] at hz;rw [lv] at hv
  refine YZ (X:=Value) (Fx:=fun u=>[CdF d u]) (p:=fun u=>v = .iface 223 (.agg #[u])) (fun h hh=>?_) (fun u hq=>?_)
  ·have hh:CdP h (.nt d) v:=hh
   rw [CdP] at hh
   obtain ⟨u,h1,h2⟩:=hh
   exact ⟨u,h1,fun g hg=>by rcases List.mem_singleton.1 hg with rfl;exact h2⟩
  ·subst hq
   rw [holF]
   exact VD (f:=203) (by intro w;kernel_rfl) (not_holds c d u (Vi c hc hM d hw hz (by omega)))
 | .nul,hw,_,_,_=>by rw [WfC] at hw;exact absurd hw id
 | .kd wd k,_,_,_,v=>by
  refine YZ (X:=Nat) (Fx:=fun b=>[Blk b (.cells #[.int .i64 k] 3)]) (p:=fun b=>v=tsv wd 123 #[pv0 b]) (fun h hh=>?_) (fun b hq=>?_)
  ·have hh:CdP h (.kd wd k) v:=hh
   rw [CdP] at hh
   obtain ⟨b,h1,h2⟩:=hh
   exact ⟨b,h1,fun g hg=>by rcases List.mem_singleton.1 hg with rfl;exact h2⟩
  ·subst hq
   rw [holF]
   exact tst_ho ((kind1_ok c b k).imp_right fun h=>specMore h)
 | .ch wd k,_,_,_,v=>by
  refine YZ (X:=Nat) (Fx:=fun b=>[Blk b (.cells #[.int .i64 k] 3)]) (p:=fun b=>v=tsv wd 125 #[pv0 b]) (fun h hh=>?_) (fun b hq=>?_)
  ·have hh:CdP h (.ch wd k) v:=hh
   rw [CdP] at hh
   obtain ⟨b,h1,h2⟩:=hh
   exact ⟨b,h1,fun g hg=>by rcases List.mem_singleton.1 hg with rfl;exact h2⟩
  ·subst hq
   rw [holF]
   exact tst_ho ((channel1_ok c b k).imp_right fun h=>specMore h)
 | .tx wd f k s,hw,hz,_,v=>by
  rw [WfC] at hw;rw [SzC] at hz
  refine YZ (X:=Nat×Nat×Nat) (Fx:=fun q=>[Blk q.1 (.cells #[cmT k] 116),Blk q.2.1 (.cells #[fdT f] 187),Blk q.2.2 (.cells #[.string s] 9)]) (p:=fun q=>v=tsv wd 130 #[pv0 q.1,pv0 q.2.1,pv0 q.2.2]) (fun h hh=>?_) (fun q hq=>?_)
  ·have hh:CdP h (.tx wd f k s) v:=hh
   rw [CdP] at hh
   obtain ⟨b1,b2,b3,h1,h2,h3,h4⟩:=hh
   exact ⟨(b1,b2,b3),h1,fun g hg=>by
    simp only [List.mem_cons,List.not_mem_nil,or_false] at hg
    rcases hg with rfl|rfl|rfl
    ·exact h2
    ·exact h3
    ·exact h4⟩
  ·subst hq
   rw [holF]
   exact tst_ho (text5_ok c hc f k hw.1 hw.2 _ _ _ s)
 | .nm wd f k n,hw,_,_,v=>by
  rw [WfC] at hw
  refine YZ (X:=Nat×Nat×Nat) (Fx:=fun q=>[Blk q.1 (.cells #[cmN k] 37),Blk q.2.1 (.cells #[fdN f] 191),Blk q.2.2 (.cells #[.int .i64 n] 3)]) (p:=fun q=>v=tsv wd 139 #[pv0 q.1,pv0 q.2.1,pv0 q.2.2]) (fun h hh=>?_) (fun q hq=>?_)
  ·have hh:CdP h (.nm wd f k n) v:=hh
   rw [CdP] at hh
   obtain ⟨b1,b2,b3,h1,h2,h3,h4⟩:=hh
   exact ⟨(b1,b2,b3),h1,fun g hg=>by
    simp only [List.mem_cons,List.not_mem_nil,or_false] at hg
    rcases hg with rfl|rfl|rfl
    ·exact h2
    ·exact h3
    ·exact h4⟩
  ·subst hq
   rw [holF]
   exact tst_ho ((number8_ok c f k hw.1 hw.2 _ _ _ n).imp_right fun h=>specMore h)
 | .by_ wd s,_,hz,_,v=>by
  rw [SzC] at hz
  refine YZ (X:=Nat) (Fx:=fun b=>[Blk b (.cells #[.string s] 22)]) (p:=fun b=>v=tsv wd 140 #[pv0 b]) (fun h hh=>?_) (fun b hq=>?_)
  ·have hh:CdP h (.by_ wd s) v:=hh
   rw [CdP] at hh
   obtain ⟨b,h1,h2⟩:=hh
   exact ⟨b,h1,fun g hg=>by rcases List.mem_singleton.1 hg with rfl;exact h2⟩
  ·subst hq
   rw [holF]
   exact tst_ho ((by1_ok c hc b s (by omega)).imp_right fun h=>specMore h)
theorem Ws (c:Cq) (hc:CqS c) {M:Nat} (hM:M≤100000):∀l:List Cnd,WfCs l→SzCs M l→lvs l≤1000000→∀d ∈ l,HoI c d
 | [],_,_,_=>fun d hd=>by cases hd
 | x::l,hw,hz,hv=>fun d hd=>by
  rw [WfCs] at hw;rw [SzCs] at hz;rw [lvs] at hv
  rcases List.mem_cons.1 hd with hd|hd
  ·exact hd ▸ Vi c hc hM x hw.1 hz.1 (by omega)
  ·exact Ws c hc hM l hw.2 hz.2 (by omega) d hd
end
section
variable {n:Nat} {C:Cx} {Q:Exit→Act→World→Prop} {E E':List (Nat×Value)} {F F' F1 Fs F0:List Pf} {R R' R0 Rs N N' A:List HP} {k k':List Fr} {ops l:List Oper} {L L':List (Nat×Nat)} {Tl:List Nat} {i d:Nat} {t ty0:TypeId} {x y z:Operand} {pos:String} {aft:Array Edge} {gd:Option (Nat×Bool)} {α β:Type} [DecidableEq α] {K:α→Value} {V:β→Value}
end
def clmp (a:Int):Int:=if a < -1099511627776 then -1099511627776 else a
theorem clmp_ge (a:Int) : -1099511627776≤clmp a:=by unfold clmp;split<;>omega
theorem clmp_le {a:Int} (h:a≤9223372036854775807):clmp a≤9223372036854775807:=by unfold clmp;split<;>omega
def shO (o:Ou):Ou:=⟨clmp o.ch,cutS o.tg 80,cutS o.tx 3000,clmp o.us⟩
def shF (c:Cq):Cq:=⟨c.kind,cutS c.who 80,clmp c.nu,c.place,shO c.old,clmp c.oldAt,shO c.new,clmp c.newAt⟩
theorem shF_s (c:Cq):CqS (shF c):=by
 constructor
 ·exact Nat.le_trans (Ya _ _) (by omega)
 ·exact Nat.le_trans (Ya _ _) (by omega)
 ·exact Nat.le_trans (Ya _ _) (by omega)
 ·exact Nat.le_trans (Ya _ _) (by omega)
 ·exact Nat.le_trans (Ya _ _) (by omega)
structure CqW (c:Cq):Prop where
 nu:c.nu≤9223372036854775807
 ou:c.old.us≤9223372036854775807
 oa:c.oldAt≤9223372036854775807
 eu:c.new.us≤9223372036854775807
 ea:c.newAt≤9223372036854775807
structure CqJ (c:Cq):Prop where
 i:CqI c
 n0 : -1099511627776≤c.nu
 u0 : -1099511627776≤(subO c).us
 t0 : -1099511627776≤subT c
theorem shF_j {c:Cq} (h:CqW c):CqJ (shF c):=by
 have e:∀k:Prop,∀_:Decidable k,∀a b:Int,(if k then clmp a else clmp b)=clmp (if k then a else b):=fun k _ a b=>by split<;>rfl
 have u1:(subO (shF c)).us=clmp (subO c).us:=by
  unfold subO
  show (if c.kind=4 then shO c.new else shO c.old).us=clmp (if c.kind=4 then c.new else c.old).us
  split<;>rfl
 have t1:subT (shF c)=clmp (subT c):=e _ _ _ _
 have n1:(shF c).nu=clmp c.nu:=rfl
 have u2:(subO c).us≤9223372036854775807:=by
  unfold subO;split
  ·exact h.eu
  ·exact h.ou
 have t2:subT c≤9223372036854775807:=by
  unfold subT;split
  ·exact h.ea
  ·exact h.oa
 have a1:=clmp_ge c.nu;have a2:=clmp_ge (subO c).us;have a3:=clmp_ge (subT c)
 exact ⟨⟨by omega,by rw [n1];exact clmp_le h.nu,by omega,by rw [u1];exact clmp_le u2,by omega,by rw [t1];exact clmp_le t2⟩,by omega,by omega,by omega⟩
def shP (j:Nat) (c:Cq):Cq:=match j with
 | 0=>c
 | 1=>{c with old:=shO c.old}
 | _=>{c with old:=shO c.old,new:=shO c.new}
set_option maxHeartbeats 4000000 in
theorem VV (c:Cq):Enters 13∧Spec prog 13 #[cqa c] [] [] (RetV (cqa (shF c))):=by
 refine ZT [_] func13 ntmps13 fun G w hp=>?_
 repeat' (first|refine ZG ?_|refine ZF ?_|refine ZJ ?_|refine ZH ?_|refine ZL ?_|refine ZI ?_|refine ZN ?_|refine ZO (fun b=>?_)|refine ZM (fun b=>?_)|refine ZB ?_|refine ZD ?_|(refine ZC (fun hc=>?_) (fun hc=>?_)<;>(try simp at hc))|(refine ZE (fun hc=>?_) (fun hc=>?_)<;>(try simp at hc)))
 rename_i b1 b2
 refine Yx (b:=b) (o:=.cells #[.pointer (some ⟨b1,4,none⟩),.pointer (some ⟨b1,9,none⟩)] 75) ?_
 refine Zs (F1:=[Blk b (.cells #[.pointer (some ⟨b1,4,none⟩),.pointer (some ⟨b1,9,none⟩)] 75)]) (f:=Sl 75 (fun v:Value=>[v]) (some ⟨b,0,none⟩) 2 [.pointer (some ⟨b1,4,none⟩),.pointer (some ⟨b1,9,none⟩)]) (fun hp hF=>Xz (hF _ (.head _)) rfl (Nat.le_refl 2)) ?_
 refine YJ (X:={j:Nat // j≤2}) (fun j=>[(1,pv0 b1),(2,pv0 b2),(7,.slice (some ⟨b,0,none⟩) 2 2),(8,.int .i64 2),(9,.int .i64 (j.1:Int))]) (fun _=>[Sl 75 (fun v:Value=>[v]) (some ⟨b,0,none⟩) 2 [.pointer (some ⟨b1,4,none⟩),.pointer (some ⟨b1,9,none⟩)]]) (fun j=>[Pt b2 (.cells (cqf cq0).toArray 26),Pt b1 (.cells (cqf (shP j.1 c)).toArray 26)]) (fun j=>2 - j.1) ⟨0,by omega⟩ ⟨rfl,rfl,rfl,rfl,rfl,trivial⟩ ?_
 rintro ⟨j,hj⟩
 dsimp only
 by_cases h0:j=0
 ·subst h0
  repeat' (first|refine ZG ?_|refine ZF ?_|refine ZJ ?_|refine ZH ?_|refine ZL ?_|refine ZI ?_|refine ZN ?_|refine ZO (fun b=>?_)|refine ZM (fun b=>?_)|refine ZB ?_|refine ZD ?_|refine ZX ?_|refine ZZ ?_|refine Zg ?_|refine ZY ?_|refine ZW ?_|refine Zh (fun b=>?_)|refine Zf (fun b=>?_)|refine Ze ?_|refine ZV ?_|refine Zj (es:=[Value.pointer (some ⟨b1,4,none⟩),.pointer (some ⟨b1,9,none⟩)]) (f:=fun v:Value=>[v]) 0 _ rfl (fun b off=>?_)|refine Zi ?_|refine Y4 80 ?_|refine Y4 3000 ?_|refine r_up ?_|(refine ZC (fun hc=>?_) (fun hc=>?_)<;>(try simp at hc)<;>(try omega))|(refine ZS (fun hc=>?_) (fun hc=>?_)<;>(try simp at hc)<;>(try omega))|refine ZQ 4 [Pt b1 _] [(0,0),(1,0),(2,0),(3,0),(4,0),(6,0),(7,0),(8,0),(13,0),(14,0),(15,0),(17,0),(18,0),(19,0),(5,3),(9,3),(10,0),(11,0),(12,0),(16,3),(20,3),(21,0),(22,0),(23,0),(24,0),(25,0),(26,4),(27,0),(28,0)] [29] ?_|refine ZQ 5 [Pt b1 _] [(0,0),(1,0),(2,0),(3,0),(4,0),(7,0),(8,0),(9,0),(5,3),(6,0),(10,3),(11,0),(12,0),(13,0),(14,4),(15,0),(16,0)] [17] ?_|(refine ZE (fun hc=>?_) (fun hc=>?_)<;>(try simp at hc)<;>(try omega)))
  exact Za ⟨1,by omega⟩ (by show 2 - 1<2 - 0;omega) ⟨rfl,rfl,rfl,rfl,rfl,trivial⟩
 by_cases h1:j=1
 ·subst h1
  repeat' (first|refine ZG ?_|refine ZF ?_|refine ZJ ?_|refine ZH ?_|refine ZL ?_|refine ZI ?_|refine ZN ?_|refine ZO (fun b=>?_)|refine ZM (fun b=>?_)|refine ZB ?_|refine ZD ?_|refine ZX ?_|refine ZZ ?_|refine Zg ?_|refine ZY ?_|refine ZW ?_|refine Zh (fun b=>?_)|refine Zf (fun b=>?_)|refine Ze ?_|refine ZV ?_|refine Zj (es:=[Value.pointer (some ⟨b1,4,none⟩),.pointer (some ⟨b1,9,none⟩)]) (f:=fun v:Value=>[v]) 1 _ rfl (fun b off=>?_)|refine Zi ?_|refine Y4 80 ?_|refine Y4 3000 ?_|refine r_up ?_|(refine ZC (fun hc=>?_) (fun hc=>?_)<;>(try simp at hc)<;>(try omega))|(refine ZS (fun hc=>?_) (fun hc=>?_)<;>(try simp at hc)<;>(try omega))|refine ZQ 4 [Pt b1 _] [(0,0),(1,0),(2,0),(3,0),(4,0),(6,0),(7,0),(8,0),(13,0),(14,0),(15,0),(17,0),(18,0),(19,0),(5,3),(9,3),(10,0),(11,0),(12,0),(16,3),(20,3),(21,0),(22,0),(23,0),(24,0),(25,0),(26,4),(27,0),(28,0)] [29] ?_|refine ZQ 5 [Pt b1 _] [(0,0),(1,0),(2,0),(3,0),(4,0),(7,0),(8,0),(9,0),(5,3),(6,0),(10,3),(11,0),(12,0),(13,0),(14,4),(15,0),(16,0)] [17] ?_|(refine ZE (fun hc=>?_) (fun hc=>?_)<;>(try simp at hc)<;>(try omega)))
  exact Za ⟨2,by omega⟩ (by show 2 - 2<2 - 1;omega) ⟨rfl,rfl,rfl,rfl,rfl,trivial⟩
 ·obtain rfl:j=2:=by omega
  repeat' (first|refine ZG ?_|refine ZF ?_|refine ZJ ?_|refine ZH ?_|refine ZL ?_|refine ZI ?_|refine ZN ?_|refine ZO (fun b=>?_)|refine ZM (fun b=>?_)|refine ZB ?_|refine ZD ?_|refine ZP ?_|refine l_cutS 80 ?_|(refine ZC (fun hc=>?_) (fun hc=>?_)<;>(try simp at hc)<;>(try omega))|(refine ZE (fun hc=>?_) (fun hc=>?_)<;>(try simp at hc)<;>(try omega)))
  exact ZR () rfl trivial
end Go.Proofs.YtodkipbnefngkaaGreatDoor
