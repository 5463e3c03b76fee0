/-
  The program's and the model's parser of the language of rules agree; no program in sight.
  A rule for maps that stay, in a drawn region.
  Package rule: how tests of texts are read.
  The library's contracts, laid at this program: strconv.Itoa.
  Package rule: how tests of numbers are read.
  The parser of rules: what is left is an end of what was there; how many nodes a condition has. No program in sight.
  Package rule: the table of tests; either, both.
  Package rule: both.
  Package rule: factors of conditions.
  Package rule: terms and conditions.
  Rules for the range over a text, and what a rune is.
  A rule for a scope that no jump leaves.
  strings.IndexRune in the text of both braces.
  strings.IndexAny with both braces.
  strings.Cut at a brace; package rule: subject, value.
  Package rule: divide.
  Package rule: Check, Expand, expandedSize.
  Package rule: actions, rules.
  Package rule: a line.
  The parser of rules: where its errors are; the lines of a text. No program in sight.
  The program's and the model's parser of the language of rules agree: conditions, rules, texts; no program in sight.
  The program's and the model's reading of a text of rules agree; no program in sight.
  What the trees of the model and the conditions of the program say of a consequence is the same; what the actions of parsed rules are. No program in sight.
  Conditions that the parser makes: their shape and the sizes of their texts. No program in sight.
  How long a template becomes. No program in sight.
  The first example of the language of rules: what is read, and what it decides. No program in sight.
  The range over a function, whose rounds leave facts and hand something on.
  Conditions: those that each theorem states.
-/
import Derived.Test.YtodkipbnefngkaaGreatDoorL2
import Derived.Shelf.LaysM
import Derived.Shelf.Strconv.Itoa3
import Derived.Test.YtodkipbnefngkaaGreatDoorL1
import Derived.Scope
import Derived.Shelf.Small.Utf8
import Derived.Shelf.Strings.IndexAnyAll
import Derived.Shelf.Strings.Search2
set_option maxRecDepth 10000
namespace Go.Proofs.YtodkipbnefngkaaGreatDoor
open Go.RowKit Go.Proofs.Tryz
section err
variable {p:Ps} (he:p.e≠0) (ht:p.tk=[])
include he in
theorem Zl (i e:Int):p.fail i e=p:=by simp [Ps.fail,he]
include ht in
theorem YN:p.peek=⟨0,ofL [],p.en⟩:=by simp [Ps.peek,ht]
include ht in
theorem W1:p.pass=p:=by cases p;simp only [Ps.pass] at *;subst ht;rfl
include he ht in
theorem Yd (k:Int):p.need k=p:=by
 unfold Ps.need
 split
 ·exact W1 ht
 ·rw [W1 ht,Zl he]
include ht in
theorem pis_err {k:Int} (hk:k≠0) (s:ByteArray):p.is k s=false:=by
 simp [Ps.is,YN ht,Ne.symm hk]
include he ht in
theorem WF (s:ByteArray):p.symb s=p:=by
 unfold Ps.symb
 rw [pis_err ht (by decide),if_neg (by decide),Zl he]
include he ht in
theorem Xr:∀n,(factorF n p).2=p
 | 0=>Zl he _ _
 | n+1=>by
  unfold factorF
  simp only [YN ht]
  rw [if_neg (by decide),if_neg (by decide),if_neg (by decide)]
  simp only [W1 ht,Zl he]
include he ht in
theorem termL_err (n:Nat) (l:List Cnd):termL n l p=(l,p):=by
 cases n with
 | zero=>unfold termL;rw [Zl he]
 | succ n=>unfold termL;rw [pis_err ht (by decide)];rfl
include he ht in
theorem termF_err (n:Nat):(termF n p).2=p:=by
 cases n with
 | zero=>exact Zl he _ _
 | succ n=>
  unfold termF
  have h1:=Xr he ht n
  generalize factorF n p=r at *
  obtain ⟨c,q⟩:=r
  subst h1
  simp only [termL_err he ht]
include he ht in
theorem condL_err (n:Nat) (l:List Cnd):condL n l p=(l,p):=by
 cases n with
 | zero=>unfold condL;rw [Zl he]
 | succ n=>unfold condL;rw [pis_err ht (by decide)];rfl
include he ht in
theorem condF_err (n:Nat):(condF n p).2=p:=by
 cases n with
 | zero=>exact Zl he _ _
 | succ n=>
  unfold condF
  have h1:=termF_err he ht n
  generalize termF n p=r at *
  obtain ⟨c,q⟩:=r
  subst h1
  simp only [condL_err he ht]
end err
section errM
variable {m:Mq} (he:m.e≠0)
include he
theorem YF (e:Int):m.fail e=m:=by simp [Mq.fail,he]
theorem Yv (w:ByteArray):m.word w=false:=by simp [Mq.word,he]
theorem XL (q:Tk→Bool):m.take q=(eB,m):=by simp [Mq.take,he,YF he]
theorem W6:∀n,(factorM n m).2=m
 | 0=>YF he _
 | n+1=>by
  unfold factorM
  rw [Yv he,if_neg (by decide),if_neg (fun h=>he h.1),if_neg (fun h=>he h.1),YF he]
theorem W4 (n:Nat) (l:List Tr5):termN n l m=(l,m):=by
 cases n with
 | zero=>unfold termN;rw [YF he]
 | succ n=>unfold termN;rw [Yv he];rfl
theorem W5 (n:Nat) (l:List Tr5):condN n l m=(l,m):=by
 cases n with
 | zero=>unfold condN;rw [YF he]
 | succ n=>unfold condN;rw [Yv he];rfl
end errM
theorem Zc {p:Ps} {m:Mq} {i e:Int} (he:p.e=0) (hm:m.e=0) (hn:p.en+1=m.en) (hi:i+1=m.col) (h0:e≠0):Sim (p.fail i e) (m.fail e):=by
 unfold Ps.fail Mq.fail
 rw [if_pos he,if_pos hm]
 exact ⟨fun t ht=>(by cases ht),hn,.inr ⟨h0,rfl,hi,rfl⟩⟩
theorem XV {ts:List Tk} {en op pl cl:Int} (h:∀t ∈ ts,TkOK t):Sim ⟨ts,en,op,pl,0⟩ ⟨ts,en+1,op,0,cl⟩:=⟨h,rfl,.inl ⟨rfl,rfl,rfl,rfl⟩⟩
theorem Yg {s:ByteArray}:∀{l:List ByteArray},idx s l<l.length↔s ∈ l
 | []=>by simp [idx]
 | x::l=>by
  unfold idx
  by_cases h:x=s
  ·simp [h]
  ·rw [if_neg h]
   have:=Yg (s:=s) (l:=l)
   simp only [List.length_cons,List.mem_cons]
   constructor
   ·intro h1;exact .inr (this.1 (by omega))
   ·rintro (h1|h1)
    ·exact absurd h1.symm h
    ·have:=this.2 h1;omega
theorem numL_big:∀(l:List UInt8) (n:Int),1073741824<n→numL l n=n
 | [],_,_=>rfl
 | c::l,n,h=>by rw [numL,if_neg (by omega)]
theorem par_ge:∀(l:List UInt8) (a:Nat),(∀x ∈ l,isDgt x=true)→Lib.parseUint10 a l = .range∨∃u,a≤u∧Lib.parseUint10 a l = .ok u
 | [],a,_=>.inr ⟨a,Nat.le_refl _,rfl⟩
 | c::l,a,h=>by
  have hc:48≤c.toNat∧c.toNat≤57:=by simpa [isDgt] using h c (.head _)
  rw [Lib.parseUint10,if_pos hc]
  split
  ·exact .inl rfl
  ·split
   ·exact .inl rfl
   ·rcases par_ge l (a * 10+(c.toNat - 48)) (fun x hx=>h x (.tail _ hx)) with h1|⟨u,h1,h2⟩
    ·exact .inl h1
    ·exact .inr ⟨u,by omega,h2⟩
theorem num_par:∀(l:List UInt8) (a:Nat),(∀x ∈ l,isDgt x=true)→(a:Int)≤1073741824→
  (numL l a≤1073741824∧0≤numL l a∧Lib.parseUint10 a l = .ok (numL l a).toNat)∨(1073741824<numL l a∧(Lib.parseUint10 a l = .range∨∃u,1073741824<u∧Lib.parseUint10 a l = .ok u))
 | [],a,_,ha=>.inl ⟨ha,by simp [numL],by simp [numL,Lib.parseUint10]⟩
 | c::l,a,h,ha=>by
  have hc:48≤c.toNat∧c.toNat≤57:=by simpa [isDgt] using h c (.head _)
  have hl:∀x ∈ l,isDgt x=true:=fun x hx=>h x (.tail _ hx)
  rw [Lib.parseUint10,if_pos hc,if_neg (by omega),if_neg (by omega),numL,if_pos ha]
  have e:(10 * (a:Int)+c.toNat - 48)=((a * 10+(c.toNat - 48):Nat):Int):=by omega
  rw [e]
  by_cases h2:a * 10+(c.toNat - 48)≤1073741824
  ·exact num_par l _ hl (by omega)
  ·have hb:=numL_big l ((a * 10+(c.toNat - 48):Nat):Int) (by omega)
   refine Or.inr (And.intro (by omega) ?_)
   rcases par_ge l (a * 10+(c.toNat - 48)) hl with h1|⟨u,h1,h3⟩
   ·exact .inl h1
   ·exact .inr ⟨u,by omega,h3⟩
theorem ato_num {s:ByteArray} (h0:s.data.toList≠[]) (h:∀x ∈ s.data.toList,isDgt x=true) :
  ((atoF s).2=false∨1073741824<(atoF s).1)↔1073741824<numL s.data.toList 0:=by
 have:=num_par s.data.toList 0 h (by decide)
 unfold atoF Lib.atoiAll
 generalize s.data.toList=l at *
 cases l with
 | nil=>exact absurd rfl h0
 | cons c r=>
  have hc:48≤c.toNat∧c.toNat≤57:=by simpa [isDgt] using h c (.head _)
  have e1:¬(c.toNat=43):=by omega
  have e2:¬(c.toNat=45):=by omega
  simp only [e1,e2,or_self,if_false,Lib.parseMag,List.cons_ne_nil,not_false_eq_true,true_and,false_and]
  rcases this with ⟨h1,h2,h3⟩|⟨h1,h3|⟨u,h2,h3⟩⟩
  ·have h3':Lib.parseUint10 0 (c::r) = .ok (numL (c::r) 0).toNat:=h3
   have h1':numL (c::r) 0≤1073741824:=h1
   have h2':0≤numL (c::r) 0:=h2
   rw [h3']
   dsimp only
   rw [if_neg (by omega)]
   dsimp only
   constructor
   ·rintro (h|h)
    ·cases h
    ·omega
   ·intro h;omega
  ·have h3':Lib.parseUint10 0 (c::r) = .range:=h3
   have h1':1073741824<numL (c::r) 0:=h1
   rw [h3']
   simp [h1']
  ·have h3':Lib.parseUint10 0 (c::r) = .ok u:=h3
   have h1':1073741824<numL (c::r) 0:=h1
   rw [h3']
   dsimp only
   by_cases h5:9223372036854775808≤u
   ·rw [if_pos h5];simp [h1']
   ·rw [if_neg h5]
    dsimp only
    constructor
    ·intro _;exact h1'
    ·intro _;right;omega
theorem ato_val {s:ByteArray} (h0:s.data.toList≠[]) (h:∀x ∈ s.data.toList,isDgt x=true) (hn:¬1073741824<numL s.data.toList 0):(atoF s).1=numL s.data.toList 0:=by
 have:=num_par s.data.toList 0 h (by decide)
 unfold atoF Lib.atoiAll
 generalize s.data.toList=l at *
 cases l with
 | nil=>exact absurd rfl h0
 | cons c r=>
  have hc:48≤c.toNat∧c.toNat≤57:=by simpa [isDgt] using h c (.head _)
  have e1:¬(c.toNat=43):=by omega
  have e2:¬(c.toNat=45):=by omega
  simp only [e1,e2,or_self,if_false,Lib.parseMag,List.cons_ne_nil,not_false_eq_true,true_and,false_and]
  rcases this with ⟨h1,h2,h3⟩|⟨h1,_⟩
  ·have h3':Lib.parseUint10 0 (c::r) = .ok (numL (c::r) 0).toNat:=h3
   have h1':numL (c::r) 0≤1073741824:=h1
   have h2':0≤numL (c::r) 0:=h2
   rw [h3']
   dsimp only
   rw [if_neg (by omega)]
   dsimp only
   omega
  ·exact absurd h1 hn
theorem sim_num {ts:List Tk} {en op pl cl:Int} (h:∀t ∈ ts,TkOK t) :
  Sim (numF ⟨ts,en,op,pl,0⟩).2 (numM ⟨ts,en+1,op,0,cl⟩).2∧((numF ⟨ts,en,op,pl,0⟩).2.e=0→(numF ⟨ts,en,op,pl,0⟩).1=(numM ⟨ts,en+1,op,0,cl⟩).1):=by
 cases ts with
 | nil=>
  have e1:numF ⟨[],en,op,pl,0⟩=((atoF (ofL [])).1,(⟨[],en,op,pl,0⟩:Ps).fail en 30):=by
   unfold numF
   have hp:(⟨[],en,op,pl,0⟩:Ps).need 2=(⟨[],en,op,pl,0⟩:Ps).fail en 30:=by simp [Ps.need,Ps.peek,Ps.pass]
   simp only [hp]
   have h0:(Ps.fail ⟨[],en,op,pl,0⟩ en 30).e≠0:=by simp [Ps.fail]
   simp only [Zl h0,ite_self]
   rfl
  have e2:numM ⟨[],en+1,op,0,cl⟩=(0,(⟨[],en+1,op,0,cl⟩:Mq).fail 30):=by
   unfold numM
   rw [if_pos (.inr rfl)]
  rw [e1,e2]
  exact ⟨Zc rfl rfl rfl rfl (by decide),fun h=>by simp [Ps.fail] at h⟩
 | cons t ts=>
  by_cases hk:t.kd=2
  ·have hok:=(h t (.head _)).2 hk
   have hp:(⟨t::ts,en,op,pl,0⟩:Ps).need 2=⟨ts,en,op,pl,0⟩:=by
    simp [Ps.need,Ps.peek,hk,Ps.pass]
   have hm:(⟨t::ts,en+1,op,0,cl⟩:Mq).has (fun t=>decide (t.kd=2))=true:=by simp [Mq.has,hk]
   unfold numF numM
   simp only [hp,hm]
   simp only [Ps.peek,Mq.hd,ne_eq,not_true_eq_false,false_or,Bool.true_eq_false,if_false]
   by_cases hb:badN t.tx=true
   ·simp only [hb,if_true]
    have h0:(Ps.fail ⟨ts,en,op,pl,0⟩ t.pl 3).e≠0:=by simp [Ps.fail]
    simp only [Zl h0,ite_self]
    exact ⟨Zc rfl rfl rfl rfl (by decide),fun h=>absurd h h0⟩
   ·have hb':badN t.tx=false:=by simpa using hb
    simp only [hb',Bool.false_eq_true,if_false]
    have hd:∀x ∈ t.tx.data.toList,isDgt x=true:=by
     intro x hx
     have h1:=hok.2 x hx
     simp only [inNum,Bool.or_eq_true,beq_iff_eq] at h1
     rcases h1 with h1|h1
     ·exact h1
     ·exfalso;apply hb
      unfold badN
      rw [Bool.or_eq_true];left
      rw [List.contains_iff_mem]
      rw [←h1];exact hx
    have ha:=ato_num hok.1 hd
    by_cases hr:1073741824<numL t.tx.data.toList 0
    ·have hq:=ha.2 hr
     simp only [hq,hr,if_true]
     exact ⟨Zc rfl rfl rfl rfl (by decide),fun h=>by simp [Ps.fail] at h⟩
    ·have hn:¬((atoF t.tx).2=false∨1073741824<(atoF t.tx).1):=fun h=>hr (ha.1 h)
     simp only [hn,hr,if_false]
     exact ⟨XV fun t ht=>h t (.tail _ ht),fun _=>ato_val hok.1 hd hr⟩
  ·have e2:numM ⟨t::ts,en+1,op,0,cl⟩=(0,(⟨t::ts,en+1,op,0,cl⟩:Mq).fail 30):=by
    unfold numM
    rw [if_pos (.inr (by simp [Mq.has,hk]))]
   have e1:numF ⟨t::ts,en,op,pl,0⟩=((atoF t.tx).1,(⟨ts,en,op,pl,0⟩:Ps).fail t.pl 30):=by
    unfold numF
    have hp:(⟨t::ts,en,op,pl,0⟩:Ps).need 2=(⟨ts,en,op,pl,0⟩:Ps).fail t.pl 30:=by simp [Ps.need,Ps.peek,hk,Ps.pass]
    simp only [hp]
    have h0:(Ps.fail ⟨ts,en,op,pl,0⟩ t.pl 30).e≠0:=by simp [Ps.fail]
    simp only [Zl h0,ite_self]
    rfl
   rw [e1,e2]
   exact ⟨Zc rfl rfl rfl rfl (by decide),fun h=>by simp [Ps.fail] at h⟩
theorem tst_ne {w:ByteArray} (h:isTst w=true):w≠wOr∧w≠wAnd∧w≠wNot:=by
 refine ⟨?_,?_,?_⟩<;>(rintro rfl;exact absurd h (by decide))
theorem kinds_x:∀w ∈ wKinds,w≠wChan∧¬idx w wTxs<3∧¬idx w wNms<4:=by decide
theorem txs_x:∀w ∈ wTxs,¬idx w wNms<4:=by decide
theorem chan_x:¬idx wChan wTxs<3∧¬idx wChan wNms<4:=by decide
theorem WU {w:ByteArray} (h:isTst w=true) (l:List Tr5) (rel tx:ByteArray) (n:Int):toC (.mk w l rel tx n) =
  if idx w wKinds<3 then .kd w ((idx w wKinds:Nat)+2)
  else if w=wChan then .ch (w++wSp++rel) n
  else if idx w wTxs<3 then .tx (w++wSp++rel++wSp++quoF tx) (idx w wTxs) (idx rel wCts) tx
  else if idx w wNms<4 then .nm (w++wSp++rel++wSp++ofL (Lib.itoa n)) (idx w wNms) (idx rel yCns) n
  else .by_ (w++wSp++tx) tx:=by
 obtain ⟨h1,h2,h3⟩:=tst_ne h
 rw [toC,if_neg h1,if_neg h2,if_neg h3]
theorem wf_tst {w:ByteArray} (h:isTst w=true) {rel tx:ByteArray} {n:Int} (h1:idx w wTxs<3→idx rel wCts<3) (h2:idx w wNms<4→idx rel yCns<3):WfT (.mk w [] rel tx n):=by
 obtain ⟨a,b,c⟩:=tst_ne h
 rw [WfT,if_neg (by rintro (h|h);exact a h;exact b h),if_neg c]
 exact ⟨rfl,h,h1,h2⟩
section
variable {ts:List Tk} {t:Tk} {en op pl cl:Int}
theorem Yy {k:Int} (hk:k≠0):(⟨[],en,op,pl,0⟩:Ps).need k=(⟨[],en,op,pl,0⟩:Ps).fail en 30:=by simp [Ps.need,Ps.peek,Ps.pass,Ne.symm hk]
theorem Y7 {k:Int} (hk:t.kd=k):(⟨t::ts,en,op,pl,0⟩:Ps).need k=⟨ts,en,op,pl,0⟩:=by simp [Ps.need,Ps.peek,hk,Ps.pass]
theorem XU {k:Int} (hk:t.kd≠k):(⟨t::ts,en,op,pl,0⟩:Ps).need k=(⟨ts,en,op,pl,0⟩:Ps).fail t.pl 30:=by simp [Ps.need,Ps.peek,hk,Ps.pass]
theorem Zs {p:Ps} {i e:Int} (h0:e≠0):(p.fail i e).e≠0:=by
 unfold Ps.fail;split
 ·exact h0
 ·assumption
theorem WI {p:Ps} {i e:Int} (h:p.e=0):(p.fail i e).tk=[]:=by simp [Ps.fail,h]
theorem Y2:(⟨[],en,op,pl,0⟩:Ps).peek=⟨0,ofL [],en⟩:=rfl
theorem YL:(⟨t::ts,en,op,pl,0⟩:Ps).peek=t:=rfl
end
theorem ff {i j e f:Int} {p:Ps} (h0:e≠0):(p.fail i e).fail j f=p.fail i e:=Zl (Zs h0) _ _
theorem sim_test {w:ByteArray} (hw:isTst w=true) {ts:List Tk} {en op pl cl:Int} (h:∀t ∈ ts,TkOK t) :
  Sim (testF w ⟨ts,en,op,pl,0⟩).2 (tstM w ⟨ts,en+1,op,0,cl⟩).2∧((testF w ⟨ts,en,op,pl,0⟩).2.e=0→(testF w ⟨ts,en,op,pl,0⟩).1=toC (tstM w ⟨ts,en+1,op,0,cl⟩).1∧WfT (tstM w ⟨ts,en+1,op,0,cl⟩).1):=by
 unfold testF tstM
 by_cases h1:idx w wKinds<3
 ·rw [if_pos h1,if_pos h1]
  obtain ⟨x1,x2,x3⟩:=kinds_x w (Yg.1 h1)
  refine ⟨XV h,fun _=>⟨?_,wf_tst hw (fun h=>absurd h x2) (fun h=>absurd h x3)⟩⟩
  rw [WU hw,if_pos h1]
 rw [if_neg h1,if_neg h1]
 by_cases h2:w=wChan
 ·rw [if_pos h2,if_pos h2]
  have x2:¬idx w wTxs<3:=by rw [h2];exact chan_x.1
  have x3:¬idx w wNms<4:=by rw [h2];exact chan_x.2
  cases ts with
  | nil=>
   simp only [Y2,Yy (show (1:Int)≠0 by decide),ff (show (30:Int)≠0 by decide),ite_self]
   exact ⟨Zc rfl rfl rfl rfl (by decide),fun h=>absurd h (Zs (by decide))⟩
  | cons t ts=>
   simp only [YL]
   by_cases hk:t.kd=1
   ·rw [Y7 hk]
    by_cases hi:idx t.tx wChs<4
    ·have e:(⟨t::ts,en+1,op,0,cl⟩:Mq).has (fun t=>decide (t.kd=1) && decide (idx t.tx wChs<4))=true:=by simp [Mq.has,hk,hi]
     rw [if_pos e]
     simp only [hi,if_true]
     refine ⟨XV fun t ht=>h t (.tail _ ht),fun _=>⟨?_,wf_tst hw (fun h=>absurd h x2) (fun h=>absurd h x3)⟩⟩
     rw [WU hw,if_neg h1,if_pos h2];rfl
    ·have e:¬(⟨t::ts,en+1,op,0,cl⟩:Mq).has (fun t=>decide (t.kd=1) && decide (idx t.tx wChs<4))=true:=by simp [Mq.has,hi]
     rw [if_neg e]
     simp only [hi,if_false]
     exact ⟨Zc rfl rfl rfl rfl (by decide),fun h=>absurd h (Zs (by decide))⟩
   ·rw [XU hk]
    have e:¬(⟨t::ts,en+1,op,0,cl⟩:Mq).has (fun t=>decide (t.kd=1) && decide (idx t.tx wChs<4))=true:=by simp [Mq.has,hk]
    rw [if_neg e]
    simp only [ff (show (30:Int)≠0 by decide),ite_self]
    exact ⟨Zc rfl rfl rfl rfl (by decide),fun h=>absurd h (Zs (by decide))⟩
 rw [if_neg h2,if_neg h2]
 by_cases h3:idx w wTxs<3
 ·rw [if_pos h3,if_pos h3]
  have x3:=txs_x w (Yg.1 h3)
  cases ts with
  | nil=>
   have he:((⟨[],en,op,pl,0⟩:Ps).fail en 30).e≠0:=Zs (by decide)
   have ht:((⟨[],en,op,pl,0⟩:Ps).fail en 30).tk=[]:=WI rfl
   simp only [Y2,Yy (show (1:Int)≠0 by decide),ff (show (30:Int)≠0 by decide),ite_self,Yd he ht]
   exact ⟨Zc rfl rfl rfl rfl (by decide),fun h=>absurd h he⟩
  | cons t ts=>
   have he:((⟨ts,en,op,pl,0⟩:Ps).fail t.pl 30).e≠0:=Zs (by decide)
   have ht:((⟨ts,en,op,pl,0⟩:Ps).fail t.pl 30).tk=[]:=WI rfl
   simp only [YL]
   by_cases hk:t.kd=1
   ·rw [Y7 hk]
    by_cases hi:idx t.tx wCts<3
    ·have e:(⟨t::ts,en+1,op,0,cl⟩:Mq).has (fun t=>decide (t.kd=1) && decide (idx t.tx wCts<3))=true:=by simp [Mq.has,hk,hi]
     rw [if_pos e]
     simp only [hi,if_true]
     have e2:(⟨t::ts,en+1,op,0,cl⟩:Mq).pass=⟨ts,en+1,op,0,cl⟩:=rfl
     have e3:(⟨t::ts,en+1,op,0,cl⟩:Mq).hd=t.tx:=rfl
     rw [e2,e3]
     have wf:∀tx n,WfT (.mk w [] t.tx tx n):=fun tx n=>wf_tst hw (fun _=>hi) (fun h=>absurd h x3)
     cases ts with
     | nil=>
      rw [Yy (by decide)]
      have e4:(⟨[],en+1,op,0,cl⟩:Mq).take (fun t=>decide (t.kd=3))=(eB,(⟨[],en+1,op,0,cl⟩:Mq).fail 30):=by simp [Mq.take,Mq.has]
      rw [e4]
      exact ⟨Zc rfl rfl rfl rfl (by decide),fun h=>absurd h (Zs (by decide))⟩
     | cons u ts=>
      by_cases hu:u.kd=3
      ·rw [Y7 hu]
       have e4:(⟨u::ts,en+1,op,0,cl⟩:Mq).take (fun t=>decide (t.kd=3))=(u.tx,⟨ts,en+1,op,0,cl⟩):=by simp [Mq.take,Mq.has,hu,Mq.hd,Mq.pass]
       rw [e4]
       refine ⟨XV fun t ht=>h t (.tail _ (.tail _ ht)),fun _=>⟨?_,wf _ _⟩⟩
       rw [WU hw,if_neg h1,if_neg h2,if_pos h3];rfl
      ·rw [XU hu]
       have e4:(⟨u::ts,en+1,op,0,cl⟩:Mq).take (fun t=>decide (t.kd=3))=(eB,(⟨u::ts,en+1,op,0,cl⟩:Mq).fail 30):=by simp [Mq.take,Mq.has,hu]
       rw [e4]
       exact ⟨Zc rfl rfl rfl rfl (by decide),fun h=>absurd h (Zs (by decide))⟩
    ·have e:¬(⟨t::ts,en+1,op,0,cl⟩:Mq).has (fun t=>decide (t.kd=1) && decide (idx t.tx wCts<3))=true:=by simp [Mq.has,hi]
     rw [if_neg e]
     simp only [hi,if_false,Yd he ht]
     exact ⟨Zc rfl rfl rfl rfl (by decide),fun h=>absurd h he⟩
   ·rw [XU hk]
    have e:¬(⟨t::ts,en+1,op,0,cl⟩:Mq).has (fun t=>decide (t.kd=1) && decide (idx t.tx wCts<3))=true:=by simp [Mq.has,hk]
    rw [if_neg e]
    simp only [ff (show (30:Int)≠0 by decide),ite_self,Yd he ht]
    exact ⟨Zc rfl rfl rfl rfl (by decide),fun h=>absurd h he⟩
 rw [if_neg h3,if_neg h3]
 by_cases h4:idx w wNms<4
 ·rw [if_pos h4,if_pos h4]
  have nerr:∀{p:Ps},p.e≠0→p.tk=[]→(numF p).2=p:=fun {p} he ht=>by
   unfold numF
   simp only [Yd he ht,Zl he,ite_self]
  cases ts with
  | nil=>
   have he:((⟨[],en,op,pl,0⟩:Ps).fail en 30).e≠0:=Zs (by decide)
   have ht:((⟨[],en,op,pl,0⟩:Ps).fail en 30).tk=[]:=WI rfl
   simp only [Y2,Yy (show (4:Int)≠0 by decide),ff (show (30:Int)≠0 by decide),ite_self,nerr he ht]
   exact ⟨Zc rfl rfl rfl rfl (by decide),fun h=>absurd h he⟩
  | cons t ts=>
   have he:((⟨ts,en,op,pl,0⟩:Ps).fail t.pl 30).e≠0:=Zs (by decide)
   have ht:((⟨ts,en,op,pl,0⟩:Ps).fail t.pl 30).tk=[]:=WI rfl
   simp only [YL]
   by_cases hk:t.kd=4
   ·rw [Y7 hk]
    by_cases hi:idx t.tx yCns<3
    ·have e:(⟨t::ts,en+1,op,0,cl⟩:Mq).has (fun t=>decide (t.kd=4) && decide (idx t.tx yCns<3))=true:=by simp [Mq.has,hk,hi]
     rw [if_pos e]
     simp only [hi,if_true]
     have e2:(⟨t::ts,en+1,op,0,cl⟩:Mq).pass=⟨ts,en+1,op,0,cl⟩:=rfl
     have e3:(⟨t::ts,en+1,op,0,cl⟩:Mq).hd=t.tx:=rfl
     rw [e2,e3]
     obtain ⟨s1,s2⟩:=sim_num (ts:=ts) (en:=en) (op:=op) (pl:=pl) (cl:=cl) fun t ht=>h t (.tail _ ht)
     refine ⟨s1,fun hz=>⟨?_,wf_tst hw (fun h=>absurd h h3) (fun _=>hi)⟩⟩
     rw [WU hw,if_neg h1,if_neg h2,if_neg h3,if_pos h4,s2 hz]
    ·have e:¬(⟨t::ts,en+1,op,0,cl⟩:Mq).has (fun t=>decide (t.kd=4) && decide (idx t.tx yCns<3))=true:=by simp [Mq.has,hi]
     rw [if_neg e]
     simp only [hi,if_false,nerr he ht]
     exact ⟨Zc rfl rfl rfl rfl (by decide),fun h=>absurd h he⟩
   ·rw [XU hk]
    have e:¬(⟨t::ts,en+1,op,0,cl⟩:Mq).has (fun t=>decide (t.kd=4) && decide (idx t.tx yCns<3))=true:=by simp [Mq.has,hk]
    rw [if_neg e]
    simp only [ff (show (30:Int)≠0 by decide),ite_self,nerr he ht]
    exact ⟨Zc rfl rfl rfl rfl (by decide),fun h=>absurd h he⟩
 rw [if_neg h4,if_neg h4]
 have wf:∀tx n,WfT (.mk w [] eB tx n):=fun tx n=>wf_tst hw (fun h=>absurd h h3) (fun h=>absurd h h4)
 cases ts with
 | nil=>
  have e:¬(⟨[],en+1,op,0,cl⟩:Mq).has (fun t=>decide (t.kd=2) && !lvalid t.tx.data.toList)=true:=by simp [Mq.has]
  have e4:(⟨[],en+1,op,0,cl⟩:Mq).take (fun t=>decide (t.kd=2))=(eB,(⟨[],en+1,op,0,cl⟩:Mq).fail 30):=by simp [Mq.take,Mq.has]
  simp only [Y2,Yy (show (2:Int)≠0 by decide),ff (show (30:Int)≠0 by decide),ite_self,if_neg e,e4]
  exact ⟨Zc rfl rfl rfl rfl (by decide),fun h=>absurd h (Zs (by decide))⟩
 | cons t ts=>
  simp only [YL]
  by_cases hk:t.kd=2
  ·rw [Y7 hk]
   by_cases hv:lvalid t.tx.data.toList=true
   ·have e:¬(⟨t::ts,en+1,op,0,cl⟩:Mq).has (fun t=>decide (t.kd=2) && !lvalid t.tx.data.toList)=true:=by simp [Mq.has,hv]
    have e4:(⟨t::ts,en+1,op,0,cl⟩:Mq).take (fun t=>decide (t.kd=2))=(t.tx,⟨ts,en+1,op,0,cl⟩):=by simp [Mq.take,Mq.has,hk,Mq.hd,Mq.pass]
    rw [if_neg e,e4]
    simp only [hv,if_true]
    refine ⟨XV fun t ht=>h t (.tail _ ht),fun _=>⟨?_,wf _ _⟩⟩
    rw [WU hw,if_neg h1,if_neg h2,if_neg h3,if_neg h4]
   ·have e:(⟨t::ts,en+1,op,0,cl⟩:Mq).has (fun t=>decide (t.kd=2) && !lvalid t.tx.data.toList)=true:=by simp [Mq.has,hk,hv]
    have e5:((⟨t::ts,en+1,op,0,cl⟩:Mq).fail 12).e≠0:=by simp [Mq.fail]
    rw [if_pos e,XL e5]
    simp only [hv,Bool.false_eq_true,if_false]
    exact ⟨Zc rfl rfl rfl rfl (by decide),fun h=>absurd h (Zs (by decide))⟩
  ·rw [XU hk]
   have e:¬(⟨t::ts,en+1,op,0,cl⟩:Mq).has (fun t=>decide (t.kd=2) && !lvalid t.tx.data.toList)=true:=by simp [Mq.has,hk]
   have e4:(⟨t::ts,en+1,op,0,cl⟩:Mq).take (fun t=>decide (t.kd=2))=(eB,(⟨t::ts,en+1,op,0,cl⟩:Mq).fail 30):=by simp [Mq.take,Mq.has,hk]
   rw [if_neg e,e4]
   simp only [ff (show (30:Int)≠0 by decide),ite_self]
   exact ⟨Zc rfl rfl rfl rfl (by decide),fun h=>absurd h (Zs (by decide))⟩
section
variable {n:Nat} {C:Cx} {Q:Exit→Act→World→Prop} {E E':List (Nat×Value)} {F F' F1 Fs F0:List Pf} {R R' R0 Rs N N' A:List HP} {k k':List Fr} {ops l:List Oper} {L L':List (Nat×Nat)} {Tl:List Nat} {i d:Nat} {t ty0:TypeId} {x y z:Operand} {pos:String} {aft:Array Edge} {gd:Option (Nat×Bool)} {α β:Type} [DecidableEq α] {K:α→Value} {V:β→Value}
theorem r_mgetG {kt et r:Nat} {rs te:TRow} {m:List (α×β)} {zv:Value} (hk:KeyOK kt K) (a:α) (o:Option β) (ho:mget a m=o) (nx:Wr n C ops k Q Tl Fs R L ((d,(o.map V).getD zv)::E) F N)
  (hop:nth ops i=some ⟨some d,.lookup t x y false,ty0,pos,aft,gd⟩:=by rfl) (hw:wantL ops E ⟨some d,.lookup t x y false,ty0,pos,aft,gd⟩=some true:=by rfl)
  (hx:ev E x=some (.map (some r)):=by rfl) (hy:ev E y=some (K a):=by rfl) (hts:lookT tab t=some rs:=by rfl) (hrs:rs.k = .map kt et:=by rfl) (hte:lookT tab et=some te:=by rfl) (hzv:zval te=some zv:=by rfl)
  (hs:Sel (Mp K V r m) R R0:=by (repeat (first|exact Sel.here|apply Sel.there));first|done|fail):Wr n C ops k Q Tl Fs R ((i,0)::L) E F N:=
 YQ hop fun hp hr w st hz sb=>by
  simp only [Zm hw]
  refine ⟨(o.map V).getD zv,fun ac w ha hin=>?_,nx hp hr w st hz sb⟩
  obtain ⟨h1,h2,_,s1,_,hmp,_⟩:=hs.sep st.r
  obtain ⟨es,clock,hes,he,hB⟩:=hmp
  have hb:w.heap[r]? = some (.map es clock):=hin _ _ (sb _ _ (ZV _ _ _ _ (s1 _ _ hes)))
  have hu:=Xt (w:=w) hts hrs
  have hg:(getObj r).run prog w = .ok (.map es clock) w:=by simp [getObj,Sem.run,hb]
  have hc:=hk.chk a es.isEmpty w
  have hf:=Y5 hk a es.toList m w he
  have hz0:=Wj hte hzv w
  have hfg:=XH a m 0
  simp only [execOp,ha.ev (x:=x) (by rw [ZP];exact hx),ha.ev (x:=y) (by rw [ZP];exact hy),Instr.lookup,Sem.run_bind,hu,Result.andThen,hg,hc,hf,Sem.run_pure]
  cases hm:mfind a m 0 with
  | none=>
   rw [hm] at hfg
   simp only [Option.map_none,Sem.run_bind,hz0,Result.andThen,Sem.run_pure,Bool.false_eq_true,if_false]
   rw [←ho,←hfg];rfl
  | some q=>
   rw [hm] at hfg
   simp only [Option.map_some,Bool.false_eq_true,if_false]
   rw [←ho,←hfg];rfl
theorem XK {kt et r:Nat} {rs te:TRow} {m:List (α×β)} {zv:Value} (hk:KeyOK kt K) (a:α) (o:Option β) (ho:mget a m=o) (nx:Wr n C ops k Q Tl Fs R L ((d,.tuple #[(o.map V).getD zv,.bool o.isSome])::E) F N)
  (hop:nth ops i=some ⟨some d,.lookup t x y true,ty0,pos,aft,gd⟩:=by rfl) (hw:wantL ops E ⟨some d,.lookup t x y true,ty0,pos,aft,gd⟩=some true:=by rfl)
  (hx:ev E x=some (.map (some r)):=by rfl) (hy:ev E y=some (K a):=by rfl) (hts:lookT tab t=some rs:=by rfl) (hrs:rs.k = .map kt et:=by rfl) (hte:lookT tab et=some te:=by rfl) (hzv:zval te=some zv:=by rfl)
  (hs:Sel (Mp K V r m) R R0:=by (repeat (first|exact Sel.here|apply Sel.there));first|done|fail):Wr n C ops k Q Tl Fs R ((i,0)::L) E F N:=
 YQ hop fun hp hr w st hz sb=>by
  simp only [Zm hw]
  refine ⟨.tuple #[(o.map V).getD zv,.bool o.isSome],fun ac w ha hin=>?_,nx hp hr w st hz sb⟩
  obtain ⟨h1,h2,_,s1,_,hmp,_⟩:=hs.sep st.r
  obtain ⟨es,clock,hes,he,hB⟩:=hmp
  have hb:w.heap[r]? = some (.map es clock):=hin _ _ (sb _ _ (ZV _ _ _ _ (s1 _ _ hes)))
  have hu:=Xt (w:=w) hts hrs
  have hg:(getObj r).run prog w = .ok (.map es clock) w:=by simp [getObj,Sem.run,hb]
  have hc:=hk.chk a es.isEmpty w
  have hf:=Y5 hk a es.toList m w he
  have hz0:=Wj hte hzv w
  have hfg:=XH a m 0
  simp only [execOp,ha.ev (x:=x) (by rw [ZP];exact hx),ha.ev (x:=y) (by rw [ZP];exact hy),Instr.lookup,Sem.run_bind,hu,Result.andThen,hg,hc,hf,Sem.run_pure]
  cases hm:mfind a m 0 with
  | none=>
   rw [hm] at hfg
   simp only [Option.map_none,Sem.run_bind,hz0,Result.andThen,Sem.run_pure,if_true]
   rw [←ho,←hfg];rfl
  | some q=>
   rw [hm] at hfg
   simp only [Option.map_some,if_true]
   rw [←ho,←hfg];rfl
end
def vid (v:Value):Value:=v
theorem mget_cts (w:ByteArray) (a b c:Value):(mget w (mset (⟨#[98,101,103,105,110,115]⟩:ByteArray) c (mset (⟨#[104,97,115]⟩:ByteArray) b (mset (⟨#[105,115]⟩:ByteArray) a []))))=if idx w wCts=0 then some a else if idx w wCts=1 then some b else if idx w wCts=2 then some c else none:=by
 have e:(mset (⟨#[98,101,103,105,110,115]⟩:ByteArray) c (mset (⟨#[104,97,115]⟩:ByteArray) b (mset (⟨#[105,115]⟩:ByteArray) a [])))=[(⟨#[105,115]⟩,a),(⟨#[104,97,115]⟩,b),(⟨#[98,101,103,105,110,115]⟩,c)]:=rfl
 rw [e]
 by_cases h1:w=⟨#[105,115]⟩
 ·subst h1;rfl
 by_cases h2:w=⟨#[104,97,115]⟩
 ·subst h2;rfl
 by_cases h3:w=⟨#[98,101,103,105,110,115]⟩
 ·subst h3;rfl
 have e2:idx w wCts=3:=by simp [wCts,idx,Ne.symm h1,Ne.symm h2,Ne.symm h3]
 rw [e2]
 simp [mget,h1,h2,h3]
theorem mget_txs (w:ByteArray) (a b c:Value):(mget w (mset (⟨#[97,102,116,101,114]⟩:ByteArray) c (mset (⟨#[98,101,102,111,114,101]⟩:ByteArray) b (mset (⟨#[116,97,114,103,101,116]⟩:ByteArray) a []))))=if idx w wTxs=0 then some a else if idx w wTxs=1 then some b else if idx w wTxs=2 then some c else none:=by
 have e:(mset (⟨#[97,102,116,101,114]⟩:ByteArray) c (mset (⟨#[98,101,102,111,114,101]⟩:ByteArray) b (mset (⟨#[116,97,114,103,101,116]⟩:ByteArray) a [])))=[(⟨#[116,97,114,103,101,116]⟩,a),(⟨#[98,101,102,111,114,101]⟩,b),(⟨#[97,102,116,101,114]⟩,c)]:=rfl
 rw [e]
 by_cases h1:w=⟨#[116,97,114,103,101,116]⟩
 ·subst h1;rfl
 by_cases h2:w=⟨#[98,101,102,111,114,101]⟩
 ·subst h2;rfl
 by_cases h3:w=⟨#[97,102,116,101,114]⟩
 ·subst h3;rfl
 have e2:idx w wTxs=3:=by simp [wTxs,idx,Ne.symm h1,Ne.symm h2,Ne.symm h3]
 rw [e2]
 simp [mget,h1,h2,h3]
theorem testF_tx {w:ByteArray} (hw:idx w wTxs<3) (p:Ps):testF w p=(let p2:=if idx p.peek.tx wCts<3 then p.need 1 else (p.need 1).fail p.peek.pl 30;(.tx (w++wSp++p.peek.tx++wSp++quoF p2.peek.tx) (idx w wTxs) (idx p.peek.tx wCts) p2.peek.tx,p2.need 3)):=by
 have h1:¬idx w wKinds<3:=fun h=>(kinds_x w (Yg.1 h)).2.1 hw
 have h2:¬w=wChan:=fun h=>by rw [h] at hw;exact chan_x.1 hw
 unfold testF
 rw [if_neg h1,if_neg h2,if_pos hw]
set_option maxHeartbeats 4000000 in
theorem Wv (b r:Nat) (wd:ByteArray) (hw:idx wd wTxs<3) (x:Ps) (o:Option Addr) (cap:Nat) (hk:KdOK x):Enters 103∧Spec prog 103 #[.pointer (some ⟨b,0,none⟩),.string wd] [TkS (o,cap) x.tk] [Pt b (psC x o cap r)] (RdP b r (testF wd x)):=by
 have n1:=YO b r x o cap hk 1
 have n2:=fun (q:Option Addr×Nat)=>Zw b r (x.need 1) q.1 q.2 x.peek.pl 30
 have hws:wd.size≤10:=by
  have h:=Yg.1 hw
  exact (show ∀w ∈ wTxs,w.size≤10 by decide) wd h
 have hz:=hk.peek
 rw [testF_tx hw]
 generalize hp:x.peek=t at *
 obtain ⟨kd,tx,pl⟩:=t
 dsimp only at hz ⊢
 generalize hy:(if idx tx wCts<3 then x.need 1 else (x.need 1).fail pl 30)=y
 have hky:KdOK y:=by
  rw [←hy];split
  ·exact hk.need 1
  ·exact (hk.need 1).fail _ _
 have n3:=fun (q:Option Addr×Nat)=>YO b r y q.1 q.2 hky 3
 have hz2:=hky.peek
 generalize hp2:y.peek=u at *
 obtain ⟨kd2,tx2,pl2⟩:=u
 dsimp only at hz2 ⊢
 have n4:=ruQuote_ok tx2 (by omega)
 have hg1:=mget_cts tx (fnv 129) (fnv 53) (fnv 55)
 have hg2:=mget_txs wd (fnv 126) (fnv 127) (fnv 128)
 have hq:=quo_size tx2
 have hss:wSp.size=1:=by decide
 have q1:wd.size+wSp.size≤9223372036854775807:=by omega
 have q2:(wd++wSp).size+tx.size≤9223372036854775807:=by rw [ByteArray.size_append];omega
 have q3:(wd++wSp++tx).size+wSp.size≤9223372036854775807:=by simp only [ByteArray.size_append];omega
 have q4:(wd++wSp++tx++wSp).size+(quoF tx2).size≤9223372036854775807:=by simp only [ByteArray.size_append];omega
 obtain ⟨fv,hfv,hfm⟩:∃fv,mget wd (mset (⟨#[97,102,116,101,114]⟩:ByteArray) (fnv 128) (mset (⟨#[98,101,102,111,114,101]⟩:ByteArray) (fnv 127) (mset (⟨#[116,97,114,103,101,116]⟩:ByteArray) (fnv 126) [])))=some (fnv fv)∧fdT (idx wd wTxs)=fnv fv:=by
  rw [hg2]
  generalize idx wd wTxs=kk at hw
  match kk,hw with
  | 0,_=>exact ⟨_,rfl,rfl⟩
  | 1,_=>exact ⟨_,rfl,rfl⟩
  | 2,_=>exact ⟨_,rfl,rfl⟩
 generalize b=bp at *
 by_cases hi:idx tx wCts<3
 ·obtain ⟨cf,hcv,hcm⟩:∃cf,mget tx (mset (⟨#[98,101,103,105,110,115]⟩:ByteArray) (fnv 55) (mset (⟨#[104,97,115]⟩:ByteArray) (fnv 53) (mset (⟨#[105,115]⟩:ByteArray) (fnv 129) [])))=some (fnv cf)∧cmT (idx tx wCts)=fnv cf:=by
   rw [hg1]
   generalize idx tx wCts=kk at hi
   match kk,hi with
   | 0,_=>exact ⟨_,rfl,rfl⟩
   | 1,_=>exact ⟨_,rfl,rfl⟩
   | 2,_=>exact ⟨_,rfl,rfl⟩
  rw [if_pos hi] at hy
  subst hy
  refine ZS [_,_] func103 ntmps103 fun G w hp=>?_
  repeat' (first|refine YI (V:=vid) Zd tx (some (fnv cf)) hcv ?_|refine Yl (V:=vid) Zd _ _ ?_|refine Xn Zd vid (fun r=>?_)|refine ZF ?_|refine ZI ?_|refine ZJ ?_|refine ZG ?_|refine ZO ?_|refine ZH ?_|refine ZN ?_|refine ZM (fun b=>?_)|refine ZL (fun b=>?_)|refine ZB ?_|refine ZD ?_|refine ZK ?_|refine Za ?_|refine ZX ?_|refine Zh ?_|refine Zb ?_|refine ZY ?_|refine Zg (fun b=>?_)|refine Zi (fun b=>?_)|refine Zj ?_|refine ZZ ?_|refine ZA (n1) (fun _ _=>?_)|refine l_call0 (n1) (fun _ _=>?_)|refine ZQ (n1) (fun _ _=>?_)|refine Z8 (n1) (fun _ _=>?_)|refine ZA (n3 _) (fun _ _=>?_)|refine l_call0 (n3 _) (fun _ _=>?_)|refine ZQ (n3 _) (fun _ _=>?_)|refine Z8 (n3 _) (fun _ _=>?_)|refine ZA (n4) (fun _ _=>?_)|refine l_call0 (n4) (fun _ _=>?_)|refine ZQ (n4) (fun _ _=>?_)|refine Z8 (n4) (fun _ _=>?_)|refine r_mgetG (V:=vid) Zd wd (some (fnv fv)) hfv ?_|refine Yp (a:=wd) (b:=wSp) ?_ (h:=q1)|refine Yp (a:=wd++wSp) (b:=tx) ?_ (h:=q2)|refine Yp (a:=wd++wSp++tx) (b:=wSp) ?_ (h:=q3)|refine Yp (a:=wd++wSp++tx++wSp) (b:=quoF tx2) ?_ (h:=q4)|(refine ZC (fun hc=>?_) (fun hc=>?_)<;>(try simp at hc)<;>(try omega))|(refine ZU (fun hc=>?_) (fun hc=>?_)<;>(try simp at hc)<;>(try omega))|refine ZT 7 [Pt bp _] [(0,0),(3,0),(4,0),(5,0),(1,4),(2,0),(6,1),(7,1),(8,4),(9,4)] [] ?_|refine ZT 8 [] [(0,0),(1,0),(2,0),(3,0),(4,0),(5,0),(6,0),(9,0),(7,5),(8,0),(10,0),(11,0),(12,0)] [] ?_|(refine ZE (fun hc=>?_) (fun hc=>?_)<;>(try simp at hc)<;>(try omega)))
  rename_i b8 q _ b10 _ _
  refine Ym (b:=b8) ?_
  refine Ym (b:=b10) ?_
  refine Ym (b:=b) ?_
  refine Z2 (F1:=[Blk b8 (.cells #[fnv cf] 116),Blk b (.cells #[fnv fv] 187),Blk b10 (.cells #[.string tx2] 9)]) (f:=CdF (.tx (wd++wSp++tx++wSp++quoF tx2) (idx wd wTxs) (idx tx wCts) tx2) (tsv (wd++wSp++tx++wSp++quoF tx2) 130 #[pv0 b8,pv0 b,pv0 b10])) (fun hp hF=>?_) ?_
  ·show CdP hp _ _
   rw [CdP,hcm,hfm]
   exact ⟨b8,b,b10,rfl,hF _ (.head _),hF _ (.tail _ (.head _)),hF _ (.tail _ (.tail _ (.head _)))⟩
  exact ZR (tsi (wd++wSp++tx++wSp++quoF tx2) 130 #[pv0 b8,pv0 b,pv0 b10],q) rfl trivial
 ·have hcv:mget tx (mset (⟨#[98,101,103,105,110,115]⟩:ByteArray) (fnv 55) (mset (⟨#[104,97,115]⟩:ByteArray) (fnv 53) (mset (⟨#[105,115]⟩:ByteArray) (fnv 129) [])))=none:=by
   rw [hg1,if_neg (by omega),if_neg (by omega),if_neg (by omega)]
  have hcm:cmT (idx tx wCts) = .nilFunc:=by
   unfold cmT;rw [if_neg (by omega),if_neg (by omega),if_neg (by omega)]
  rw [if_neg hi] at hy
  subst hy
  refine ZS [_,_] func103 ntmps103 fun G w hp=>?_
  repeat' (first|refine YI (V:=vid) Zd tx none hcv ?_|refine Yl (V:=vid) Zd _ _ ?_|refine Xn Zd vid (fun r=>?_)|refine ZF ?_|refine ZI ?_|refine ZJ ?_|refine ZG ?_|refine ZO ?_|refine ZH ?_|refine ZN ?_|refine ZM (fun b=>?_)|refine ZL (fun b=>?_)|refine ZB ?_|refine ZD ?_|refine ZK ?_|refine Za ?_|refine ZX ?_|refine Zh ?_|refine Zb ?_|refine ZY ?_|refine Zg (fun b=>?_)|refine Zi (fun b=>?_)|refine Zj ?_|refine ZZ ?_|refine ZA (n1) (fun _ _=>?_)|refine l_call0 (n1) (fun _ _=>?_)|refine ZQ (n1) (fun _ _=>?_)|refine Z8 (n1) (fun _ _=>?_)|refine ZA (n2 _) (fun _ _=>?_)|refine l_call0 (n2 _) (fun _ _=>?_)|refine ZQ (n2 _) (fun _ _=>?_)|refine Z8 (n2 _) (fun _ _=>?_)|refine ZA (n3 _) (fun _ _=>?_)|refine l_call0 (n3 _) (fun _ _=>?_)|refine ZQ (n3 _) (fun _ _=>?_)|refine Z8 (n3 _) (fun _ _=>?_)|refine ZA (n4) (fun _ _=>?_)|refine l_call0 (n4) (fun _ _=>?_)|refine ZQ (n4) (fun _ _=>?_)|refine Z8 (n4) (fun _ _=>?_)|refine r_mgetG (V:=vid) Zd wd (some (fnv fv)) hfv ?_|refine Yp (a:=wd) (b:=wSp) ?_ (h:=q1)|refine Yp (a:=wd++wSp) (b:=tx) ?_ (h:=q2)|refine Yp (a:=wd++wSp++tx) (b:=wSp) ?_ (h:=q3)|refine Yp (a:=wd++wSp++tx++wSp) (b:=quoF tx2) ?_ (h:=q4)|(refine ZC (fun hc=>?_) (fun hc=>?_)<;>(try simp at hc)<;>(try omega))|(refine ZU (fun hc=>?_) (fun hc=>?_)<;>(try simp at hc)<;>(try omega))|refine ZT 7 [Pt bp _] [(0,0),(3,0),(4,0),(5,0),(1,4),(2,0),(6,1),(7,1),(8,4),(9,4)] [] ?_|refine ZT 8 [] [(0,0),(1,0),(2,0),(3,0),(4,0),(5,0),(6,0),(9,0),(7,5),(8,0),(10,0),(11,0),(12,0)] [] ?_|(refine ZE (fun hc=>?_) (fun hc=>?_)<;>(try simp at hc)<;>(try omega)))
  rename_i b8 _ _ q _ b10 _ _
  refine Ym (b:=b8) ?_
  refine Ym (b:=b10) ?_
  refine Ym (b:=b) ?_
  refine Z2 (F1:=[Blk b8 (.cells #[.nilFunc] 116),Blk b (.cells #[fnv fv] 187),Blk b10 (.cells #[.string tx2] 9)]) (f:=CdF (.tx (wd++wSp++tx++wSp++quoF tx2) (idx wd wTxs) (idx tx wCts) tx2) (tsv (wd++wSp++tx++wSp++quoF tx2) 130 #[pv0 b8,pv0 b,pv0 b10])) (fun hp hF=>?_) ?_
  ·show CdP hp _ _
   rw [CdP,hcm,hfm]
   exact ⟨b8,b,b10,rfl,hF _ (.head _),hF _ (.tail _ (.head _)),hF _ (.tail _ (.tail _ (.head _)))⟩
  exact ZR (tsi (wd++wSp++tx++wSp++quoF tx2) 130 #[pv0 b8,pv0 b,pv0 b10],q) rfl trivial
end Go.Proofs.YtodkipbnefngkaaGreatDoor
set_option maxRecDepth 10000
namespace Go.Proofs
open Go.Shelf
def Tryz.laysM171_ren:Go.Shelf.Ren:=⟨fun|171=>67|243=>93|246=>121|283=>149|284=>150|285=>151|286=>152|129=>161|317=>160|318=>162|319=>163|320=>164|337=>169|338=>170|n=>n,fun|3=>3|9=>9|2=>2|4=>4|171=>201|0=>0|53=>151|37=>80|5=>5|173=>204|212=>218|51=>148|20=>20|213=>219|46=>118|232=>234|233=>235|n=>n,fun|17=>3|18=>4|19=>5|n=>n⟩
theorem Tryz.laysM171:Go.Proofs.LaysM.n171 Tryz.prog Tryz.laysM171_ren:={
 mixed:=by kernel_rfl
 f129:=Tryz.func161.trans (congrArg some (by kernel_rfl))
 f171:=Tryz.func67.trans (congrArg some (by kernel_rfl))
 f243:=Tryz.func93.trans (congrArg some (by kernel_rfl))
 f246:=Tryz.func121.trans (congrArg some (by kernel_rfl))
 f283:=Tryz.func149.trans (congrArg some (by kernel_rfl))
 f284:=Tryz.func150.trans (congrArg some (by kernel_rfl))
 f285:=Tryz.func151.trans (congrArg some (by kernel_rfl))
 f286:=Tryz.func152.trans (congrArg some (by kernel_rfl))
 f317:=Tryz.func160.trans (congrArg some (by kernel_rfl))
 f318:=Tryz.func162.trans (congrArg some (by kernel_rfl))
 f319:=Tryz.func163.trans (congrArg some (by kernel_rfl))
 f320:=Tryz.func164.trans (congrArg some (by kernel_rfl))
 f337:=Tryz.func169.trans (congrArg some (by kernel_rfl))
 f338:=Tryz.func170.trans (congrArg some (by kernel_rfl))
 t0:=Tryz.underlying0
 a0:=Tryz.isAgg0
 z0:=Tryz.sizeOf0
 v0:=Tryz.zeroValue0
 t2:=Tryz.underlying2
 a2:=Tryz.isAgg2
 z2:=Tryz.sizeOf2
 v2:=Tryz.zeroValue2
 t3:=Tryz.underlying3
 a3:=Tryz.isAgg3
 z3:=Tryz.sizeOf3
 v3:=Tryz.zeroValue3
 t4:=Tryz.underlying4
 a4:=Tryz.isAgg4
 z4:=Tryz.sizeOf4
 v4:=Tryz.zeroValue4
 t5:=Tryz.underlying5
 a5:=Tryz.isAgg5
 z5:=Tryz.sizeOf5
 v5:=Tryz.zeroValue5
 t9:=Tryz.underlying9
 a9:=Tryz.isAgg9
 z9:=Tryz.sizeOf9
 v9:=Tryz.zeroValue9
 t20:=Tryz.underlying20
 a20:=Tryz.isAgg20
 z20:=Tryz.sizeOf20
 v20:=Tryz.zeroValue20
 t37:=Tryz.underlying80
 a37:=Tryz.isAgg80
 z37:=Tryz.sizeOf80
 v37:=Tryz.zeroValue80
 t46:=Tryz.underlying118
 a46:=Tryz.isAgg118
 z46:=Tryz.sizeOf118
 v46:=Tryz.zeroValue118
 t51:=Tryz.underlying148
 a51:=Tryz.isAgg148
 z51:=Tryz.sizeOf148
 v51:=Tryz.zeroValue148
 t53:=Tryz.underlying151
 a53:=Tryz.isAgg151
 z53:=Tryz.sizeOf151
 v53:=Tryz.zeroValue151
 t171:=Tryz.underlying201
 a171:=Tryz.isAgg201
 z171:=Tryz.sizeOf201
 v171:=Tryz.zeroValue201
 t173:=Tryz.underlying204
 a173:=Tryz.isAgg204
 z173:=Tryz.sizeOf204
 v173:=Tryz.zeroValue204
 t212:=Tryz.underlying218
 a212:=Tryz.isAgg218
 z212:=Tryz.sizeOf218
 v212:=Tryz.zeroValue218
 t213:=Tryz.underlying219
 a213:=Tryz.isAgg219
 z213:=Tryz.sizeOf219
 t232:=Tryz.underlying234
 a232:=Tryz.isAgg234
 z232:=Tryz.sizeOf234
 v232:=Tryz.zeroValue234
 t233:=Tryz.underlying235
 a233:=Tryz.isAgg235
 z233:=Tryz.sizeOf235
 v233:=Tryz.zeroValue235
 g17:=by kernel_rfl
 g18:=by kernel_rfl
 g19:=by kernel_rfl
 i0:=by kernel_rfl
 i2:=by kernel_rfl
 i3:=by kernel_rfl
 i4:=by kernel_rfl
 i5:=by kernel_rfl
 i9:=by kernel_rfl
 i20:=by kernel_rfl
 i37:=by kernel_rfl
 i46:=by kernel_rfl
 i51:=by kernel_rfl
 i53:=by kernel_rfl
 i171:=by kernel_rfl
 i173:=by kernel_rfl
 i212:=by kernel_rfl
 i232:=by kernel_rfl
 i233:=by kernel_rfl
 m17:=by kernel_rfl
 m18:=by kernel_rfl
 m19:=by kernel_rfl}
end Go.Proofs
namespace Go.Proofs.YtodkipbnefngkaaGreatDoor
open Go.Proofs.Tryz
open Go.RowKit
theorem ext_grow (w:World) (k:Nat) (os:Array Obj):Ext w (Sort.grow (w.drewN k) os):=
 ⟨rfl,rfl,rfl,by simp [Sort.grow,World.drewN],fun j hj=>by
  show (w.heap++os)[j]? = _
  rw [Array.getElem?_append_left hj]⟩
def P10:Pf:=⟨fun h=>∃T fz,h 3=some (.cells (Lib.pow10Tab.map fun z=>Value.int .u64 z).toArray T fz),fun _ _ s ⟨T,fz,h⟩=>⟨T,fz,s _ _ h⟩⟩
theorem g10 : prog.globalNamed "internal/strconv.uint64pow10" = some 3 := by kernel_rfl
theorem tab10 {w : World} {T : TypeId} {fz : Nat × Nat} (h : w.heap[3]? = some (.cells (Lib.pow10Tab.map fun z => Value.int .u64 z).toArray T fz)) : Lib.TabIs prog w "internal/strconv.uint64pow10" .u64 Lib.pow10Tab := by
 unfold Lib.TabIs World.var?
 rw [g10]
 simp only [Option.bind_some]
 rw [h]
theorem itoa_ok (n:Int) (h0 : -9223372036854775808≤n) (h1:n≤9223372036854775807):Enters 67∧Spec prog 67 #[.int .i64 n] [P10] [] (RetV (.string ⟨(Lib.itoa n).toArray⟩)):=by
 refine ⟨enters_of func67 (by kernel_rfl) rfl,fun G w hp hs=>?_⟩
 obtain ⟨hp',hr,st⟩:=hs
 obtain ⟨T,fz,h⟩:=st.f P10 (by simp)
 refine (Any.strconv_Itoa Tryz.laysM171 n h0 h1 w (tab10 (st.inp _ _ h))).mono ?_
 rintro e w' ⟨rfl,k,os,rfl⟩
 exact ⟨(),rfl,trivial,(Sat.ext ⟨hp',hr,st⟩ (ext_grow w k os)).facts fun _ _ x hx=>by simp [RetV] at hx⟩
end Go.Proofs.YtodkipbnefngkaaGreatDoor
namespace Go.Proofs.YtodkipbnefngkaaGreatDoor
open Go.RowKit Go.Proofs.Tryz
theorem mget_cns (w:ByteArray) (a b c:Value):(mget w (mset (⟨#[62]⟩:ByteArray) c (mset (⟨#[60]⟩:ByteArray) b (mset (⟨#[61]⟩:ByteArray) a []))))=if idx w yCns=0 then some a else if idx w yCns=1 then some b else if idx w yCns=2 then some c else none:=by
 have e:(mset (⟨#[62]⟩:ByteArray) c (mset (⟨#[60]⟩:ByteArray) b (mset (⟨#[61]⟩:ByteArray) a [])))=[(⟨#[61]⟩,a),(⟨#[60]⟩,b),(⟨#[62]⟩,c)]:=rfl
 rw [e]
 by_cases h1:w=⟨#[61]⟩
 ·subst h1;rfl
 by_cases h2:w=⟨#[60]⟩
 ·subst h2;rfl
 by_cases h3:w=⟨#[62]⟩
 ·subst h3;rfl
 have e2:idx w yCns=3:=by simp [yCns,idx,Ne.symm h1,Ne.symm h2,Ne.symm h3]
 rw [e2]
 simp [mget,h1,h2,h3]
theorem mget_nms (w:ByteArray) (a b c d:Value):(mget w (mset (⟨#[116,105,99,107]⟩:ByteArray) d (mset (⟨#[115,105,122,101]⟩:ByteArray) c (mset (⟨#[110,117,109,98,101,114]⟩:ByteArray) b (mset (⟨#[117,115,101,114]⟩:ByteArray) a [])))))=if idx w wNms=0 then some a else if idx w wNms=1 then some b else if idx w wNms=2 then some c else if idx w wNms=3 then some d else none:=by
 have e:(mset (⟨#[116,105,99,107]⟩:ByteArray) d (mset (⟨#[115,105,122,101]⟩:ByteArray) c (mset (⟨#[110,117,109,98,101,114]⟩:ByteArray) b (mset (⟨#[117,115,101,114]⟩:ByteArray) a []))))=[(⟨#[117,115,101,114]⟩,a),(⟨#[110,117,109,98,101,114]⟩,b),(⟨#[115,105,122,101]⟩,c),(⟨#[116,105,99,107]⟩,d)]:=rfl
 rw [e]
 by_cases h1:w=⟨#[117,115,101,114]⟩
 ·subst h1;rfl
 by_cases h2:w=⟨#[110,117,109,98,101,114]⟩
 ·subst h2;rfl
 by_cases h3:w=⟨#[115,105,122,101]⟩
 ·subst h3;rfl
 by_cases h4:w=⟨#[116,105,99,107]⟩
 ·subst h4;rfl
 have e2:idx w wNms=4:=by simp [wNms,idx,Ne.symm h1,Ne.symm h2,Ne.symm h3,Ne.symm h4]
 rw [e2]
 simp [mget,h1,h2,h3,h4]
theorem nms_x:∀w ∈ wNms,¬idx w wKinds<3∧w≠wChan∧¬idx w wTxs<3∧w.size≤10:=by decide
theorem testF_nm {w:ByteArray} (hw:idx w wNms<4) (p:Ps):testF w p=(let p2:=if idx p.peek.tx yCns<3 then p.need 4 else (p.need 4).fail p.peek.pl 30;(.nm (w++wSp++p.peek.tx++wSp++ofL (Lib.itoa (numF p2).1)) (idx w wNms) (idx p.peek.tx yCns) (numF p2).1,(numF p2).2)):=by
 obtain ⟨h1,h2,h3,_⟩:=nms_x w (Yg.1 hw)
 unfold testF
 rw [if_neg h1,if_neg h2,if_neg h3,if_pos hw]
theorem atoF_bd (s:ByteArray) : -9223372036854775808≤(atoF s).1∧(atoF s).1≤9223372036854775807:=by
 unfold atoF
 cases ha:Lib.atoiAll s.data.toList with
 | ok v=>
  dsimp only
  unfold Lib.atoiAll at ha
  split at ha
  ·cases ha
  ·dsimp only at ha
   split at ha
   ·cases ha
   ·cases ha
   ·split at ha
    ·cases ha
    ·split at ha
     ·cases ha
     ·rename_i c1 c2
      obtain rfl:=Lib.NumEnd.ok.inj ha
      split<;>omega
 | range=>
  dsimp only
  unfold Lib.atoiSat
  split<;>omega
 | _=>simp
theorem numF_bd (p:Ps) : -9223372036854775808≤(numF p).1∧(numF p).1≤9223372036854775807:=atoF_bd _
theorem dec_len3:∀(k n:Nat),n<10 ^ k→(Lib.decDigits n).length≤k+1
 | 0,n,h=>by rw [Lib.decDigits,dif_pos (by omega)];simp
 | k+1,n,h=>by
  rw [Lib.decDigits]
  split
  ·simp
  ·have:=dec_len3 k (n / 10) (by rw [Nat.pow_succ] at h;omega)
   simp only [List.length_append,List.length_cons,List.length_nil]
   omega
theorem Ws (n:Int) (h0 : -9223372036854775808≤n) (h1:n≤9223372036854775807):(ofL (Lib.itoa n)).size≤100:=by
 show (Lib.itoa n).toArray.size≤100
 simp only [List.size_toArray]
 unfold Lib.itoa
 split
 ·have:=dec_len3 20 n.natAbs (by omega)
  simp;omega
 ·have:=dec_len3 20 n.toNat (by omega)
  omega
set_option maxHeartbeats 4000000 in
theorem WR (b r:Nat) (wd:ByteArray) (hw:idx wd wNms<4) (x:Ps) (o:Option Addr) (cap:Nat) (hk:KdOK x):Enters 104∧Spec prog 104 #[.pointer (some ⟨b,0,none⟩),.string wd] [TkS (o,cap) x.tk,ErA,P10] [Pt b (psC x o cap r)] (RdP b r (testF wd x)):=by
 have n1:=YO b r x o cap hk 4
 have n2:=fun (q:Option Addr×Nat)=>Zw b r (x.need 4) q.1 q.2 x.peek.pl 30
 have hws:wd.size≤10:=by
  have h:=Yg.1 hw
  exact (nms_x wd h).2.2.2
 have hz:=hk.peek
 rw [testF_nm hw]
 generalize hp:x.peek=t at *
 obtain ⟨kd,tx,pl⟩:=t
 dsimp only at hz ⊢
 generalize hy:(if idx tx yCns<3 then x.need 4 else (x.need 4).fail pl 30)=y
 have hky:KdOK y:=by
  rw [←hy];split
  ·exact hk.need 4
  ·exact (hk.need 4).fail _ _
 have n3:=fun (q:Option Addr×Nat)=>ruNumber_ok b r y q.1 q.2 hky
 have hbd:=numF_bd y
 generalize hnf:numF y=nf at *
 obtain ⟨nv,y2⟩:=nf
 dsimp only at hbd n3 ⊢
 have n4:=itoa_ok nv hbd.1 hbd.2
 have hq:=Ws nv hbd.1 hbd.2
 have hg1:=mget_cns tx (fnv 135) (fnv 136) (fnv 137)
 have hg2:=mget_nms wd (fnv 131) (fnv 132) (fnv 133) (fnv 134)
 have hss:wSp.size=1:=by decide
 have q1:wd.size+wSp.size≤9223372036854775807:=by omega
 have q2:(wd++wSp).size+tx.size≤9223372036854775807:=by rw [ByteArray.size_append];omega
 have q3:(wd++wSp++tx).size+wSp.size≤9223372036854775807:=by simp only [ByteArray.size_append];omega
 have q4:(wd++wSp++tx++wSp).size+(ofL (Lib.itoa nv)).size≤9223372036854775807:=by simp only [ByteArray.size_append];omega
 obtain ⟨fv,hfv,hfm⟩:∃fv,mget wd (mset (⟨#[116,105,99,107]⟩:ByteArray) (fnv 134) (mset (⟨#[115,105,122,101]⟩:ByteArray) (fnv 133) (mset (⟨#[110,117,109,98,101,114]⟩:ByteArray) (fnv 132) (mset (⟨#[117,115,101,114]⟩:ByteArray) (fnv 131) []))))=some (fnv fv)∧fdN (idx wd wNms)=fnv fv:=by
  rw [hg2]
  generalize idx wd wNms=kk at hw
  match kk,hw with
  | 0,_=>exact ⟨_,rfl,rfl⟩
  | 1,_=>exact ⟨_,rfl,rfl⟩
  | 2,_=>exact ⟨_,rfl,rfl⟩
  | 3,_=>exact ⟨_,rfl,rfl⟩
 generalize b=bp at *
 by_cases hi:idx tx yCns<3
 ·obtain ⟨cf,hcv,hcm⟩:∃cf,mget tx (mset (⟨#[62]⟩:ByteArray) (fnv 137) (mset (⟨#[60]⟩:ByteArray) (fnv 136) (mset (⟨#[61]⟩:ByteArray) (fnv 135) [])))=some (fnv cf)∧cmN (idx tx yCns)=fnv cf:=by
   rw [hg1]
   generalize idx tx yCns=kk at hi
   match kk,hi with
   | 0,_=>exact ⟨_,rfl,rfl⟩
   | 1,_=>exact ⟨_,rfl,rfl⟩
   | 2,_=>exact ⟨_,rfl,rfl⟩
  rw [if_pos hi] at hy
  subst hy
  refine ZS [_,_] func104 ntmps104 fun G w hp=>?_
  repeat' (first|refine YI (V:=vid) Zd tx (some (fnv cf)) hcv ?_|refine Yl (V:=vid) Zd _ _ ?_|refine Xn Zd vid (fun r=>?_)|refine ZF ?_|refine ZI ?_|refine ZJ ?_|refine ZG ?_|refine ZO ?_|refine ZH ?_|refine ZN ?_|refine ZM (fun b=>?_)|refine ZL (fun b=>?_)|refine ZB ?_|refine ZD ?_|refine ZK ?_|refine Za ?_|refine ZX ?_|refine Zh ?_|refine Zb ?_|refine ZY ?_|refine Zg (fun b=>?_)|refine Zi (fun b=>?_)|refine Zj ?_|refine ZZ ?_|refine ZA (n1) (fun _ _=>?_)|refine l_call0 (n1) (fun _ _=>?_)|refine ZQ (n1) (fun _ _=>?_)|refine Z8 (n1) (fun _ _=>?_)|refine ZA (n3 _) (fun _ _=>?_)|refine l_call0 (n3 _) (fun _ _=>?_)|refine ZQ (n3 _) (fun _ _=>?_)|refine Z8 (n3 _) (fun _ _=>?_)|refine ZA (n4) (fun _ _=>?_)|refine l_call0 (n4) (fun _ _=>?_)|refine ZQ (n4) (fun _ _=>?_)|refine Z8 (n4) (fun _ _=>?_)|refine r_mgetG (V:=vid) Zd wd (some (fnv fv)) hfv ?_|refine Yp (a:=wd) (b:=wSp) ?_ (h:=q1)|refine Yp (a:=wd++wSp) (b:=tx) ?_ (h:=q2)|refine Yp (a:=wd++wSp++tx) (b:=wSp) ?_ (h:=q3)|refine Yp (a:=wd++wSp++tx++wSp) (b:=ofL (Lib.itoa nv)) ?_ (h:=q4)|(refine ZC (fun hc=>?_) (fun hc=>?_)<;>(try simp at hc)<;>(try omega))|(refine ZU (fun hc=>?_) (fun hc=>?_)<;>(try simp at hc)<;>(try omega))|refine ZT 7 [Pt bp _] [(0,0),(2,0),(3,0),(4,0),(1,4),(5,1),(6,1),(7,4),(8,4)] [] ?_|refine ZT 8 [] [(0,0),(1,0),(2,0),(3,0),(4,0),(5,0),(6,0),(9,0),(7,5),(8,0),(10,0),(11,0),(12,0)] [] ?_|(refine ZE (fun hc=>?_) (fun hc=>?_)<;>(try simp at hc)<;>(try omega)))
  rename_i b8 q _ b10 _ _
  refine Ym (b:=b8) ?_
  refine Ym (b:=b10) ?_
  refine Ym (b:=b) ?_
  refine Z2 (F1:=[Blk b8 (.cells #[fnv cf] 37),Blk b (.cells #[fnv fv] 191),Blk b10 (.cells #[.int .i64 nv] 3)]) (f:=CdF (.nm (wd++wSp++tx++wSp++ofL (Lib.itoa nv)) (idx wd wNms) (idx tx yCns) nv) (tsv (wd++wSp++tx++wSp++ofL (Lib.itoa nv)) 139 #[pv0 b8,pv0 b,pv0 b10])) (fun hp hF=>?_) ?_
  ·show CdP hp _ _
   rw [CdP,hcm,hfm]
   exact ⟨b8,b,b10,rfl,hF _ (.head _),hF _ (.tail _ (.head _)),hF _ (.tail _ (.tail _ (.head _)))⟩
  exact ZR (tsi (wd++wSp++tx++wSp++ofL (Lib.itoa nv)) 139 #[pv0 b8,pv0 b,pv0 b10],q) rfl trivial
 ·have hcv:mget tx (mset (⟨#[62]⟩:ByteArray) (fnv 137) (mset (⟨#[60]⟩:ByteArray) (fnv 136) (mset (⟨#[61]⟩:ByteArray) (fnv 135) [])))=none:=by
   rw [hg1,if_neg (by omega),if_neg (by omega),if_neg (by omega)]
  have hcm:cmN (idx tx yCns) = .nilFunc:=by
   unfold cmN;rw [if_neg (by omega),if_neg (by omega),if_neg (by omega)]
  rw [if_neg hi] at hy
  subst hy
  refine ZS [_,_] func104 ntmps104 fun G w hp=>?_
  repeat' (first|refine YI (V:=vid) Zd tx none hcv ?_|refine Yl (V:=vid) Zd _ _ ?_|refine Xn Zd vid (fun r=>?_)|refine ZF ?_|refine ZI ?_|refine ZJ ?_|refine ZG ?_|refine ZO ?_|refine ZH ?_|refine ZN ?_|refine ZM (fun b=>?_)|refine ZL (fun b=>?_)|refine ZB ?_|refine ZD ?_|refine ZK ?_|refine Za ?_|refine ZX ?_|refine Zh ?_|refine Zb ?_|refine ZY ?_|refine Zg (fun b=>?_)|refine Zi (fun b=>?_)|refine Zj ?_|refine ZZ ?_|refine ZA (n1) (fun _ _=>?_)|refine l_call0 (n1) (fun _ _=>?_)|refine ZQ (n1) (fun _ _=>?_)|refine Z8 (n1) (fun _ _=>?_)|refine ZA (n2 _) (fun _ _=>?_)|refine l_call0 (n2 _) (fun _ _=>?_)|refine ZQ (n2 _) (fun _ _=>?_)|refine Z8 (n2 _) (fun _ _=>?_)|refine ZA (n3 _) (fun _ _=>?_)|refine l_call0 (n3 _) (fun _ _=>?_)|refine ZQ (n3 _) (fun _ _=>?_)|refine Z8 (n3 _) (fun _ _=>?_)|refine ZA (n4) (fun _ _=>?_)|refine l_call0 (n4) (fun _ _=>?_)|refine ZQ (n4) (fun _ _=>?_)|refine Z8 (n4) (fun _ _=>?_)|refine r_mgetG (V:=vid) Zd wd (some (fnv fv)) hfv ?_|refine Yp (a:=wd) (b:=wSp) ?_ (h:=q1)|refine Yp (a:=wd++wSp) (b:=tx) ?_ (h:=q2)|refine Yp (a:=wd++wSp++tx) (b:=wSp) ?_ (h:=q3)|refine Yp (a:=wd++wSp++tx++wSp) (b:=ofL (Lib.itoa nv)) ?_ (h:=q4)|(refine ZC (fun hc=>?_) (fun hc=>?_)<;>(try simp at hc)<;>(try omega))|(refine ZU (fun hc=>?_) (fun hc=>?_)<;>(try simp at hc)<;>(try omega))|refine ZT 7 [Pt bp _] [(0,0),(2,0),(3,0),(4,0),(1,4),(5,1),(6,1),(7,4),(8,4)] [] ?_|refine ZT 8 [] [(0,0),(1,0),(2,0),(3,0),(4,0),(5,0),(6,0),(9,0),(7,5),(8,0),(10,0),(11,0),(12,0)] [] ?_|(refine ZE (fun hc=>?_) (fun hc=>?_)<;>(try simp at hc)<;>(try omega)))
  rename_i b8 _ _ q _ b10 _ _
  refine Ym (b:=b8) ?_
  refine Ym (b:=b10) ?_
  refine Ym (b:=b) ?_
  refine Z2 (F1:=[Blk b8 (.cells #[.nilFunc] 37),Blk b (.cells #[fnv fv] 191),Blk b10 (.cells #[.int .i64 nv] 3)]) (f:=CdF (.nm (wd++wSp++tx++wSp++ofL (Lib.itoa nv)) (idx wd wNms) (idx tx yCns) nv) (tsv (wd++wSp++tx++wSp++ofL (Lib.itoa nv)) 139 #[pv0 b8,pv0 b,pv0 b10])) (fun hp hF=>?_) ?_
  ·show CdP hp _ _
   rw [CdP,hcm,hfm]
   exact ⟨b8,b,b10,rfl,hF _ (.head _),hF _ (.tail _ (.head _)),hF _ (.tail _ (.tail _ (.head _)))⟩
  exact ZR (tsi (wd++wSp++tx++wSp++ofL (Lib.itoa nv)) 139 #[pv0 b8,pv0 b,pv0 b10],q) rfl trivial
def Sfx (p q:Ps):Prop:=q.tk <:+ p.tk
namespace Sfx
theorem refl (p:Ps):Sfx p p:=List.suffix_refl _
theorem trans {p q r:Ps} (h:Sfx p q) (k:Sfx q r):Sfx p r:=List.IsSuffix.trans k h
theorem pass (p:Ps):Sfx p p.pass:=List.tail_suffix _
theorem fail (p:Ps) (i e:Int):Sfx p (p.fail i e):=by
 unfold Ps.fail
 split
 ·exact List.nil_suffix
 ·exact refl p
theorem need (p:Ps) (k:Int):Sfx p (p.need k):=by
 unfold Ps.need
 split
 ·exact pass p
 ·exact (pass p).trans (fail _ _ _)
theorem symb (p:Ps) (s:ByteArray):Sfx p (p.symb s):=by
 unfold Ps.symb
 split
 ·exact pass p
 ·exact fail _ _ _
theorem ite {c:Prop} [Decidable c] {p q r:Ps} (h:Sfx p q) (k:Sfx p r):Sfx p (if c then q else r):=by split<;>assumption
theorem num (p:Ps):Sfx p (numF p).2:=by
 unfold numF
 dsimp only
 exact ite ((ite ((need p 2).trans (fail _ _ _)) (need p 2)).trans (fail _ _ _)) (ite ((need p 2).trans (fail _ _ _)) (need p 2))
theorem test (w:ByteArray) (p:Ps):Sfx p (testF w p).2:=by
 unfold testF
 split
 ·exact refl p
 ·split
  ·dsimp only
   exact ite (need p 1) ((need p 1).trans (fail _ _ _))
  ·split
   ·dsimp only
    exact (ite (need p 1) ((need p 1).trans (fail _ _ _))).trans (need _ 3)
   ·split
    ·dsimp only
     exact (ite (need p 4) ((need p 4).trans (fail _ _ _))).trans (num _)
    ·dsimp only
     exact ite (need p 2) ((need p 2).trans (fail _ _ _))
theorem len {p q:Ps} (h:Sfx p q):q.tk.length≤p.tk.length:=h.length_le
end Sfx
theorem sfx_op2 {p q:Ps} {d:Int} (h:Sfx {p with op:=d} q):Sfx p q:=h
theorem YS:∀n:Nat,(∀p,Sfx p (factorF n p).2)∧(∀p,Sfx p (termF n p).2)∧(∀l p,Sfx p (termL n l p).2)∧(∀p,Sfx p (condF n p).2)∧(∀l p,Sfx p (condL n l p).2)
 | 0=>⟨fun p=>Sfx.fail p _ _,fun p=>Sfx.fail p _ _,fun _ p=>Sfx.fail p _ _,fun p=>Sfx.fail p _ _,fun _ p=>Sfx.fail p _ _⟩
 | n+1=>by
  obtain ⟨h1,h2,h3,h4,h5⟩:=YS n
  refine ⟨fun p=>?_,fun p=>?_,fun l p=>?_,fun p=>?_,fun l p=>?_⟩
  ·unfold factorF
   dsimp only
   split
   ·exact (Sfx.pass p).trans (h1 _)
   ·split
    ·have a:Sfx p (if p.pass.op=32 then p.pass.fail p.peek.pl 9 else p.pass):=Sfx.ite ((Sfx.pass p).trans (Sfx.fail _ _ _)) (Sfx.pass p)
     generalize (if p.pass.op=32 then p.pass.fail p.peek.pl 9 else p.pass)=q at a
     exact a.trans ((sfx_op2 (h4 {q with op:=q.op+1})).trans (Sfx.symb _ _))
    ·split
     ·exact (Sfx.pass p).trans (Sfx.test _ _)
     ·exact (Sfx.pass p).trans (Sfx.fail _ _ _)
  ·exact (h1 p).trans (h3 _ _)
  ·unfold termL
   split
   ·exact (Sfx.pass p).trans ((h1 _).trans (h3 _ _))
   ·exact Sfx.refl p
  ·exact (h2 p).trans (h5 _ _)
  ·unfold condL
   split
   ·exact (Sfx.pass p).trans ((h2 _).trans (h5 _ _))
   ·exact Sfx.refl p
mutual
def lv:Cnd→Nat
 | .any l=>1+lvs l
 | .all l=>1+lvs l
 | .nt c=>1+lv c
 | .nul=>1
 | .kd _ _=>1
 | .ch _ _=>1
 | .tx _ _ _ _=>1
 | .nm _ _ _ _=>1
 | .by_ _ _=>1
def lvs:List Cnd→Nat
 | []=>0
 | c::l=>lv c+lvs l
end
theorem Xf:∀l m:List Cnd,lvs (l++m)=lvs l+lvs m
 | [],m=>by simp [lvs]
 | c::l,m=>by simp [lvs,Xf l m];omega
theorem lv_pos (c:Cnd):1≤lv c:=by cases c<;>simp [lv]<;>omega
theorem Xj:∀l:List Cnd,l.length≤lvs l
 | []=>Nat.le_refl _
 | c::l=>by
  have:=lv_pos c
  have:=Xj l
  rw [lvs,List.length_cons];omega
theorem lvs_any (c:Cnd):lvs (anyP c)≤lv c:=by
 cases c<;>simp [anyP,lv,lvs]
theorem lvs_all (c:Cnd):lvs (allP c)≤lv c:=by
 cases c<;>simp [allP,lv,lvs]
theorem lvs_anys:∀l:List Cnd,lvs (l.flatMap anyP)≤lvs l
 | []=>by simp [lvs]
 | c::l=>by
  have:=lvs_any c
  have:=lvs_anys l
  rw [List.flatMap_cons,Xf,lvs];omega
theorem lvs_alls:∀l:List Cnd,lvs (l.flatMap allP)≤lvs l
 | []=>by simp [lvs]
 | c::l=>by
  have:=lvs_all c
  have:=lvs_alls l
  rw [List.flatMap_cons,Xf,lvs];omega
theorem lv_either (l:List Cnd):lv (eitherF l)≤1+lvs l:=by
 have h:=lvs_anys l
 unfold eitherF
 split
 ·rename_i d hd
  rw [hd] at h;simp [lvs] at h;omega
 ·rw [lv];omega
theorem lv_both (l:List Cnd):lv (bothF l)≤1+lvs l:=by
 have h:=lvs_alls l
 unfold bothF
 split
 ·rename_i d hd
  rw [hd] at h;simp [lvs] at h;omega
 ·rw [lv];omega
theorem lv_test (w:ByteArray) (p:Ps):lv (testF w p).1=1:=by
 unfold testF
 split
 ·rfl
 ·split
  ·rfl
  ·split
   ·rfl
   ·split<;>rfl
theorem is_pass {p:Ps} {k:Int} {s:ByteArray} (hk:k≠0) (h:p.is k s=true):p.pass.tk.length+1=p.tk.length:=by
 unfold Ps.is Ps.peek at h
 unfold Ps.pass
 cases ht:p.tk with
 | nil=>rw [ht] at h;simp [Ne.symm hk] at h
 | cons t l=>simp
theorem XN {p:Ps} (h:p.peek.kd≠0):p.pass.tk.length+1=p.tk.length:=by
 unfold Ps.peek at h
 unfold Ps.pass
 cases ht:p.tk with
 | nil=>rw [ht] at h;simp at h
 | cons t l=>simp
theorem lv_all:∀n:Nat,(∀p,lv (factorF n p).1+3 * (factorF n p).2.tk.length≤3 * p.tk.length+2)∧(∀p,lv (termF n p).1+3 * (termF n p).2.tk.length≤3 * p.tk.length+3)∧(∀l p,lvs (termL n l p).1+3 * (termL n l p).2.tk.length≤lvs l+3 * p.tk.length)∧
  (∀p,lv (condF n p).1+3 * (condF n p).2.tk.length≤3 * p.tk.length+5)∧(∀l p,lvs (condL n l p).1+3 * (condL n l p).2.tk.length≤lvs l+3 * p.tk.length)
 | 0=>by
  have hf:∀p:Ps,(p.fail p.peek.pl 99).tk.length≤p.tk.length:=fun p=>(Sfx.fail p _ _).len
  refine ⟨fun p=>?_,fun p=>?_,fun l p=>?_,fun p=>?_,fun l p=>?_⟩
  ·have:=hf p;simp only [factorF,lv];omega
  ·have:=hf p;simp only [termF,lv];omega
  ·have:=hf p;simp only [termL];omega
  ·have:=hf p;simp only [condF,lv];omega
  ·have:=hf p;simp only [condL];omega
 | n+1=>by
  obtain ⟨h1,h2,h3,h4,h5⟩:=lv_all n
  refine ⟨fun p=>?_,fun p=>?_,fun l p=>?_,fun p=>?_,fun l p=>?_⟩
  ·unfold factorF
   dsimp only
   have hp:=(Sfx.pass p).len
   split
   ·rename_i hc
    have hp:=XN (p:=p) (by rw [hc.1];decide)
    have:=h1 p.pass
    simp only [lv];omega
   ·split
    ·rename_i hc
     have hp:=XN (p:=p) (by rw [hc.1];decide)
     have a:(if p.pass.op=32 then p.pass.fail p.peek.pl 9 else p.pass).tk.length≤p.pass.tk.length:=(Sfx.ite (Sfx.fail _ _ _) (Sfx.refl _)).len
     generalize (if p.pass.op=32 then p.pass.fail p.peek.pl 9 else p.pass)=q at a
     have b:=h4 {q with op:=q.op+1}
     have c:=(Sfx.symb (condF n {q with op:=q.op+1}).2 yCls).len
     dsimp only at b ⊢
     omega
    ·split
     ·have a:=(Sfx.test p.peek.tx p.pass).len
      have b:=lv_test p.peek.tx p.pass
      omega
     ·have a:=(Sfx.fail p.pass p.peek.pl 30).len
      simp only [lv];omega
  ·have a:=h1 p
   have b:=h3 [(factorF n p).1] (factorF n p).2
   have c:=lv_both (termL n [(factorF n p).1] (factorF n p).2).1
   simp only [termF]
   simp only [lvs] at b
   omega
  ·unfold termL
   split
   ·rename_i hc
    have hp:=is_pass (by decide) hc
    have a:=h1 p.pass
    have b:=h3 (l++[(factorF n p.pass).1]) (factorF n p.pass).2
    rw [Xf] at b
    simp only [lvs] at b
    dsimp only
    omega
   ·exact Nat.le_refl _
  ·have a:=h2 p
   have b:=h5 [(termF n p).1] (termF n p).2
   have c:=lv_either (condL n [(termF n p).1] (termF n p).2).1
   simp only [condF]
   simp only [lvs] at b
   omega
  ·unfold condL
   split
   ·rename_i hc
    have hp:=is_pass (by decide) hc
    have a:=h2 p.pass
    have b:=h5 (l++[(termF n p.pass).1]) (termF n p.pass).2
    rw [Xf] at b
    simp only [lvs] at b
    dsimp only
    omega
   ·exact Nat.le_refl _
def Sop (p q:Ps):Prop:=q.op=p.op
namespace Sop
theorem refl (p:Ps):Sop p p:=rfl
theorem trans {p q r:Ps} (h:Sop p q) (k:Sop q r):Sop p r:=Eq.trans k h
theorem pass (p:Ps):Sop p p.pass:=rfl
theorem fail (p:Ps) (i e:Int):Sop p (p.fail i e):=by
 unfold Ps.fail
 split<;>rfl
theorem need (p:Ps) (k:Int):Sop p (p.need k):=by
 unfold Ps.need
 split
 ·exact pass p
 ·exact (pass p).trans (fail _ _ _)
theorem symb (p:Ps) (s:ByteArray):Sop p (p.symb s):=by
 unfold Ps.symb
 split
 ·exact pass p
 ·exact fail _ _ _
theorem ite {c:Prop} [Decidable c] {p q r:Ps} (h:Sop p q) (k:Sop p r):Sop p (if c then q else r):=by split<;>assumption
theorem num (p:Ps):Sop p (numF p).2:=by
 unfold numF
 dsimp only
 exact ite ((ite ((need p 2).trans (fail _ _ _)) (need p 2)).trans (fail _ _ _)) (ite ((need p 2).trans (fail _ _ _)) (need p 2))
theorem test (w:ByteArray) (p:Ps):Sop p (testF w p).2:=by
 unfold testF
 split
 ·exact refl p
 ·split
  ·dsimp only
   exact ite (need p 1) ((need p 1).trans (fail _ _ _))
  ·split
   ·dsimp only
    exact (ite (need p 1) ((need p 1).trans (fail _ _ _))).trans (need _ 3)
   ·split
    ·dsimp only
     exact (ite (need p 4) ((need p 4).trans (fail _ _ _))).trans (num _)
    ·dsimp only
     exact ite (need p 2) ((need p 2).trans (fail _ _ _))
end Sop
theorem XT:∀n:Nat,(∀p,Sop p (factorF n p).2)∧(∀p,Sop p (termF n p).2)∧(∀l p,Sop p (termL n l p).2)∧(∀p,Sop p (condF n p).2)∧(∀l p,Sop p (condL n l p).2)
 | 0=>⟨fun p=>Sop.fail p _ _,fun p=>Sop.fail p _ _,fun _ p=>Sop.fail p _ _,fun p=>Sop.fail p _ _,fun _ p=>Sop.fail p _ _⟩
 | n+1=>by
  obtain ⟨h1,h2,h3,h4,h5⟩:=XT n
  refine ⟨fun p=>?_,fun p=>?_,fun l p=>?_,fun p=>?_,fun l p=>?_⟩
  ·unfold factorF
   dsimp only
   split
   ·exact (Sop.pass p).trans (h1 _)
   ·split
    ·have a:Sop p (if p.pass.op=32 then p.pass.fail p.peek.pl 9 else p.pass):=Sop.ite ((Sop.pass p).trans (Sop.fail _ _ _)) (Sop.pass p)
     generalize (if p.pass.op=32 then p.pass.fail p.peek.pl 9 else p.pass)=q at a
     have b:=h4 {q with op:=q.op+1}
     have c:=Sop.symb (condF n {q with op:=q.op+1}).2 yCls
     unfold Sop at a b c ⊢
     dsimp only at b c ⊢
     omega
    ·split
     ·exact (Sop.pass p).trans (Sop.test _ _)
     ·exact (Sop.pass p).trans (Sop.fail _ _ _)
  ·exact (h1 p).trans (h3 _ _)
  ·unfold termL
   split
   ·exact (Sop.pass p).trans ((h1 _).trans (h3 _ _))
   ·exact Sop.refl p
  ·exact (h2 p).trans (h5 _ _)
  ·unfold condL
   split
   ·exact (Sop.pass p).trans ((h2 _).trans (h5 _ _))
   ·exact Sop.refl p
def tstL:List (ByteArray×Value):=[(⟨#[109,105,115,115,105,110,103]⟩,fnv 101),(⟨#[99,104,97,110,103,101,100]⟩,fnv 101),(⟨#[110,101,119]⟩,fnv 101),(wChan,fnv 102),
 (⟨#[116,97,114,103,101,116]⟩,fnv 103),(⟨#[98,101,102,111,114,101]⟩,fnv 103),(⟨#[97,102,116,101,114]⟩,fnv 103),
 (⟨#[117,115,101,114]⟩,fnv 104),(⟨#[110,117,109,98,101,114]⟩,fnv 104),(⟨#[115,105,122,101]⟩,fnv 104),(⟨#[116,105,99,107]⟩,fnv 104),(wBy,fnv 105)]
theorem mget_ne {w k:ByteArray} {v:Value} {m:List (ByteArray×Value)} (h:w≠k):mget w ((k,v)::m)=mget w m:=by rw [mget,if_neg h]
theorem tst_kind {w:ByteArray} (h:idx w wKinds<3):mget w tstL=some (fnv 101):=by
 have:=Yg.1 h
 simp only [wKinds,List.mem_cons,List.not_mem_nil,or_false] at this
 rcases this with rfl|rfl|rfl<;>rfl
theorem tst_chan:mget wChan tstL=some (fnv 102):=rfl
theorem tst_by:mget wBy tstL=some (fnv 105):=rfl
theorem tst_tx {w:ByteArray} (h:idx w wTxs<3):mget w tstL=some (fnv 103):=by
 have:=Yg.1 h
 simp only [wTxs,List.mem_cons,List.not_mem_nil,or_false] at this
 rcases this with rfl|rfl|rfl<;>rfl
theorem tst_nm {w:ByteArray} (h:idx w wNms<4):mget w tstL=some (fnv 104):=by
 have:=Yg.1 h
 simp only [wNms,List.mem_cons,List.not_mem_nil,or_false] at this
 rcases this with rfl|rfl|rfl|rfl<;>rfl
theorem tst_none {w:ByteArray} (h:isTst w=false):mget w tstL=none:=by
 have e:∀(m:List (ByteArray×Value)),(∀p ∈ m,isTst p.1=true)→mget w m=none:=by
  intro m
  induction m with
  | nil=>intro _;rfl
  | cons p m ih=>
   intro hm
   obtain ⟨k,v⟩:=p
   have hk:=hm (k,v) (.head _)
   rw [mget_ne (by rintro rfl;rw [h] at hk;cases hk)]
   exact ih fun p hp=>hm p (.tail _ hp)
 refine e _ ?_
 intro p hp
 have:∀k ∈ tstL.map (·.1),isTst k=true:=by decide
 exact this _ (List.mem_map_of_mem hp)
set_option maxHeartbeats 2000000 in
theorem ruTests_ok:Enters 70∧Spec prog 70 #[] [] [] ⟨Nat,fun r=>.map (some r),fun _=>True,fun _=>[],fun r=>[Mp skv vid r tstL]⟩:=by
 refine ZS [] func70 ntmps70 fun G w hp=>?_
 repeat' (first|refine Yl (V:=vid) Zd _ _ ?_|refine Xn Zd vid (fun r=>?_)|refine ZF ?_|refine ZI ?_|refine ZJ ?_|refine ZG ?_|refine ZO ?_|refine ZH ?_|refine ZN ?_|refine ZM (fun b=>?_)|refine ZL (fun b=>?_)|refine ZB ?_|refine ZD ?_|refine ZK ?_|(refine ZC (fun hc=>?_) (fun hc=>?_)<;>(try simp at hc))|(refine ZE (fun hc=>?_) (fun hc=>?_)<;>(try simp at hc)))
 exact ZR r rfl trivial
theorem X7 {h:H}:∀{l:List Cnd} {vs:List Value} {j:Nat} {c:Cnd} {v:Value},CdsP h l vs→l[j]? = some c→vs[j]? = some v→CdP h c v
 | [],_,_,_,_,_,h1,_=>by simp at h1
 | c::l,vs,j,d,v,hh,h1,h2=>by
  rw [CdsP] at hh
  obtain ⟨u,ws,rfl,h3,h4⟩:=hh
  cases j with
  | zero=>simp at h1 h2;subst h1;subst h2;exact h3
  | succ j=>exact X7 (j:=j) h4 (by simpa using h1) (by simpa using h2)
theorem cdP_shape {h:H} {c:Cnd} {v:Value} (hh:CdP h c v):v = .nilIface∨∃T u,v = .iface T u∧((∀l,c≠.any l)→T≠211)∧((∀l,c≠.all l)→T≠225):=by
 cases c with
 | any l=>
  rw [CdP] at hh
  obtain ⟨o,cap,vs,rfl,_⟩:=hh
  exact .inr ⟨_,_,rfl,fun h=>absurd rfl (h l),fun _=>by decide⟩
 | all l=>
  rw [CdP] at hh
  obtain ⟨o,cap,vs,rfl,_⟩:=hh
  exact .inr ⟨_,_,rfl,fun _=>by decide,fun h=>absurd rfl (h l)⟩
 | nt d=>
  rw [CdP] at hh
  obtain ⟨u,rfl,_⟩:=hh
  exact .inr ⟨_,_,rfl,fun _=>by decide,fun _=>by decide⟩
 | nul=>
  rw [CdP] at hh
  exact .inl hh
 | kd w k=>
  rw [CdP] at hh
  obtain ⟨b,rfl,_⟩:=hh
  exact .inr ⟨_,_,rfl,fun _=>by decide,fun _=>by decide⟩
 | ch w k=>
  rw [CdP] at hh
  obtain ⟨b,rfl,_⟩:=hh
  exact .inr ⟨_,_,rfl,fun _=>by decide,fun _=>by decide⟩
 | tx w f k s=>
  rw [CdP] at hh
  obtain ⟨b1,b2,b3,rfl,_⟩:=hh
  exact .inr ⟨_,_,rfl,fun _=>by decide,fun _=>by decide⟩
 | nm w f k n=>
  rw [CdP] at hh
  obtain ⟨b1,b2,b3,rfl,_⟩:=hh
  exact .inr ⟨_,_,rfl,fun _=>by decide,fun _=>by decide⟩
 | by_ w s=>
  rw [CdP] at hh
  obtain ⟨b,rfl,_⟩:=hh
  exact .inr ⟨_,_,rfl,fun _=>by decide,fun _=>by decide⟩
theorem either_one {l:List Cnd} {c:Cnd} (h:l.flatMap anyP=[c]):eitherF l=c:=by unfold eitherF;rw [h]
theorem either_many {l:List Cnd} (h:(l.flatMap anyP).length≠1):eitherF l = .any (l.flatMap anyP):=by
 unfold eitherF
 split
 ·rename_i c hc;rw [hc] at h;exact absurd rfl h
 ·rfl
theorem anyP_not {c:Cnd} (h:∀l,c≠.any l):anyP c=[c]:=by
 cases c<;>first|rfl|exact absurd rfl (h _)
set_option maxHeartbeats 4000000 in
theorem ruEither_ok (o:Option Addr) (cap:Nat) (l:List Cnd) (vs:List IV) (hl:vs.length=l.length) (hbd:(l.flatMap anyP).length≤1000000) (hbl:l.length≤1000000):Enters 143∧Spec prog 143 #[.slice o vs.length cap] [Sl 100 ivl o cap vs,CdsF l (vs.map ivOf)] []
  ⟨IV,fun v=>ivOf v,fun _=>True,fun v=>[CdF (eitherF l) (ivOf v)],fun _=>[]⟩:=by
 refine ZS [_] func143 ntmps143 fun G w hp=>?_
 repeat' (first|refine ZF ?_|refine ZI ?_|refine ZJ ?_|refine ZG ?_|refine ZO ?_|refine ZH ?_|refine ZN ?_|refine ZM (fun b=>?_)|refine ZL (fun b=>?_)|refine ZB ?_|refine ZD ?_|(refine ZC (fun hc=>?_) (fun hc=>?_)<;>(try simp at hc))|(refine ZE (fun hc=>?_) (fun hc=>?_)<;>(try simp at hc)))
 refine k_add (f:=CdsF [] []) (fun hp=>by show CdsP hp [] [];rw [CdsP]) ?_
 refine Z0 (Lx:=[]) (r:=Row 100 1 none 0 0 []) (fun h _=>X9 _ _ h) ?_
 refine Yj (X:={q:Nat×List IV×Option Addr×Nat // q.1≤vs.length∧q.2.1.length=((l.take q.1).flatMap anyP).length}) (fun q=>[(0,.slice o vs.length cap),(3,.slice q.1.2.2.1 q.1.2.1.length q.1.2.2.2),(8,.slice o vs.length cap),(9,.int .i64 (vs.length:Int)),(10,.int .i64 (q.1.1:Int))]) (fun q=>[Sl 100 ivl o cap vs,CdsF l (vs.map ivOf),CdsF ((l.take q.1.1).flatMap anyP) (q.1.2.1.map ivOf)]) (fun q=>[Row 100 1 q.1.2.2.1 q.1.2.1.length q.1.2.2.2 (q.1.2.1.flatMap ivl)]) (fun q=>vs.length - q.1.1) ⟨(0,[],none,0),Nat.zero_le _,rfl⟩ ⟨rfl,rfl,rfl,rfl,rfl,trivial⟩ ?_
 rintro ⟨⟨j,rs,o',cap'⟩,hj,hrl⟩
 dsimp only at hj hrl ⊢
 have hpre:∀i,((l.take i).flatMap anyP).length≤(l.flatMap anyP).length:=fun i=>by
  have:l.flatMap anyP=(l.take i).flatMap anyP++(l.drop i).flatMap anyP:=by rw [←List.flatMap_append,List.take_append_drop]
  rw [this,List.length_append];omega
 have hpj:=hpre j
 by_cases hlt:j<vs.length
 ·have hxj:=List.getElem?_eq_getElem hlt
  have hltc:j<l.length:=by omega
  have hcj:=List.getElem?_eq_getElem hltc
  have htk:=List.take_succ_eq_append_getElem hltc
  generalize hxe:vs[j]=x at *
  generalize hce:l[j]=c at *
  have hfm:(l.take (j+1)).flatMap anyP=(l.take j).flatMap anyP++anyP c:=by rw [htk,List.flatMap_append];simp
  have hpj1:=hpre (j+1)
  rw [hfm,List.length_append] at hpj1
  have w1:=wrapi (z:=(j:Int)+1) (by omega) (by omega)
  obtain ⟨T,u⟩:=x
  refine Z2 (F1:=[CdsF l (vs.map ivOf)]) (f:=CdF c (ivOf (T,u))) (fun hp hF=>X7 (hF _ (.head _)) hcj (by rw [List.getElem?_map,hxj];rfl)) ?_
  by_cases ha:∃la,c = .any la
  ·obtain ⟨la,rfl⟩:=ha
   refine Xa (X:=Option Addr×Nat×List IV) (Fx:=fun q=>[Sl 100 ivl q.1 q.2.1 q.2.2,CdsF la (q.2.2.map ivOf)]) (p:=fun q=>ivOf (T,u) = .iface 211 (.agg #[.slice q.1 q.2.2.length q.2.1])∧q.2.2.length=la.length) (f:=CdF (.any la) (ivOf (T,u))) .here (fun h hh=>?_) (fun q hq=>?_)
   ·have hh:CdP h (.any la) (ivOf (T,u)):=hh
    rw [CdP] at hh
    obtain ⟨o2,c2,ws,h1,h2,h3⟩:=hh
    exact ⟨(o2,c2,ws),⟨h1,by have:=Xu h3;simpa using this⟩,fun f hf=>by
     simp only [List.mem_cons,List.not_mem_nil,or_false] at hf
     rcases hf with rfl|rfl
     ·exact h2
     ·exact h3⟩
   obtain ⟨o2,c2,ws⟩:=q
   obtain ⟨hq1,hq2⟩:=hq
   dsimp only at hq1 hq2 ⊢
   obtain ⟨rfl,rfl⟩:=Value.iface.inj hq1
   have hwl:(anyP (.any la)).length=la.length:=rfl
   have hroom:(2 * (rs.length+ws.length)+200) * 16≤281474976710656:=by omega
   repeat' (first|refine l_appF (es:=ws) (f:=ivl) (m:=rs.length) (fun o3 cap3=>?_) (hone:=iv_one) (hroom:=hroom)|refine ZF ?_|refine ZI ?_|refine ZJ ?_|refine ZG ?_|refine ZO ?_|refine ZH ?_|refine ZN ?_|refine ZM (fun b=>?_)|refine ZL (fun b=>?_)|refine ZB ?_|refine ZD ?_|refine Zo (es:=vs) (f:=ivl) j _ hxj (fun b off=>?_)|refine Zq ?_|refine l_taY ?_|rw [w1]|(refine ZC (fun hc=>?_) (fun hc=>?_)<;>(try simp at hc)<;>(try omega))|(refine ZE (fun hc=>?_) (fun hc=>?_)<;>(try simp at hc)<;>(try omega)))
   have e1:rs.length+ws.length=(rs++ws).length:=by simp
   have e2:rs.flatMap ivl++ws.flatMap ivl=(rs++ws).flatMap ivl:=by simp
   refine YZ (T:=100) (sz:=1) (o:=o3) (cap:=cap3) (m:=rs.length+ws.length) _ _ e1 e2 ?_
   rw [e1]
   refine Z2 (F1:=[CdsF ((l.take j).flatMap anyP) (rs.map ivOf),CdsF la (ws.map ivOf)]) (f:=CdsF ((l.take (j+1)).flatMap anyP) ((rs++ws).map ivOf)) (fun hp hF=>?_) ?_
   ·show CdsP hp _ _
    rw [hfm,List.map_append]
    exact Y4 (hF _ (.head _)) (hF _ (.tail _ (.head _)))
   exact Ze ⟨(j+1,rs++ws,o3,cap3),by show j+1≤vs.length;omega,by show (rs++ws).length=_;rw [hfm,List.length_append,List.length_append,hrl,hq2];rfl⟩ (by show vs.length - (j+1)<vs.length - j;omega) ⟨rfl,rfl,rfl,rfl,rfl,trivial⟩
  ·have ha:∀la,c≠.any la:=fun la h=>ha ⟨la,h⟩
   have hac:=anyP_not ha
   rw [hac] at hfm hpj1
   refine Xa (X:=Unit) (Fx:=fun _=>[]) (p:=fun _=>T≠211) (f:=CdF c (ivOf (T,u))) .here (fun h hh=>⟨(),?_,fun _ hx=>by cases hx⟩) (fun _ hne=>?_)
   ·rcases cdP_shape hh with h1|⟨T',u',h1,h2,_⟩
    ·cases h1
    ·obtain ⟨rfl,_⟩:=Value.iface.inj h1
     exact h2 ha
   simp only [List.length_cons,List.length_nil] at hpj1
   have hroom:(2 * (rs.length+1)+200) * 16≤281474976710656:=by omega
   have hne':ivOf (T,u) = .nilIface∨∃T' v,ivOf (T,u) = .iface T' v∧T'≠211:=.inr ⟨T,u,rfl,hne⟩
   repeat' (first|refine XZ (m:=rs.length) (m2:=1) (fun o3 cap3=>?_) (hroom:=hroom)|refine ZF ?_|refine ZI ?_|refine ZJ ?_|refine ZG ?_|refine ZO ?_|refine ZH ?_|refine ZN ?_|refine ZM (fun b=>?_)|refine ZL (fun b=>?_)|refine ZB ?_|refine ZD ?_|refine Zo (es:=vs) (f:=ivl) j _ hxj (fun b off=>?_)|refine Zq ?_|refine l_taN hne' ?_|rw [w1]|(refine ZC (fun hc=>?_) (fun hc=>?_)<;>(try simp at hc)<;>(try omega))|(refine ZE (fun hc=>?_) (fun hc=>?_)<;>(try simp at hc)<;>(try omega)))
   have e1:rs.length+1=(rs++[(T,u)]).length:=by simp
   have e2:rs.flatMap ivl++[ivOf (T,u)]=(rs++[(T,u)]).flatMap ivl:=by simp
   refine YZ (T:=100) (sz:=1) (o:=o3) (cap:=cap3) (m:=rs.length+1) _ _ e1 e2 ?_
   rw [e1]
   refine Z2 (F1:=[CdsF ((l.take j).flatMap anyP) (rs.map ivOf),CdF c (ivOf (T,u))]) (f:=CdsF ((l.take (j+1)).flatMap anyP) ((rs++[(T,u)]).map ivOf)) (fun hp hF=>?_) ?_
   ·show CdsP hp _ _
    rw [hfm,List.map_append]
    exact Y4 (hF _ (.head _)) (Yi.2 (hF _ (.tail _ (.head _))))
   exact Ze ⟨(j+1,rs++[(T,u)],o3,cap3),by show j+1≤vs.length;omega,by show (rs++[(T,u)]).length=_;rw [hfm,List.length_append,List.length_append,hrl];rfl⟩ (by show vs.length - (j+1)<vs.length - j;omega) ⟨rfl,rfl,rfl,rfl,rfl,trivial⟩
 ·have htl:l.take j=l:=List.take_of_length_le (show l.length≤j by omega)
  refine Z2 (F1:=[CdsF ((l.take j).flatMap anyP) (rs.map ivOf)]) (f:=CdsF (l.flatMap anyP) (rs.map ivOf)) (fun hp hF=>by have:=hF _ (.head _);rwa [htl] at this) ?_
  rw [htl] at hrl
  refine k_frz (T:=100) (sz:=1) (f:=ivl) (o:=o') (cap:=cap') rs ?_ rfl rfl
  by_cases h1:rs.length=1
  ·obtain ⟨x,rfl⟩:=List.length_eq_one_iff.1 h1
   obtain ⟨c,hc1⟩:=List.length_eq_one_iff.1 (show (l.flatMap anyP).length=1 by rw [←hrl];rfl)
   rw [either_one hc1]
   have hx0:[x][0]? = some x:=rfl
   refine Z2 (F1:=[CdsF (l.flatMap anyP) ([x].map ivOf)]) (f:=CdF c (ivOf x)) (fun hp hF=>by have:=hF _ (.head _);rw [hc1] at this;exact Yi.1 this) ?_
   repeat' (first|refine ZF ?_|refine ZI ?_|refine ZJ ?_|refine ZG ?_|refine ZO ?_|refine ZH ?_|refine ZN ?_|refine ZM (fun b=>?_)|refine ZL (fun b=>?_)|refine ZB ?_|refine ZD ?_|refine ZK ?_|refine Zo (es:=[x]) (f:=ivl) 0 x hx0 (fun b off=>?_)|refine Zq ?_|(refine ZC (fun hc=>?_) (fun hc=>?_)<;>(try simp at hc)<;>(try omega))|(refine ZE (fun hc=>?_) (fun hc=>?_)<;>(try simp at hc)<;>(try omega)))
   exact ZR x rfl trivial
  ·rw [either_many (by rw [←hrl];exact h1)]
   refine Z2 (F1:=[Sl 100 ivl o' cap' rs,CdsF (l.flatMap anyP) (rs.map ivOf)]) (f:=CdF (.any (l.flatMap anyP)) (ivOf (211,.agg #[.slice o' rs.length cap']))) (fun hp hF=>?_) ?_
   ·show CdP hp _ _
    rw [CdP]
    exact ⟨o',cap',rs,rfl,hF _ (.head _),hF _ (.tail _ (.head _))⟩
   repeat' (first|refine ZF ?_|refine ZI ?_|refine ZJ ?_|refine ZG ?_|refine ZO ?_|refine ZH ?_|refine ZN ?_|refine ZM (fun b=>?_)|refine ZL (fun b=>?_)|refine ZB ?_|refine ZD ?_|refine ZK ?_|(refine ZC (fun hc=>?_) (fun hc=>?_)<;>(try simp at hc)<;>(try omega))|(refine ZE (fun hc=>?_) (fun hc=>?_)<;>(try simp at hc)<;>(try omega)))
   exact ZR (211,.agg #[.slice o' rs.length cap']) rfl trivial
theorem both_one {l:List Cnd} {c:Cnd} (h:l.flatMap allP=[c]):bothF l=c:=by unfold bothF;rw [h]
theorem both_many {l:List Cnd} (h:(l.flatMap allP).length≠1):bothF l = .all (l.flatMap allP):=by
 unfold bothF
 split
 ·rename_i c hc;rw [hc] at h;exact absurd rfl h
 ·rfl
theorem allP_not {c:Cnd} (h:∀l,c≠.all l):allP c=[c]:=by
 cases c<;>first|rfl|exact absurd rfl (h _)
set_option maxHeartbeats 4000000 in
theorem ruBoth_ok (o:Option Addr) (cap:Nat) (l:List Cnd) (vs:List IV) (hl:vs.length=l.length) (hbd:(l.flatMap allP).length≤1000000) (hbl:l.length≤1000000):Enters 155∧Spec prog 155 #[.slice o vs.length cap] [Sl 100 ivl o cap vs,CdsF l (vs.map ivOf)] []
  ⟨IV,fun v=>ivOf v,fun _=>True,fun v=>[CdF (bothF l) (ivOf v)],fun _=>[]⟩:=by
 refine ZS [_] func155 ntmps155 fun G w hp=>?_
 repeat' (first|refine ZF ?_|refine ZI ?_|refine ZJ ?_|refine ZG ?_|refine ZO ?_|refine ZH ?_|refine ZN ?_|refine ZM (fun b=>?_)|refine ZL (fun b=>?_)|refine ZB ?_|refine ZD ?_|(refine ZC (fun hc=>?_) (fun hc=>?_)<;>(try simp at hc))|(refine ZE (fun hc=>?_) (fun hc=>?_)<;>(try simp at hc)))
 refine k_add (f:=CdsF [] []) (fun hp=>by show CdsP hp [] [];rw [CdsP]) ?_
 refine Z0 (Lx:=[]) (r:=Row 100 1 none 0 0 []) (fun h _=>X9 _ _ h) ?_
 refine Yj (X:={q:Nat×List IV×Option Addr×Nat // q.1≤vs.length∧q.2.1.length=((l.take q.1).flatMap allP).length}) (fun q=>[(0,.slice o vs.length cap),(3,.slice q.1.2.2.1 q.1.2.1.length q.1.2.2.2),(8,.slice o vs.length cap),(9,.int .i64 (vs.length:Int)),(10,.int .i64 (q.1.1:Int))]) (fun q=>[Sl 100 ivl o cap vs,CdsF l (vs.map ivOf),CdsF ((l.take q.1.1).flatMap allP) (q.1.2.1.map ivOf)]) (fun q=>[Row 100 1 q.1.2.2.1 q.1.2.1.length q.1.2.2.2 (q.1.2.1.flatMap ivl)]) (fun q=>vs.length - q.1.1) ⟨(0,[],none,0),Nat.zero_le _,rfl⟩ ⟨rfl,rfl,rfl,rfl,rfl,trivial⟩ ?_
 rintro ⟨⟨j,rs,o',cap'⟩,hj,hrl⟩
 dsimp only at hj hrl ⊢
 have hpre:∀i,((l.take i).flatMap allP).length≤(l.flatMap allP).length:=fun i=>by
  have:l.flatMap allP=(l.take i).flatMap allP++(l.drop i).flatMap allP:=by rw [←List.flatMap_append,List.take_append_drop]
  rw [this,List.length_append];omega
 have hpj:=hpre j
 by_cases hlt:j<vs.length
 ·have hxj:=List.getElem?_eq_getElem hlt
  have hltc:j<l.length:=by omega
  have hcj:=List.getElem?_eq_getElem hltc
  have htk:=List.take_succ_eq_append_getElem hltc
  generalize hxe:vs[j]=x at *
  generalize hce:l[j]=c at *
  have hfm:(l.take (j+1)).flatMap allP=(l.take j).flatMap allP++allP c:=by rw [htk,List.flatMap_append];simp
  have hpj1:=hpre (j+1)
  rw [hfm,List.length_append] at hpj1
  have w1:=wrapi (z:=(j:Int)+1) (by omega) (by omega)
  obtain ⟨T,u⟩:=x
  refine Z2 (F1:=[CdsF l (vs.map ivOf)]) (f:=CdF c (ivOf (T,u))) (fun hp hF=>X7 (hF _ (.head _)) hcj (by rw [List.getElem?_map,hxj];rfl)) ?_
  by_cases ha:∃la,c = .all la
  ·obtain ⟨la,rfl⟩:=ha
   refine Xa (X:=Option Addr×Nat×List IV) (Fx:=fun q=>[Sl 100 ivl q.1 q.2.1 q.2.2,CdsF la (q.2.2.map ivOf)]) (p:=fun q=>ivOf (T,u) = .iface 225 (.agg #[.slice q.1 q.2.2.length q.2.1])∧q.2.2.length=la.length) (f:=CdF (.all la) (ivOf (T,u))) .here (fun h hh=>?_) (fun q hq=>?_)
   ·have hh:CdP h (.all la) (ivOf (T,u)):=hh
    rw [CdP] at hh
    obtain ⟨o2,c2,ws,h1,h2,h3⟩:=hh
    exact ⟨(o2,c2,ws),⟨h1,by have:=Xu h3;simpa using this⟩,fun f hf=>by
     simp only [List.mem_cons,List.not_mem_nil,or_false] at hf
     rcases hf with rfl|rfl
     ·exact h2
     ·exact h3⟩
   obtain ⟨o2,c2,ws⟩:=q
   obtain ⟨hq1,hq2⟩:=hq
   dsimp only at hq1 hq2 ⊢
   obtain ⟨rfl,rfl⟩:=Value.iface.inj hq1
   have hwl:(allP (.all la)).length=la.length:=rfl
   have hroom:(2 * (rs.length+ws.length)+200) * 16≤281474976710656:=by omega
   repeat' (first|refine l_appF (es:=ws) (f:=ivl) (m:=rs.length) (fun o3 cap3=>?_) (hone:=iv_one) (hroom:=hroom)|refine ZF ?_|refine ZI ?_|refine ZJ ?_|refine ZG ?_|refine ZO ?_|refine ZH ?_|refine ZN ?_|refine ZM (fun b=>?_)|refine ZL (fun b=>?_)|refine ZB ?_|refine ZD ?_|refine Zo (es:=vs) (f:=ivl) j _ hxj (fun b off=>?_)|refine Zq ?_|refine l_taY ?_|rw [w1]|(refine ZC (fun hc=>?_) (fun hc=>?_)<;>(try simp at hc)<;>(try omega))|(refine ZE (fun hc=>?_) (fun hc=>?_)<;>(try simp at hc)<;>(try omega)))
   have e1:rs.length+ws.length=(rs++ws).length:=by simp
   have e2:rs.flatMap ivl++ws.flatMap ivl=(rs++ws).flatMap ivl:=by simp
   refine YZ (T:=100) (sz:=1) (o:=o3) (cap:=cap3) (m:=rs.length+ws.length) _ _ e1 e2 ?_
   rw [e1]
   refine Z2 (F1:=[CdsF ((l.take j).flatMap allP) (rs.map ivOf),CdsF la (ws.map ivOf)]) (f:=CdsF ((l.take (j+1)).flatMap allP) ((rs++ws).map ivOf)) (fun hp hF=>?_) ?_
   ·show CdsP hp _ _
    rw [hfm,List.map_append]
    exact Y4 (hF _ (.head _)) (hF _ (.tail _ (.head _)))
   exact Ze ⟨(j+1,rs++ws,o3,cap3),by show j+1≤vs.length;omega,by show (rs++ws).length=_;rw [hfm,List.length_append,List.length_append,hrl,hq2];rfl⟩ (by show vs.length - (j+1)<vs.length - j;omega) ⟨rfl,rfl,rfl,rfl,rfl,trivial⟩
  ·have ha:∀la,c≠.all la:=fun la h=>ha ⟨la,h⟩
   have hac:=allP_not ha
   rw [hac] at hfm hpj1
   refine Xa (X:=Unit) (Fx:=fun _=>[]) (p:=fun _=>T≠225) (f:=CdF c (ivOf (T,u))) .here (fun h hh=>⟨(),?_,fun _ hx=>by cases hx⟩) (fun _ hne=>?_)
   ·rcases cdP_shape hh with h1|⟨T',u',h1,_,h3⟩
    ·cases h1
    ·obtain ⟨rfl,_⟩:=Value.iface.inj h1
     exact h3 ha
   simp only [List.length_cons,List.length_nil] at hpj1
   have hroom:(2 * (rs.length+1)+200) * 16≤281474976710656:=by omega
   have hne':ivOf (T,u) = .nilIface∨∃T' v,ivOf (T,u) = .iface T' v∧T'≠225:=.inr ⟨T,u,rfl,hne⟩
   repeat' (first|refine XZ (m:=rs.length) (m2:=1) (fun o3 cap3=>?_) (hroom:=hroom)|refine ZF ?_|refine ZI ?_|refine ZJ ?_|refine ZG ?_|refine ZO ?_|refine ZH ?_|refine ZN ?_|refine ZM (fun b=>?_)|refine ZL (fun b=>?_)|refine ZB ?_|refine ZD ?_|refine Zo (es:=vs) (f:=ivl) j _ hxj (fun b off=>?_)|refine Zq ?_|refine l_taN hne' ?_|rw [w1]|(refine ZC (fun hc=>?_) (fun hc=>?_)<;>(try simp at hc)<;>(try omega))|(refine ZE (fun hc=>?_) (fun hc=>?_)<;>(try simp at hc)<;>(try omega)))
   have e1:rs.length+1=(rs++[(T,u)]).length:=by simp
   have e2:rs.flatMap ivl++[ivOf (T,u)]=(rs++[(T,u)]).flatMap ivl:=by simp
   refine YZ (T:=100) (sz:=1) (o:=o3) (cap:=cap3) (m:=rs.length+1) _ _ e1 e2 ?_
   rw [e1]
   refine Z2 (F1:=[CdsF ((l.take j).flatMap allP) (rs.map ivOf),CdF c (ivOf (T,u))]) (f:=CdsF ((l.take (j+1)).flatMap allP) ((rs++[(T,u)]).map ivOf)) (fun hp hF=>?_) ?_
   ·show CdsP hp _ _
    rw [hfm,List.map_append]
    exact Y4 (hF _ (.head _)) (Yi.2 (hF _ (.tail _ (.head _))))
   exact Ze ⟨(j+1,rs++[(T,u)],o3,cap3),by show j+1≤vs.length;omega,by show (rs++[(T,u)]).length=_;rw [hfm,List.length_append,List.length_append,hrl];rfl⟩ (by show vs.length - (j+1)<vs.length - j;omega) ⟨rfl,rfl,rfl,rfl,rfl,trivial⟩
 ·have htl:l.take j=l:=List.take_of_length_le (show l.length≤j by omega)
  refine Z2 (F1:=[CdsF ((l.take j).flatMap allP) (rs.map ivOf)]) (f:=CdsF (l.flatMap allP) (rs.map ivOf)) (fun hp hF=>by have:=hF _ (.head _);rwa [htl] at this) ?_
  rw [htl] at hrl
  refine k_frz (T:=100) (sz:=1) (f:=ivl) (o:=o') (cap:=cap') rs ?_ rfl rfl
  by_cases h1:rs.length=1
  ·obtain ⟨x,rfl⟩:=List.length_eq_one_iff.1 h1
   obtain ⟨c,hc1⟩:=List.length_eq_one_iff.1 (show (l.flatMap allP).length=1 by rw [←hrl];rfl)
   rw [both_one hc1]
   have hx0:[x][0]? = some x:=rfl
   refine Z2 (F1:=[CdsF (l.flatMap allP) ([x].map ivOf)]) (f:=CdF c (ivOf x)) (fun hp hF=>by have:=hF _ (.head _);rw [hc1] at this;exact Yi.1 this) ?_
   repeat' (first|refine ZF ?_|refine ZI ?_|refine ZJ ?_|refine ZG ?_|refine ZO ?_|refine ZH ?_|refine ZN ?_|refine ZM (fun b=>?_)|refine ZL (fun b=>?_)|refine ZB ?_|refine ZD ?_|refine ZK ?_|refine Zo (es:=[x]) (f:=ivl) 0 x hx0 (fun b off=>?_)|refine Zq ?_|(refine ZC (fun hc=>?_) (fun hc=>?_)<;>(try simp at hc)<;>(try omega))|(refine ZE (fun hc=>?_) (fun hc=>?_)<;>(try simp at hc)<;>(try omega)))
   exact ZR x rfl trivial
  ·rw [both_many (by rw [←hrl];exact h1)]
   refine Z2 (F1:=[Sl 100 ivl o' cap' rs,CdsF (l.flatMap allP) (rs.map ivOf)]) (f:=CdF (.all (l.flatMap allP)) (ivOf (225,.agg #[.slice o' rs.length cap']))) (fun hp hF=>?_) ?_
   ·show CdP hp _ _
    rw [CdP]
    exact ⟨o',cap',rs,rfl,hF _ (.head _),hF _ (.tail _ (.head _))⟩
   repeat' (first|refine ZF ?_|refine ZI ?_|refine ZJ ?_|refine ZG ?_|refine ZO ?_|refine ZH ?_|refine ZN ?_|refine ZM (fun b=>?_)|refine ZL (fun b=>?_)|refine ZB ?_|refine ZD ?_|refine ZK ?_|(refine ZC (fun hc=>?_) (fun hc=>?_)<;>(try simp at hc)<;>(try omega))|(refine ZE (fun hc=>?_) (fun hc=>?_)<;>(try simp at hc)<;>(try omega)))
   exact ZR (225,.agg #[.slice o' rs.length cap']) rfl trivial
theorem beqT {a b:ByteArray} (h:a=b):(a.toList == b.toList)=true:=by rw [h];simp
theorem beqF {a b:ByteArray} (h:a≠b):(a.toList == b.toList)=false:=by
 rw [Bool.eq_false_iff];simpa using fun e=>h (Wz.1 e)
theorem KdOK.sfx {x y:Ps} (h:KdOK x) (s:Sfx x y):KdOK y:=fun t ht=>h t (List.IsSuffix.subset s ht)
abbrev RdQ (b r:Nat) (y:Cnd×Ps):Post:=⟨IV×Option Addr×Nat,fun q=>ivOf q.1,fun _=>True,fun q=>[CdF y.1 (ivOf q.1),TkS q.2 y.2.tk],fun q=>[Pt b (psC y.2 q.2.1 q.2.2 r),Mp skv vid r tstL]⟩
def OpI (x:Ps):Prop:=0≤x.op∧x.op+(x.tk.length:Int)≤300000
structure PkOK (x:Ps):Prop where
 kd:KdOK x
 op:OpI x
 ln:x.tk.length≤100000
theorem PkOK.sfx {x y:Ps} (h:PkOK x) (s:Sfx x y) (e:Sop x y):PkOK y:=by
 refine ⟨h.kd.sfx s,?_,Nat.le_trans s.len h.ln⟩
 obtain ⟨a,b⟩:=h.op
 have l:=s.len
 unfold Sop at e
 unfold OpI
 rw [e]
 exact ⟨a,by omega⟩
def SpF (F:FuncId) (b r:Nat) (x:Ps) (o:Option Addr) (cap:Nat) (y:Cnd×Ps):Prop:=Enters F∧Spec prog F #[.pointer (some ⟨b,0,none⟩)] [TkS (o,cap) x.tk,ErA,P10] [Pt b (psC x o cap r),Mp skv vid r tstL] (RdQ b r y)
set_option maxHeartbeats 4000000 in
theorem ruFactor_not (n b r:Nat) (x:Ps) (o:Option Addr) (cap:Nat) (hx:PkOK x) (h1:x.peek.kd=1) (h2:x.peek.tx=wNot) (ih:∀o cap,SpF 154 b r x.pass o cap (factorF n x.pass)) :
  SpF 154 b r x o cap (factorF (n+1) x):=by
 have n1:=Yt b r x o cap hx.kd
 have e:factorF (n+1) x=(.nt (factorF n x.pass).1,(factorF n x.pass).2):=by
  rw [factorF];dsimp only;rw [if_pos ⟨h1,h2⟩]
 rw [e]
 have n2:=fun (q:Option Addr×Nat)=>ih q.1 q.2
 unfold SpF at n2
 generalize factorF n x.pass=y at n2 ⊢
 generalize hp:x.peek=t at *
 obtain ⟨kd,tx,pl⟩:=t
 dsimp only at h1 h2
 subst h1
 have hb:=beqT (a:=tx) (b:=⟨#[110,111,116]⟩) h2
 generalize b=bp at *
 unfold SpF
 refine ZS [_] func154 ntmps154 fun G w hp=>?_
 repeat' (first|refine ZF ?_|refine ZI ?_|refine ZJ ?_|refine ZG ?_|refine ZO ?_|refine ZH ?_|refine ZN ?_|refine ZM (fun b=>?_)|refine ZL (fun b=>?_)|refine ZB ?_|refine ZD ?_|refine ZK ?_|refine ZA (n1) (fun _ _=>?_)|refine l_call0 (n1) (fun _ _=>?_)|refine ZA (n2 _) (fun _ _=>?_)|refine l_call0 (n2 _) (fun _ _=>?_)|rw [hb]|(refine ZC (fun hc=>?_) (fun hc=>?_)<;>(try simp at hc)<;>(try omega))|(refine ZE (fun hc=>?_) (fun hc=>?_)<;>(try simp at hc)<;>(try omega)))
 rename_i q _
 obtain ⟨⟨T,u⟩,q2⟩:=q
 refine Z2 (F1:=[CdF y.1 (ivOf (T,u))]) (f:=CdF (.nt y.1) (ivOf (223,.agg #[ivOf (T,u)]))) (fun hp hF=>?_) ?_
 ·show CdP hp _ _
  rw [CdP]
  exact ⟨_,rfl,hF _ (.head _)⟩
 exact ZR ((223,.agg #[ivOf (T,u)]),q2) rfl trivial
theorem factor_bad {n:Nat} {x:Ps} (h1:¬(x.peek.kd=1∧x.peek.tx=wNot)) (h2:¬(x.peek.kd=4∧x.peek.tx=yOpn)) (h3:¬(x.peek.kd=1∧isTst x.peek.tx=true)):factorF (n+1) x=(.nt .nul,x.pass.fail x.peek.pl 30):=by
 rw [factorF];dsimp only;rw [if_neg h1,if_neg h2,if_neg h3]
set_option maxHeartbeats 4000000 in
theorem ruFactor_bad (n b r:Nat) (x:Ps) (o:Option Addr) (cap:Nat) (hx:PkOK x) (h1:¬(x.peek.kd=1∧x.peek.tx=wNot)) (h2:¬(x.peek.kd=4∧x.peek.tx=yOpn)) (h3:¬(x.peek.kd=1∧isTst x.peek.tx=true)) :
  SpF 154 b r x o cap (factorF (n+1) x):=by
 have n1:=Yt b r x o cap hx.kd
 have n2:=fun (q:Option Addr×Nat)=>Zw b r x.pass q.1 q.2 x.peek.pl 30
 rw [factor_bad h1 h2 h3]
 generalize x.pass.fail x.peek.pl 30=y at n2 ⊢
 generalize hp:x.peek=t at *
 obtain ⟨kd,tx,pl⟩:=t
 dsimp only at h1 h2 h3 n2
 have fin:∀hp:H,CdP hp (.nt .nul) (ivOf (223,.agg #[.nilIface])):=fun hp=>by
  rw [CdP];exact ⟨_,rfl,by rw [CdP]⟩
 generalize b=bp at *
 unfold SpF
 by_cases k1:kd=1
 ·subst k1
  have hb:=beqF (a:=tx) (b:=⟨#[110,111,116]⟩) (fun e=>h1 ⟨rfl,e⟩)
  have hm:=tst_none (w:=tx) (by simpa using fun e=>h3 ⟨rfl,e⟩)
  refine ZS [_] func154 ntmps154 fun G w hp=>?_
  repeat' (first|refine ZF ?_|refine ZI ?_|refine ZJ ?_|refine ZG ?_|refine ZO ?_|refine ZH ?_|refine ZN ?_|refine ZM (fun b=>?_)|refine ZL (fun b=>?_)|refine ZB ?_|refine ZD ?_|refine ZK ?_|refine Za ?_|refine ZX ?_|refine Zh ?_|refine Zb ?_|refine ZY ?_|refine Zg (fun b=>?_)|refine Zi (fun b=>?_)|refine Zj ?_|refine ZZ ?_|refine ZA (n1) (fun _ _=>?_)|refine l_call0 (n1) (fun _ _=>?_)|refine ZQ (n1) (fun _ _=>?_)|refine ZA (n2 _) (fun _ _=>?_)|refine l_call0 (n2 _) (fun _ _=>?_)|refine ZQ (n2 _) (fun _ _=>?_)|rw [hb]|refine XK (V:=vid) Zd tx none hm ?_|(refine ZC (fun hc=>?_) (fun hc=>?_)<;>(try simp at hc)<;>(try omega))|(refine ZU (fun hc=>?_) (fun hc=>?_)<;>(try simp at hc)<;>(try omega))|refine ZT 13 [] [(0,0),(1,0),(2,0),(3,0),(4,0),(5,0),(6,0),(7,0),(8,0),(9,0),(10,0),(11,0)] [] ?_|(refine ZE (fun hc=>?_) (fun hc=>?_)<;>(try simp at hc)<;>(try omega)))
  rename_i q _
  refine k_add (f:=CdF (.nt .nul) (ivOf (223,.agg #[.nilIface]))) fin ?_
  exact ZR ((223,.agg #[.nilIface]),q) rfl trivial
 ·by_cases k4:kd=4
  ·subst k4
   have hb:=beqF (a:=tx) (b:=⟨#[40]⟩) (fun e=>h2 ⟨rfl,e⟩)
   refine ZS [_] func154 ntmps154 fun G w hp=>?_
   repeat' (first|refine ZF ?_|refine ZI ?_|refine ZJ ?_|refine ZG ?_|refine ZO ?_|refine ZH ?_|refine ZN ?_|refine ZM (fun b=>?_)|refine ZL (fun b=>?_)|refine ZB ?_|refine ZD ?_|refine ZK ?_|refine ZA (n1) (fun _ _=>?_)|refine l_call0 (n1) (fun _ _=>?_)|refine ZA (n2 _) (fun _ _=>?_)|refine l_call0 (n2 _) (fun _ _=>?_)|rw [hb]|(refine ZC (fun hc=>?_) (fun hc=>?_)<;>(try simp at hc)<;>(try omega))|(refine ZE (fun hc=>?_) (fun hc=>?_)<;>(try simp at hc)<;>(try omega)))
   rename_i q _
   refine k_add (f:=CdF (.nt .nul) (ivOf (223,.agg #[.nilIface]))) fin ?_
   exact ZR ((223,.agg #[.nilIface]),q) rfl trivial
  ·refine ZS [_] func154 ntmps154 fun G w hp=>?_
   repeat' (first|refine ZF ?_|refine ZI ?_|refine ZJ ?_|refine ZG ?_|refine ZO ?_|refine ZH ?_|refine ZN ?_|refine ZM (fun b=>?_)|refine ZL (fun b=>?_)|refine ZB ?_|refine ZD ?_|refine ZK ?_|refine ZA (n1) (fun _ _=>?_)|refine l_call0 (n1) (fun _ _=>?_)|refine ZA (n2 _) (fun _ _=>?_)|refine l_call0 (n2 _) (fun _ _=>?_)|(refine ZC (fun hc=>?_) (fun hc=>?_)<;>(try simp at hc)<;>(try omega))|(refine ZE (fun hc=>?_) (fun hc=>?_)<;>(try simp at hc)<;>(try omega)))
   rename_i q _
   refine k_add (f:=CdF (.nt .nul) (ivOf (223,.agg #[.nilIface]))) fin ?_
   exact ZR ((223,.agg #[.nilIface]),q) rfl trivial
theorem factor_test {n:Nat} {x:Ps} (h1:x.peek.kd=1) (h3:isTst x.peek.tx=true):factorF (n+1) x=testF x.peek.tx x.pass:=by
 rw [factorF];dsimp only
 rw [if_neg (fun h=>(tst_ne h3).2.2 h.2),if_neg (by rintro ⟨h,_⟩;rw [h1] at h;cases h),if_pos ⟨h1,h3⟩]
theorem ruFactor_test (n b r:Nat) (x:Ps) (o:Option Addr) (cap:Nat) (hx:PkOK x) (h1:x.peek.kd=1) (h3:isTst x.peek.tx=true) :
  SpF 154 b r x o cap (factorF (n+1) x):=by
 have n1:=Yt b r x o cap hx.kd
 rw [factor_test h1 h3]
 have hkd:=hx.kd.pass
 generalize hp:x.peek=t at *
 obtain ⟨kd,tx,pl⟩:=t
 dsimp only at h1 h3 ⊢
 subst h1
 have hb:=beqF (a:=tx) (b:=⟨#[110,111,116]⟩) (tst_ne h3).2.2
 generalize b=bp at *
 unfold SpF
 by_cases c1:idx tx wKinds<3
 ·have hm:=tst_kind c1
  have n2:=ruKind_ok bp tx c1
  have e:testF tx x.pass=(.kd tx ((idx tx wKinds:Nat)+2),x.pass):=by unfold testF;rw [if_pos c1]
  rw [e]
  refine ZS [_] func154 ntmps154 fun G w hp=>?_
  repeat' (first|refine ZF ?_|refine ZI ?_|refine ZJ ?_|refine ZG ?_|refine ZO ?_|refine ZH ?_|refine ZN ?_|refine ZM (fun b=>?_)|refine ZL (fun b=>?_)|refine ZB ?_|refine ZD ?_|refine ZK ?_|refine Za ?_|refine ZX ?_|refine Zh ?_|refine Zb ?_|refine ZY ?_|refine Zg (fun b=>?_)|refine Zi (fun b=>?_)|refine Zj ?_|refine ZZ ?_|refine ZA (n1) (fun _ _=>?_)|refine l_call0 (n1) (fun _ _=>?_)|refine ZQ (n1) (fun _ _=>?_)|rw [hb]|refine XK (V:=vid) Zd tx _ hm ?_|refine Xb n2 (fun _ _=>?_)|(refine ZC (fun hc=>?_) (fun hc=>?_)<;>(try simp at hc)<;>(try omega))|(refine ZU (fun hc=>?_) (fun hc=>?_)<;>(try simp at hc)<;>(try omega))|refine ZT 13 [] [(0,0),(1,0),(2,0),(3,0),(4,0),(5,0),(6,0),(7,0),(8,0),(9,0),(10,0),(11,0)] [] ?_|(refine ZE (fun hc=>?_) (fun hc=>?_)<;>(try simp at hc)<;>(try omega)))
  rename_i q _ v _
  exact ZR (v,q) rfl trivial
 by_cases c2:tx=wChan
 ·subst c2
  have n2:=fun (q:Option Addr×Nat)=>ruChannel_ok bp r x.pass q.1 q.2 hkd
  have hm:=tst_chan
  generalize testF wChan x.pass=y at n2 ⊢
  refine ZS [_] func154 ntmps154 fun G w hp=>?_
  repeat' (first|refine ZF ?_|refine ZI ?_|refine ZJ ?_|refine ZG ?_|refine ZO ?_|refine ZH ?_|refine ZN ?_|refine ZM (fun b=>?_)|refine ZL (fun b=>?_)|refine ZB ?_|refine ZD ?_|refine ZK ?_|refine Za ?_|refine ZX ?_|refine Zh ?_|refine Zb ?_|refine ZY ?_|refine Zg (fun b=>?_)|refine Zi (fun b=>?_)|refine Zj ?_|refine ZZ ?_|refine ZA (n1) (fun _ _=>?_)|refine l_call0 (n1) (fun _ _=>?_)|refine ZQ (n1) (fun _ _=>?_)|rw [hb]|refine XK (V:=vid) Zd wChan _ hm ?_|refine Xb (n2 _) (fun _ _=>?_)|(refine ZC (fun hc=>?_) (fun hc=>?_)<;>(try simp at hc)<;>(try omega))|(refine ZU (fun hc=>?_) (fun hc=>?_)<;>(try simp at hc)<;>(try omega))|refine ZT 13 [] [(0,0),(1,0),(2,0),(3,0),(4,0),(5,0),(6,0),(7,0),(8,0),(9,0),(10,0),(11,0)] [] ?_|(refine ZE (fun hc=>?_) (fun hc=>?_)<;>(try simp at hc)<;>(try omega)))
  rename_i q _
  exact ZR q rfl trivial
 by_cases c3:idx tx wTxs<3
 ·have n2:=fun (q:Option Addr×Nat)=>Wv bp r tx c3 x.pass q.1 q.2 hkd
  have hm:=tst_tx c3
  generalize testF tx x.pass=y at n2 ⊢
  refine ZS [_] func154 ntmps154 fun G w hp=>?_
  repeat' (first|refine ZF ?_|refine ZI ?_|refine ZJ ?_|refine ZG ?_|refine ZO ?_|refine ZH ?_|refine ZN ?_|refine ZM (fun b=>?_)|refine ZL (fun b=>?_)|refine ZB ?_|refine ZD ?_|refine ZK ?_|refine Za ?_|refine ZX ?_|refine Zh ?_|refine Zb ?_|refine ZY ?_|refine Zg (fun b=>?_)|refine Zi (fun b=>?_)|refine Zj ?_|refine ZZ ?_|refine ZA (n1) (fun _ _=>?_)|refine l_call0 (n1) (fun _ _=>?_)|refine ZQ (n1) (fun _ _=>?_)|rw [hb]|refine XK (V:=vid) Zd tx _ hm ?_|refine Xb (n2 _) (fun _ _=>?_)|(refine ZC (fun hc=>?_) (fun hc=>?_)<;>(try simp at hc)<;>(try omega))|(refine ZU (fun hc=>?_) (fun hc=>?_)<;>(try simp at hc)<;>(try omega))|refine ZT 13 [] [(0,0),(1,0),(2,0),(3,0),(4,0),(5,0),(6,0),(7,0),(8,0),(9,0),(10,0),(11,0)] [] ?_|(refine ZE (fun hc=>?_) (fun hc=>?_)<;>(try simp at hc)<;>(try omega)))
  rename_i q _
  exact ZR q rfl trivial
 by_cases c4:idx tx wNms<4
 ·have n2:=fun (q:Option Addr×Nat)=>WR bp r tx c4 x.pass q.1 q.2 hkd
  have hm:=tst_nm c4
  generalize testF tx x.pass=y at n2 ⊢
  refine ZS [_] func154 ntmps154 fun G w hp=>?_
  repeat' (first|refine ZF ?_|refine ZI ?_|refine ZJ ?_|refine ZG ?_|refine ZO ?_|refine ZH ?_|refine ZN ?_|refine ZM (fun b=>?_)|refine ZL (fun b=>?_)|refine ZB ?_|refine ZD ?_|refine ZK ?_|refine Za ?_|refine ZX ?_|refine Zh ?_|refine Zb ?_|refine ZY ?_|refine Zg (fun b=>?_)|refine Zi (fun b=>?_)|refine Zj ?_|refine ZZ ?_|refine ZA (n1) (fun _ _=>?_)|refine l_call0 (n1) (fun _ _=>?_)|refine ZQ (n1) (fun _ _=>?_)|rw [hb]|refine XK (V:=vid) Zd tx _ hm ?_|refine Xb (n2 _) (fun _ _=>?_)|(refine ZC (fun hc=>?_) (fun hc=>?_)<;>(try simp at hc)<;>(try omega))|(refine ZU (fun hc=>?_) (fun hc=>?_)<;>(try simp at hc)<;>(try omega))|refine ZT 13 [] [(0,0),(1,0),(2,0),(3,0),(4,0),(5,0),(6,0),(7,0),(8,0),(9,0),(10,0),(11,0)] [] ?_|(refine ZE (fun hc=>?_) (fun hc=>?_)<;>(try simp at hc)<;>(try omega)))
  rename_i q _
  exact ZR q rfl trivial
 have c5:tx=wBy:=by
  simp only [isTst,Bool.or_eq_true,decide_eq_true_eq] at h3
  rcases h3 with (((h|h)|h)|h)|h
  ·exact absurd h c1
  ·exact absurd h c2
  ·exact absurd h c3
  ·exact absurd h c4
  ·exact h
 subst c5
 have n2:=fun (q:Option Addr×Nat)=>ruBy_ok bp r x.pass q.1 q.2 hkd
 have hm:=tst_by
 generalize testF wBy x.pass=y at n2 ⊢
 refine ZS [_] func154 ntmps154 fun G w hp=>?_
 repeat' (first|refine ZF ?_|refine ZI ?_|refine ZJ ?_|refine ZG ?_|refine ZO ?_|refine ZH ?_|refine ZN ?_|refine ZM (fun b=>?_)|refine ZL (fun b=>?_)|refine ZB ?_|refine ZD ?_|refine ZK ?_|refine Za ?_|refine ZX ?_|refine Zh ?_|refine Zb ?_|refine ZY ?_|refine Zg (fun b=>?_)|refine Zi (fun b=>?_)|refine Zj ?_|refine ZZ ?_|refine ZA (n1) (fun _ _=>?_)|refine l_call0 (n1) (fun _ _=>?_)|refine ZQ (n1) (fun _ _=>?_)|rw [hb]|refine XK (V:=vid) Zd wBy _ hm ?_|refine Xb (n2 _) (fun _ _=>?_)|(refine ZC (fun hc=>?_) (fun hc=>?_)<;>(try simp at hc)<;>(try omega))|(refine ZU (fun hc=>?_) (fun hc=>?_)<;>(try simp at hc)<;>(try omega))|refine ZT 13 [] [(0,0),(1,0),(2,0),(3,0),(4,0),(5,0),(6,0),(7,0),(8,0),(9,0),(10,0),(11,0)] [] ?_|(refine ZE (fun hc=>?_) (fun hc=>?_)<;>(try simp at hc)<;>(try omega)))
 rename_i q _
 exact ZR q rfl trivial
set_option maxHeartbeats 4000000 in
theorem ruFactor_par (n b r:Nat) (x:Ps) (o:Option Addr) (cap:Nat) (hx:PkOK x) (h1:x.peek.kd=4) (h2:x.peek.tx=yOpn) (ih:∀q o cap,PkOK q→q.tk.length+1≤x.tk.length→SpF 107 b r q o cap (condF n q)) :
  SpF 154 b r x o cap (factorF (n+1) x):=by
 have n1:=Yt b r x o cap hx.kd
 have hln:=XN (p:=x) (by rw [h1];decide)
 have n2:=fun (q:Option Addr×Nat)=>Zw b r x.pass q.1 q.2 x.peek.pl 9
 obtain ⟨p1,p2⟩:=hx.op
 have hk1:=(hx.kd).pass
 have hl:=hx.ln
 rw [factorF];dsimp only
 rw [if_neg (by rw [h1];rintro ⟨h,_⟩;cases h),if_pos ⟨h1,h2⟩]
 have hpo:x.pass.op=x.op:=rfl
 generalize hp:x.peek=t at *
 obtain ⟨kd,tx,pl⟩:=t
 dsimp only at h1 h2 n2 ⊢
 subst h1
 have hb:=beqT (a:=tx) (b:=⟨#[40]⟩) h2
 generalize hxp:x.pass=xp at *
 have key:∀q:Ps,Sfx xp q→Sop xp q→∃hz:PkOK {q with op:=q.op+1},True:=fun q s e=>by
  have l:=s.len
  unfold Sop at e
  refine ⟨⟨hk1.sfx s,⟨by show 0≤q.op+1;omega,?_⟩,by show q.tk.length≤_;omega⟩,trivial⟩
  show q.op+1+(q.tk.length:Int)≤_
  omega
 have key2:∀q:Ps,Sfx xp q→Sop xp q→KdOK (condF n {q with op:=q.op+1}).2∧(((condF n {q with op:=q.op+1}).2.symb yCls).op=xp.op+1):=fun q s e=>by
  have a:=(YS n).2.2.2.1 {q with op:=q.op+1}
  have b:(condF n {q with op:=q.op+1}).2.op=q.op+1:=(XT n).2.2.2.1 {q with op:=q.op+1}
  have c:((condF n {q with op:=q.op+1}).2.symb yCls).op=(condF n {q with op:=q.op+1}).2.op:=Sop.symb _ _
  unfold Sop at e
  exact ⟨(hk1.sfx s).sfx a,by rw [c,b,e]⟩
 generalize b=bp at *
 unfold SpF at ih ⊢
 by_cases c:xp.op=32
 ·rw [if_pos c]
  have s0:=Sfx.fail xp pl 9
  have e0:=Sop.fail xp pl 9
  generalize hy0:xp.fail pl 9=y0 at *
  obtain ⟨hz,_⟩:=key y0 s0 e0
  obtain ⟨k1,k2⟩:=key2 y0 s0 e0
  have l0:=s0.len
  have n3:=fun (q:Option Addr×Nat)=>ih {y0 with op:=y0.op+1} q.1 q.2 hz (by show y0.tk.length+1≤_;omega)
  have e0':y0.op=xp.op:=e0
  have w1:=wrapi (z:=y0.op+1) (by omega) (by omega)
  generalize condF n {y0 with op:=y0.op+1}=y at *
  obtain ⟨cy,sy⟩:=y
  dsimp only at k1 k2 n3 ⊢
  have n4:=fun (q:Option Addr×Nat)=>Xq bp r sy q.1 q.2 k1 yCls
  generalize sy.symb yCls=s at *
  have w2:=wrapi (z:=s.op - 1) (by omega) (by omega)
  refine ZS [_] func154 ntmps154 fun G w hp=>?_
  repeat' (first|refine ZF ?_|refine ZI ?_|refine ZJ ?_|refine ZG ?_|refine ZO ?_|refine ZH ?_|refine ZN ?_|refine ZM (fun b=>?_)|refine ZL (fun b=>?_)|refine ZB ?_|refine ZD ?_|refine ZK ?_|refine ZA (n1) (fun _ _=>?_)|refine l_call0 (n1) (fun _ _=>?_)|refine ZA (n2 _) (fun _ _=>?_)|refine l_call0 (n2 _) (fun _ _=>?_)|refine ZA (n3 _) (fun _ _=>?_)|refine l_call0 (n3 _) (fun _ _=>?_)|refine ZA (n4 _) (fun _ _=>?_)|refine l_call0 (n4 _) (fun _ _=>?_)|rw [hb]|rw [w1]|rw [w2]|(refine ZC (fun hc=>?_) (fun hc=>?_)<;>(try simp at hc)<;>(try omega))|(refine ZE (fun hc=>?_) (fun hc=>?_)<;>(try simp at hc)<;>(try omega)))
  rename_i iv _ q _
  exact ZR (iv.1,q) rfl trivial
 ·rw [if_neg c]
  obtain ⟨hz,_⟩:=key xp (Sfx.refl _) (Sop.refl _)
  obtain ⟨k1,k2⟩:=key2 xp (Sfx.refl _) (Sop.refl _)
  have n3:=fun (q:Option Addr×Nat)=>ih {xp with op:=xp.op+1} q.1 q.2 hz (by show xp.tk.length+1≤_;omega)
  have w1:=wrapi (z:=xp.op+1) (by omega) (by omega)
  generalize condF n {xp with op:=xp.op+1}=y at *
  obtain ⟨cy,sy⟩:=y
  dsimp only at k1 k2 n3 ⊢
  have n4:=fun (q:Option Addr×Nat)=>Xq bp r sy q.1 q.2 k1 yCls
  generalize sy.symb yCls=s at *
  have w2:=wrapi (z:=s.op - 1) (by omega) (by omega)
  refine ZS [_] func154 ntmps154 fun G w hp=>?_
  repeat' (first|refine ZF ?_|refine ZI ?_|refine ZJ ?_|refine ZG ?_|refine ZO ?_|refine ZH ?_|refine ZN ?_|refine ZM (fun b=>?_)|refine ZL (fun b=>?_)|refine ZB ?_|refine ZD ?_|refine ZK ?_|refine ZA (n1) (fun _ _=>?_)|refine l_call0 (n1) (fun _ _=>?_)|refine ZA (n3 _) (fun _ _=>?_)|refine l_call0 (n3 _) (fun _ _=>?_)|refine ZA (n4 _) (fun _ _=>?_)|refine l_call0 (n4 _) (fun _ _=>?_)|rw [hb]|rw [w1]|rw [w2]|(refine ZC (fun hc=>?_) (fun hc=>?_)<;>(try simp at hc)<;>(try omega))|(refine ZE (fun hc=>?_) (fun hc=>?_)<;>(try simp at hc)<;>(try omega)))
  rename_i iv _ q _
  exact ZR (iv.1,q) rfl trivial
theorem row_of1 {T b:Nat} {v:Value} {h:H} (hh:Sep [Pt b (.cells #[v] T)] h):Row T 1 (some ⟨b,0,none⟩) 1 1 [v] h:=by
 obtain ⟨h1,_,_,s1,_,hp,_⟩:=hh
 exact .inr ⟨b,[],(0,0),rfl,s1 _ _ hp,rfl,rfl,Nat.le_refl _,.inl rfl⟩
set_option maxHeartbeats 4000000 in
theorem ruTerm_step (n b r:Nat) (ihf:∀m,m≤n→∀x o cap,PkOK x→4 * x.tk.length+1≤m→SpF 154 b r x o cap (factorF m x)) (x:Ps) (o:Option Addr) (cap:Nat) (hx:PkOK x) (hn:4 * x.tk.length+2≤n+1) :
  SpF 142 b r x o cap (termF (n+1) x):=by
 have n0:=ihf n (Nat.le_refl _) x o cap hx (by omega)
 have hlv:=(lv_all n).1 x
 have s0:=(YS n).1 x
 have hy1:PkOK (factorF n x).2:=hx.sfx s0 ((XT n).1 x)
 have l0:=s0.len
 have hln:=hx.ln
 rw [termF]
 generalize hfin:termL n [(factorF n x).1] (factorF n x).2=fin
 generalize factorF n x=y1 at *
 obtain ⟨c1,x1⟩:=y1
 obtain ⟨lf,sf⟩:=fin
 dsimp only at hlv hy1 l0 hfin ⊢
 unfold SpF at n0 ⊢
 generalize b=bp at *
 refine ZS [_] func142 ntmps142 fun G w hp=>?_
 repeat' (first|refine ZF ?_|refine ZI ?_|refine ZJ ?_|refine ZG ?_|refine ZO ?_|refine ZH ?_|refine ZN ?_|refine ZM (fun b=>?_)|refine ZL (fun b=>?_)|refine ZB ?_|refine ZD ?_|refine ZA (n0) (fun _ _=>?_)|refine l_call0 (n0) (fun _ _=>?_)|(refine ZC (fun hc=>?_) (fun hc=>?_)<;>(try simp at hc))|(refine ZE (fun hc=>?_) (fun hc=>?_)<;>(try simp at hc)))
 rename_i q _
 obtain ⟨⟨T,u⟩,q2⟩:=q
 refine Z0 (Lx:=[Pt b (.cells #[ivOf (T,u)] 100)]) (r:=Row 100 1 (some ⟨b,0,none⟩) 1 1 [ivOf (T,u)]) (fun h hh=>row_of1 hh) ?_
 refine Z2 (F1:=[CdF c1 (ivOf (T,u))]) (f:=CdsF [c1] [ivOf (T,u)]) (fun hp hF=>Yi.2 (hF _ (.head _))) ?_
 refine Yj (X:={q:(Nat×List Cnd×Ps)×List IV×(Option Addr×Nat)×(Option Addr×Nat) // termL q.1.1 q.1.2.1 q.1.2.2=(lf,sf)∧q.1.1≤n∧4 * q.1.2.2.tk.length+1≤q.1.1∧PkOK q.1.2.2∧q.2.1.length=q.1.2.1.length∧lvs q.1.2.1+3 * q.1.2.2.tk.length≤300010})
  (fun q=>[(0,.pointer (some ⟨bp,0,none⟩)),(3,.slice q.1.2.2.2.1 q.1.2.1.length q.1.2.2.2.2)]) (fun q=>[TkS q.1.2.2.1 q.1.1.2.2.tk,ErA,P10,CdsF q.1.1.2.1 (q.1.2.1.map ivOf)]) (fun q=>[Pt bp (psC q.1.1.2.2 q.1.2.2.1.1 q.1.2.2.1.2 r),Mp skv vid r tstL,Row 100 1 q.1.2.2.2.1 q.1.2.1.length q.1.2.2.2.2 (q.1.2.1.flatMap ivl)]) (fun q=>q.1.1.1)
  ⟨((n,[c1],x1),[(T,u)],q2,(some ⟨b,0,none⟩,1)),hfin,Nat.le_refl _,by show 4 * x1.tk.length+1≤n;omega,hy1,rfl,by show lvs [c1]+3 * x1.tk.length≤_;simp only [lvs];omega⟩ ⟨rfl,rfl,trivial⟩ ?_
 rintro ⟨⟨⟨m,l,s⟩,vs,⟨o1,cap1⟩,⟨o2,cap2⟩⟩,i1,i2,i3,i4,i5,i6⟩
 dsimp only at i1 i2 i3 i4 i5 i6 ⊢
 obtain ⟨m,rfl⟩:∃k,m=k+1:=⟨m - 1,by omega⟩
 have n1:=Y9 bp r s o1 cap1 i4.kd 1 wAnd
 have hll:=Xj l
 rw [termL] at i1
 cases hi:s.is 1 wAnd with
 | true=>
  rw [hi] at n1 i1
  rw [if_pos rfl] at n1 i1
  have hpl:=is_pass (by decide) hi
  have hps:PkOK s.pass:=i4.sfx (Sfx.pass s) (Sop.pass s)
  have n2:=fun (q:Option Addr×Nat)=>ihf m (by omega) s.pass q.1 q.2 hps (by omega)
  have a1:=(lv_all m).1 s.pass
  have a2:=((YS m).1 s.pass).len
  have a3:PkOK (factorF m s.pass).2:=hps.sfx ((YS m).1 s.pass) ((XT m).1 s.pass)
  unfold SpF at n2
  generalize factorF m s.pass=y at *
  obtain ⟨c,s2⟩:=y
  dsimp only at i1 a1 a2 a3 n2
  have hroom:(2 * (vs.length+1)+200) * 16≤281474976710656:=by omega
  repeat' (first|refine XZ (m:=vs.length) (m2:=1) (fun o3 cap3=>?_) (hroom:=hroom)|refine ZF ?_|refine ZI ?_|refine ZJ ?_|refine ZG ?_|refine ZO ?_|refine ZH ?_|refine ZN ?_|refine ZM (fun b=>?_)|refine ZL (fun b=>?_)|refine ZB ?_|refine ZD ?_|refine ZA (n1) (fun _ _=>?_)|refine l_call0 (n1) (fun _ _=>?_)|refine ZA (n2 _) (fun _ _=>?_)|refine l_call0 (n2 _) (fun _ _=>?_)|(refine ZC (fun hc=>?_) (fun hc=>?_)<;>(try simp at hc)<;>(try omega))|(refine ZE (fun hc=>?_) (fun hc=>?_)<;>(try simp at hc)<;>(try omega)))
  rename_i q0 _ iv _
  obtain ⟨⟨T2,u2⟩,q3⟩:=iv
  have e1:vs.length+1=(vs++[(T2,u2)]).length:=by simp
  have e2:vs.flatMap ivl++[ivOf (T2,u2)]=(vs++[(T2,u2)]).flatMap ivl:=by simp
  refine YZ (T:=100) (sz:=1) (o:=o3) (cap:=cap3) (m:=vs.length+1) _ _ e1 e2 ?_
  rw [e1]
  refine Z2 (F1:=[CdsF l (vs.map ivOf),CdF c (ivOf (T2,u2))]) (f:=CdsF (l++[c]) ((vs++[(T2,u2)]).map ivOf)) (fun hp hF=>?_) ?_
  ·show CdsP hp _ _
   rw [List.map_append]
   exact Y4 (hF _ (.head _)) (Yi.2 (hF _ (.tail _ (.head _))))
  exact Ze ⟨((m,l++[c],s2),vs++[(T2,u2)],q3,(o3,cap3)),i1,by show m≤n;omega,by show 4 * s2.tk.length+1≤m;omega,a3,by show (vs++[_]).length=(l++[c]).length;simp [i5],by show lvs (l++[c])+3 * s2.tk.length≤_;rw [Xf];simp only [lvs];omega⟩ (Nat.lt_succ_self m) ⟨rfl,rfl,trivial⟩
 | false=>
  rw [hi] at n1 i1
  rw [if_neg (by decide)] at n1 i1
  obtain ⟨rfl,rfl⟩:=Prod.mk.inj i1
  have hb1:=lvs_alls l
  have hb2:=Xj (l.flatMap allP)
  have n3:=ruBoth_ok o2 cap2 l vs i5 (by omega) (by omega)
  refine k_frz (T:=100) (sz:=1) (f:=ivl) (o:=o2) (cap:=cap2) vs ?_ rfl rfl
  repeat' (first|refine ZF ?_|refine ZI ?_|refine ZJ ?_|refine ZG ?_|refine ZO ?_|refine ZH ?_|refine ZN ?_|refine ZM (fun b=>?_)|refine ZL (fun b=>?_)|refine ZB ?_|refine ZD ?_|refine ZK ?_|refine ZA (n1) (fun _ _=>?_)|refine l_call0 (n1) (fun _ _=>?_)|refine ZA (n3) (fun _ _=>?_)|refine l_call0 (n3) (fun _ _=>?_)|(refine ZC (fun hc=>?_) (fun hc=>?_)<;>(try simp at hc)<;>(try omega))|(refine ZE (fun hc=>?_) (fun hc=>?_)<;>(try simp at hc)<;>(try omega)))
  rename_i q0 _ iv _
  exact ZR (iv,q0) rfl trivial
set_option maxHeartbeats 4000000 in
theorem ruCond_step (n b r:Nat) (iht:∀m,m≤n→∀x o cap,PkOK x→4 * x.tk.length+2≤m→SpF 142 b r x o cap (termF m x)) (x:Ps) (o:Option Addr) (cap:Nat) (hx:PkOK x) (hn:4 * x.tk.length+3≤n+1) :
  SpF 107 b r x o cap (condF (n+1) x):=by
 have n0:=iht n (Nat.le_refl _) x o cap hx (by omega)
 have hlv:=(lv_all n).2.1 x
 have s0:=(YS n).2.1 x
 have hy1:PkOK (termF n x).2:=hx.sfx s0 ((XT n).2.1 x)
 have l0:=s0.len
 have hln:=hx.ln
 rw [condF]
 generalize hfin:condL n [(termF n x).1] (termF n x).2=fin
 generalize termF n x=y1 at *
 obtain ⟨c1,x1⟩:=y1
 obtain ⟨lf,sf⟩:=fin
 dsimp only at hlv hy1 l0 hfin ⊢
 unfold SpF at n0 ⊢
 generalize b=bp at *
 refine ZS [_] func107 ntmps107 fun G w hp=>?_
 repeat' (first|refine ZF ?_|refine ZI ?_|refine ZJ ?_|refine ZG ?_|refine ZO ?_|refine ZH ?_|refine ZN ?_|refine ZM (fun b=>?_)|refine ZL (fun b=>?_)|refine ZB ?_|refine ZD ?_|refine ZA (n0) (fun _ _=>?_)|refine l_call0 (n0) (fun _ _=>?_)|(refine ZC (fun hc=>?_) (fun hc=>?_)<;>(try simp at hc))|(refine ZE (fun hc=>?_) (fun hc=>?_)<;>(try simp at hc)))
 rename_i q _
 obtain ⟨⟨T,u⟩,q2⟩:=q
 refine Z0 (Lx:=[Pt b (.cells #[ivOf (T,u)] 100)]) (r:=Row 100 1 (some ⟨b,0,none⟩) 1 1 [ivOf (T,u)]) (fun h hh=>row_of1 hh) ?_
 refine Z2 (F1:=[CdF c1 (ivOf (T,u))]) (f:=CdsF [c1] [ivOf (T,u)]) (fun hp hF=>Yi.2 (hF _ (.head _))) ?_
 refine Yj (X:={q:(Nat×List Cnd×Ps)×List IV×(Option Addr×Nat)×(Option Addr×Nat) // condL q.1.1 q.1.2.1 q.1.2.2=(lf,sf)∧q.1.1≤n∧4 * q.1.2.2.tk.length+2≤q.1.1∧PkOK q.1.2.2∧q.2.1.length=q.1.2.1.length∧lvs q.1.2.1+3 * q.1.2.2.tk.length≤300010})
  (fun q=>[(0,.pointer (some ⟨bp,0,none⟩)),(3,.slice q.1.2.2.2.1 q.1.2.1.length q.1.2.2.2.2)]) (fun q=>[TkS q.1.2.2.1 q.1.1.2.2.tk,ErA,P10,CdsF q.1.1.2.1 (q.1.2.1.map ivOf)]) (fun q=>[Pt bp (psC q.1.1.2.2 q.1.2.2.1.1 q.1.2.2.1.2 r),Mp skv vid r tstL,Row 100 1 q.1.2.2.2.1 q.1.2.1.length q.1.2.2.2.2 (q.1.2.1.flatMap ivl)]) (fun q=>q.1.1.1)
  ⟨((n,[c1],x1),[(T,u)],q2,(some ⟨b,0,none⟩,1)),hfin,Nat.le_refl _,by show 4 * x1.tk.length+2≤n;omega,hy1,rfl,by show lvs [c1]+3 * x1.tk.length≤_;simp only [lvs];omega⟩ ⟨rfl,rfl,trivial⟩ ?_
 rintro ⟨⟨⟨m,l,s⟩,vs,⟨o1,cap1⟩,⟨o2,cap2⟩⟩,i1,i2,i3,i4,i5,i6⟩
 dsimp only at i1 i2 i3 i4 i5 i6 ⊢
 obtain ⟨m,rfl⟩:∃k,m=k+1:=⟨m - 1,by omega⟩
 have n1:=Y9 bp r s o1 cap1 i4.kd 1 wOr
 have hll:=Xj l
 rw [condL] at i1
 cases hi:s.is 1 wOr with
 | true=>
  rw [hi] at n1 i1
  rw [if_pos rfl] at n1 i1
  have hpl:=is_pass (by decide) hi
  have hps:PkOK s.pass:=i4.sfx (Sfx.pass s) (Sop.pass s)
  have n2:=fun (q:Option Addr×Nat)=>iht m (by omega) s.pass q.1 q.2 hps (by omega)
  have a1:=(lv_all m).2.1 s.pass
  have a2:=((YS m).2.1 s.pass).len
  have a3:PkOK (termF m s.pass).2:=hps.sfx ((YS m).2.1 s.pass) ((XT m).2.1 s.pass)
  unfold SpF at n2
  generalize termF m s.pass=y at *
  obtain ⟨c,s2⟩:=y
  dsimp only at i1 a1 a2 a3 n2
  have hroom:(2 * (vs.length+1)+200) * 16≤281474976710656:=by omega
  repeat' (first|refine XZ (m:=vs.length) (m2:=1) (fun o3 cap3=>?_) (hroom:=hroom)|refine ZF ?_|refine ZI ?_|refine ZJ ?_|refine ZG ?_|refine ZO ?_|refine ZH ?_|refine ZN ?_|refine ZM (fun b=>?_)|refine ZL (fun b=>?_)|refine ZB ?_|refine ZD ?_|refine ZA (n1) (fun _ _=>?_)|refine l_call0 (n1) (fun _ _=>?_)|refine ZA (n2 _) (fun _ _=>?_)|refine l_call0 (n2 _) (fun _ _=>?_)|(refine ZC (fun hc=>?_) (fun hc=>?_)<;>(try simp at hc)<;>(try omega))|(refine ZE (fun hc=>?_) (fun hc=>?_)<;>(try simp at hc)<;>(try omega)))
  rename_i q0 _ iv _
  obtain ⟨⟨T2,u2⟩,q3⟩:=iv
  have e1:vs.length+1=(vs++[(T2,u2)]).length:=by simp
  have e2:vs.flatMap ivl++[ivOf (T2,u2)]=(vs++[(T2,u2)]).flatMap ivl:=by simp
  refine YZ (T:=100) (sz:=1) (o:=o3) (cap:=cap3) (m:=vs.length+1) _ _ e1 e2 ?_
  rw [e1]
  refine Z2 (F1:=[CdsF l (vs.map ivOf),CdF c (ivOf (T2,u2))]) (f:=CdsF (l++[c]) ((vs++[(T2,u2)]).map ivOf)) (fun hp hF=>?_) ?_
  ·show CdsP hp _ _
   rw [List.map_append]
   exact Y4 (hF _ (.head _)) (Yi.2 (hF _ (.tail _ (.head _))))
  exact Ze ⟨((m,l++[c],s2),vs++[(T2,u2)],q3,(o3,cap3)),i1,by show m≤n;omega,by show 4 * s2.tk.length+2≤m;omega,a3,by show (vs++[_]).length=(l++[c]).length;simp [i5],by show lvs (l++[c])+3 * s2.tk.length≤_;rw [Xf];simp only [lvs];omega⟩ (Nat.lt_succ_self m) ⟨rfl,rfl,trivial⟩
 | false=>
  rw [hi] at n1 i1
  rw [if_neg (by decide)] at n1 i1
  obtain ⟨rfl,rfl⟩:=Prod.mk.inj i1
  have hb1:=lvs_anys l
  have hb2:=Xj (l.flatMap anyP)
  have n3:=ruEither_ok o2 cap2 l vs i5 (by omega) (by omega)
  refine k_frz (T:=100) (sz:=1) (f:=ivl) (o:=o2) (cap:=cap2) vs ?_ rfl rfl
  repeat' (first|refine ZF ?_|refine ZI ?_|refine ZJ ?_|refine ZG ?_|refine ZO ?_|refine ZH ?_|refine ZN ?_|refine ZM (fun b=>?_)|refine ZL (fun b=>?_)|refine ZB ?_|refine ZD ?_|refine ZK ?_|refine ZA (n1) (fun _ _=>?_)|refine l_call0 (n1) (fun _ _=>?_)|refine ZA (n3) (fun _ _=>?_)|refine l_call0 (n3) (fun _ _=>?_)|(refine ZC (fun hc=>?_) (fun hc=>?_)<;>(try simp at hc)<;>(try omega))|(refine ZE (fun hc=>?_) (fun hc=>?_)<;>(try simp at hc)<;>(try omega)))
  rename_i q0 _ iv _
  exact ZR (iv,q0) rfl trivial
theorem ruAll (b r:Nat):∀n:Nat,
  (∀m,m≤n→∀x o cap,PkOK x→4 * x.tk.length+1≤m→SpF 154 b r x o cap (factorF m x))∧
  (∀m,m≤n→∀x o cap,PkOK x→4 * x.tk.length+2≤m→SpF 142 b r x o cap (termF m x))∧
  (∀m,m≤n→∀x o cap,PkOK x→4 * x.tk.length+3≤m→SpF 107 b r x o cap (condF m x))
 | 0=>⟨fun m hm x o cap _ h=>absurd h (by omega),fun m hm x o cap _ h=>absurd h (by omega),fun m hm x o cap _ h=>absurd h (by omega)⟩
 | n+1=>by
  obtain ⟨h1,h2,h3⟩:=ruAll b r n
  refine ⟨fun m hm x o cap hx hl=>?_,fun m hm x o cap hx hl=>?_,fun m hm x o cap hx hl=>?_⟩
  ·by_cases hmn:m≤n
   ·exact h1 m hmn x o cap hx hl
   ·obtain rfl:m=n+1:=by omega
    by_cases c1:x.peek.kd=1∧x.peek.tx=wNot
    ·have hp:=XN (p:=x) (by rw [c1.1];decide)
     exact ruFactor_not n b r x o cap hx c1.1 c1.2 fun o cap=>h1 n (Nat.le_refl _) x.pass o cap (hx.sfx (Sfx.pass x) (Sop.pass x)) (by omega)
    ·by_cases c2:x.peek.kd=4∧x.peek.tx=yOpn
     ·have hp:=XN (p:=x) (by rw [c2.1];decide)
      exact ruFactor_par n b r x o cap hx c2.1 c2.2 fun q o cap hq hl=>h3 n (Nat.le_refl _) q o cap hq (by omega)
     ·by_cases c3:x.peek.kd=1∧isTst x.peek.tx=true
      ·exact ruFactor_test n b r x o cap hx c3.1 c3.2
      ·exact ruFactor_bad n b r x o cap hx c1 c2 c3
  ·by_cases hmn:m≤n
   ·exact h2 m hmn x o cap hx hl
   ·obtain rfl:m=n+1:=by omega
    exact ruTerm_step n b r h1 x o cap hx hl
  ·by_cases hmn:m≤n
   ·exact h3 m hmn x o cap hx hl
   ·obtain rfl:m=n+1:=by omega
    exact ruCond_step n b r h2 x o cap hx hl
theorem ruCond_ok (b r:Nat) (x:Ps) (o:Option Addr) (cap:Nat) (hx:PkOK x):SpF 107 b r x o cap (condF (fuP x) x):=
 (ruAll b r (fuP x)).2.2 _ (Nat.le_refl _) x o cap hx (by unfold fuP;omega)
section
variable {n:Nat} {C:Cx} {Q:Exit→Act→World→Prop} {E E':List (Nat×Value)} {F F' F1 Fs F0:List Pf} {R R' R0 Rs N N' A:List HP} {k k':List Fr} {ops l:List Oper} {L L':List (Nat×Nat)} {Tl:List Nat} {i d:Nat} {t t2 ty0:TypeId} {x y z:Operand} {pos:String} {aft:Array Edge} {gd:Option (Nat×Bool)}
theorem l_rngS {s:ByteArray} {rs:TRow} (nx:∀it,Wl n C ops.toArray k Q l ((d,.pointer (some ⟨it,0,none⟩))::E) F (Pt it (.stringIter s 0)::R)) (hw:wantL ops E ⟨some d,.range t x,ty0,pos,aft,gd⟩=some true:=by rfl) (hn:Nat.blt d n=true:=by rfl)
  (hx:ev E x=some (.string s):=by rfl) (hts:lookT tab t=some rs:=by rfl) (hrs:rs.k = .str:=by rfl):Wl n C ops.toArray k Q (⟨some d,.range t x,ty0,pos,aft,gd⟩::l) E F R:=
 Z5 (fun t ht=>by cases ht;exact Nat.le_of_ble_eq_true hn) (fun c hc=>by cases hc) hw fun a w ha hsat=>by
  have hu:=Xv (w:=w) hts hrs
  have hno:(newObj (.stringIter s 0)).run prog w = .ok w.heap.size (w.alloc (.stringIter s 0)):=rfl
  unfold OpRes
  simp only [execOp,ha.ev (x:=x) (by rw [ZP];exact hx),Instr.range,Sem.run_bind,hu,Result.andThen,Sem.run_pure,hno]
  exact fun a' ha'=>nx w.heap.size a' _ ha' (hsat.alloc (.stringIter s 0))
theorem l_nxtS {s:ByteArray} {it p:Nat} (nx1:p<s.size→Wl n C ops.toArray k Q l ((d,.tuple #[.bool true,.int .i64 (p:Int),.int .i32 ((Utf8.decode s p).1:Int)])::E) F (Pt it (.stringIter s (p+(Utf8.decode s p).2))::R0)) (nx2:¬p<s.size→Wl n C ops.toArray k Q l ((d,.tuple #[.bool false])::E) F (Pt it (.stringIter s p)::R0))
  (hw:wantL ops E ⟨some d,.next x true,ty0,pos,aft,gd⟩=some true:=by rfl) (hn:Nat.blt d n=true:=by rfl) (hx:ev E x=some (.pointer (some ⟨it,0,none⟩)):=by rfl)
  (hs:Sel (Pt it (.stringIter s p)) R R0:=by (repeat (first|exact Sel.here|apply Sel.there));first|done|fail):Wl n C ops.toArray k Q (⟨some d,.next x true,ty0,pos,aft,gd⟩::l) E F R:=
 Z5 (fun t ht=>by cases ht;exact Nat.le_of_ble_eq_true hn) (fun c hc=>by cases hc) hw fun a w ha hsat=>by
  have h1:=hsat.sel hs
  have hb:=h1.pt Sel.here
  have hg:(getObj it).run prog w = .ok (.stringIter s p) w:=by simp [getObj,Sem.run,hb]
  have hset:∀o,(setObj it o).run prog w = .ok () {w with heap:=w.heap.setIfInBounds it o}:=fun o=>by simp [setObj,Sem.run,hb]
  unfold OpRes
  by_cases hp:p<s.size
  ·simp only [execOp,ha.ev (x:=x) (by rw [ZP];exact hx),Instr.next,Sem.run_bind,hg,Result.andThen,if_pos hp,hset,Sem.run_pure,goInt]
   exact fun a' ha'=>nx1 hp a' _ ha' (Xg h1)
  ·simp only [execOp,ha.ev (x:=x) (by rw [ZP];exact hx),Instr.next,Sem.run_bind,hg,Result.andThen,if_neg hp,Sem.run_pure]
   exact fun a' ha'=>nx2 hp a' _ ha' h1
theorem l_nxtT {s:ByteArray} {it p c b:Nat} (hp:p<s.size) (hd:Utf8.decode s p=(c,b)) (nx:Wl n C ops.toArray k Q l ((d,.tuple #[.bool true,.int .i64 (p:Int),.int .i32 (c:Int)])::E) F (Pt it (.stringIter s (p+b))::R0))
  (hw:wantL ops E ⟨some d,.next x true,ty0,pos,aft,gd⟩=some true:=by rfl) (hn:Nat.blt d n=true:=by rfl) (hx:ev E x=some (.pointer (some ⟨it,0,none⟩)):=by rfl)
  (hs:Sel (Pt it (.stringIter s p)) R R0:=by (repeat (first|exact Sel.here|apply Sel.there));first|done|fail):Wl n C ops.toArray k Q (⟨some d,.next x true,ty0,pos,aft,gd⟩::l) E F R:=
 l_nxtS (fun _=>by rw [hd];exact nx) (fun h=>absurd hp h) hw hn hx hs
theorem l_nxtE {s:ByteArray} {it p:Nat} (hp:¬p<s.size) (nx:Wl n C ops.toArray k Q l ((d,.tuple #[.bool false])::E) F (Pt it (.stringIter s p)::R0))
  (hw:wantL ops E ⟨some d,.next x true,ty0,pos,aft,gd⟩=some true:=by rfl) (hn:Nat.blt d n=true:=by rfl) (hx:ev E x=some (.pointer (some ⟨it,0,none⟩)):=by rfl)
  (hs:Sel (Pt it (.stringIter s p)) R R0:=by (repeat (first|exact Sel.here|apply Sel.there));first|done|fail):Wl n C ops.toArray k Q (⟨some d,.next x true,ty0,pos,aft,gd⟩::l) E F R:=
 l_nxtS (fun h=>absurd h hp) (fun _=>nx) hw hn hx hs
theorem l_i2s {z:Int} {rs rd:TRow} (nx:Wl n C ops.toArray k Q l ((d,.string (Utf8.encode z))::E) F R) (hw:wantL ops E ⟨some d,.convert t t2 x,ty0,pos,aft,gd⟩=some true:=by rfl) (hn:Nat.blt d n=true:=by rfl)
  (hx:ev E x=some (.int .i32 z):=by rfl) (hts:lookT tab t=some rs:=by rfl) (hrs:rs.k = .int .i32:=by rfl) (htd:lookT tab t2=some rd:=by rfl) (hrd:rd.k = .str:=by rfl):Wl n C ops.toArray k Q (⟨some d,.convert t t2 x,ty0,pos,aft,gd⟩::l) E F R:=
 l_q (fun a w ha=>by
  obtain ⟨d1,hd1,hk1⟩:=Zf.und hts
  rw [hrs] at hk1
  cases d1<;>simp [chkKind] at hk1
  subst hk1
  obtain ⟨d2,hd2,hk2⟩:=Zf.und htd
  rw [hrd] at hk2
  cases d2<;>simp [chkKind] at hk2
  have hu1:(underlying t).run prog w = .ok (.int .i32) w:=by simp [underlying,hd1,go_sem]
  have hu2:(underlying t2).run prog w = .ok .string w:=by simp [underlying,hd2,go_sem]
  have e0:=ha.ev (x:=x) (by rw [ZP];exact hx)
  simp only [execOp,e0,convert,Sem.run_bind,hu1,hu2,Result.andThen,Conv.intToString,Sem.run_pure]) nx (by intro c h;cases h) hw hn
end
theorem get_list {s:ByteArray} {p:Nat} (h:p<s.size):s.data.toList[p]? = some (s.get! p):=by
 have hs:s.data.size=s.size:=rfl
 have e:s.get! p=s.data[p]'(by omega):=by
  show s.data[p]! = _
  rw [getElem!_pos]
 rw [e]
 simp [hs,h]
theorem dec_asc {s:ByteArray} {p:Nat} (h:(s.get! p).toNat<128):Utf8.decode s p=((s.get! p).toNat,1):=by
 simp only [Utf8.decode,Nat.add_zero,h,if_true]
theorem dec_non {s:ByteArray} {p:Nat} (hp:p<s.size) (h:128≤(s.get! p).toNat):128≤(Utf8.decode s p).1∧(Utf8.decode s p).1<1114112∧1≤(Utf8.decode s p).2∧p+(Utf8.decode s p).2≤s.size∧(∀j,p≤j→j<p+(Utf8.decode s p).2→128≤(s.get! j).toNat)∧((Utf8.decode s p).1=65533∨Utf8.valid ((Utf8.decode s p).1:Int)=true):=by
 have hc:∀k,(decide (p+k<s.size) && (s.get! (p+k)).toNat / 64 == 2)=true→p+k<s.size∧128≤(s.get! (p+k)).toNat:=fun k hk=>by
  simp only [Bool.and_eq_true,decide_eq_true_eq,beq_iff_eq] at hk
  exact ⟨hk.1,by omega⟩
 have one:128≤Utf8.runeError∧Utf8.runeError<1114112∧1≤1∧p+1≤s.size∧(∀j,p≤j→j<p+1→128≤(s.get! j).toNat)∧(Utf8.runeError=65533∨Utf8.valid (Utf8.runeError:Int)=true):=
  ⟨by decide,by decide,Nat.le_refl _,by omega,fun j h1 h2=>(by have e:j=p:=(by omega);rw [e];exact h),.inl rfl⟩
 simp only [Utf8.decode,Nat.add_zero]
 rw [if_neg (by omega)]
 split
 ·rename_i h2
  simp only [Bool.and_eq_true,beq_iff_eq] at h2
  have c1:=hc 1 (by simp [h2.2])
  split
  ·rename_i h3
   refine ⟨by omega,by omega,by omega,by omega,fun j h4 h5=>?_,.inr ?_⟩
   ·rcases (show j=p∨j=p+1 by omega) with rfl|rfl
    ·exact h
    ·exact c1.2
   ·simp [Utf8.valid];omega
  ·exact one
 ·split
  ·rename_i h2
   simp only [Bool.and_eq_true,beq_iff_eq] at h2
   have c1:=hc 1 (by simp [h2.1.2])
   have c2:=hc 2 (by simp [h2.2])
   split
   ·rename_i h3
    simp only [Bool.and_eq_true,decide_eq_true_eq] at h3
    refine ⟨by omega,by omega,by omega,by omega,fun j h4 h5=>?_,.inr h3.2⟩
    rcases (show j=p∨j=p+1∨j=p+2 by omega) with rfl|rfl|rfl
    ·exact h
    ·exact c1.2
    ·exact c2.2
   ·exact one
  ·split
   ·rename_i h2
    simp only [Bool.and_eq_true,beq_iff_eq] at h2
    have c1:=hc 1 (by simp [h2.1.1.2])
    have c2:=hc 2 (by simp [h2.1.2])
    have c3:=hc 3 (by simp [h2.2])
    split
    ·rename_i h3
     simp only [Bool.and_eq_true,decide_eq_true_eq] at h3
     have hv:=h3.2
     simp only [Utf8.valid,Bool.or_eq_true,Bool.and_eq_true,decide_eq_true_eq] at hv
     refine ⟨by omega,by omega,by omega,by omega,fun j h4 h5=>?_,.inr h3.2⟩
     rcases (show j=p∨j=p+1∨j=p+2∨j=p+3 by omega) with rfl|rfl|rfl|rfl
     ·exact h
     ·exact c1.2
     ·exact c2.2
     ·exact c3.2
    ·exact one
   ·exact one
theorem YM {P:Program} {b:Frame} {a:Act} {k:List Item} {cs:List Frame} {w:World} {c:Code}:step P (lone (b.atR a (.code (.scope c)::k)) cs w) = .next (lone (b.atR a (.code c::.inScope c::k)) cs w):=
 step_lone_go (by simp [stepG,stepG.exec,Frame.atR])
theorem stepR_inScope {P:Program} {b:Frame} {a:Act} {k:List Item} {cs:List Frame} {w:World} {c:Code}:step P (lone (b.atR a (.inScope c::k)) cs w) = .next (lone (b.atR a k) cs w):=
 step_lone_go (by simp [stepG,stepG.exec,Frame.atR])
theorem wpIn_scope {F:Fence} {n:Nat} {P:Program} {Q:Exit→Act→World→Prop} {a:Act} {w:World} {c:Code} (h:c.wpIn F n P (Exit.noGoto Q) a w):(Code.scope c).wpIn F n P Q a w:=by
 intro b k cs hro hb hr
 have h0:(lone (b.atR a (.code (.scope c)::k)) cs w).fenced P F:=fenced_calm hb hr rfl
 obtain ⟨e,a₁,w₁,hq,harr⟩:=h b (.inScope c::k) cs hro hb hr
 cases e with
 | normal=>exact ⟨.normal,a₁,w₁,hq,.head h0 YM (StepsIn.trans harr (.one (fenced_calm hb hr rfl) stepR_inScope))⟩
 | exit id'=>
  have hx:exitTo id' (.inScope c::k)=exitTo id' k:=by simp [exitTo]
  exact ⟨.exit id',a₁,w₁,hq,fun k' hk=>.head h0 YM (harr.1 k' (by rw [hx];exact hk)),
   fun hr' hk=>let ⟨k₁,h1,h2⟩:=harr.2 hr' (by rw [hx];exact hk);⟨k₁,h1,.head h0 YM h2⟩⟩
 | goto l=>exact hq.elim
 | ret=>exact ⟨_,a₁,w₁,hq,.of_steps (.one h0 YM) harr⟩
 | panic ch=>exact ⟨_,a₁,w₁,hq,.of_steps (.one h0 YM) harr⟩
 | outgrown=>exact ⟨_,a₁,w₁,hq,.of_steps (.one h0 YM) harr⟩
theorem k_scope {n:Nat} {C:Cx} {Q:Exit→Act→World→Prop} {E:List (Nat×Value)} {F:List Pf} {R:List HP} {k k':List Fr} {c:Code} (t:Wk n C (.c c::k') Q E F R) (h:nf 1000 k = .c (.scope c)::k':=by rfl) (hg:∀l a w,¬after C.r k' Q (.goto l) a w:=by (intro _ _ _ h;exact h)):Wk n C k Q E F R:=fun a w ha hs=>YT 1000 k (by
 rw [h]
 refine wpIn_scope (wpIn_mono (t a w ha hs) ?_)
 intro e a' w' hx
 cases e with
 | goto l=>exact absurd hx (hg l a' w')
 | _=>exact hx)
end Go.Proofs.YtodkipbnefngkaaGreatDoor
set_option maxRecDepth 10000
namespace Go.Proofs
open Go.Shelf
def Tryz.lays119_ren:Go.Shelf.Ren:=⟨fun|119=>118|n=>n,fun|21=>21|4=>4|n=>n,fun|n=>n⟩
theorem Tryz.lays119:Go.Proofs.Lays.n119 Tryz.prog Tryz.lays119_ren:={
 mixed:=by kernel_rfl
 f119:=Tryz.func118.trans (congrArg some (by kernel_rfl))
 t4:=Tryz.underlying4
 a4:=Tryz.isAgg4
 z4:=Tryz.sizeOf4
 v4:=Tryz.zeroValue4
 t21:=Tryz.underlying21
 a21:=Tryz.isAgg21
 z21:=Tryz.sizeOf21
 v21:=Tryz.zeroValue21}
end Go.Proofs
namespace Go.Proofs.YtodkipbnefngkaaGreatDoor
open Go.Proofs.Tryz
open Go.RowKit
def brS:ByteArray:=⟨#[123,125]⟩
def ixR (c:Nat):Int:=if c=123 then 0 else if c=125 then 1 else -1
theorem validRune_ok (c:Nat) (hv:Utf8.valid c=true):Enters 118∧Spec prog 118 #[.int .i32 (c:Int)] [] [] (RetV (.bool true)):=by
 refine ⟨enters_of func118 (by kernel_rfl) rfl,fun G w hp hs=>?_⟩
 refine (Any.utf8_ValidRune Tryz.lays119 (c:Int) w).mono ?_
 rintro e w' ⟨rfl,rfl⟩
 have h:Lib.validRune (c:Int)=true:=by
  simp only [Utf8.valid,Bool.or_eq_true,Bool.and_eq_true,decide_eq_true_eq] at hv
  unfold Lib.validRune
  rw [decide_eq_true_eq];omega
 rw [h]
 exact ⟨(),rfl,trivial,hs⟩
theorem u8of {c:Nat} (h:c<256):(UInt8.ofNat c).toNat=c:=by simp;omega
set_option maxHeartbeats 1000000 in
theorem indexRune_asc (c:Nat) (hc0:c<128):Enters 87∧Spec prog 87 #[.string brS,.int .i32 (c:Int)] [] [] (RetV (.int .i64 (ixR c))):=by
 have n1:=Z6 brS (UInt8.ofNat c)
 have w1:IntKind.u8.wrap (c:Int)=((UInt8.ofNat c).toNat:Int):=by
  rw [u8of (by omega),wrap_u8];omega
 have e:ixR c=Lib.indexByte brS.data.toList (UInt8.ofNat c):=by
  have e1:brS.data.toList=[123,125]:=rfl
  have h1:(123 == UInt8.ofNat c)=decide (c=123):=by
   rw [Bool.eq_iff_iff];simp only [beq_iff_eq,decide_eq_true_eq,←UInt8.toNat_inj,u8of (show c<256 by omega)];constructor<;>(intro h;simpa using h.symm)
  have h2:(125 == UInt8.ofNat c)=decide (c=125):=by
   rw [Bool.eq_iff_iff];simp only [beq_iff_eq,decide_eq_true_eq,←UInt8.toNat_inj,u8of (show c<256 by omega)];constructor<;>(intro h;simpa using h.symm)
  rw [e1]
  unfold ixR
  simp only [Lib.indexByte,h1,h2,decide_eq_true_eq]
  split
  ·rfl
  ·split<;>rfl
 rw [e]
 refine ZS [_,_] func87 ntmps87 fun G w hp=>?_
 repeat' (first|refine ZF ?_|refine ZI ?_|refine ZJ ?_|refine ZG ?_|refine ZO ?_|refine ZH ?_|refine ZN ?_|refine ZM (fun b=>?_)|refine ZL (fun b=>?_)|refine ZB ?_|refine ZD ?_|refine ZK ?_|refine ZA (n1) (fun _ _=>?_)|refine l_call0 (n1) (fun _ _=>?_)|rw [w1]|(refine ZC (fun hc=>?_) (fun hc=>?_)<;>(try simp at hc)<;>(try omega))|(refine ZE (fun hc=>?_) (fun hc=>?_)<;>(try simp at hc)<;>(try omega)))
 exact ZR () rfl trivial
theorem dec_br0:Utf8.decode brS 0=(123,1):=dec_asc (s:=brS) (p:=0) (by decide)
theorem dec_br1:Utf8.decode brS 1=(125,1):=dec_asc (s:=brS) (p:=1) (by decide)
set_option maxHeartbeats 1000000 in
theorem indexRune_err:Enters 87∧Spec prog 87 #[.string brS,.int .i32 65533] [] [] (RetV (.int .i64 (-1))):=by
 refine ZS [_,_] func87 ntmps87 fun G w hp=>?_
 repeat' (first|refine l_rngS (fun it=>?_)|refine ZF ?_|refine ZI ?_|refine ZJ ?_|refine ZG ?_|refine ZO ?_|refine ZH ?_|refine ZN ?_|refine ZM (fun b=>?_)|refine ZL (fun b=>?_)|refine ZB ?_|refine ZD ?_|(refine ZC (fun hc=>?_) (fun hc=>?_)<;>(try simp at hc)<;>(try omega))|(refine ZE (fun hc=>?_) (fun hc=>?_)<;>(try simp at hc)<;>(try omega)))
 refine Yj (X:={p:Nat // p≤2}) (fun _=>[(0,.string brS),(175,.pointer (some ⟨it,0,none⟩))]) (fun _=>[]) (fun p=>[Pt it (.stringIter brS p.1)]) (fun p=>2 - p.1) ⟨0,by decide⟩ ⟨rfl,rfl,trivial⟩ ?_
 rintro ⟨p,hp⟩
 dsimp only
 rcases (show p=0∨p=1∨p=2 by omega) with rfl|rfl|rfl
 ·repeat' (first|refine l_nxtT (c:=123) (b:=1) (by decide) dec_br0 ?_|refine ZF ?_|refine ZI ?_|refine ZJ ?_|refine ZG ?_|refine ZO ?_|refine ZH ?_|refine ZN ?_|refine ZM (fun b=>?_)|refine ZL (fun b=>?_)|refine ZB ?_|refine ZD ?_|(refine ZC (fun hc=>?_) (fun hc=>?_)<;>(try simp at hc)<;>(try omega))|(refine ZE (fun hc=>?_) (fun hc=>?_)<;>(try simp at hc)<;>(try omega)))
  exact Ze ⟨1,by decide⟩ (by show 2 - 1<2 - 0;decide) ⟨rfl,rfl,trivial⟩
 ·repeat' (first|refine l_nxtT (c:=125) (b:=1) (by decide) dec_br1 ?_|refine ZF ?_|refine ZI ?_|refine ZJ ?_|refine ZG ?_|refine ZO ?_|refine ZH ?_|refine ZN ?_|refine ZM (fun b=>?_)|refine ZL (fun b=>?_)|refine ZB ?_|refine ZD ?_|(refine ZC (fun hc=>?_) (fun hc=>?_)<;>(try simp at hc)<;>(try omega))|(refine ZE (fun hc=>?_) (fun hc=>?_)<;>(try simp at hc)<;>(try omega)))
  exact Ze ⟨2,by decide⟩ (by show 2 - 2<2 - 1;decide) ⟨rfl,rfl,trivial⟩
 ·repeat' (first|refine l_nxtE (s:=brS) (p:=2) (by decide) ?_|refine ZF ?_|refine ZI ?_|refine ZJ ?_|refine ZG ?_|refine ZO ?_|refine ZH ?_|refine ZN ?_|refine ZM (fun b=>?_)|refine ZL (fun b=>?_)|refine ZB ?_|refine ZD ?_|refine ZK ?_|(refine ZC (fun hc=>?_) (fun hc=>?_)<;>(try simp at hc)<;>(try omega))|(refine ZE (fun hc=>?_) (fun hc=>?_)<;>(try simp at hc)<;>(try omega)))
  exact ZR () rfl trivial
theorem lsz (s:ByteArray):s.data.toList.length=s.size:=by show _=s.data.size;simp
theorem enc_big {c:Nat} (h1:128≤c) (h2:Utf8.valid c=true):2≤(Utf8.encode c).size∧(Utf8.encode c).size≤4∧∀x ∈ (Utf8.encode c).data.toList,128≤x.toNat:=by
 have hv:(if Utf8.valid (c:Int)=true then (c:Int).toNat else Utf8.runeError)=c:=by rw [if_pos h2];simp
 have hc:c≤1114111:=by
  simp only [Utf8.valid,Bool.or_eq_true,Bool.and_eq_true,decide_eq_true_eq] at h2;omega
 have hb:∀k,128≤k→k<256→128≤(UInt8.ofNat k).toNat:=fun k h3 h4=>by rw [u8of h4];exact h3
 unfold Utf8.encode
 dsimp only
 rw [hv,if_neg (by omega)]
 split
 ·refine ⟨Nat.le_of_ble_eq_true rfl,Nat.le_of_ble_eq_true rfl,fun x hx=>?_⟩
  simp only [List.mem_cons,List.not_mem_nil,or_false] at hx
  rcases hx with rfl|rfl
  ·exact hb _ (by omega) (by omega)
  ·exact hb _ (by omega) (by omega)
 ·split
  ·refine ⟨Nat.le_of_ble_eq_true rfl,Nat.le_of_ble_eq_true rfl,fun x hx=>?_⟩
   simp only [List.mem_cons,List.not_mem_nil,or_false] at hx
   rcases hx with rfl|rfl|rfl
   ·exact hb _ (by omega) (by omega)
   ·exact hb _ (by omega) (by omega)
   ·exact hb _ (by omega) (by omega)
  ·refine ⟨Nat.le_of_ble_eq_true rfl,Nat.le_of_ble_eq_true rfl,fun x hx=>?_⟩
   simp only [List.mem_cons,List.not_mem_nil,or_false] at hx
   rcases hx with rfl|rfl|rfl|rfl
   ·exact hb _ (by omega) (by omega)
   ·exact hb _ (by omega) (by omega)
   ·exact hb _ (by omega) (by omega)
   ·exact hb _ (by omega) (by omega)
set_option maxHeartbeats 2000000 in
set_option maxRecDepth 100000 in
theorem indexRune_big (c:Nat) (h1:128≤c) (h2:Utf8.valid c=true) (h3:c≠65533):Enters 87∧Spec prog 87 #[.string brS,.int .i32 (c:Int)] [] [] (RetV (.int .i64 (-1))):=by
 have n1:=validRune_ok c h2
 obtain ⟨e1,e2,e3⟩:=enc_big h1 h2
 have hsz:=lsz (Utf8.encode c)
 generalize hnd:Utf8.encode (c:Int)=nd at *
 have sb:brS.size=2:=rfl
 have hb1:((c:Int) == 65533)=false:=by rw [beq_eq_false_iff_ne];omega
 by_cases s2:nd.size=2
 ·have w1:IntKind.i64.wrap ((nd.size:Int) - 1)=1:=by rw [s2];decide
  have hx:=List.getElem?_eq_getElem (show 1<nd.data.toList.length by omega)
  have hx3:=e3 _ (List.getElem_mem (show 1<nd.data.toList.length by omega))
  generalize nd.data.toList[1]=x at *
  have n2:Enters 24∧Spec prog 24 #[.string ⟨#[]⟩,.int .u8 x.toNat] [] [] (RetV (.int .i64 (-1))):=Z6 ⟨#[]⟩ x
  have w2:IntKind.i64.wrap (1+1)=2:=by decide
  have hne:¬(125:Int)=(x.toNat:Int):=by omega
  refine ZS [_,_] func87 ntmps87 fun G w hp=>?_
  repeat' (first|rw [hb1]|refine k_scope ?_|refine l_i2s (z:=(c:Int)) ?_|refine ZF ?_|refine ZI ?_|refine ZJ ?_|refine ZG ?_|refine ZO ?_|refine ZH ?_|refine ZN ?_|refine ZM (fun b=>?_)|refine ZL (fun b=>?_)|refine ZB ?_|refine ZD ?_|refine ZA (n1) (fun _ _=>?_)|refine l_call0 (n1) (fun _ _=>?_)|rw [hnd]|rw [w1]|(refine ZC (fun hc=>?_) (fun hc=>?_)<;>(try simp at hc)<;>(try omega))|(refine ZE (fun hc=>?_) (fun hc=>?_)<;>(try simp at hc)<;>(try omega)))
  refine Yj (X:=Unit) (fun _=>[(0,.string brS),(7,.string nd),(8,.int .i64 1),(9,.int .i64 1),(10,.int .i64 0)]) (fun _=>[]) (fun _=>[]) (fun _=>0) () ⟨rfl,rfl,rfl,rfl,rfl,trivial⟩ ?_
  rintro ⟨⟩
  repeat' (first|refine k_scope ?_|refine ZF ?_|refine ZI ?_|refine ZJ ?_|refine ZG ?_|refine ZO ?_|refine ZH ?_|refine ZN ?_|refine ZM (fun b=>?_)|refine ZL (fun b=>?_)|refine ZB ?_|refine ZD ?_|refine ZK ?_|refine Za ?_|refine ZX ?_|refine Zh ?_|refine Zb ?_|refine ZY ?_|refine Zg (fun b=>?_)|refine Zi (fun b=>?_)|refine Zj ?_|refine ZZ ?_|refine ZA (n2) (fun _ _=>?_)|refine l_call0 (n2) (fun _ _=>?_)|refine ZQ (n2) (fun _ _=>?_)|refine Z8 (n2) (fun _ _=>?_)|refine XO (s:=brS) 1 125 rfl ?_|refine XO (s:=nd) 1 x hx ?_|refine r_sEnd (s:=brS) (u:=⟨#[]⟩) 2 (by decide) rfl ?_|rw [w2]|(refine ZC (fun hc=>?_) (fun hc=>?_)<;>(try simp at hc)<;>(try omega))|(refine ZU (fun hc=>?_) (fun hc=>?_)<;>(try simp at hc)<;>(try omega))|refine ZT 6 [] [(0,0),(1,0),(2,0),(3,0),(4,0),(5,0),(6,0)] [] ?_|refine ZT 7 [] [(0,0),(1,0),(2,0),(3,0),(4,0),(5,0),(6,0),(7,5),(8,0)] [] ?_|(refine ZE (fun hc=>?_) (fun hc=>?_)<;>(try simp at hc)<;>(try omega)))
  first|exact ZR () rfl trivial|exact Z9 (YH (Zx () rfl trivial))
 ·have w1:=wrapi (z:=(nd.size:Int) - 1) (by omega) (by omega)
  refine ZS [_,_] func87 ntmps87 fun G w hp=>?_
  repeat' (first|rw [hb1]|refine k_scope ?_|refine l_i2s (z:=(c:Int)) ?_|refine ZF ?_|refine ZI ?_|refine ZJ ?_|refine ZG ?_|refine ZO ?_|refine ZH ?_|refine ZN ?_|refine ZM (fun b=>?_)|refine ZL (fun b=>?_)|refine ZB ?_|refine ZD ?_|refine ZA (n1) (fun _ _=>?_)|refine l_call0 (n1) (fun _ _=>?_)|rw [hnd]|rw [w1]|(refine ZC (fun hc=>?_) (fun hc=>?_)<;>(try simp at hc)<;>(try omega))|(refine ZE (fun hc=>?_) (fun hc=>?_)<;>(try simp at hc)<;>(try omega)))
  refine Yj (X:=Unit) (fun _=>[(0,.string brS),(7,.string nd),(8,.int .i64 ((nd.size:Int) - 1)),(9,.int .i64 ((nd.size:Int) - 1)),(10,.int .i64 0)]) (fun _=>[]) (fun _=>[]) (fun _=>0) () ⟨rfl,rfl,rfl,rfl,rfl,trivial⟩ ?_
  rintro ⟨⟩
  repeat' (first|refine ZF ?_|refine ZI ?_|refine ZJ ?_|refine ZG ?_|refine ZO ?_|refine ZH ?_|refine ZN ?_|refine ZM (fun b=>?_)|refine ZL (fun b=>?_)|refine ZB ?_|refine ZD ?_|refine ZK ?_|(refine ZC (fun hc=>?_) (fun hc=>?_)<;>(try simp at hc)<;>(try omega))|(refine ZE (fun hc=>?_) (fun hc=>?_)<;>(try simp at hc)<;>(try omega)))
  exact ZR () rfl trivial
end Go.Proofs.YtodkipbnefngkaaGreatDoor
set_option maxRecDepth 10000
namespace Go.Proofs
open Go.Shelf
def Tryz.lays153_ren:Go.Shelf.Ren:=⟨fun|153=>63|152=>87|226=>88|227=>89|228=>90|137=>24|119=>118|224=>119|225=>120|217=>48|266=>74|n=>n,fun|9=>9|3=>3|4=>4|5=>5|21=>21|117=>158|116=>157|0=>0|46=>118|124=>181|n=>n,fun|n=>n⟩
theorem Tryz.lays153:Go.Proofs.Lays.n153 Tryz.prog Tryz.lays153_ren:={
 mixed:=by kernel_rfl
 f119:=Tryz.func118.trans (congrArg some (by kernel_rfl))
 f137:=Tryz.func24.trans (congrArg some (by kernel_rfl))
 f152:=Tryz.func87.trans (congrArg some (by kernel_rfl))
 f153:=Tryz.func63.trans (congrArg some (by kernel_rfl))
 f217:=Tryz.func48.trans (congrArg some (by kernel_rfl))
 f224:=Tryz.func119.trans (congrArg some (by kernel_rfl))
 f225:=Tryz.func120.trans (congrArg some (by kernel_rfl))
 f226:=Tryz.func88.trans (congrArg some (by kernel_rfl))
 f227:=Tryz.func89.trans (congrArg some (by kernel_rfl))
 f228:=Tryz.func90.trans (congrArg some (by kernel_rfl))
 f266:=Tryz.func74.trans (congrArg some (by kernel_rfl))
 t0:=Tryz.underlying0
 a0:=Tryz.isAgg0
 z0:=Tryz.sizeOf0
 v0:=Tryz.zeroValue0
 t3:=Tryz.underlying3
 a3:=Tryz.isAgg3
 z3:=Tryz.sizeOf3
 v3:=Tryz.zeroValue3
 t4:=Tryz.underlying4
 a4:=Tryz.isAgg4
 z4:=Tryz.sizeOf4
 v4:=Tryz.zeroValue4
 t5:=Tryz.underlying5
 a5:=Tryz.isAgg5
 z5:=Tryz.sizeOf5
 v5:=Tryz.zeroValue5
 t9:=Tryz.underlying9
 a9:=Tryz.isAgg9
 z9:=Tryz.sizeOf9
 v9:=Tryz.zeroValue9
 t21:=Tryz.underlying21
 a21:=Tryz.isAgg21
 z21:=Tryz.sizeOf21
 v21:=Tryz.zeroValue21
 t46:=Tryz.underlying118
 a46:=Tryz.isAgg118
 z46:=Tryz.sizeOf118
 v46:=Tryz.zeroValue118
 t116:=Tryz.underlying157
 a116:=Tryz.isAgg157
 z116:=Tryz.sizeOf157
 t117:=Tryz.underlying158
 a117:=Tryz.isAgg158
 z117:=Tryz.sizeOf158
 v117:=Tryz.zeroValue158
 t124:=Tryz.underlying181
 a124:=Tryz.isAgg181
 z124:=Tryz.sizeOf181
 v124:=Tryz.zeroValue181}
end Go.Proofs
namespace Go.Proofs.YtodkipbnefngkaaGreatDoor
open Go.Proofs.Tryz
open Go.RowKit
def ixB (l:List UInt8):Int:=if spanF (fun x=>!isBr x) l=l.length then -1 else (spanF (fun x=>!isBr x) l:Int)
theorem br_con (b:UInt8):([123,125]:List UInt8).contains b=isBr b:=by
 unfold isBr
 simp only [List.contains_cons,List.contains_nil,Bool.or_false]
theorem ixB_any:∀l:List UInt8,Lib.indexAny l [123,125]=ixB l
 | []=>by simp [Lib.indexAny,ixB,spanF]
 | b::l=>by
  have ih:=ixB_any l
  have hle:=Z3 (fun x=>!isBr x) l
  rw [Lib.indexAny,br_con,ih]
  unfold ixB
  by_cases hb:isBr b=true
  ·rw [if_pos hb]
   have:spanF (fun x=>!isBr x) (b::l)=0:=by simp [spanF,hb]
   rw [this,if_neg (by simp)];rfl
  ·rw [if_neg hb]
   have hs:spanF (fun x=>!isBr x) (b::l)=spanF (fun x=>!isBr x) l+1:=by simp [spanF,hb]
   rw [hs,List.length_cons]
   by_cases h2:spanF (fun x=>!isBr x) l=l.length
   ·simp [h2]
   ·have e1:((spanF (fun x=>!isBr x) l:Int) == -1)=false:=by rw [beq_eq_false_iff_ne];omega
    rw [if_neg h2,e1]
    simp [h2]
theorem shouldASCII_ok (n:Int):Enters 88∧Spec prog 88 #[.int .i64 n] [] [] (RetV (.bool (decide (8<n)))):=by
 refine ZS [_] func88 ntmps88 fun G w hp=>?_
 repeat' (first|refine ZF ?_|refine ZI ?_|refine ZJ ?_|refine ZG ?_|refine ZO ?_|refine ZH ?_|refine ZN ?_|refine ZM (fun b=>?_)|refine ZL (fun b=>?_)|refine ZB ?_|refine ZD ?_|refine ZK ?_|(refine ZC (fun hc=>?_) (fun hc=>?_)<;>(try simp at hc))|(refine ZE (fun hc=>?_) (fun hc=>?_)<;>(try simp at hc)))
 exact ZR () rfl trivial
theorem as116:(prog.info? 157).map (fun i=>(i.zero,i.size))=some (some (.agg (Array.replicate 256 (.bool false))),256):=by kernel_rfl
theorem indexAny_long (s:ByteArray) (h8:8<s.size) (hs:s.size≤1000000):Enters 63∧Spec prog 63 #[.string s,.string brS] [] [] (RetV (.int .i64 (ixB s.data.toList))):=by
 refine ⟨enters_of func63 (by kernel_rfl) rfl,fun G w hp hs'=>?_⟩
 have h1:=as116
 have hv:∀w,(zeroValue 157).run prog w = .ok (.agg (Array.replicate 256 (.bool false))) w:=fun w=>by
  obtain ⟨i,hi,he⟩:=Option.map_eq_some_iff.1 h1
  simp [zeroValue,typeInfo,hi,(Prod.mk.inj he).1,go_sem]
 have hz:(prog.info? 157).map (·.size)=some 256:=by
  obtain ⟨i,hi,he⟩:=Option.map_eq_some_iff.1 h1
  rw [hi];exact congrArg some (Prod.mk.inj he).2
 refine (Any.strings_IndexAny_long Tryz.lays153 hv hz s brS w (by decide) h8 (by omega) (by decide) (fun j b hj=>(show ∀b ∈ brS.data.toList,b.toNat<128 by decide) b (List.mem_of_getElem? hj))).mono ?_
 ·rintro e w' ⟨rfl,rfl⟩
  rw [show brS.data.toList=[123,125] from rfl,ixB_any]
  exact ⟨(),rfl,trivial,(hs'.ext (Yb _ _)).ext (Yb _ _)⟩
theorem get_elem {s:ByteArray} {p:Nat} (h:p<s.data.toList.length):s.get! p=s.data.toList[p]:=by
 have h1:=get_list (s:=s) (p:=p) (by rw [←lsz];exact h)
 rw [List.getElem?_eq_getElem h] at h1
 exact (Option.some.inj h1).symm
set_option maxHeartbeats 2000000 in
theorem indexAny_short (s:ByteArray) (h8:s.size≤8):Enters 63∧Spec prog 63 #[.string s,.string brS] [] [] (RetV (.int .i64 (ixB s.data.toList))):=by
 have hsz:=lsz s
 have n0:=shouldASCII_ok (s.size:Int)
 have hd8:decide ((8:Int)<(s.size:Int))=false:=by simp;omega
 rw [hd8] at n0
 have sb:brS.size=2:=rfl
 have hbe:(brS.toList == (⟨#[]⟩:ByteArray).toList)=false:=beqF (by decide)
 refine ZS [_,_] func63 ntmps63 fun G w hp=>?_
 repeat' (first|refine l_rngS (s:=s) (fun it=>?_)|refine ZF ?_|refine ZI ?_|refine ZJ ?_|refine ZG ?_|refine ZO ?_|refine ZH ?_|refine ZN ?_|refine ZM (fun b=>?_)|refine ZL (fun b=>?_)|refine ZB ?_|refine ZD ?_|refine ZA (n0) (fun _ _=>?_)|refine l_call0 (n0) (fun _ _=>?_)|rw [hbe]|(refine ZC (fun hc=>?_) (fun hc=>?_)<;>(try simp at hc)<;>(try omega))|(refine ZE (fun hc=>?_) (fun hc=>?_)<;>(try simp at hc)<;>(try omega)))
 refine Yj (X:={p:Nat // p≤s.size∧∀x ∈ s.data.toList.take p,(!isBr x)=true}) (fun _=>[(1,.string brS),(45,.pointer (some ⟨it,0,none⟩))]) (fun _=>[]) (fun p=>[Pt it (.stringIter s p.1)]) (fun p=>s.size - p.1) ⟨0,Nat.zero_le _,fun x hx=>by simp at hx⟩ ⟨rfl,rfl,trivial⟩ ?_
 rintro ⟨p,hp1,hp2⟩
 dsimp only
 by_cases hlt:p<s.data.toList.length
 ·have hlt2:p<s.size:=by omega
  have hge:=get_elem hlt
  have htk:=List.take_succ_eq_append_getElem hlt
  by_cases ha:(s.get! p).toNat<128
  ·have hd:=dec_asc ha
   have n1:=indexRune_asc _ ha
   have hst:=X0 (p:=fun x=>!isBr x) s.data.toList p hp2 (by omega)
   generalize hce:s.data.toList[p]=c at *
   rw [hge] at hd n1 ha
   have hct:((c.toNat:Nat):Int)=(c.toNat:Int):=rfl
   by_cases hb:isBr c=true
   ·have e:ixB s.data.toList=(p:Int):=by
     unfold ixB
     rw [hst (fun _=>by show (!isBr s.data.toList[p])=false;rw [hce,hb];rfl),if_neg (by omega)]
    have hix:(0:Int)≤ixR c.toNat:=by
     have:c=123∨c=125:=by simpa [isBr] using hb
     rcases this with h|h<;>(rw [h];decide)
    rw [e]
    repeat' (first|refine l_nxtT (s:=s) (p:=p) hlt2 hd ?_|refine ZF ?_|refine ZI ?_|refine ZJ ?_|refine ZG ?_|refine ZO ?_|refine ZH ?_|refine ZN ?_|refine ZM (fun b=>?_)|refine ZL (fun b=>?_)|refine ZB ?_|refine ZD ?_|refine ZA (n1) (fun _ _=>?_)|refine l_call0 (n1) (fun _ _=>?_)|(refine ZC (fun hc=>?_) (fun hc=>?_)<;>(try simp at hc)<;>(try omega))|(refine ZE (fun hc=>?_) (fun hc=>?_)<;>(try simp at hc)<;>(try omega)))
    first|exact ZR () rfl trivial|exact Z9 (YH (Zx () rfl trivial))
   ·have hix:¬(0:Int)≤ixR c.toNat:=by
     have h1:¬c.toNat=123:=fun h=>hb (by rw [show c=123 from UInt8.toNat_inj.1 h];rfl)
     have h2:¬c.toNat=125:=fun h=>hb (by rw [show c=125 from UInt8.toNat_inj.1 h];rfl)
     unfold ixR;rw [if_neg h1,if_neg h2];decide
    repeat' (first|refine l_nxtT (s:=s) (p:=p) hlt2 hd ?_|refine ZF ?_|refine ZI ?_|refine ZJ ?_|refine ZG ?_|refine ZO ?_|refine ZH ?_|refine ZN ?_|refine ZM (fun b=>?_)|refine ZL (fun b=>?_)|refine ZB ?_|refine ZD ?_|refine ZA (n1) (fun _ _=>?_)|refine l_call0 (n1) (fun _ _=>?_)|(refine ZC (fun hc=>?_) (fun hc=>?_)<;>(try simp at hc)<;>(try omega))|(refine ZE (fun hc=>?_) (fun hc=>?_)<;>(try simp at hc)<;>(try omega)))
    refine Ze ⟨p+1,by omega,fun x hx=>?_⟩ (by show s.size - (p+1)<s.size - p;omega) ⟨rfl,rfl,trivial⟩
    rw [htk] at hx
    rcases List.mem_append.1 hx with hx|hx
    ·exact hp2 x hx
    ·rw [List.mem_singleton.1 hx];simpa using hb
  ·obtain ⟨d1,d2,d3,d4,d5,d6⟩:=dec_non hlt2 (by omega)
   generalize hde:Utf8.decode s p=dd at *
   obtain ⟨c,w⟩:=dd
   dsimp only at d1 d2 d3 d4 d5 d6
   have n1:Enters 87∧Spec prog 87 #[.string brS,.int .i32 (c:Int)] [] [] (RetV (.int .i64 (-1))):=by
    by_cases h:c=65533
    ·rw [h];exact indexRune_err
    ·exact indexRune_big c d1 (d6.resolve_left h) h
   repeat' (first|refine l_nxtT (s:=s) (p:=p) hlt2 hde ?_|refine ZF ?_|refine ZI ?_|refine ZJ ?_|refine ZG ?_|refine ZO ?_|refine ZH ?_|refine ZN ?_|refine ZM (fun b=>?_)|refine ZL (fun b=>?_)|refine ZB ?_|refine ZD ?_|refine ZA (n1) (fun _ _=>?_)|refine l_call0 (n1) (fun _ _=>?_)|(refine ZC (fun hc=>?_) (fun hc=>?_)<;>(try simp at hc)<;>(try omega))|(refine ZE (fun hc=>?_) (fun hc=>?_)<;>(try simp at hc)<;>(try omega)))
   refine Ze ⟨p+w,d4,fun x hx=>?_⟩ (by show s.size - (p+w)<s.size - p;omega) ⟨rfl,rfl,trivial⟩
   rw [List.take_add] at hx
   rcases List.mem_append.1 hx with hx|hx
   ·exact hp2 x hx
   ·obtain ⟨j,hj,rfl⟩:=List.mem_iff_getElem.1 hx
    simp only [List.length_take,List.length_drop] at hj
    have h5:=d5 (p+j) (by omega) (by omega)
    rw [get_elem (by omega)] at h5
    simp only [List.getElem_take,List.getElem_drop]
    generalize s.data.toList[p+j]=y at *
    have h1:y≠123:=by rintro rfl;revert h5;decide
    have h2:y≠125:=by rintro rfl;revert h5;decide
    simp [isBr,h1,h2]
 ·have hpe:p=s.size:=by omega
  have hst:=X0 (p:=fun x=>!isBr x) s.data.toList p hp2 (by omega) (fun h=>absurd h hlt)
  have e:ixB s.data.toList = -1:=by
   unfold ixB;rw [hst,if_pos (by omega)]
  rw [e]
  repeat' (first|refine l_nxtE (s:=s) (p:=p) (by omega) ?_|refine ZF ?_|refine ZI ?_|refine ZJ ?_|refine ZG ?_|refine ZO ?_|refine ZH ?_|refine ZN ?_|refine ZM (fun b=>?_)|refine ZL (fun b=>?_)|refine ZB ?_|refine ZD ?_|refine ZK ?_|(refine ZC (fun hc=>?_) (fun hc=>?_)<;>(try simp at hc)<;>(try omega))|(refine ZE (fun hc=>?_) (fun hc=>?_)<;>(try simp at hc)<;>(try omega)))
  first|exact ZR () rfl trivial|exact Z9 (YH (Zx () rfl trivial))
theorem indexAny_ok (s:ByteArray) (hs:s.size≤1000000):Enters 63∧Spec prog 63 #[.string s,.string brS] [] [] (RetV (.int .i64 (ixB s.data.toList))):=by
 by_cases h8:8<s.size
 ·exact indexAny_long s h8 hs
 ·exact indexAny_short s (by omega)
end Go.Proofs.YtodkipbnefngkaaGreatDoor
set_option maxRecDepth 10000
namespace Go.Proofs
open Go.Shelf
def Tryz.lays219_ren:Go.Shelf.Ren:=⟨fun|219=>116|217=>48|225=>120|224=>119|267=>148|266=>74|314=>159|n=>n,fun|9=>9|3=>3|4=>4|5=>5|46=>118|146=>149|51=>148|n=>n,fun|1=>0|n=>n⟩
theorem Tryz.lays219:Go.Proofs.Lays.n219 Tryz.prog Tryz.lays219_ren:={
 mixed:=by kernel_rfl
 f217:=Tryz.func48.trans (congrArg some (by kernel_rfl))
 f219:=Tryz.func116.trans (congrArg some (by kernel_rfl))
 f224:=Tryz.func119.trans (congrArg some (by kernel_rfl))
 f225:=Tryz.func120.trans (congrArg some (by kernel_rfl))
 f266:=Tryz.func74.trans (congrArg some (by kernel_rfl))
 f267:=Tryz.func148.trans (congrArg some (by kernel_rfl))
 f314:=Tryz.func159.trans (congrArg some (by kernel_rfl))
 t3:=Tryz.underlying3
 a3:=Tryz.isAgg3
 z3:=Tryz.sizeOf3
 v3:=Tryz.zeroValue3
 t4:=Tryz.underlying4
 a4:=Tryz.isAgg4
 z4:=Tryz.sizeOf4
 v4:=Tryz.zeroValue4
 t5:=Tryz.underlying5
 a5:=Tryz.isAgg5
 z5:=Tryz.sizeOf5
 v5:=Tryz.zeroValue5
 t9:=Tryz.underlying9
 a9:=Tryz.isAgg9
 z9:=Tryz.sizeOf9
 v9:=Tryz.zeroValue9
 t46:=Tryz.underlying118
 a46:=Tryz.isAgg118
 z46:=Tryz.sizeOf118
 v46:=Tryz.zeroValue118
 t51:=Tryz.underlying148
 a51:=Tryz.isAgg148
 z51:=Tryz.sizeOf148
 v51:=Tryz.zeroValue148
 t146:=Tryz.underlying149
 a146:=Tryz.isAgg149
 z146:=Tryz.sizeOf149
 v146:=Tryz.zeroValue149
 g1:=by kernel_rfl}
end Go.Proofs
namespace Go.Proofs.YtodkipbnefngkaaGreatDoor
open Go.Proofs.Tryz
open Go.RowKit
theorem index1_ok (s:ByteArray) (c:UInt8):Enters 116∧Spec prog 116 #[.string s,.string ⟨#[c]⟩] [] [] (RetV (.int .i64 (Lib.indexByte s.data.toList c))):=by
 refine ⟨enters_of func116 (by kernel_rfl) rfl,fun G w hp hs=>?_⟩
 refine (Any.stringslite_Index_one Tryz.lays219 s c w).mono ?_
 rintro e w' ⟨rfl,rfl⟩
 exact ⟨(),rfl,trivial,hs⟩
theorem ixb_span (c:UInt8):∀l:List UInt8,Lib.indexByte l c=if spanF (fun x=>!(x == c)) l=l.length then -1 else (spanF (fun x=>!(x == c)) l:Int)
 | []=>by simp [Lib.indexByte,spanF]
 | b::l=>by
  have ih:=ixb_span c l
  have hle:=Z3 (fun x=>!(x == c)) l
  rw [Lib.indexByte,ih]
  by_cases hb:(b == c)=true
  ·rw [if_pos hb]
   have:spanF (fun x=>!(x == c)) (b::l)=0:=by simp [spanF,hb]
   rw [this,if_neg (by simp)];rfl
  ·rw [if_neg hb]
   have hs:spanF (fun x=>!(x == c)) (b::l)=spanF (fun x=>!(x == c)) l+1:=by simp [spanF,hb]
   rw [hs,List.length_cons]
   by_cases h2:spanF (fun x=>!(x == c)) l=l.length
   ·simp [h2]
   ·have e1:((spanF (fun x=>!(x == c)) l:Int) == -1)=false:=by rw [beq_eq_false_iff_ne];omega
    rw [if_neg h2,e1]
    simp [h2]
def cutV (l:List UInt8) (m:Nat):Value:=if m<l.length then .tuple #[.string (ofL (l.take m)),.string (ofL (l.drop (m+1))),.bool true] else .tuple #[.string (ofL l),.string ⟨#[]⟩,.bool false]
theorem cut0_ok (s:ByteArray) (hs:s.size≤1000000):Enters 91∧Spec prog 91 #[.string s,.string ⟨#[125]⟩] [] [] (RetV (cutV s.data.toList (spanF (fun x=>!(x == 125)) s.data.toList))):=by
 have n1:=index1_ok s 125
 rw [ixb_span] at n1
 have hsz:=lsz s
 have hle:=Z3 (fun x=>!(x == 125)) s.data.toList
 generalize spanF (fun x=>!(x == 125)) s.data.toList=m at *
 by_cases h:m=s.data.toList.length
 ·rw [if_pos h] at n1
  have e:cutV s.data.toList m = .tuple #[.string s,.string ⟨#[]⟩,.bool false]:=by
   unfold cutV;rw [if_neg (by omega)]
  rw [e]
  refine ZS [_,_] func91 ntmps91 fun G w hp=>?_
  repeat' (first|refine ZF ?_|refine ZI ?_|refine ZJ ?_|refine ZG ?_|refine ZO ?_|refine ZH ?_|refine ZN ?_|refine ZM (fun b=>?_)|refine ZL (fun b=>?_)|refine ZB ?_|refine ZD ?_|refine ZK ?_|refine ZA (n1) (fun _ _=>?_)|refine l_call0 (n1) (fun _ _=>?_)|(refine ZC (fun hc=>?_) (fun hc=>?_)<;>(try simp at hc)<;>(try omega))|(refine ZE (fun hc=>?_) (fun hc=>?_)<;>(try simp at hc)<;>(try omega)))
  exact ZR () rfl trivial
 ·rw [if_neg h] at n1
  have e:cutV s.data.toList m = .tuple #[.string (ofL (s.data.toList.take m)),.string (ofL (s.data.toList.drop (m+1))),.bool true]:=by
   unfold cutV;rw [if_pos (by omega)]
  have w1:=wrapi (z:=(m:Int)+1) (by omega) (by omega)
  have sz1:(((⟨#[125]⟩:ByteArray).size:Nat):Int)=1:=rfl
  rw [e]
  refine ZS [_,_] func91 ntmps91 fun G w hp=>?_
  repeat' (first|refine ZF ?_|refine ZI ?_|refine ZJ ?_|refine ZG ?_|refine ZO ?_|refine ZH ?_|refine ZN ?_|refine ZM (fun b=>?_)|refine ZL (fun b=>?_)|refine ZB ?_|refine ZD ?_|refine ZK ?_|refine Za ?_|refine ZX ?_|refine Zh ?_|refine Zb ?_|refine ZY ?_|refine Zg (fun b=>?_)|refine Zi (fun b=>?_)|refine Zj ?_|refine ZZ ?_|refine ZA (n1) (fun _ _=>?_)|refine l_call0 (n1) (fun _ _=>?_)|refine ZQ (n1) (fun _ _=>?_)|refine r_sTo (s:=s) (u:=ofL (s.data.toList.take m)) m (by omega) rfl ?_|refine r_sEnd (s:=s) (u:=ofL (s.data.toList.drop (m+1))) (m+1) (by omega) rfl ?_|rw [sz1]|rw [w1]|(refine ZC (fun hc=>?_) (fun hc=>?_)<;>(try simp at hc)<;>(try omega))|(refine ZU (fun hc=>?_) (fun hc=>?_)<;>(try simp at hc)<;>(try omega))|refine ZT 3 [] [(0,0),(1,0),(2,0),(3,0),(4,0),(5,0),(6,0),(7,0),(8,0),(9,0),(10,0),(11,0)] [] ?_|(refine ZE (fun hc=>?_) (fun hc=>?_)<;>(try simp at hc)<;>(try omega)))
  exact ZR () rfl trivial
theorem cut_ok (s:ByteArray) (hs:s.size≤1000000):Enters 64∧Spec prog 64 #[.string s,.string ⟨#[125]⟩] [] [] (RetV (cutV s.data.toList (spanF (fun x=>!(x == 125)) s.data.toList))):=by
 have n1:=cut0_ok s hs
 unfold cutV at n1 ⊢
 split at n1
 ·rename_i h
  rw [if_pos h]
  refine ZS [_,_] func64 ntmps64 fun G w hp=>?_
  repeat' (first|refine ZF ?_|refine ZI ?_|refine ZJ ?_|refine ZG ?_|refine ZO ?_|refine ZH ?_|refine ZN ?_|refine ZM (fun b=>?_)|refine ZL (fun b=>?_)|refine ZB ?_|refine ZD ?_|refine ZK ?_|refine ZA (n1) (fun _ _=>?_)|refine l_call0 (n1) (fun _ _=>?_)|(refine ZC (fun hc=>?_) (fun hc=>?_)<;>(try simp at hc))|(refine ZE (fun hc=>?_) (fun hc=>?_)<;>(try simp at hc)))
  exact ZR () rfl trivial
 ·rename_i h
  rw [if_neg h]
  refine ZS [_,_] func64 ntmps64 fun G w hp=>?_
  repeat' (first|refine ZF ?_|refine ZI ?_|refine ZJ ?_|refine ZG ?_|refine ZO ?_|refine ZH ?_|refine ZN ?_|refine ZM (fun b=>?_)|refine ZL (fun b=>?_)|refine ZB ?_|refine ZD ?_|refine ZK ?_|refine ZA (n1) (fun _ _=>?_)|refine l_call0 (n1) (fun _ _=>?_)|(refine ZC (fun hc=>?_) (fun hc=>?_)<;>(try simp at hc))|(refine ZE (fun hc=>?_) (fun hc=>?_)<;>(try simp at hc)))
  exact ZR () rfl trivial
def cqa (c:Cq):Value:=.agg (cqf c).toArray
theorem XX (c:Cq):Enters 66∧Spec prog 66 #[cqa c] [] [] (RetV (.tuple #[(subO c).v,.int .i64 (subT c)])):=by
 by_cases h:c.kind=4
 ·have e1:subO c=c.new:=if_pos h
  have e2:subT c=c.newAt:=if_pos h
  rw [e1,e2]
  refine ZS [_] func66 ntmps66 fun G w hp=>?_
  repeat' (first|refine ZF ?_|refine ZI ?_|refine ZJ ?_|refine ZG ?_|refine ZO ?_|refine ZH ?_|refine ZN ?_|refine ZM (fun b=>?_)|refine ZL (fun b=>?_)|refine ZB ?_|refine ZD ?_|refine ZK ?_|refine Za ?_|refine ZX ?_|refine Zh ?_|refine Zb ?_|refine ZY ?_|refine Zg (fun b=>?_)|refine Zi (fun b=>?_)|refine Zj ?_|refine ZZ ?_|(refine ZC (fun hc=>?_) (fun hc=>?_)<;>(try simp at hc)<;>(try omega))|(refine ZU (fun hc=>?_) (fun hc=>?_)<;>(try simp at hc)<;>(try omega))|refine ZT 2 [Pt _ (.cells _ 24 _)] [(0,0),(1,0),(2,0),(3,0),(4,4),(5,0)] [] ?_|refine ZT 3 [Pt _ (.cells _ 24 _)] [(0,0),(1,0),(2,0),(3,0),(4,4),(5,0)] [] ?_|(refine ZE (fun hc=>?_) (fun hc=>?_)<;>(try simp at hc)<;>(try omega)))
  exact ZR () rfl trivial
 ·have e1:subO c=c.old:=if_neg h
  have e2:subT c=c.oldAt:=if_neg h
  rw [e1,e2]
  refine ZS [_] func66 ntmps66 fun G w hp=>?_
  repeat' (first|refine ZF ?_|refine ZI ?_|refine ZJ ?_|refine ZG ?_|refine ZO ?_|refine ZH ?_|refine ZN ?_|refine ZM (fun b=>?_)|refine ZL (fun b=>?_)|refine ZB ?_|refine ZD ?_|refine ZK ?_|refine Za ?_|refine ZX ?_|refine Zh ?_|refine Zb ?_|refine ZY ?_|refine Zg (fun b=>?_)|refine Zi (fun b=>?_)|refine Zj ?_|refine ZZ ?_|(refine ZC (fun hc=>?_) (fun hc=>?_)<;>(try simp at hc)<;>(try omega))|(refine ZU (fun hc=>?_) (fun hc=>?_)<;>(try simp at hc)<;>(try omega))|refine ZT 2 [Pt _ (.cells _ 24 _)] [(0,0),(1,0),(2,0),(3,0),(4,4),(5,0)] [] ?_|refine ZT 3 [Pt _ (.cells _ 24 _)] [(0,0),(1,0),(2,0),(3,0),(4,4),(5,0)] [] ?_|(refine ZE (fun hc=>?_) (fun hc=>?_)<;>(try simp at hc)<;>(try omega)))
  exact ZR () rfl trivial
structure CqI (c:Cq):Prop where
 n0 : -9223372036854775808≤c.nu
 n1:c.nu≤9223372036854775807
 u0 : -9223372036854775808≤(subO c).us
 u1:(subO c).us≤9223372036854775807
 t0 : -9223372036854775808≤subT c
 t1:subT c≤9223372036854775807
set_option maxHeartbeats 4000000 in
theorem Wn (n:ByteArray) (c:Cq) (hc0:CqI c):Enters 40∧Spec prog 40 #[.string n,cqa c] [P10] [] (RetV (.tuple #[.string (valF n c),.bool (decide (idx n wFlds<7))])):=by
 have n1:=XX c
 have i1:=itoa_ok (subO c).us hc0.u0 hc0.u1
 have i2:=itoa_ok (subT c) hc0.t0 hc0.t1
 have i3:=itoa_ok c.nu hc0.n0 hc0.n1
 generalize hv:valF n c=v
 unfold valF at hv
 dsimp only at hv
 generalize hso:subO c=so at *
 generalize hst:subT c=st at *
 by_cases c1:n=⟨#[116,97,114,103,101,116]⟩
 ·subst c1
  rw [show idx _ wFlds=0 from rfl] at hv ⊢
  subst hv
  have b1:=beqT (a:=⟨#[116,97,114,103,101,116]⟩) (b:=⟨#[116,97,114,103,101,116]⟩) rfl
  refine ZS [_,_] func40 ntmps40 fun G w hp=>?_
  repeat' (first|rw [b1]|refine ZF ?_|refine ZI ?_|refine ZJ ?_|refine ZG ?_|refine ZO ?_|refine ZH ?_|refine ZN ?_|refine ZM (fun b=>?_)|refine ZL (fun b=>?_)|refine ZB ?_|refine ZD ?_|refine ZK ?_|refine ZA (n1) (fun _ _=>?_)|refine l_call0 (n1) (fun _ _=>?_)|(refine ZC (fun hc=>?_) (fun hc=>?_)<;>(try simp at hc)<;>(try omega))|(refine ZE (fun hc=>?_) (fun hc=>?_)<;>(try simp at hc)<;>(try omega)))
  exact ZR () rfl trivial
 have b1:=beqF c1
 by_cases c2:n=⟨#[117,115,101,114]⟩
 ·subst c2
  rw [show idx _ wFlds=1 from rfl] at hv ⊢
  subst hv
  have b2:=beqT (a:=⟨#[117,115,101,114]⟩) (b:=⟨#[117,115,101,114]⟩) rfl
  refine ZS [_,_] func40 ntmps40 fun G w hp=>?_
  repeat' (first|rw [b2]|rw [b1]|refine ZF ?_|refine ZI ?_|refine ZJ ?_|refine ZG ?_|refine ZO ?_|refine ZH ?_|refine ZN ?_|refine ZM (fun b=>?_)|refine ZL (fun b=>?_)|refine ZB ?_|refine ZD ?_|refine ZK ?_|refine ZA (n1) (fun _ _=>?_)|refine l_call0 (n1) (fun _ _=>?_)|refine ZA (i1) (fun _ _=>?_)|refine l_call0 (i1) (fun _ _=>?_)|(refine ZC (fun hc=>?_) (fun hc=>?_)<;>(try simp at hc)<;>(try omega))|(refine ZE (fun hc=>?_) (fun hc=>?_)<;>(try simp at hc)<;>(try omega)))
  exact ZR () rfl trivial
 have b2:=beqF c2
 by_cases c3:n=⟨#[116,105,99,107]⟩
 ·subst c3
  rw [show idx _ wFlds=2 from rfl] at hv ⊢
  subst hv
  have b3:=beqT (a:=⟨#[116,105,99,107]⟩) (b:=⟨#[116,105,99,107]⟩) rfl
  refine ZS [_,_] func40 ntmps40 fun G w hp=>?_
  repeat' (first|rw [b3]|rw [b2]|rw [b1]|refine ZF ?_|refine ZI ?_|refine ZJ ?_|refine ZG ?_|refine ZO ?_|refine ZH ?_|refine ZN ?_|refine ZM (fun b=>?_)|refine ZL (fun b=>?_)|refine ZB ?_|refine ZD ?_|refine ZK ?_|refine ZA (n1) (fun _ _=>?_)|refine l_call0 (n1) (fun _ _=>?_)|refine ZA (i2) (fun _ _=>?_)|refine l_call0 (i2) (fun _ _=>?_)|(refine ZC (fun hc=>?_) (fun hc=>?_)<;>(try simp at hc)<;>(try omega))|(refine ZE (fun hc=>?_) (fun hc=>?_)<;>(try simp at hc)<;>(try omega)))
  exact ZR () rfl trivial
 have b3:=beqF c3
 by_cases c4:n=⟨#[98,121]⟩
 ·subst c4
  rw [show idx _ wFlds=3 from rfl] at hv ⊢
  subst hv
  have b4:=beqT (a:=⟨#[98,121]⟩) (b:=⟨#[98,121]⟩) rfl
  refine ZS [_,_] func40 ntmps40 fun G w hp=>?_
  repeat' (first|rw [b4]|rw [b3]|rw [b2]|rw [b1]|refine ZF ?_|refine ZI ?_|refine ZJ ?_|refine ZG ?_|refine ZO ?_|refine ZH ?_|refine ZN ?_|refine ZM (fun b=>?_)|refine ZL (fun b=>?_)|refine ZB ?_|refine ZD ?_|refine ZK ?_|refine ZA (n1) (fun _ _=>?_)|refine l_call0 (n1) (fun _ _=>?_)|(refine ZC (fun hc=>?_) (fun hc=>?_)<;>(try simp at hc)<;>(try omega))|(refine ZE (fun hc=>?_) (fun hc=>?_)<;>(try simp at hc)<;>(try omega)))
  exact ZR () rfl trivial
 have b4:=beqF c4
 by_cases c5:n=⟨#[110,117,109,98,101,114]⟩
 ·subst c5
  rw [show idx _ wFlds=4 from rfl] at hv ⊢
  subst hv
  have b5:=beqT (a:=⟨#[110,117,109,98,101,114]⟩) (b:=⟨#[110,117,109,98,101,114]⟩) rfl
  refine ZS [_,_] func40 ntmps40 fun G w hp=>?_
  repeat' (first|rw [b5]|rw [b4]|rw [b3]|rw [b2]|rw [b1]|refine ZF ?_|refine ZI ?_|refine ZJ ?_|refine ZG ?_|refine ZO ?_|refine ZH ?_|refine ZN ?_|refine ZM (fun b=>?_)|refine ZL (fun b=>?_)|refine ZB ?_|refine ZD ?_|refine ZK ?_|refine ZA (n1) (fun _ _=>?_)|refine l_call0 (n1) (fun _ _=>?_)|refine ZA (i3) (fun _ _=>?_)|refine l_call0 (i3) (fun _ _=>?_)|(refine ZC (fun hc=>?_) (fun hc=>?_)<;>(try simp at hc)<;>(try omega))|(refine ZE (fun hc=>?_) (fun hc=>?_)<;>(try simp at hc)<;>(try omega)))
  exact ZR () rfl trivial
 have b5:=beqF c5
 by_cases c6:n=⟨#[111,108,100]⟩
 ·subst c6
  rw [show idx _ wFlds=5 from rfl] at hv ⊢
  subst hv
  have b6:=beqT (a:=⟨#[111,108,100]⟩) (b:=⟨#[111,108,100]⟩) rfl
  refine ZS [_,_] func40 ntmps40 fun G w hp=>?_
  repeat' (first|rw [b6]|rw [b5]|rw [b4]|rw [b3]|rw [b2]|rw [b1]|refine ZF ?_|refine ZI ?_|refine ZJ ?_|refine ZG ?_|refine ZO ?_|refine ZH ?_|refine ZN ?_|refine ZM (fun b=>?_)|refine ZL (fun b=>?_)|refine ZB ?_|refine ZD ?_|refine ZK ?_|refine ZA (n1) (fun _ _=>?_)|refine l_call0 (n1) (fun _ _=>?_)|(refine ZC (fun hc=>?_) (fun hc=>?_)<;>(try simp at hc)<;>(try omega))|(refine ZE (fun hc=>?_) (fun hc=>?_)<;>(try simp at hc)<;>(try omega)))
  exact ZR () rfl trivial
 have b6:=beqF c6
 by_cases c7:n=⟨#[110,101,119]⟩
 ·subst c7
  rw [show idx _ wFlds=6 from rfl] at hv ⊢
  subst hv
  have b7:=beqT (a:=⟨#[110,101,119]⟩) (b:=⟨#[110,101,119]⟩) rfl
  refine ZS [_,_] func40 ntmps40 fun G w hp=>?_
  repeat' (first|rw [b7]|rw [b6]|rw [b5]|rw [b4]|rw [b3]|rw [b2]|rw [b1]|refine ZF ?_|refine ZI ?_|refine ZJ ?_|refine ZG ?_|refine ZO ?_|refine ZH ?_|refine ZN ?_|refine ZM (fun b=>?_)|refine ZL (fun b=>?_)|refine ZB ?_|refine ZD ?_|refine ZK ?_|refine ZA (n1) (fun _ _=>?_)|refine l_call0 (n1) (fun _ _=>?_)|(refine ZC (fun hc=>?_) (fun hc=>?_)<;>(try simp at hc)<;>(try omega))|(refine ZE (fun hc=>?_) (fun hc=>?_)<;>(try simp at hc)<;>(try omega)))
  exact ZR () rfl trivial
 have b7:=beqF c7
 have hi:idx n wFlds=7:=by simp [wFlds,idx,Ne.symm c1,Ne.symm c2,Ne.symm c3,Ne.symm c4,Ne.symm c5,Ne.symm c6,Ne.symm c7]
 rw [hi] at hv ⊢
 subst hv
 refine ZS [_,_] func40 ntmps40 fun G w hp=>?_
 repeat' (first|rw [b7]|rw [b6]|rw [b5]|rw [b4]|rw [b3]|rw [b2]|rw [b1]|refine ZF ?_|refine ZI ?_|refine ZJ ?_|refine ZG ?_|refine ZO ?_|refine ZH ?_|refine ZN ?_|refine ZM (fun b=>?_)|refine ZL (fun b=>?_)|refine ZB ?_|refine ZD ?_|refine ZK ?_|refine ZA (n1) (fun _ _=>?_)|refine l_call0 (n1) (fun _ _=>?_)|(refine ZC (fun hc=>?_) (fun hc=>?_)<;>(try simp at hc)<;>(try omega))|(refine ZE (fun hc=>?_) (fun hc=>?_)<;>(try simp at hc)<;>(try omega)))
 exact ZR () rfl trivial
end Go.Proofs.YtodkipbnefngkaaGreatDoor
namespace Go.Proofs.YtodkipbnefngkaaGreatDoor
open Go.RowKit Go.Proofs.Tryz
theorem XF:∀(f:Nat) (L:List UInt8) (i:Nat) (acc:List Seg),acc <+: (divF f L i acc).1
 | 0,_,_,acc=>by rw [divF];exact List.prefix_rfl
 | f+1,[],_,acc=>by rw [divF];exact List.prefix_rfl
 | f+1,c::r,i,acc=>by
  rw [divF]
  dsimp only
  split
  ·exact List.prefix_append _ _
  ·split
   ·exact (List.prefix_append _ _).trans (XF f _ _ _)
   ·split
    ·exact (List.prefix_append _ _).trans (XF f _ _ _)
    ·split
     ·exact (List.prefix_append _ _).trans (XF f _ _ _)
     ·exact List.prefix_rfl
def tplV (s:ByteArray):Int:=match (tplF s).2 with
 | none=>-1
 | some i=>(i:Int)
def cq0:Cq:=⟨0,⟨#[]⟩,0,0,⟨0,⟨#[]⟩,⟨#[]⟩,0⟩,0,⟨0,⟨#[]⟩,⟨#[]⟩,0⟩,0⟩
theorem cq0_i:CqI cq0:=by constructor<;>decide
theorem Y3 (l:List UInt8):(ofL l).size=l.length:=by show l.toArray.size=_;simp
theorem Y8 (l:List UInt8):(ofL l).data.toList=l:=by show l.toArray.toList=_;simp
theorem hd_ix {c d:UInt8} {l:List UInt8} (h:l.head? = some d):(c::l)[1]? = some d:=by cases l<;>simp_all
set_option maxHeartbeats 8000000 in
theorem Wx (s:ByteArray) (hs:s.size≤1000000) (lf ff:Value) (J:List Seg→HP)
  (hl:∀acc t,acc++[.lit t] <+: (tplF s).1→SpecV lf [.string t] [P10] [J acc] ⟨Unit,fun _=>.tuple #[],fun _=>True,fun _=>[],fun _=>[J (acc++[.lit t])]⟩)
  (hf:∀acc n,acc++[.fld n] <+: (tplF s).1→SpecV ff [.string n] [P10] [J acc] ⟨Unit,fun _=>.tuple #[],fun _=>True,fun _=>[],fun _=>[J (acc++[.fld n])]⟩) :
  Enters 36∧Spec prog 36 #[.string s,lf,ff] [P10] [J []] ⟨Unit,fun _=>.int .i64 (tplV s),fun _=>True,fun _=>[],fun _=>[J (tplF s).1]⟩:=by
 have hsz:=lsz s
 obtain ⟨V,hV⟩:∃V,tplV s=V:=⟨_,rfl⟩
 obtain ⟨T,hT⟩:∃T,tplF s=T:=⟨_,rfl⟩
 rw [hT] at hl hf ⊢
 rw [hV]
 unfold tplV at hV
 rw [hT] at hV
 refine ZS [_,_,_] func36 ntmps36 fun G w hp=>?_
 repeat' (first|refine ZF ?_|refine ZI ?_|refine ZJ ?_|refine ZG ?_|refine ZO ?_|refine ZH ?_|refine ZN ?_|refine ZM (fun b=>?_)|refine ZL (fun b=>?_)|refine ZB ?_|refine ZD ?_|(refine ZC (fun hc=>?_) (fun hc=>?_)<;>(try simp at hc))|(refine ZE (fun hc=>?_) (fun hc=>?_)<;>(try simp at hc)))
 refine Yj (X:={q:Nat×List Seg // q.1≤s.size∧∃f,(s.data.toList.drop q.1).length<f∧T=divF f (s.data.toList.drop q.1) q.1 q.2}) (fun q=>[(0,.string s),(1,lf),(2,ff),(7,.int .i64 (q.1.1:Int))]) (fun _=>[P10]) (fun q=>[J q.1.2]) (fun q=>s.size - q.1.1) ⟨(0,[]),Nat.zero_le _,s.size+1,by simp,hT.symm⟩ ⟨rfl,rfl,rfl,rfl,trivial⟩ ?_
 rintro ⟨⟨i,acc⟩,hi,f,hfu,ht⟩
 dsimp only at hi hfu ht ⊢
 have hdl:(s.data.toList.drop i).length=s.size - i:=by rw [List.length_drop];omega
 obtain ⟨L,hL'⟩:∃L,L=s.data.toList.drop i:=⟨_,rfl⟩
 rw [←hL'] at hfu ht hdl
 have hL:=hL'.symm
 clear hL'
 have hLs:(ofL L).size=L.length:=Y3 L
 have hLl:(ofL L).data.toList=L:=Y8 L
 cases hLc:L with
 | nil=>
  subst hLc
  simp only [List.length_nil] at hdl
  have e1:T=(acc,none):=by rw [ht];cases f<;>rfl
  subst e1 hV
  repeat' (first|refine ZF ?_|refine ZI ?_|refine ZJ ?_|refine ZG ?_|refine ZO ?_|refine ZH ?_|refine ZN ?_|refine ZM (fun b=>?_)|refine ZL (fun b=>?_)|refine ZB ?_|refine ZD ?_|refine ZK ?_|(refine ZC (fun hc=>?_) (fun hc=>?_)<;>(try simp at hc)<;>(try omega))|(refine ZE (fun hc=>?_) (fun hc=>?_)<;>(try simp at hc)<;>(try omega)))
  exact ZR () rfl trivial
 | cons c r=>
  obtain ⟨f,rfl⟩:∃g,f=g+1:=⟨f - 1,by omega⟩
  have hll:L.length=r.length+1:=by rw [hLc];rfl
  have hlt:i<s.size:=by omega
  have hix:=indexAny_ok (ofL L) (by omega)
  rw [hLl] at hix
  unfold ixB at hix
  have hkl:=Z3 (fun x=>!isBr x) L
  rw [hLc] at ht
  rw [divF] at ht
  dsimp only at ht
  rw [←hLc] at ht
  generalize hk:spanF (fun x=>!isBr x) L=k at *
  by_cases c1:k=L.length
  ·rw [if_pos c1] at hix ht
   subst ht hV
   have n1:=hl acc (ofL L) List.prefix_rfl
   dsimp only
   repeat' (first|refine ZF ?_|refine ZI ?_|refine ZJ ?_|refine ZG ?_|refine ZO ?_|refine ZH ?_|refine ZN ?_|refine ZM (fun b=>?_)|refine ZL (fun b=>?_)|refine ZB ?_|refine ZD ?_|refine ZK ?_|refine ZA (hix) (fun _ _=>?_)|refine l_call0 (hix) (fun _ _=>?_)|refine Z1 (s:=s) (u:=ofL L) i (by omega) (by rw [hL,hLl]) ?_|refine Yq n1 (fun _ _=>?_)|(refine ZC (fun hc=>?_) (fun hc=>?_)<;>(try simp at hc)<;>(try omega))|(refine ZE (fun hc=>?_) (fun hc=>?_)<;>(try simp at hc)<;>(try omega)))
   first|exact ZR () rfl trivial|exact Z9 (YH (Zx () rfl trivial))
  ·rw [if_neg c1] at hix ht
   by_cases c2:k=0
   ·rw [if_neg (by simpa using c2)] at ht
    subst c2
    by_cases c3:r.head? = some c
    ·rw [if_pos c3] at ht
     have hr1:1≤r.length:=by cases r with|nil=>simp at c3|cons=>simp
     have n1:=hl acc (ofL [c]) (by rw [ht];exact XF _ _ _ _)
     have w1:=wrapi (z:=(i:Int)+2) (by omega) (by omega)
     have h0:(ofL L).data.toList[0]? = some c:=by rw [hLl,hLc];rfl
     have h1:(ofL L).data.toList[1]? = some c:=by rw [hLl,hLc];exact hd_ix c3
     have hrl:((ofL L).size:Int)=(r.length:Int)+1:=by omega
     repeat' (first|refine ZF ?_|refine ZI ?_|refine ZJ ?_|refine ZG ?_|refine ZO ?_|refine ZH ?_|refine ZN ?_|refine ZM (fun b=>?_)|refine ZL (fun b=>?_)|refine ZB ?_|refine ZD ?_|refine ZK ?_|refine Za ?_|refine ZX ?_|refine Zh ?_|refine Zb ?_|refine ZY ?_|refine Zg (fun b=>?_)|refine Zi (fun b=>?_)|refine Zj ?_|refine ZZ ?_|refine ZA (hix) (fun _ _=>?_)|refine l_call0 (hix) (fun _ _=>?_)|refine ZQ (hix) (fun _ _=>?_)|refine Z1 (s:=s) (u:=ofL L) i (by omega) (by rw [hL,hLl]) ?_|refine XO (s:=ofL L) 0 c h0 ?_|refine XO (s:=ofL L) 1 c h1 ?_|refine l_sTo (s:=ofL L) (u:=ofL [c]) 1 (by omega) (by rw [hLl,hLc,Y8];rfl) ?_|refine Yq n1 (fun _ _=>?_)|rw [w1]|(refine ZC (fun hc=>?_) (fun hc=>?_)<;>(try simp at hc)<;>(try omega))|(refine ZU (fun hc=>?_) (fun hc=>?_)<;>(try simp at hc)<;>(try omega))|refine ZT 17 [] [(0,0),(1,0),(2,0),(3,0),(4,0),(5,0),(6,0),(7,0),(8,0),(9,0),(10,0)] [] ?_|(refine ZE (fun hc=>?_) (fun hc=>?_)<;>(try simp at hc)<;>(try omega)))
     have e1:r.drop 1=s.data.toList.drop (i+2):=by rw [show i+2=i+(1+1) from rfl,←List.drop_drop,hL,hLc];rfl
     refine Ze ⟨(i+2,acc++[.lit (ofL [c])]),by show i+2≤s.size;omega,f,?_,?_⟩ (by show s.size - (i+2)<s.size - i;omega) ⟨rfl,rfl,rfl,rfl,trivial⟩
     ·show (s.data.toList.drop (i+2)).length<f
      rw [←e1,List.length_drop];omega
     ·show T=divF f (s.data.toList.drop (i+2)) (i+2) _
      rw [ht,e1]
    ·rw [if_neg c3] at ht
     have h0:(ofL L).data.toList[0]? = some c:=by rw [hLl,hLc];rfl
     have hrz:(ofL r).size=r.length:=Y3 r
     have hrl:(ofL r).data.toList=r:=Y8 r
     have hdr:(ofL L).data.toList.drop 1=(ofL r).data.toList:=by rw [hLl,hrl,hLc];rfl
     have hLz:((ofL L).size:Int)=(r.length:Int)+1:=by omega
     have hcut:=cut_ok (ofL r) (by omega)
     rw [hrl] at hcut
     have hm:=Z3 (fun x=>!(x == 125)) r
     generalize spanF (fun x=>!(x == 125)) r=m at *
     by_cases c4:m<r.length
     ·have ecv:cutV r m = .tuple #[.string (ofL (r.take m)),.string (ofL (r.drop (m+1))),.bool true]:=if_pos c4
      rw [ecv] at hcut
      have hv:=Wn (ofL (r.take m)) cq0 cq0_i
      have hrm:((ofL (r.take m)).size:Int)=(m:Int):=by rw [Y3,List.length_take];omega
      obtain ⟨d,hd⟩:∃d,r.head? = some d:=by cases r with|nil=>simp at c4|cons d r=>exact ⟨d,rfl⟩
      have h1:(ofL L).data.toList[1]? = some d:=by rw [hLl,hLc];exact hd_ix hd
      have hdc:¬(d.toNat:Int)=(c.toNat:Int):=fun h=>c3 (by rw [hd];congr 1;exact UInt8.toNat_inj.1 (by omega))
      by_cases c5:idx (ofL (r.take m)) wFlds<7
      ·rw [decide_eq_true c5] at hv
       by_cases c6:c=123
       ·rw [if_pos ⟨c6,c4,c5⟩] at ht
        have k6:(c.toNat:Int)=123:=by rw [c6];rfl
        have n1:=hf acc (ofL (r.take m)) (by rw [ht];exact XF _ _ _ _)
        have w1:=wrapi (z:=(m:Int)+2) (by omega) (by omega)
        have w2:=wrapi (z:=(i:Int)+((m:Int)+2)) (by omega) (by omega)
        repeat' (first|refine ZF ?_|refine ZI ?_|refine ZJ ?_|refine ZG ?_|refine ZO ?_|refine ZH ?_|refine ZN ?_|refine ZM (fun b=>?_)|refine ZL (fun b=>?_)|refine ZB ?_|refine ZD ?_|refine ZK ?_|refine Za ?_|refine ZX ?_|refine Zh ?_|refine Zb ?_|refine ZY ?_|refine Zg (fun b=>?_)|refine Zi (fun b=>?_)|refine Zj ?_|refine ZZ ?_|refine ZA (hix) (fun _ _=>?_)|refine l_call0 (hix) (fun _ _=>?_)|refine ZQ (hix) (fun _ _=>?_)|refine ZA (hcut) (fun _ _=>?_)|refine l_call0 (hcut) (fun _ _=>?_)|refine ZQ (hcut) (fun _ _=>?_)|refine ZA (hv) (fun _ _=>?_)|refine l_call0 (hv) (fun _ _=>?_)|refine ZQ (hv) (fun _ _=>?_)|refine Z1 (s:=s) (u:=ofL L) i (by omega) (by rw [hL,hLl]) ?_|refine XO (s:=ofL L) 0 c h0 ?_|refine XO (s:=ofL L) 1 d h1 ?_|refine Z1 (s:=ofL L) (u:=ofL r) 1 (by omega) hdr ?_|refine Zz (s:=ofL L) 0 c h0 ?_|refine Yq n1 (fun _ _=>?_)|rw [hrm]|rw [w1]|rw [w2]|(refine ZC (fun hc=>?_) (fun hc=>?_)<;>(try simp at hc)<;>(try omega))|(refine ZU (fun hc=>?_) (fun hc=>?_)<;>(try simp at hc)<;>(try omega))|refine ZT 17 [] [(0,0),(1,0),(2,0),(3,0),(4,0),(5,0),(6,0),(7,0),(8,0),(9,0),(10,0)] [] ?_|(refine ZE (fun hc=>?_) (fun hc=>?_)<;>(try simp at hc)<;>(try omega)))
        have e1:r.drop (m+1)=s.data.toList.drop (i+m+2):=by
         have e0:s.data.toList.drop (i+m+2)=L.drop (m+2):=by rw [←hL,List.drop_drop];rfl
         rw [e0,hLc];rfl
        refine Ze ⟨(i+m+2,acc++[.fld (ofL (r.take m))]),by show i+m+2≤s.size;omega,f,?_,?_⟩ (by show s.size - (i+m+2)<s.size - i;omega) ⟨rfl,rfl,rfl,by rw [show (i:Int)+((m:Int)+2)=((i+m+2:Nat):Int) by omega];rfl,trivial⟩
        ·show (s.data.toList.drop (i+m+2)).length<f
         rw [←e1,List.length_drop];omega
        ·show T=divF f (s.data.toList.drop (i+m+2)) (i+m+2) _
         rw [ht,e1]
       ·rw [if_neg (fun h=>c6 h.1)] at ht
        have k6:¬(c.toNat:Int)=123:=fun h=>c6 ((u8i (k:=123) (by decide)).2 h)
        subst ht hV
        repeat' (first|refine ZF ?_|refine ZI ?_|refine ZJ ?_|refine ZG ?_|refine ZO ?_|refine ZH ?_|refine ZN ?_|refine ZM (fun b=>?_)|refine ZL (fun b=>?_)|refine ZB ?_|refine ZD ?_|refine ZK ?_|refine Za ?_|refine ZX ?_|refine Zh ?_|refine Zb ?_|refine ZY ?_|refine Zg (fun b=>?_)|refine Zi (fun b=>?_)|refine Zj ?_|refine ZZ ?_|refine ZA (hix) (fun _ _=>?_)|refine l_call0 (hix) (fun _ _=>?_)|refine ZQ (hix) (fun _ _=>?_)|refine ZA (hcut) (fun _ _=>?_)|refine l_call0 (hcut) (fun _ _=>?_)|refine ZQ (hcut) (fun _ _=>?_)|refine ZA (hv) (fun _ _=>?_)|refine l_call0 (hv) (fun _ _=>?_)|refine ZQ (hv) (fun _ _=>?_)|refine Z1 (s:=s) (u:=ofL L) i (by omega) (by rw [hL,hLl]) ?_|refine XO (s:=ofL L) 0 c h0 ?_|refine XO (s:=ofL L) 1 d h1 ?_|refine Z1 (s:=ofL L) (u:=ofL r) 1 (by omega) hdr ?_|refine Zz (s:=ofL L) 0 c h0 ?_|(refine ZC (fun hc=>?_) (fun hc=>?_)<;>(try simp at hc)<;>(try omega))|(refine ZU (fun hc=>?_) (fun hc=>?_)<;>(try simp at hc)<;>(try omega))|refine ZT 17 [] [(0,0),(1,0),(2,0),(3,0),(4,0),(5,0),(6,0),(7,0),(8,0),(9,0),(10,0)] [] ?_|(refine ZE (fun hc=>?_) (fun hc=>?_)<;>(try simp at hc)<;>(try omega)))
        first|exact ZR () rfl trivial|exact Z9 (YH (Zx () rfl trivial))
      ·rw [decide_eq_false c5] at hv
       rw [if_neg (fun h=>c5 h.2.2)] at ht
       subst ht hV
       repeat' (first|refine ZF ?_|refine ZI ?_|refine ZJ ?_|refine ZG ?_|refine ZO ?_|refine ZH ?_|refine ZN ?_|refine ZM (fun b=>?_)|refine ZL (fun b=>?_)|refine ZB ?_|refine ZD ?_|refine ZK ?_|refine Za ?_|refine ZX ?_|refine Zh ?_|refine Zb ?_|refine ZY ?_|refine Zg (fun b=>?_)|refine Zi (fun b=>?_)|refine Zj ?_|refine ZZ ?_|refine ZA (hix) (fun _ _=>?_)|refine l_call0 (hix) (fun _ _=>?_)|refine ZQ (hix) (fun _ _=>?_)|refine ZA (hcut) (fun _ _=>?_)|refine l_call0 (hcut) (fun _ _=>?_)|refine ZQ (hcut) (fun _ _=>?_)|refine ZA (hv) (fun _ _=>?_)|refine l_call0 (hv) (fun _ _=>?_)|refine ZQ (hv) (fun _ _=>?_)|refine Z1 (s:=s) (u:=ofL L) i (by omega) (by rw [hL,hLl]) ?_|refine XO (s:=ofL L) 0 c h0 ?_|refine XO (s:=ofL L) 1 d h1 ?_|refine Z1 (s:=ofL L) (u:=ofL r) 1 (by omega) hdr ?_|refine Zz (s:=ofL L) 0 c h0 ?_|(refine ZC (fun hc=>?_) (fun hc=>?_)<;>(try simp at hc)<;>(try omega))|(refine ZU (fun hc=>?_) (fun hc=>?_)<;>(try simp at hc)<;>(try omega))|refine ZT 17 [] [(0,0),(1,0),(2,0),(3,0),(4,0),(5,0),(6,0),(7,0),(8,0),(9,0),(10,0)] [] ?_|(refine ZE (fun hc=>?_) (fun hc=>?_)<;>(try simp at hc)<;>(try omega)))
       all_goals first|exact ZR () rfl trivial|exact Z9 (YH (Zx () rfl trivial))
     ·have ecv:cutV r m = .tuple #[.string (ofL r),.string ⟨#[]⟩,.bool false]:=if_neg c4
      rw [ecv] at hcut
      have hv:=Wn (ofL r) cq0 cq0_i
      rw [if_neg (fun h=>c4 h.2.1)] at ht
      subst ht hV
      by_cases c7:r=[]
      ·have hr0:(r.length:Int)=0:=by rw [c7];rfl
       repeat' (first|refine ZF ?_|refine ZI ?_|refine ZJ ?_|refine ZG ?_|refine ZO ?_|refine ZH ?_|refine ZN ?_|refine ZM (fun b=>?_)|refine ZL (fun b=>?_)|refine ZB ?_|refine ZD ?_|refine ZK ?_|refine Za ?_|refine ZX ?_|refine Zh ?_|refine Zb ?_|refine ZY ?_|refine Zg (fun b=>?_)|refine Zi (fun b=>?_)|refine Zj ?_|refine ZZ ?_|refine ZA (hix) (fun _ _=>?_)|refine l_call0 (hix) (fun _ _=>?_)|refine ZQ (hix) (fun _ _=>?_)|refine ZA (hcut) (fun _ _=>?_)|refine l_call0 (hcut) (fun _ _=>?_)|refine ZQ (hcut) (fun _ _=>?_)|refine ZA (hv) (fun _ _=>?_)|refine l_call0 (hv) (fun _ _=>?_)|refine ZQ (hv) (fun _ _=>?_)|refine Z1 (s:=s) (u:=ofL L) i (by omega) (by rw [hL,hLl]) ?_|refine XO (s:=ofL L) 0 c h0 ?_|refine Z1 (s:=ofL L) (u:=ofL r) 1 (by omega) hdr ?_|refine Zz (s:=ofL L) 0 c h0 ?_|(refine ZC (fun hc=>?_) (fun hc=>?_)<;>(try simp at hc)<;>(try omega))|(refine ZU (fun hc=>?_) (fun hc=>?_)<;>(try simp at hc)<;>(try omega))|refine ZT 17 [] [(0,0),(1,0),(2,0),(3,0),(4,0),(5,0),(6,0),(7,0),(8,0),(9,0),(10,0)] [] ?_|(refine ZE (fun hc=>?_) (fun hc=>?_)<;>(try simp at hc)<;>(try omega)))
       all_goals first|exact ZR () rfl trivial|exact Z9 (YH (Zx () rfl trivial))
      ·obtain ⟨d,hd⟩:∃d,r.head? = some d:=by cases r with|nil=>exact absurd rfl c7|cons d r=>exact ⟨d,rfl⟩
       have hr0:0<r.length:=List.length_pos_iff.2 c7
       have h1:(ofL L).data.toList[1]? = some d:=by rw [hLl,hLc];exact hd_ix hd
       have hdc:¬(d.toNat:Int)=(c.toNat:Int):=fun h=>c3 (by rw [hd];congr 1;exact UInt8.toNat_inj.1 (by omega))
       repeat' (first|refine ZF ?_|refine ZI ?_|refine ZJ ?_|refine ZG ?_|refine ZO ?_|refine ZH ?_|refine ZN ?_|refine ZM (fun b=>?_)|refine ZL (fun b=>?_)|refine ZB ?_|refine ZD ?_|refine ZK ?_|refine Za ?_|refine ZX ?_|refine Zh ?_|refine Zb ?_|refine ZY ?_|refine Zg (fun b=>?_)|refine Zi (fun b=>?_)|refine Zj ?_|refine ZZ ?_|refine ZA (hix) (fun _ _=>?_)|refine l_call0 (hix) (fun _ _=>?_)|refine ZQ (hix) (fun _ _=>?_)|refine ZA (hcut) (fun _ _=>?_)|refine l_call0 (hcut) (fun _ _=>?_)|refine ZQ (hcut) (fun _ _=>?_)|refine ZA (hv) (fun _ _=>?_)|refine l_call0 (hv) (fun _ _=>?_)|refine ZQ (hv) (fun _ _=>?_)|refine Z1 (s:=s) (u:=ofL L) i (by omega) (by rw [hL,hLl]) ?_|refine XO (s:=ofL L) 0 c h0 ?_|refine XO (s:=ofL L) 1 d h1 ?_|refine Z1 (s:=ofL L) (u:=ofL r) 1 (by omega) hdr ?_|refine Zz (s:=ofL L) 0 c h0 ?_|(refine ZC (fun hc=>?_) (fun hc=>?_)<;>(try simp at hc)<;>(try omega))|(refine ZU (fun hc=>?_) (fun hc=>?_)<;>(try simp at hc)<;>(try omega))|refine ZT 17 [] [(0,0),(1,0),(2,0),(3,0),(4,0),(5,0),(6,0),(7,0),(8,0),(9,0),(10,0)] [] ?_|(refine ZE (fun hc=>?_) (fun hc=>?_)<;>(try simp at hc)<;>(try omega)))
       all_goals first|exact ZR () rfl trivial|exact Z9 (YH (Zx () rfl trivial))
   ·rw [if_pos (by simpa using c2)] at ht
    have n1:=hl acc (ofL (L.take k)) (by rw [ht];exact XF _ _ _ _)
    have w1:=wrapi (z:=(i:Int)+(k:Int)) (by omega) (by omega)
    have e1:(L.drop k)=s.data.toList.drop (i+k):=by rw [←hL,List.drop_drop]
    repeat' (first|refine ZF ?_|refine ZI ?_|refine ZJ ?_|refine ZG ?_|refine ZO ?_|refine ZH ?_|refine ZN ?_|refine ZM (fun b=>?_)|refine ZL (fun b=>?_)|refine ZB ?_|refine ZD ?_|refine ZK ?_|refine ZA (hix) (fun _ _=>?_)|refine l_call0 (hix) (fun _ _=>?_)|refine Z1 (s:=s) (u:=ofL L) i (by omega) (by rw [hL,hLl]) ?_|refine l_sTo (s:=ofL L) (u:=ofL (L.take k)) k (by omega) (by rw [hLl,Y8]) ?_|refine Yq n1 (fun _ _=>?_)|rw [w1]|(refine ZC (fun hc=>?_) (fun hc=>?_)<;>(try simp at hc)<;>(try omega))|(refine ZE (fun hc=>?_) (fun hc=>?_)<;>(try simp at hc)<;>(try omega)))
    refine Ze ⟨(i+k,acc++[.lit (ofL (L.take k))]),by show i+k≤s.size;omega,f,?_,?_⟩ (by show s.size - (i+k)<s.size - i;omega) ⟨rfl,rfl,rfl,rfl,trivial⟩
    ·show (s.data.toList.drop (i+k)).length<f
     rw [←e1,List.length_drop];omega
    ·show T=divF f (s.data.toList.drop (i+k)) (i+k) _
     rw [ht,e1]
theorem Zn {f:FuncId} {cs:Array Value} {vs:List Value} {F:List Pf} {R:List HP} {post:Post} (spec:Enters f∧Spec prog f (vs.toArray++cs) F R post):SpecV (.func (.func f) #[] cs) vs F R post:=by
 intro G w hp hsat
 unfold CallsV OpRes
 have e1:(invoke (.fn (.func f) cs) (#[]++vs.toArray)).run prog w = .ok (.enter f (vs.toArray++cs)) w:=by
  simp only [invoke]
  rw [show (#[]++vs.toArray:Array Value)=vs.toArray by rw [←Array.toList_inj];simp]
  exact spec.1 _ w
 simp only [e1]
 refine Calls.mono (spec.2 G w hp hsat) ?_
 rintro e w' ⟨x,rfl,hx,hs⟩
 exact ⟨x,rfl,hx,hs⟩
theorem check1_ok (t:ByteArray) (r:HP):Enters 35∧Spec prog 35 #[.string t] [P10] [r] ⟨Unit,fun _=>.tuple #[],fun _=>True,fun _=>[],fun _=>[r]⟩:=by
 refine ZS [_] func35 ntmps35 fun G w hp=>?_
 repeat' (first|refine ZF ?_|refine ZI ?_|refine ZJ ?_|refine ZG ?_|refine ZO ?_|refine ZH ?_|refine ZN ?_|refine ZM (fun b=>?_)|refine ZL (fun b=>?_)|refine ZB ?_|refine ZD ?_|refine ZK ?_|(refine ZC (fun hc=>?_) (fun hc=>?_)<;>(try simp at hc))|(refine ZE (fun hc=>?_) (fun hc=>?_)<;>(try simp at hc)))
 exact XA () rfl trivial
def Nil0:HP:=fun _=>True
theorem tplV_ge (s:ByteArray) (i:Nat) (h:(tplF s).2=some i):tplV s=(i:Int):=by unfold tplV;rw [h]
theorem tplV_no (s:ByteArray) (h:(tplF s).2=none):tplV s = -1:=by unfold tplV;rw [h]
theorem ruCheck_ok (s:ByteArray) (hs:s.size≤1000000):Enters 14∧Spec prog 14 #[.string s] [P10] [] (RetV (.tuple #[.int .i64 (if (tplF s).2.isSome then tplV s else 0),.int .i64 (if (tplF s).2.isSome then 3 else 0)])):=by
 have n1:=Wx s hs (fnv 35) (fnv 35) (fun _=>Nil0) (fun acc t _=>Zn (check1_ok t _)) (fun acc n _=>Zn (check1_ok n _))
 cases h:(tplF s).2 with
 | none=>
  rw [tplV_no s h] at n1 ⊢
  simp only [Option.isSome_none,Bool.false_eq_true,if_false]
  refine ZS [_] func14 ntmps14 fun G w hp=>?_
  refine Z0 (Lx:=[]) (r:=Nil0) (fun _ _=>trivial) ?_
  repeat' (first|refine ZF ?_|refine ZI ?_|refine ZJ ?_|refine ZG ?_|refine ZO ?_|refine ZH ?_|refine ZN ?_|refine ZM (fun b=>?_)|refine ZL (fun b=>?_)|refine ZB ?_|refine ZD ?_|refine ZK ?_|refine ZA (n1) (fun _ _=>?_)|refine l_call0 (n1) (fun _ _=>?_)|(refine ZC (fun hc=>?_) (fun hc=>?_)<;>(try simp at hc)<;>(try omega))|(refine ZE (fun hc=>?_) (fun hc=>?_)<;>(try simp at hc)<;>(try omega)))
  exact ZR () rfl trivial
 | some i=>
  rw [tplV_ge s i h] at n1 ⊢
  simp only [Option.isSome_some,if_true]
  refine ZS [_] func14 ntmps14 fun G w hp=>?_
  refine Z0 (Lx:=[]) (r:=Nil0) (fun _ _=>trivial) ?_
  repeat' (first|refine ZF ?_|refine ZI ?_|refine ZJ ?_|refine ZG ?_|refine ZO ?_|refine ZH ?_|refine ZN ?_|refine ZM (fun b=>?_)|refine ZL (fun b=>?_)|refine ZB ?_|refine ZD ?_|refine ZK ?_|refine ZA (n1) (fun _ _=>?_)|refine l_call0 (n1) (fun _ _=>?_)|(refine ZC (fun hc=>?_) (fun hc=>?_)<;>(try simp at hc)<;>(try omega))|(refine ZE (fun hc=>?_) (fun hc=>?_)<;>(try simp at hc)<;>(try omega)))
  exact ZR () rfl trivial
theorem pt_both {a b:Nat} {o u:Obj} {h:H} (hh:Sep [Pt b u,Pt a o] h):both (Pt a o) (Pt b u) h:=by
 obtain ⟨h1,h2,dj,s1,s2,hp,k1,k2,_,t1,_,hq,_⟩:=hh
 exact ⟨h2,h1,fun x=>(dj x).symm,s2,s1,t1 _ _ hq,h1,emp,fun _=>.inr rfl,fun _ _ e=>e,fun _ _ e=>(by cases e),hp,trivial⟩
theorem bd_both {a b:Nat} {o:Obj} {h:H} (hh:Sep [Pt b (.cells #[.pointer none,.slice none 0 0] 82),Pt a o] h):both (Pt a o) (Bdr b []) h:=by
 obtain ⟨h1,h2,dj,s1,s2,hp,k1,k2,_,t1,_,hq,_⟩:=hh
 exact ⟨h2,h1,fun x=>(dj x).symm,s2,s1,t1 _ _ hq,h1,emp,fun _=>.inr rfl,fun _ _ e=>e,fun _ _ e=>(by cases e),bd_new ⟨h1,emp,fun _=>.inr rfl,fun _ _ e=>e,fun _ _ e=>(by cases e),hp,trivial⟩,trivial⟩
theorem expand1_ok (b a:Nat) (bs:List UInt8) (t:ByteArray) (c:Cq) (h1:bs.length≤1000000000) (h2:t.size≤1000000000):Enters 37∧Spec prog 37 #[.string t,.pointer (some ⟨b,0,none⟩)] [P10] [both (Pt a (.cells (cqf c).toArray 26)) (Bdr b bs)]
  ⟨Unit,fun _=>.tuple #[],fun _=>True,fun _=>[],fun _=>[both (Pt a (.cells (cqf c).toArray 26)) (Bdr b (bs++t.data.toList))]⟩:=by
 have n1:=Yc b bs t h1 h2
 generalize b=bp at *
 generalize a=ap at *
 refine ZS [_,_] func37 ntmps37 fun G w hp=>?_
 refine YU (X:=Unit) (Lx:=fun _=>[Pt ap (.cells (cqf c).toArray 26),Bdr bp bs]) (p:=fun _=>True) (r:=both (Pt ap (.cells (cqf c).toArray 26)) (Bdr bp bs)) .here (fun h hh=>⟨(),trivial,hh⟩) (fun _ _=>?_)
 repeat' (first|refine ZF ?_|refine ZI ?_|refine ZJ ?_|refine ZG ?_|refine ZO ?_|refine ZH ?_|refine ZN ?_|refine ZM (fun b=>?_)|refine ZL (fun b=>?_)|refine ZB ?_|refine ZD ?_|refine ZK ?_|refine ZA (n1) (fun _ _=>?_)|refine l_call0 (n1) (fun _ _=>?_)|(refine ZC (fun hc=>?_) (fun hc=>?_)<;>(try simp at hc))|(refine ZE (fun hc=>?_) (fun hc=>?_)<;>(try simp at hc)))
 refine Z0 (Lx:=[Pt ap (.cells (cqf c).toArray 26),Bdr bp (bs++t.data.toList)]) (r:=both (Pt ap (.cells (cqf c).toArray 26)) (Bdr bp (bs++t.data.toList))) (fun h hh=>hh) ?_
 exact XA () rfl trivial
theorem expand2_ok (b a:Nat) (bs:List UInt8) (n:ByteArray) (c:Cq) (hc:CqI c) (h1:bs.length≤1000000000) (h2:(valF n c).size≤1000000000):Enters 39∧Spec prog 39 #[.string n,.pointer (some ⟨a,0,none⟩),.pointer (some ⟨b,0,none⟩)] [P10] [both (Pt a (.cells (cqf c).toArray 26)) (Bdr b bs)]
  ⟨Unit,fun _=>.tuple #[],fun _=>True,fun _=>[],fun _=>[both (Pt a (.cells (cqf c).toArray 26)) (Bdr b (bs++(valF n c).data.toList))]⟩:=by
 have n0:=Wn n c hc
 have n1:=Yc b bs (valF n c) h1 h2
 generalize valF n c=z at *
 generalize b=bp at *
 generalize a=ap at *
 refine ZS [_,_,_] func39 ntmps39 fun G w hp=>?_
 refine YU (X:=Unit) (Lx:=fun _=>[Pt ap (.cells (cqf c).toArray 26),Bdr bp bs]) (p:=fun _=>True) (r:=both (Pt ap (.cells (cqf c).toArray 26)) (Bdr bp bs)) .here (fun h hh=>⟨(),trivial,hh⟩) (fun _ _=>?_)
 repeat' (first|refine ZF ?_|refine ZI ?_|refine ZJ ?_|refine ZG ?_|refine ZO ?_|refine ZH ?_|refine ZN ?_|refine ZM (fun b=>?_)|refine ZL (fun b=>?_)|refine ZB ?_|refine ZD ?_|refine ZK ?_|refine ZA (n0) (fun _ _=>?_)|refine l_call0 (n0) (fun _ _=>?_)|refine ZA (n1) (fun _ _=>?_)|refine l_call0 (n1) (fun _ _=>?_)|(refine ZC (fun hc=>?_) (fun hc=>?_)<;>(try simp at hc))|(refine ZE (fun hc=>?_) (fun hc=>?_)<;>(try simp at hc)))
 refine Z0 (Lx:=[Pt ap (.cells (cqf c).toArray 26),Bdr bp (bs++z.data.toList)]) (r:=both (Pt ap (.cells (cqf c).toArray 26)) (Bdr bp (bs++z.data.toList))) (fun h hh=>hh) ?_
 exact XA () rfl trivial
def flat (c:Cq) (l:List Seg):List UInt8:=l.flatMap fun x=>(segF c x).data.toList
theorem X8 (c:Cq) (a b:List Seg):flat c (a++b)=flat c a++flat c b:=List.flatMap_append
theorem Wf (c:Cq) (x:Seg):flat c [x]=(segF c x).data.toList:=by simp [flat]
theorem flt_pre {c:Cq} {a:List Seg} {x:Seg} {l:List Seg} (h:a++[x] <+: l):(flat c a).length+(segF c x).size≤(flat c l).length:=by
 obtain ⟨r,rfl⟩:=h
 have:=lsz (segF c x)
 rw [X8,X8,Wf,List.length_append,List.length_append]
 omega
theorem expF_flat (s:ByteArray) (c:Cq):expF s c=ofL (flat c (tplF s).1):=rfl
theorem expF_sz (s:ByteArray) (c:Cq):(expF s c).size=(flat c (tplF s).1).length:=by rw [expF_flat,Y3]
set_option maxHeartbeats 1000000 in
theorem ruExpand_ok (s:ByteArray) (c:Cq) (hs:s.size≤1000000) (hc:CqI c) (he:(expF s c).size≤1000000000):Enters 15∧Spec prog 15 #[.string s,cqa c] [P10] [] (RetV (.tuple #[.string (if (tplF s).2.isSome then ⟨#[]⟩ else expF s c),.int .i64 (if (tplF s).2.isSome then 3 else 0)])):=by
 rw [expF_sz] at he
 have n0:=fun (ap bp:Nat)=>Wx s hs (.func (.func 37) #[] #[.pointer (some ⟨bp,0,none⟩)]) (.func (.func 39) #[] #[.pointer (some ⟨ap,0,none⟩),.pointer (some ⟨bp,0,none⟩)]) (fun acc=>both (Pt ap (.cells (cqf c).toArray 26)) (Bdr bp (flat c acc)))
  (fun acc t h=>by
   have:=flt_pre (c:=c) h
   have h2:=expand1_ok bp ap (flat c acc) t c (by omega) (by simp only [segF] at this;omega)
   rw [show flat c acc++t.data.toList=flat c (acc++[.lit t]) by rw [X8,Wf];rfl] at h2
   exact Zn h2)
  (fun acc n h=>by
   have:=flt_pre (c:=c) h
   have h2:=expand2_ok bp ap (flat c acc) n c hc (by omega) (by simp only [segF] at this;omega)
   rw [show flat c acc++(valF n c).data.toList=flat c (acc++[.fld n]) by rw [X8,Wf];rfl] at h2
   exact Zn h2)
 obtain ⟨V,hV⟩:∃V,tplV s=V:=⟨_,rfl⟩
 rw [expF_flat]
 have hV':=hV
 unfold tplV at hV'
 simp only [hV] at n0
 generalize tplF s=T at *
 obtain ⟨L,o⟩:=T
 dsimp only at *
 have hn:flat c []=[]:=rfl
 simp only [hn] at n0
 have n1:=fun (ap bp:Nat)=>Ww (L:=[Pt bp (.cells #[.pointer none,.slice none 0 0] 82),Pt ap (.cells (cqf c).toArray 26)]) (fun _ hh=>bd_both hh) (n0 ap bp)
 have n2:=fun (bp:Nat)=>X2 bp (flat c L) (by omega)
 cases o with
 | none=>
  subst hV'
  simp only [Option.isSome_none,Bool.false_eq_true,if_false]
  refine ZS [_,_] func15 ntmps15 fun G w hp=>?_
  repeat' (first|refine YU (X:=Unit) (Lx:=fun _=>[Pt _ (.cells (cqf c).toArray 26),Bdr _ (flat c L)]) (p:=fun _=>True) (r:=both (Pt _ (.cells (cqf c).toArray 26)) (Bdr _ (flat c L))) .here (fun h hh=>⟨(),trivial,hh⟩) (fun _ _=>?_)|refine ZF ?_|refine ZI ?_|refine ZJ ?_|refine ZG ?_|refine ZO ?_|refine ZH ?_|refine ZN ?_|refine ZM (fun b=>?_)|refine ZL (fun b=>?_)|refine ZB ?_|refine ZD ?_|refine ZK ?_|refine ZA (n1 _ _) (fun _ _=>?_)|refine l_call0 (n1 _ _) (fun _ _=>?_)|refine ZA (n2 _) (fun _ _=>?_)|refine l_call0 (n2 _) (fun _ _=>?_)|(refine ZC (fun hc=>?_) (fun hc=>?_)<;>(try simp at hc))|(refine ZE (fun hc=>?_) (fun hc=>?_)<;>(try simp at hc)))
  exact ZR () rfl trivial
 | some i=>
  subst hV'
  simp only [Option.isSome_some,if_true]
  refine ZS [_,_] func15 ntmps15 fun G w hp=>?_
  repeat' (first|refine ZF ?_|refine ZI ?_|refine ZJ ?_|refine ZG ?_|refine ZO ?_|refine ZH ?_|refine ZN ?_|refine ZM (fun b=>?_)|refine ZL (fun b=>?_)|refine ZB ?_|refine ZD ?_|refine ZK ?_|refine ZA (n1 _ _) (fun _ _=>?_)|refine l_call0 (n1 _ _) (fun _ _=>?_)|(refine ZC (fun hc=>?_) (fun hc=>?_)<;>(try simp at hc)<;>(try omega))|(refine ZE (fun hc=>?_) (fun hc=>?_)<;>(try simp at hc)<;>(try omega)))
  exact ZR () rfl trivial
theorem esize1_ok (b a:Nat) (z:Nat) (t:ByteArray) (c:Cq) (h1:z+t.size≤1000000000000):Enters 72∧Spec prog 72 #[.string t,.pointer (some ⟨b,0,none⟩)] [P10] [both (Pt a (.cells (cqf c).toArray 26)) (Pt b (.cells #[.int .i64 z] 3))]
  ⟨Unit,fun _=>.tuple #[],fun _=>True,fun _=>[],fun _=>[both (Pt a (.cells (cqf c).toArray 26)) (Pt b (.cells #[.int .i64 ((z+t.size:Nat):Int)] 3))]⟩:=by
 have w1:=wrapi (z:=(z:Int)+(t.size:Int)) (by omega) (by omega)
 rw [←Int.natCast_add] at w1
 generalize b=bp at *
 generalize a=ap at *
 refine ZS [_,_] func72 ntmps72 fun G w hp=>?_
 refine YU (X:=Unit) (Lx:=fun _=>[Pt ap (.cells (cqf c).toArray 26),Pt bp (.cells #[.int .i64 z] 3)]) (p:=fun _=>True) (r:=both (Pt ap (.cells (cqf c).toArray 26)) (Pt bp (.cells #[.int .i64 z] 3))) .here (fun h hh=>⟨(),trivial,hh⟩) (fun _ _=>?_)
 repeat' (first|refine ZF ?_|refine ZI ?_|refine ZJ ?_|refine ZG ?_|refine ZO ?_|refine ZH ?_|refine ZN ?_|refine ZM (fun b=>?_)|refine ZL (fun b=>?_)|refine ZB ?_|refine ZD ?_|refine ZK ?_|rw [←Int.natCast_add]|rw [w1]|(refine ZC (fun hc=>?_) (fun hc=>?_)<;>(try simp at hc))|(refine ZE (fun hc=>?_) (fun hc=>?_)<;>(try simp at hc)))
 refine Z0 (Lx:=[Pt ap (.cells (cqf c).toArray 26),Pt bp (.cells #[.int .i64 ((z+t.size:Nat):Int)] 3)]) (r:=both (Pt ap (.cells (cqf c).toArray 26)) (Pt bp (.cells #[.int .i64 ((z+t.size:Nat):Int)] 3))) (fun h hh=>hh) ?_
 exact XA () rfl trivial
theorem esize2_ok (b a:Nat) (z:Nat) (n:ByteArray) (c:Cq) (hc:CqI c) (h1:z+(valF n c).size≤1000000000000):Enters 73∧Spec prog 73 #[.string n,.pointer (some ⟨a,0,none⟩),.pointer (some ⟨b,0,none⟩)] [P10] [both (Pt a (.cells (cqf c).toArray 26)) (Pt b (.cells #[.int .i64 z] 3))]
  ⟨Unit,fun _=>.tuple #[],fun _=>True,fun _=>[],fun _=>[both (Pt a (.cells (cqf c).toArray 26)) (Pt b (.cells #[.int .i64 ((z+(valF n c).size:Nat):Int)] 3))]⟩:=by
 have n0:=Wn n c hc
 generalize valF n c=t at *
 have w1:=wrapi (z:=(z:Int)+(t.size:Int)) (by omega) (by omega)
 rw [←Int.natCast_add] at w1
 generalize b=bp at *
 generalize a=ap at *
 refine ZS [_,_,_] func73 ntmps73 fun G w hp=>?_
 refine YU (X:=Unit) (Lx:=fun _=>[Pt ap (.cells (cqf c).toArray 26),Pt bp (.cells #[.int .i64 z] 3)]) (p:=fun _=>True) (r:=both (Pt ap (.cells (cqf c).toArray 26)) (Pt bp (.cells #[.int .i64 z] 3))) .here (fun h hh=>⟨(),trivial,hh⟩) (fun _ _=>?_)
 repeat' (first|refine ZF ?_|refine ZI ?_|refine ZJ ?_|refine ZG ?_|refine ZO ?_|refine ZH ?_|refine ZN ?_|refine ZM (fun b=>?_)|refine ZL (fun b=>?_)|refine ZB ?_|refine ZD ?_|refine ZK ?_|refine ZA (n0) (fun _ _=>?_)|refine l_call0 (n0) (fun _ _=>?_)|rw [←Int.natCast_add]|rw [w1]|(refine ZC (fun hc=>?_) (fun hc=>?_)<;>(try simp at hc))|(refine ZE (fun hc=>?_) (fun hc=>?_)<;>(try simp at hc)))
 refine Z0 (Lx:=[Pt ap (.cells (cqf c).toArray 26),Pt bp (.cells #[.int .i64 ((z+t.size:Nat):Int)] 3)]) (r:=both (Pt ap (.cells (cqf c).toArray 26)) (Pt bp (.cells #[.int .i64 ((z+t.size:Nat):Int)] 3))) (fun h hh=>hh) ?_
 exact XA () rfl trivial
set_option maxHeartbeats 1000000 in
theorem ruSize_ok (s:ByteArray) (c:Cq) (hs:s.size≤1000000) (hc:CqI c) (he:(expF s c).size≤1000000000000):Enters 47∧Spec prog 47 #[.string s,cqa c] [P10] [] (RetV (.int .i64 ((expF s c).size:Nat))):=by
 rw [expF_sz] at he ⊢
 have n0:=fun (ap bp:Nat)=>Wx s hs (.func (.func 72) #[] #[.pointer (some ⟨bp,0,none⟩)]) (.func (.func 73) #[] #[.pointer (some ⟨ap,0,none⟩),.pointer (some ⟨bp,0,none⟩)]) (fun acc=>both (Pt ap (.cells (cqf c).toArray 26)) (Pt bp (.cells #[.int .i64 ((flat c acc).length:Nat)] 3)))
  (fun acc t h=>by
   have:=flt_pre (c:=c) h
   have ht:=lsz t
   have h2:=esize1_ok bp ap (flat c acc).length t c (by simp only [segF] at this;omega)
   rw [show (flat c acc).length+t.size=(flat c (acc++[.lit t])).length by rw [X8,Wf,List.length_append];simp only [segF];omega] at h2
   exact Zn h2)
  (fun acc n h=>by
   have:=flt_pre (c:=c) h
   have ht:=lsz (valF n c)
   have h2:=esize2_ok bp ap (flat c acc).length n c hc (by simp only [segF] at this;omega)
   rw [show (flat c acc).length+(valF n c).size=(flat c (acc++[.fld n])).length by rw [X8,Wf,List.length_append];simp only [segF];omega] at h2
   exact Zn h2)
 generalize (flat c (tplF s).1).length=m at *
 generalize tplV s=V at *
 have hn:(((flat c []).length:Nat):Int)=0:=rfl
 simp only [hn] at n0
 have n1:=fun (ap bp:Nat)=>Ww (L:=[Pt bp (.cells #[.int .i64 0] 3),Pt ap (.cells (cqf c).toArray 26)]) (fun _ hh=>pt_both hh) (n0 ap bp)
 refine ZS [_,_] func47 ntmps47 fun G w hp=>?_
 repeat' (first|refine YU (X:=Unit) (Lx:=fun _=>[Pt _ (.cells (cqf c).toArray 26),Pt _ (.cells #[.int .i64 (m:Nat)] 3)]) (p:=fun _=>True) (r:=both (Pt _ (.cells (cqf c).toArray 26)) (Pt _ (.cells #[.int .i64 (m:Nat)] 3))) .here (fun h hh=>⟨(),trivial,hh⟩) (fun _ _=>?_)|refine ZF ?_|refine ZI ?_|refine ZJ ?_|refine ZG ?_|refine ZO ?_|refine ZH ?_|refine ZN ?_|refine ZM (fun b=>?_)|refine ZL (fun b=>?_)|refine ZB ?_|refine ZD ?_|refine ZK ?_|refine ZA (n1 _ _) (fun _ _=>?_)|refine l_call0 (n1 _ _) (fun _ _=>?_)|(refine ZC (fun hc=>?_) (fun hc=>?_)<;>(try simp at hc))|(refine ZE (fun hc=>?_) (fun hc=>?_)<;>(try simp at hc)))
 exact ZR () rfl trivial
theorem mget_act (w:ByteArray):(mget w (mset (⟨#[97,115,107]⟩:ByteArray) (5:Int) (mset (⟨#[104,111,108,100]⟩:ByteArray) (4:Int) (mset (⟨#[115,101,110,100]⟩:ByteArray) 3 (mset (⟨#[99,111,109,112,101,110,115,97,116,101]⟩:ByteArray) 2 (mset (⟨#[107,101,101,112]⟩:ByteArray) 1 []))))))=if idx w wActs<5 then some ((idx w wActs:Nat)+1:Int) else none:=by
 have e:(mset (⟨#[97,115,107]⟩:ByteArray) (5:Int) (mset (⟨#[104,111,108,100]⟩:ByteArray) (4:Int) (mset (⟨#[115,101,110,100]⟩:ByteArray) 3 (mset (⟨#[99,111,109,112,101,110,115,97,116,101]⟩:ByteArray) 2 (mset (⟨#[107,101,101,112]⟩:ByteArray) 1 [])))))=[(⟨#[107,101,101,112]⟩,1),(⟨#[99,111,109,112,101,110,115,97,116,101]⟩,2),(⟨#[115,101,110,100]⟩,3),(⟨#[104,111,108,100]⟩,4),(⟨#[97,115,107]⟩,5)]:=by decide
 rw [e]
 by_cases h1:w=⟨#[107,101,101,112]⟩
 ·subst h1;decide
 by_cases h2:w=⟨#[99,111,109,112,101,110,115,97,116,101]⟩
 ·subst h2;decide
 by_cases h3:w=⟨#[115,101,110,100]⟩
 ·subst h3;decide
 by_cases h4:w=⟨#[104,111,108,100]⟩
 ·subst h4;decide
 by_cases h5:w=⟨#[97,115,107]⟩
 ·subst h5;decide
 have e2:idx w wActs=5:=by simp [wActs,idx,Ne.symm h1,Ne.symm h2,Ne.symm h3,Ne.symm h4,Ne.symm h5]
 rw [e2]
 simp [mget,h1,h2,h3,h4,h5]
abbrev acV (a:Ac):Value:=.agg #[.int .i64 a.k,.string a.t]
set_option maxHeartbeats 2000000 in
theorem W7 (b r:Nat) (x:Ps) (o:Option Addr) (cap:Nat) (hk:KdOK x):Enters 109∧Spec prog 109 #[.pointer (some ⟨b,0,none⟩)] [TkS (o,cap) x.tk,P10] [Pt b (psC x o cap r)] (PsP (acV (actF x).1) b r (actF x).2):=by
 have n1:=YO b r x o cap hk 1
 have n2:=fun (q:Option Addr×Nat)=>Zw b r (x.need 1) q.1 q.2 x.peek.pl 30
 have hg:=mget_act x.peek.tx
 have hk1:=hk.need 1
 unfold actF
 generalize x.need 1=x1 at *
 generalize hp:x.peek=t at *
 obtain ⟨kd,tx,pl⟩:=t
 dsimp only at hg ⊢
 generalize b=bp at *
 by_cases hi:idx tx wActs<5
 ·rw [if_pos hi] at hg
  by_cases h1:idx tx wActs=1
  ·rw [if_pos h1,if_pos hi]
   rw [h1] at hg
   have n3:=fun (q:Option Addr×Nat)=>YO bp r x1 q.1 q.2 hk1 3
   have hz:=hk1.peek
   have n4:=ruCheck_ok x1.peek.tx (by omega)
   have n5:=fun (q:Option Addr×Nat)=>Zw bp r (x1.need 3) q.1 q.2 x1.peek.pl 3
   generalize x1.peek=u at *
   obtain ⟨kd2,tx2,pl2⟩:=u
   dsimp only at n4 n5 ⊢
   generalize x1.need 3=x3 at *
   generalize tplV tx2=V at *
   cases ho:(tplF tx2).2.isSome with
   | true=>
    rw [ho] at n4
    rw [if_pos rfl,if_pos rfl] at n4
    rw [if_pos rfl]
    refine ZS [_] func109 ntmps109 fun G w hp=>?_
    repeat' (first|refine YI (V:=ivv) Zd tx (some 2) hg ?_|refine Yl Zd _ _ ?_|refine Xn Zd ivv (fun r=>?_)|refine ZF ?_|refine ZI ?_|refine ZJ ?_|refine ZG ?_|refine ZO ?_|refine ZH ?_|refine ZN ?_|refine ZM (fun b=>?_)|refine ZL (fun b=>?_)|refine ZB ?_|refine ZD ?_|refine ZK ?_|refine ZA (n1) (fun _ _=>?_)|refine l_call0 (n1) (fun _ _=>?_)|refine ZA (n3 _) (fun _ _=>?_)|refine l_call0 (n3 _) (fun _ _=>?_)|refine ZA (n4) (fun _ _=>?_)|refine l_call0 (n4) (fun _ _=>?_)|refine ZA (n5 _) (fun _ _=>?_)|refine l_call0 (n5 _) (fun _ _=>?_)|(refine ZC (fun hc=>?_) (fun hc=>?_)<;>(try simp at hc)<;>(try omega))|(refine ZE (fun hc=>?_) (fun hc=>?_)<;>(try simp at hc)<;>(try omega)))
    rename_i q _
    exact ZR q rfl trivial
   | false=>
    rw [ho] at n4
    rw [if_neg (by decide),if_neg (by decide)] at n4
    rw [if_neg (by decide)]
    refine ZS [_] func109 ntmps109 fun G w hp=>?_
    repeat' (first|refine YI (V:=ivv) Zd tx (some 2) hg ?_|refine Yl Zd _ _ ?_|refine Xn Zd ivv (fun r=>?_)|refine ZF ?_|refine ZI ?_|refine ZJ ?_|refine ZG ?_|refine ZO ?_|refine ZH ?_|refine ZN ?_|refine ZM (fun b=>?_)|refine ZL (fun b=>?_)|refine ZB ?_|refine ZD ?_|refine ZK ?_|refine ZA (n1) (fun _ _=>?_)|refine l_call0 (n1) (fun _ _=>?_)|refine ZA (n3 _) (fun _ _=>?_)|refine l_call0 (n3 _) (fun _ _=>?_)|refine ZA (n4) (fun _ _=>?_)|refine l_call0 (n4) (fun _ _=>?_)|(refine ZC (fun hc=>?_) (fun hc=>?_)<;>(try simp at hc)<;>(try omega))|(refine ZE (fun hc=>?_) (fun hc=>?_)<;>(try simp at hc)<;>(try omega)))
    rename_i q _ _ _
    exact ZR q rfl trivial
  ·rw [if_neg h1,if_pos hi,if_pos hi]
   have hz2:¬((idx tx wActs:Nat)+1:Int)=2:=by omega
   generalize ((idx tx wActs:Nat)+1:Int)=z at hg hz2 ⊢
   refine ZS [_] func109 ntmps109 fun G w hp=>?_
   repeat' (first|refine YI (V:=ivv) Zd tx (some z) hg ?_|refine Yl Zd _ _ ?_|refine Xn Zd ivv (fun r=>?_)|refine ZF ?_|refine ZI ?_|refine ZJ ?_|refine ZG ?_|refine ZO ?_|refine ZH ?_|refine ZN ?_|refine ZM (fun b=>?_)|refine ZL (fun b=>?_)|refine ZB ?_|refine ZD ?_|refine ZK ?_|refine ZA (n1) (fun _ _=>?_)|refine l_call0 (n1) (fun _ _=>?_)|(refine ZC (fun hc=>?_) (fun hc=>?_)<;>(try simp at hc)<;>(try omega))|(refine ZE (fun hc=>?_) (fun hc=>?_)<;>(try simp at hc)<;>(try omega)))
   rename_i q _
   exact ZR q rfl trivial
 ·rw [if_neg hi] at hg
  rw [if_neg (show ¬idx tx wActs=1 by omega),if_neg hi,if_neg hi]
  refine ZS [_] func109 ntmps109 fun G w hp=>?_
  repeat' (first|refine YI (V:=ivv) Zd tx none hg ?_|refine Yl Zd _ _ ?_|refine Xn Zd ivv (fun r=>?_)|refine ZF ?_|refine ZI ?_|refine ZJ ?_|refine ZG ?_|refine ZO ?_|refine ZH ?_|refine ZN ?_|refine ZM (fun b=>?_)|refine ZL (fun b=>?_)|refine ZB ?_|refine ZD ?_|refine ZK ?_|refine ZA (n1) (fun _ _=>?_)|refine l_call0 (n1) (fun _ _=>?_)|refine ZA (n2 _) (fun _ _=>?_)|refine l_call0 (n2 _) (fun _ _=>?_)|(refine ZC (fun hc=>?_) (fun hc=>?_)<;>(try simp at hc)<;>(try omega))|(refine ZE (fun hc=>?_) (fun hc=>?_)<;>(try simp at hc)<;>(try omega)))
  rename_i q _
  exact ZR q rfl trivial
abbrev ovl (x:Option IV):Value:=match x with
 | none=>.nilIface
 | some i=>ivOf i
def OcP (h:H) (c:Option Cnd) (x:Option IV):Prop:=match c,x with
 | none,none=>True
 | some c,some i=>CdP h c (ivOf i)
 | _,_=>False
def OcF (c:Option Cnd) (x:Option IV):Pf:=⟨fun h=>OcP h c x,fun h k s hh=>by
 unfold OcP at *
 split
 ·trivial
 ·exact Wg s _ _ hh
 ·rename_i a b
  revert hh
  split
  ·exact fun _=>a rfl rfl
  ·exact fun _=>b _ _ rfl rfl
  ·exact id⟩
abbrev ruV (i:Option IV) (a:Ac):Value:=.agg #[ovl i,.int .i64 a.k,.string a.t]
abbrev RlQ (b r:Nat) (y:Ru×Ps):Post:=⟨Option IV×Option Addr×Nat,fun q=>ruV q.1 y.1.a,fun _=>True,fun q=>[OcF y.1.c q.1,TkS q.2 y.2.tk],fun q=>[Pt b (psC y.2 q.2.1 q.2.2 r),Mp skv vid r tstL]⟩
set_option maxHeartbeats 4000000 in
theorem ruRule_ok (b r:Nat) (x:Ps) (o:Option Addr) (cap:Nat) (hx:PkOK x):Enters 71∧Spec prog 71 #[.pointer (some ⟨b,0,none⟩)] [TkS (o,cap) x.tk,ErA,P10] [Pt b (psC x o cap r),Mp skv vid r tstL] (RlQ b r (ruleF x)):=by
 have n1:=Y9 b r x o cap hx.kd 1 wIf
 unfold ruleF
 dsimp only
 cases hi:x.is 1 wIf with
 | true=>
  rw [hi] at n1
  rw [if_pos rfl] at n1 ⊢
  have hps:PkOK x.pass:=hx.sfx (Sfx.pass x) (Sop.pass x)
  have n2:=fun (q:Option Addr×Nat)=>ruCond_ok b r x.pass q.1 q.2 hps
  have k1:KdOK (condF (fuP x.pass) x.pass).2:=(hps.sfx ((YS _).2.2.2.1 x.pass) ((XT _).2.2.2.1 x.pass)).kd
  unfold SpF at n2
  generalize condF (fuP x.pass) x.pass=y at *
  obtain ⟨c,y⟩:=y
  dsimp only at n2 k1 ⊢
  have n3:=fun (q:Option Addr×Nat)=>Xq b r y q.1 q.2 k1 yCol
  have k2:=k1.symb yCol
  generalize y.symb yCol=s at *
  have n4:=fun (q:Option Addr×Nat)=>W7 b r s q.1 q.2 k2
  generalize actF s=z at *
  obtain ⟨⟨ak,atx⟩,z⟩:=z
  dsimp only at n4 ⊢
  have n5:=fun (q:Option Addr×Nat)=>XM b r z q.1 q.2
  have n6:=fun (q:Option Addr×Nat)=>Zw b r z q.1 q.2 z.peek.pl 30
  generalize z.peek=t at *
  obtain ⟨kd,tx,pl⟩:=t
  dsimp only at n6 ⊢
  generalize b=bp at *
  by_cases h0:kd=0
  ·rw [if_neg (by simpa using h0)]
   refine ZS [_] func71 ntmps71 fun G w hp=>?_
   repeat' (first|refine ZF ?_|refine ZI ?_|refine ZJ ?_|refine ZG ?_|refine ZO ?_|refine ZH ?_|refine ZN ?_|refine ZM (fun b=>?_)|refine ZL (fun b=>?_)|refine ZB ?_|refine ZD ?_|refine ZK ?_|refine ZA (n1) (fun _ _=>?_)|refine l_call0 (n1) (fun _ _=>?_)|refine ZA (n2 _) (fun _ _=>?_)|refine l_call0 (n2 _) (fun _ _=>?_)|refine ZA (n3 _) (fun _ _=>?_)|refine l_call0 (n3 _) (fun _ _=>?_)|refine ZA (n4 _) (fun _ _=>?_)|refine l_call0 (n4 _) (fun _ _=>?_)|refine ZA (n5 _) (fun _ _=>?_)|refine l_call0 (n5 _) (fun _ _=>?_)|(refine ZC (fun hc=>?_) (fun hc=>?_)<;>(try simp at hc)<;>(try omega))|(refine ZE (fun hc=>?_) (fun hc=>?_)<;>(try simp at hc)<;>(try omega)))
   rename_i iv _ _ _ q _ _ _
   refine Z2 (F1:=[CdF c (ivOf iv.1)]) (f:=OcF (some c) (some iv.1)) (fun hp hF=>hF _ (.head _)) ?_
   exact ZR (some iv.1,q) rfl trivial
  ·rw [if_pos h0]
   refine ZS [_] func71 ntmps71 fun G w hp=>?_
   repeat' (first|refine ZF ?_|refine ZI ?_|refine ZJ ?_|refine ZG ?_|refine ZO ?_|refine ZH ?_|refine ZN ?_|refine ZM (fun b=>?_)|refine ZL (fun b=>?_)|refine ZB ?_|refine ZD ?_|refine ZK ?_|refine ZA (n1) (fun _ _=>?_)|refine l_call0 (n1) (fun _ _=>?_)|refine ZA (n2 _) (fun _ _=>?_)|refine l_call0 (n2 _) (fun _ _=>?_)|refine ZA (n3 _) (fun _ _=>?_)|refine l_call0 (n3 _) (fun _ _=>?_)|refine ZA (n4 _) (fun _ _=>?_)|refine l_call0 (n4 _) (fun _ _=>?_)|refine ZA (n5 _) (fun _ _=>?_)|refine l_call0 (n5 _) (fun _ _=>?_)|refine ZA (n6 _) (fun _ _=>?_)|refine l_call0 (n6 _) (fun _ _=>?_)|(refine ZC (fun hc=>?_) (fun hc=>?_)<;>(try simp at hc)<;>(try omega))|(refine ZE (fun hc=>?_) (fun hc=>?_)<;>(try simp at hc)<;>(try omega)))
   rename_i iv _ _ _ _ _ _ _ q _
   refine Z2 (F1:=[CdF c (ivOf iv.1)]) (f:=OcF (some c) (some iv.1)) (fun hp hF=>hF _ (.head _)) ?_
   exact ZR (some iv.1,q) rfl trivial
 | false=>
  rw [hi] at n1
  rw [if_neg (by decide)] at n1 ⊢
  have n4:=fun (q:Option Addr×Nat)=>W7 b r x q.1 q.2 hx.kd
  dsimp only
  generalize actF x=z at *
  obtain ⟨⟨ak,atx⟩,z⟩:=z
  dsimp only at n4 ⊢
  have n5:=fun (q:Option Addr×Nat)=>XM b r z q.1 q.2
  have n6:=fun (q:Option Addr×Nat)=>Zw b r z q.1 q.2 z.peek.pl 30
  generalize z.peek=t at *
  obtain ⟨kd,tx,pl⟩:=t
  dsimp only at n6 ⊢
  generalize b=bp at *
  by_cases h0:kd=0
  ·rw [if_neg (by simpa using h0)]
   refine ZS [_] func71 ntmps71 fun G w hp=>?_
   repeat' (first|refine ZF ?_|refine ZI ?_|refine ZJ ?_|refine ZG ?_|refine ZO ?_|refine ZH ?_|refine ZN ?_|refine ZM (fun b=>?_)|refine ZL (fun b=>?_)|refine ZB ?_|refine ZD ?_|refine ZK ?_|refine ZA (n1) (fun _ _=>?_)|refine l_call0 (n1) (fun _ _=>?_)|refine ZA (n4 _) (fun _ _=>?_)|refine l_call0 (n4 _) (fun _ _=>?_)|refine ZA (n5 _) (fun _ _=>?_)|refine l_call0 (n5 _) (fun _ _=>?_)|(refine ZC (fun hc=>?_) (fun hc=>?_)<;>(try simp at hc)<;>(try omega))|(refine ZE (fun hc=>?_) (fun hc=>?_)<;>(try simp at hc)<;>(try omega)))
   rename_i q _ _ _
   refine k_add (f:=OcF none none) (fun _=>trivial) ?_
   exact ZR (none,q) rfl trivial
  ·rw [if_pos h0]
   refine ZS [_] func71 ntmps71 fun G w hp=>?_
   repeat' (first|refine ZF ?_|refine ZI ?_|refine ZJ ?_|refine ZG ?_|refine ZO ?_|refine ZH ?_|refine ZN ?_|refine ZM (fun b=>?_)|refine ZL (fun b=>?_)|refine ZB ?_|refine ZD ?_|refine ZK ?_|refine ZA (n1) (fun _ _=>?_)|refine l_call0 (n1) (fun _ _=>?_)|refine ZA (n4 _) (fun _ _=>?_)|refine l_call0 (n4 _) (fun _ _=>?_)|refine ZA (n5 _) (fun _ _=>?_)|refine l_call0 (n5 _) (fun _ _=>?_)|refine ZA (n6 _) (fun _ _=>?_)|refine l_call0 (n6 _) (fun _ _=>?_)|(refine ZC (fun hc=>?_) (fun hc=>?_)<;>(try simp at hc)<;>(try omega))|(refine ZE (fun hc=>?_) (fun hc=>?_)<;>(try simp at hc)<;>(try omega)))
   rename_i q _
   refine k_add (f:=OcF none none) (fun _=>trivial) ?_
   exact ZR (none,q) rfl trivial
theorem unq_sz:∀(l:List UInt8) (i:Nat) (acc t:List UInt8) (k:Nat),unqF l i acc=some (t,k)→t.length≤acc.length+l.length
 | [],_,_,_,_,h=>by simp [unqF] at h
 | [c],i,acc,t,k,h=>by
  rw [unqF] at h
  split at h
  ·cases h;simp
  ·cases h
 | c::d::r,i,acc,t,k,h=>by
  rw [unqF] at h
  simp only [List.length_cons]
  split at h
  ·cases h;omega
  ·split at h
   ·split at h
    ·have:=unq_sz r _ _ _ _ h;simp only [List.length_append,List.length_cons,List.length_nil] at this;omega
    ·split at h
     ·have:=unq_sz r _ _ _ _ h;simp only [List.length_append,List.length_cons,List.length_nil] at this;omega
     ·cases h
   ·have:=unq_sz (d::r) _ _ _ _ h
    simp only [List.length_append,List.length_cons,List.length_nil] at this;omega
theorem WX (l:List UInt8):(ofL l).size=l.length:=Y3 l
theorem scan_sz:∀(n:Nat) (l:List UInt8) (i:Nat) (acc:List Tk) (M:Nat),l.length≤M→(∀t ∈ acc,t.kd≠0∧t.tx.size≤M)→(∀t ∈ (scanF n l i acc).1,t.kd≠0∧t.tx.size≤M)∧(scanF n l i acc).1.length≤acc.length+l.length
 | 0,_,_,acc,_,_,h=>⟨h,by show acc.length≤_;omega⟩
 | _+1,[],_,acc,_,_,h=>⟨h,by show acc.length≤_;omega⟩
 | n+1,c::r,i,acc,M,hM,h=>by
  have add:∀t:Tk,(t.kd≠0∧t.tx.size≤M)→∀x ∈ acc++[t],x.kd≠0∧x.tx.size≤M:=fun t ht x hx=>by
   rcases List.mem_append.1 hx with hx|hx
   ·exact h x hx
   ·rcases List.mem_singleton.1 hx with rfl
    exact ht
  have hM':r.length+1≤M:=by simpa using hM
  have key:∀(l':List UInt8) (i':Nat) (t:Tk),l'.length+1≤(c::r).length→(t.kd≠0∧t.tx.size≤M)→(∀x ∈ (scanF n l' i' (acc++[t])).1,x.kd≠0∧x.tx.size≤M)∧(scanF n l' i' (acc++[t])).1.length≤acc.length+(c::r).length:=fun l' i' t hl ht=>by
   obtain ⟨a,b⟩:=scan_sz n l' i' (acc++[t]) M (by simp only [List.length_cons] at hl;omega) (add t ht)
   refine ⟨a,?_⟩
   rw [List.length_append] at b
   simp only [List.length_cons,List.length_nil] at b hl ⊢
   omega
  unfold scanF
  split
  ·exact ⟨h,by show acc.length≤_;omega⟩
  ·split
   ·obtain ⟨a,b⟩:=scan_sz n r (i+1) acc M (by omega) h
    exact ⟨a,by simp only [List.length_cons];omega⟩
   ·split
    ·rename_i hd
     have e:spanF isLet (c::r)=spanF isLet r+1:=by simp [spanF,hd]
     exact key _ _ _ (by rw [e];simp only [List.drop_succ_cons,List.length_drop,List.length_cons];omega) ⟨show (1:Int)≠0 by decide,by show (ofL _).size≤M;rw [WX,List.length_take];simp only [List.length_cons];omega⟩
    ·split
     ·rename_i hd
      have e:spanF inNum (c::r)=spanF inNum r+1:=by simp [spanF,inNum,hd]
      exact key _ _ _ (by rw [e];simp only [List.drop_succ_cons,List.length_drop,List.length_cons];omega) ⟨show (2:Int)≠0 by decide,by show (ofL _).size≤M;rw [WX,List.length_take];simp only [List.length_cons];omega⟩
     ·split
      ·split
       ·rename_i t k hu
        have u1:=unq_le _ _ _ _ _ hu
        have u2:=unq_sz _ _ _ _ _ hu
        exact key _ _ _ (by simp only [List.length_drop,List.length_cons];omega) ⟨show (3:Int)≠0 by decide,by show (ofL _).size≤M;rw [WX];simp only [List.length_nil] at u2;omega⟩
       ·exact ⟨fun t ht=>(by cases ht),Nat.zero_le _⟩
      ·split
       ·exact key _ _ _ (by simp) ⟨show (4:Int)≠0 by decide,by show (ofL _).size≤M;rw [WX];simp;omega⟩
       ·exact ⟨fun t ht=>(by cases ht),Nat.zero_le _⟩
abbrev RI:=Option IV×Ac
abbrev rul (x:RI):List Value:=[ovl x.1,.int .i64 x.2.k,.string x.2.t]
def RusP (h:H):List Ru→List RI→Prop
 | [],[]=>True
 | x::l,y::ys=>(OcP h x.c y.1∧x.a=y.2)∧RusP h l ys
 | _,_=>False
theorem W0 {h k:H} (s:Sub h k):∀(l:List Ru) (xs:List RI),RusP h l xs→RusP k l xs
 | [],[],_=>trivial
 | x::l,y::ys,hh=>⟨⟨(OcF x.c y.1).m _ _ s hh.1.1,hh.1.2⟩,W0 s l ys hh.2⟩
 | [],_::_,hh=>hh.elim
 | _::_,[],hh=>hh.elim
def RusF (l:List Ru) (xs:List RI):Pf:=⟨fun h=>RusP h l xs,fun _ _ s hh=>W0 s l xs hh⟩
theorem rusP_len {h:H}:∀{l:List Ru} {xs:List RI},RusP h l xs→xs.length=l.length
 | [],[],_=>rfl
 | x::l,y::ys,hh=>by simp [rusP_len hh.2]
 | [],_::_,hh=>hh.elim
 | _::_,[],hh=>hh.elim
theorem rusP_add {h:H} {x:Ru} {y:RI}:∀{l:List Ru} {xs:List RI},RusP h l xs→OcP h x.c y.1→x.a=y.2→RusP h (l++[x]) (xs++[y])
 | [],[],_,h1,h2=>⟨⟨h1,h2⟩,trivial⟩
 | _::_,_::_,hh,h1,h2=>⟨hh.1,rusP_add hh.2 h1 h2⟩
 | [],_::_,hh,_,_=>hh.elim
 | _::_,[],hh,_,_=>hh.elim
theorem rusP_get {h:H}:∀{l:List Ru} {xs:List RI} {j:Nat} {x:Ru} {y:RI},RusP h l xs→l[j]? = some x→xs[j]? = some y→OcP h x.c y.1∧x.a=y.2
 | [],[],j,_,_,_,h1,_=>by simp at h1
 | _::_,_::_,0,_,_,hh,h1,h2=>by simp at h1 h2;subst h1 h2;exact hh.1
 | _::_,_::_,j+1,_,_,hh,h1,h2=>rusP_get (j:=j) hh.2 (by simpa using h1) (by simpa using h2)
 | [],_::_,_,_,_,hh,_,_=>hh.elim
 | _::_,[],_,_,_,hh,_,_=>hh.elim
def addF (s:List UInt8) (l:List Ru):List Ru:=match (lineF s l.length).1 with
 | some x=>l++[x]
 | none=>l
abbrev RlR (b:Nat) (xs:List RI) (o:Option Addr) (cap:Nat):List HP:=[Pt b (.cells #[.slice o xs.length cap] 95),Row 102 3 o xs.length cap (xs.flatMap rul)]
abbrev AdP (b:Nat) (s:List UInt8) (l:List Ru):Post:=⟨List RI×Option Addr×Nat,fun _=>.tuple #[.int .i64 (lineF s l.length).2.1,.int .i64 (lineF s l.length).2.2],fun q=>q.1.length=(addF s l).length,fun q=>[RusF (addF s l) q.1],fun q=>RlR b q.1 q.2.1 q.2.2⟩
set_option maxHeartbeats 4000000 in
theorem ruAdd_ok (b:Nat) (s:ByteArray) (hs:s.size≤70000) (l:List Ru) (xs:List RI) (o:Option Addr) (cap:Nat) (hl:xs.length=l.length) (hn:l.length≤256):Enters 45∧Spec prog 45 #[.pointer (some ⟨b,0,none⟩),.string s] [RusF l xs,ErA,P10] (RlR b xs o cap) (AdP b s.data.toList l):=by
 have n1:=ruScan_ok s hs
 have hsz:=lsz s
 obtain ⟨hk,hkl⟩:=scan_sz (s.data.toList.length+1) s.data.toList 0 [] 100000 (by omega) (fun t ht=>by cases ht)
 obtain ⟨L,hL⟩:∃L,lineF s.data.toList l.length=L:=⟨_,rfl⟩
 unfold AdP addF
 rw [hL]
 unfold lineF at hL
 dsimp only at hL
 generalize scanF (s.data.toList.length+1) s.data.toList 0 []=r at *
 obtain ⟨tk,en,is⟩:=r
 dsimp only at *
 generalize b=bp at *
 cases is with
 | false=>
  rw [if_pos rfl] at hL
  subst hL
  refine ZS [_,_] func45 ntmps45 fun G w hp=>?_
  repeat' (first|refine ZF ?_|refine ZI ?_|refine ZJ ?_|refine ZG ?_|refine ZO ?_|refine ZH ?_|refine ZN ?_|refine ZM (fun b=>?_)|refine ZL (fun b=>?_)|refine ZB ?_|refine ZD ?_|refine ZK ?_|refine ZA (n1) (fun _ _=>?_)|refine l_call0 (n1) (fun _ _=>?_)|(refine ZC (fun hc=>?_) (fun hc=>?_)<;>(try simp at hc)<;>(try omega))|(refine ZE (fun hc=>?_) (fun hc=>?_)<;>(try simp at hc)<;>(try omega)))
  exact ZR (xs,o,cap) rfl hl
 | true=>
  rw [if_neg (by decide)] at hL
  cases tk with
  | nil=>
   dsimp only at hL
   subst hL
   refine ZS [_,_] func45 ntmps45 fun G w hp=>?_
   repeat' (first|refine ZF ?_|refine ZI ?_|refine ZJ ?_|refine ZG ?_|refine ZO ?_|refine ZH ?_|refine ZN ?_|refine ZM (fun b=>?_)|refine ZL (fun b=>?_)|refine ZB ?_|refine ZD ?_|refine ZK ?_|refine ZA (n1) (fun _ _=>?_)|refine l_call0 (n1) (fun _ _=>?_)|(refine ZC (fun hc=>?_) (fun hc=>?_)<;>(try simp at hc)<;>(try omega))|(refine ZE (fun hc=>?_) (fun hc=>?_)<;>(try simp at hc)<;>(try omega)))
   exact ZR (xs,o,cap) rfl hl
  | cons t tk=>
   dsimp only at hL
   by_cases h256:l.length=256
   ·rw [if_pos h256] at hL
    subst hL
    have h0:(t::tk)[0]? = some t:=rfl
    refine ZS [_,_] func45 ntmps45 fun G w hp=>?_
    repeat' (first|refine ZF ?_|refine ZI ?_|refine ZJ ?_|refine ZG ?_|refine ZO ?_|refine ZH ?_|refine ZN ?_|refine ZM (fun b=>?_)|refine ZL (fun b=>?_)|refine ZB ?_|refine ZD ?_|refine ZK ?_|refine ZA (n1) (fun _ _=>?_)|refine l_call0 (n1) (fun _ _=>?_)|refine Zo (es:=t::tk) (f:=tkf) 0 t h0 (fun b off=>?_)|refine Zq ?_|(refine ZC (fun hc=>?_) (fun hc=>?_)<;>(try simp at hc)<;>(try omega))|(refine ZE (fun hc=>?_) (fun hc=>?_)<;>(try simp at hc)<;>(try omega)))
    exact ZR (xs,o,cap) rfl hl
   ·rw [if_neg h256] at hL
    have hpk:PkOK ⟨t::tk,(en:Int),0,0,0⟩:=⟨hk,⟨Int.le_refl 0,by simp only [List.length_nil] at hkl;show (0:Int)+((t::tk).length:Int)≤_;omega⟩,by simp only [List.length_nil] at hkl;show (t::tk).length≤_;omega⟩
    have n2:=ruTests_ok
    have n3:=fun (b r:Nat) (q:Option Addr×Nat)=>ruRule_ok b r ⟨t::tk,(en:Int),0,0,0⟩ q.1 q.2 hpk
    generalize ruleF ⟨t::tk,(en:Int),0,0,0⟩=y at *
    obtain ⟨⟨yc,ya⟩,yp⟩:=y
    dsimp only at hL n3
    by_cases he:yp.e≠0
    ·rw [if_pos he] at hL
     subst hL
     refine ZS [_,_] func45 ntmps45 fun G w hp=>?_
     repeat' (first|refine ZF ?_|refine ZI ?_|refine ZJ ?_|refine ZG ?_|refine ZO ?_|refine ZH ?_|refine ZN ?_|refine ZM (fun b=>?_)|refine ZL (fun b=>?_)|refine ZB ?_|refine ZD ?_|refine ZK ?_|refine Za ?_|refine ZX ?_|refine Zh ?_|refine Zb ?_|refine ZY ?_|refine Zg (fun b=>?_)|refine Zi (fun b=>?_)|refine Zj ?_|refine ZZ ?_|refine ZA (n1) (fun _ _=>?_)|refine l_call0 (n1) (fun _ _=>?_)|refine ZQ (n1) (fun _ _=>?_)|refine ZA (n2) (fun _ _=>?_)|refine l_call0 (n2) (fun _ _=>?_)|refine ZQ (n2) (fun _ _=>?_)|refine ZA (n3 _ _ _) (fun _ _=>?_)|refine l_call0 (n3 _ _ _) (fun _ _=>?_)|refine ZQ (n3 _ _ _) (fun _ _=>?_)|(refine ZC (fun hc=>?_) (fun hc=>?_)<;>(try simp at hc)<;>(try omega))|(refine ZU (fun hc=>?_) (fun hc=>?_)<;>(try simp at hc)<;>(try omega))|refine ZT 11 [] [(0,0),(1,0),(2,0),(3,0),(4,0),(5,0),(6,0),(7,0),(8,0),(9,0)] [] ?_|(refine ZE (fun hc=>?_) (fun hc=>?_)<;>(try simp at hc)<;>(try omega)))
     rename_i rr _ b1 q _
     obtain ⟨oc,q2,q3⟩:=q
     obtain _|⟨T,u⟩:=oc
     ·repeat' (first|refine ZF ?_|refine ZI ?_|refine ZJ ?_|refine ZG ?_|refine ZO ?_|refine ZH ?_|refine ZN ?_|refine ZM (fun b=>?_)|refine ZL (fun b=>?_)|refine ZB ?_|refine ZD ?_|refine ZK ?_|refine Za ?_|refine ZX ?_|refine Zh ?_|refine Zb ?_|refine ZY ?_|refine Zg (fun b=>?_)|refine Zi (fun b=>?_)|refine Zj ?_|refine ZZ ?_|refine ZA (n1) (fun _ _=>?_)|refine l_call0 (n1) (fun _ _=>?_)|refine ZQ (n1) (fun _ _=>?_)|refine ZA (n2) (fun _ _=>?_)|refine l_call0 (n2) (fun _ _=>?_)|refine ZQ (n2) (fun _ _=>?_)|refine ZA (n3 _ _ _) (fun _ _=>?_)|refine l_call0 (n3 _ _ _) (fun _ _=>?_)|refine ZQ (n3 _ _ _) (fun _ _=>?_)|(refine ZC (fun hc=>?_) (fun hc=>?_)<;>(try simp at hc)<;>(try omega))|(refine ZU (fun hc=>?_) (fun hc=>?_)<;>(try simp at hc)<;>(try omega))|refine ZT 11 [] [(0,0),(1,0),(2,0),(3,0),(4,0),(5,0),(6,0),(7,0),(8,0),(9,0)] [] ?_|(refine ZE (fun hc=>?_) (fun hc=>?_)<;>(try simp at hc)<;>(try omega)))
      exact ZR (xs,o,cap) rfl hl
     ·repeat' (first|refine ZF ?_|refine ZI ?_|refine ZJ ?_|refine ZG ?_|refine ZO ?_|refine ZH ?_|refine ZN ?_|refine ZM (fun b=>?_)|refine ZL (fun b=>?_)|refine ZB ?_|refine ZD ?_|refine ZK ?_|refine Za ?_|refine ZX ?_|refine Zh ?_|refine Zb ?_|refine ZY ?_|refine Zg (fun b=>?_)|refine Zi (fun b=>?_)|refine Zj ?_|refine ZZ ?_|refine ZA (n1) (fun _ _=>?_)|refine l_call0 (n1) (fun _ _=>?_)|refine ZQ (n1) (fun _ _=>?_)|refine ZA (n2) (fun _ _=>?_)|refine l_call0 (n2) (fun _ _=>?_)|refine ZQ (n2) (fun _ _=>?_)|refine ZA (n3 _ _ _) (fun _ _=>?_)|refine l_call0 (n3 _ _ _) (fun _ _=>?_)|refine ZQ (n3 _ _ _) (fun _ _=>?_)|(refine ZC (fun hc=>?_) (fun hc=>?_)<;>(try simp at hc)<;>(try omega))|(refine ZU (fun hc=>?_) (fun hc=>?_)<;>(try simp at hc)<;>(try omega))|refine ZT 11 [] [(0,0),(1,0),(2,0),(3,0),(4,0),(5,0),(6,0),(7,0),(8,0),(9,0)] [] ?_|(refine ZE (fun hc=>?_) (fun hc=>?_)<;>(try simp at hc)<;>(try omega)))
      exact ZR (xs,o,cap) rfl hl
    ·rw [if_neg he] at hL
     subst hL
     have he:yp.e=0:=by simpa using he
     refine ZS [_,_] func45 ntmps45 fun G w hp=>?_
     repeat' (first|refine ZF ?_|refine ZI ?_|refine ZJ ?_|refine ZG ?_|refine ZO ?_|refine ZH ?_|refine ZN ?_|refine ZM (fun b=>?_)|refine ZL (fun b=>?_)|refine ZB ?_|refine ZD ?_|refine ZK ?_|refine ZA (n1) (fun _ _=>?_)|refine l_call0 (n1) (fun _ _=>?_)|refine ZA (n2) (fun _ _=>?_)|refine l_call0 (n2) (fun _ _=>?_)|refine ZA (n3 _ _ _) (fun _ _=>?_)|refine l_call0 (n3 _ _ _) (fun _ _=>?_)|(refine ZC (fun hc=>?_) (fun hc=>?_)<;>(try simp at hc)<;>(try omega))|(refine ZE (fun hc=>?_) (fun hc=>?_)<;>(try simp at hc)<;>(try omega)))
     rename_i rr _ b1 q _
     obtain ⟨oc,q2,q3⟩:=q
     dsimp only
     have hroom:(2 * (xs.length+1)+200) * 40≤281474976710656:=by omega
     have e1:∀oc:Option IV,xs.length+1=(xs++[(oc,ya)]).length:=fun oc=>by simp
     have e2:∀oc:Option IV,xs.flatMap rul++rul (oc,ya)=(xs++[(oc,ya)]).flatMap rul:=fun oc=>by simp
     obtain _|⟨T,u⟩:=oc
     ·repeat' (first|refine ZF ?_|refine ZI ?_|refine ZJ ?_|refine ZG ?_|refine ZO ?_|refine ZH ?_|refine ZN ?_|refine ZM (fun b=>?_)|refine ZL (fun b=>?_)|refine ZB ?_|refine ZD ?_|refine ZK ?_|refine Za ?_|refine ZX ?_|refine Zh ?_|refine Zb ?_|refine ZY ?_|refine Zg (fun b=>?_)|refine Zi (fun b=>?_)|refine Zj ?_|refine ZZ ?_|refine ZA (n1) (fun _ _=>?_)|refine l_call0 (n1) (fun _ _=>?_)|refine ZQ (n1) (fun _ _=>?_)|refine ZA (n2) (fun _ _=>?_)|refine l_call0 (n2) (fun _ _=>?_)|refine ZQ (n2) (fun _ _=>?_)|refine ZA (n3 _ _ _) (fun _ _=>?_)|refine l_call0 (n3 _ _ _) (fun _ _=>?_)|refine ZQ (n3 _ _ _) (fun _ _=>?_)|refine r_app1 (fun o' cap'=>?_)|(refine ZC (fun hc=>?_) (fun hc=>?_)<;>(try simp at hc)<;>(try omega))|(refine ZU (fun hc=>?_) (fun hc=>?_)<;>(try simp at hc)<;>(try omega))|refine ZT 12 [Row _ _ _ _ _ _] [(0,0),(1,0),(2,0),(3,0),(4,0),(5,0),(6,1),(7,4),(8,0),(9,0)] [10] ?_|(refine ZE (fun hc=>?_) (fun hc=>?_)<;>(try simp at hc)<;>(try omega)))
      refine YZ (T:=102) (sz:=3) (o:=o') (cap:=cap') (m:=xs.length+1) _ _ (e1 none) (e2 none) ?_
      rw [e1 none]
      refine Z2 (F1:=[OcF yc none,RusF l xs]) (f:=RusF (l++[Ru.mk yc ya]) (xs++[(none,ya)])) (fun hp hF=>rusP_add (x:=Ru.mk yc ya) (y:=(none,ya)) (hF _ (.tail _ (.head _))) (hF _ (.head _)) rfl) ?_
      exact ZR (xs++[(none,ya)],o',cap') rfl (by show (xs++[_]).length=(l++[_]).length;simp [hl])
     ·repeat' (first|refine ZF ?_|refine ZI ?_|refine ZJ ?_|refine ZG ?_|refine ZO ?_|refine ZH ?_|refine ZN ?_|refine ZM (fun b=>?_)|refine ZL (fun b=>?_)|refine ZB ?_|refine ZD ?_|refine ZK ?_|refine Za ?_|refine ZX ?_|refine Zh ?_|refine Zb ?_|refine ZY ?_|refine Zg (fun b=>?_)|refine Zi (fun b=>?_)|refine Zj ?_|refine ZZ ?_|refine ZA (n1) (fun _ _=>?_)|refine l_call0 (n1) (fun _ _=>?_)|refine ZQ (n1) (fun _ _=>?_)|refine ZA (n2) (fun _ _=>?_)|refine l_call0 (n2) (fun _ _=>?_)|refine ZQ (n2) (fun _ _=>?_)|refine ZA (n3 _ _ _) (fun _ _=>?_)|refine l_call0 (n3 _ _ _) (fun _ _=>?_)|refine ZQ (n3 _ _ _) (fun _ _=>?_)|refine r_app1 (fun o' cap'=>?_)|(refine ZC (fun hc=>?_) (fun hc=>?_)<;>(try simp at hc)<;>(try omega))|(refine ZU (fun hc=>?_) (fun hc=>?_)<;>(try simp at hc)<;>(try omega))|refine ZT 12 [Row _ _ _ _ _ _] [(0,0),(1,0),(2,0),(3,0),(4,0),(5,0),(6,1),(7,4),(8,0),(9,0)] [10] ?_|(refine ZE (fun hc=>?_) (fun hc=>?_)<;>(try simp at hc)<;>(try omega)))
      refine YZ (T:=102) (sz:=3) (o:=o') (cap:=cap') (m:=xs.length+1) _ _ (e1 (some (T,u))) (e2 (some (T,u))) ?_
      rw [e1 (some (T,u))]
      refine Z2 (F1:=[OcF yc (some (T,u)),RusF l xs]) (f:=RusF (l++[Ru.mk yc ya]) (xs++[((some (T,u)),ya)])) (fun hp hF=>rusP_add (x:=Ru.mk yc ya) (y:=(some (T,u),ya)) (hF _ (.tail _ (.head _))) (hF _ (.head _)) rfl) ?_
      exact ZR (xs++[((some (T,u)),ya)],o',cap') rfl (by show (xs++[_]).length=(l++[_]).length;simp [hl])
section
structure PB (M:Int) (x:Ps):Prop where
 t:∀t ∈ x.tk,0≤t.pl∧t.pl≤M
 n:0≤x.en∧x.en≤M
 p:0≤x.pl∧x.pl≤M
namespace PB
variable {M:Int} {x:Ps}
theorem peek (h:PB M x):0≤x.peek.pl∧x.peek.pl≤M:=by
 unfold Ps.peek
 split
 ·exact h.n
 ·rename_i t l ht;exact h.t t (by rw [ht];exact .head _)
theorem pass (h:PB M x):PB M x.pass:=⟨fun t ht=>h.t t (List.mem_of_mem_tail ht),h.n,h.p⟩
theorem fail (h:PB M x) {i:Int} (hi:0≤i∧i≤M) (e:Int):PB M (x.fail i e):=by
 unfold Ps.fail
 split
 ·exact ⟨fun t ht=>(by cases ht),h.n,hi⟩
 ·exact h
theorem need (h:PB M x) (k:Int):PB M (x.need k):=by
 unfold Ps.need
 split
 ·exact h.pass
 ·exact h.pass.fail h.peek _
theorem symb (h:PB M x) (s:ByteArray):PB M (x.symb s):=by
 unfold Ps.symb
 split
 ·exact h.pass
 ·exact h.fail h.peek _
theorem ite {c:Prop} [Decidable c] {q r:Ps} (h:PB M q) (k:PB M r):PB M (if c then q else r):=by split<;>assumption
theorem num (h:PB M x):PB M (numF x).2:=by
 unfold numF
 dsimp only
 have a:=h.need 2
 exact ite ((ite (a.fail h.peek _) a).fail h.peek _) (ite (a.fail h.peek _) a)
theorem test (h:PB M x) (w:ByteArray):PB M (testF w x).2:=by
 unfold testF
 split
 ·exact h
 ·split
  ·dsimp only
   exact ite (h.need 1) ((h.need 1).fail h.peek _)
  ·split
   ·dsimp only
    exact (ite (h.need 1) ((h.need 1).fail h.peek _)).need 3
   ·split
    ·dsimp only
     exact (ite (h.need 4) ((h.need 4).fail h.peek _)).num
    ·dsimp only
     exact ite (h.need 2) ((h.need 2).fail h.peek _)
theorem op (h:PB M x) (d:Int):PB M {x with op:=d}:=⟨h.t,h.n,h.p⟩
end PB
theorem pb_all (M:Int):∀n:Nat,(∀p,PB M p→PB M (factorF n p).2)∧(∀p,PB M p→PB M (termF n p).2)∧(∀l p,PB M p→PB M (termL n l p).2)∧(∀p,PB M p→PB M (condF n p).2)∧(∀l p,PB M p→PB M (condL n l p).2)
 | 0=>⟨fun _ h=>h.fail h.peek _,fun _ h=>h.fail h.peek _,fun _ _ h=>h.fail h.peek _,fun _ h=>h.fail h.peek _,fun _ _ h=>h.fail h.peek _⟩
 | n+1=>by
  obtain ⟨h1,h2,h3,h4,h5⟩:=pb_all M n
  refine ⟨fun p h=>?_,fun p h=>?_,fun l p h=>?_,fun p h=>?_,fun l p h=>?_⟩
  ·unfold factorF
   dsimp only
   split
   ·exact h1 _ h.pass
   ·split
    ·have a:PB M (if p.pass.op=32 then p.pass.fail p.peek.pl 9 else p.pass):=PB.ite (h.pass.fail h.peek _) h.pass
     generalize (if p.pass.op=32 then p.pass.fail p.peek.pl 9 else p.pass)=q at a
     exact ((h4 _ (a.op _)).symb _).op _
    ·split
     ·exact h.pass.test _
     ·exact h.pass.fail h.peek _
  ·exact h3 _ _ (h1 p h)
  ·unfold termL
   split
   ·exact h3 _ _ (h1 _ h.pass)
   ·exact h
  ·exact h5 _ _ (h2 p h)
  ·unfold condL
   split
   ·exact h5 _ _ (h2 _ h.pass)
   ·exact h
theorem PB.act {M:Int} {x:Ps} (h:PB M x):PB M (actF x).2:=by
 unfold actF
 dsimp only
 have a:PB M (if idx x.peek.tx wActs<5 then x.need 1 else (x.need 1).fail x.peek.pl 30):=PB.ite (h.need 1) ((h.need 1).fail h.peek _)
 generalize (if idx x.peek.tx wActs<5 then x.need 1 else (x.need 1).fail x.peek.pl 30)=q at a ⊢
 split
 ·exact PB.ite ((a.need 3).fail a.peek _) (a.need 3)
 ·exact a
theorem PB.rule {M:Int} {x:Ps} (h:PB M x):PB M (ruleF x).2:=by
 unfold ruleF
 dsimp only
 have a:PB M (if x.is 1 wIf=true then ((some (condF (fuP x.pass) x.pass).1:Option Cnd),(condF (fuP x.pass) x.pass).2.symb yCol) else (none,x)).2:=by
  split
  ·exact ((pb_all M _).2.2.2.1 _ h.pass).symb _
  ·exact h
 exact PB.ite (a.act.fail a.act.peek _) a.act
theorem scan_pl:∀(n:Nat) (l:List UInt8) (i:Nat) (acc:List Tk) (M:Int),(i:Int)+l.length≤M→(∀t ∈ acc,0≤t.pl∧t.pl≤M)→(∀t ∈ (scanF n l i acc).1,0≤t.pl∧t.pl≤M)∧((scanF n l i acc).2.1:Int)≤M
 | 0,_,i,acc,M,hM,h=>⟨h,by show (i:Int)≤M;omega⟩
 | _+1,[],i,acc,M,hM,h=>⟨h,by show (i:Int)≤M;simp at hM;omega⟩
 | n+1,c::r,i,acc,M,hM,h=>by
  have add:∀t:Tk,(0≤t.pl∧t.pl≤M)→∀x ∈ acc++[t],0≤x.pl∧x.pl≤M:=fun t ht x hx=>by
   rcases List.mem_append.1 hx with hx|hx
   ·exact h x hx
   ·rcases List.mem_singleton.1 hx with rfl
    exact ht
  have hM':(i:Int)+r.length+1≤M:=by simp at hM;omega
  have key:∀(k:Nat) (t:Tk),1≤k→k≤(c::r).length→t.pl=(i:Int)→(∀x ∈ (scanF n ((c::r).drop k) (i+k) (acc++[t])).1,0≤x.pl∧x.pl≤M)∧((scanF n ((c::r).drop k) (i+k) (acc++[t])).2.1:Int)≤M:=fun k t h1 h2 ht=>
   scan_pl n _ _ _ M (by rw [List.length_drop];simp only [List.length_cons] at h2 ⊢;omega) (add t (by rw [ht];omega))
  unfold scanF
  split
  ·exact ⟨h,by show (i:Int)≤M;omega⟩
  ·split
   ·exact scan_pl n r (i+1) acc M (by omega) h
   ·split
    ·rename_i hd
     have e:spanF isLet (c::r)=spanF isLet r+1:=by simp [spanF,hd]
     exact key _ _ (by omega) (Z3 _ _) rfl
    ·split
     ·rename_i hd
      have e:spanF inNum (c::r)=spanF inNum r+1:=by simp [spanF,inNum,hd]
      exact key _ _ (by omega) (Z3 _ _) rfl
     ·split
      ·split
       ·rename_i t k hu
        have u1:=unq_le _ _ _ _ _ hu
        exact key _ _ (by omega) (by simp only [List.length_cons];omega) rfl
       ·exact ⟨fun t ht=>(by cases ht),by show (i:Int)≤M;omega⟩
      ·split
       ·exact key 1 _ (by omega) (by simp) rfl
       ·exact ⟨fun t ht=>(by cases ht),by show (i:Int)≤M;omega⟩
theorem lineF_pl (s:List UInt8) (n:Nat):0≤(lineF s n).2.1∧(lineF s n).2.1≤s.length:=by
 obtain ⟨h1,h2⟩:=scan_pl (s.length+1) s 0 [] s.length (by omega) (fun t ht=>by cases ht)
 unfold lineF
 dsimp only
 generalize scanF (s.length+1) s 0 []=r at *
 obtain ⟨tk,en,is⟩:=r
 dsimp only at *
 split
 ·exact ⟨by show (0:Int)≤(en:Int);omega,h2⟩
 ·split
  ·exact ⟨by show (0:Int)≤0;omega,by show (0:Int)≤_;omega⟩
  ·rename_i t tk
   split
   ·exact h1 t (.head _)
   ·have hp:PB s.length (⟨t::tk,(en:Int),0,0,0⟩:Ps):=⟨h1,⟨by show (0:Int)≤(en:Int);omega,h2⟩,⟨Int.le_refl 0,by show (0:Int)≤_;omega⟩⟩
    split
    ·exact hp.rule.p
    ·exact ⟨by show (0:Int)≤0;omega,by show (0:Int)≤_;omega⟩
theorem lineF_ok {s:List UInt8} {n:Nat} {x:Ru} (h:(lineF s n).1=some x):(lineF s n).2.2=0∧n≠256:=by
 revert h
 unfold lineF
 dsimp only
 generalize scanF (s.length+1) s 0 []=r
 obtain ⟨tk,en,is⟩:=r
 dsimp only
 split
 ·intro h;cases h
 ·split
  ·intro h;cases h
  ·split
   ·intro h;cases h
   ·rename_i hn
    split
    ·intro h;cases h
    ·intro _;exact ⟨rfl,hn⟩
theorem addF_len {s:List UInt8} {l:List Ru} (h:l.length≤256):(addF s l).length≤256:=by
 unfold addF
 split
 ·rename_i x hx
  have:=(lineF_ok hx).2
  simp only [List.length_append,List.length_cons,List.length_nil];omega
 ·exact h
theorem rows_step {s:List UInt8} {rest:List (List UInt8)} {i:Nat} {acc:List Ru} (h:(lineF s acc.length).2.2=0):rowsF (s::rest) i acc=rowsF rest (i+1) (addF s acc):=by
 unfold addF
 generalize hq:lineF s acc.length=q at *
 obtain ⟨o,a,e⟩:=q
 dsimp only at h
 cases o with
 | some x=>simp [rowsF,hq]
 | none=>simp [rowsF,hq,h]
theorem rows_bad {s:List UInt8} {rest:List (List UInt8)} {i:Nat} {acc:List Ru} (h:(lineF s acc.length).2.2≠0):rowsF (s::rest) i acc = .error ((i:Int)+1,(lineF s acc.length).2.1+1,(lineF s acc.length).2.2):=by
 generalize hq:lineF s acc.length=q at *
 obtain ⟨o,a,e⟩:=q
 dsimp only at h
 cases o with
 | some x=>
  have:=lineF_ok (s:=s) (n:=acc.length) (x:=x) (by rw [hq])
  rw [hq] at this
  exact absurd this.1 h
 | none=>simp [rowsF,hq,h]
theorem lines_sz:∀(l:List UInt8),(linesF l).length≤l.length+1∧∀x ∈ linesF l,x.length≤l.length
 | []=>⟨by simp [linesF],fun x hx=>by simp [linesF] at hx;subst hx;simp⟩
 | c::r=>by
  obtain ⟨h1,h2⟩:=lines_sz r
  rw [linesF]
  split
  ·refine ⟨by simp;omega,fun x hx=>?_⟩
   rcases List.mem_cons.1 hx with rfl|hx
   ·simp
   ·have:=h2 x hx;simp;omega
  ·generalize linesF r=m at *
   cases m with
   | nil=>exact ⟨by simp,fun x hx=>by simp at hx;subst hx;simp⟩
   | cons y m=>
    refine ⟨by simp at h1 ⊢;omega,fun x hx=>?_⟩
    rcases List.mem_cons.1 hx with rfl|hx
    ·have:=h2 y (.head _);simp;omega
    ·have:=h2 x (.tail _ hx);simp;omega
end
def SimT (r:Cnd×Ps) (q:Tr5×Mq):Prop:=Sim r.2 q.2∧(r.2.e=0→r.1=toC q.1∧WfT q.1)
def SimL (r:List Cnd×Ps) (q:List Tr5×Mq):Prop:=Sim r.2 q.2∧(r.2.e=0→r.1=toCs q.1∧WfTs q.1∧q.1≠[])
theorem sim_word {p:Ps} {m:Mq} (h:Sim p m) (w:ByteArray):p.is 1 w=m.word w:=by
 by_cases he:p.e=0
 ·obtain ⟨h1,h2,h3⟩:=h.ok he
  unfold Ps.is Mq.word Mq.has Mq.isW Ps.peek
  rw [h1,←h2]
  cases p.tk with
  | nil=>simp
  | cons t l=>simp
 ·obtain ⟨h1,h2,h3⟩:=h.err he
  rw [pis_err h3 (by decide),Yv (by rw [←h1];exact he)]
theorem WY {p:Ps} {m:Mq} (h:Sim p m):Sim p.pass m.pass:=by
 refine ⟨fun t ht=>h.1 t (List.mem_of_mem_tail ht),h.2.1,?_⟩
 rcases h.2.2 with ⟨h1,h2,h3,h4⟩|⟨h1,h2,h3,h4⟩
 ·exact .inl ⟨h1,h2,by simp [Ps.pass,Mq.pass,h3],h4⟩
 ·exact .inr ⟨h1,h2,h3,by simp [Ps.pass,h4]⟩
theorem sim_symb {p:Ps} {m:Mq} (h:Sim p m) (s:ByteArray):Sim (p.symb s) (m.take (Mq.isS s)).2:=by
 by_cases he:p.e=0
 ·obtain ⟨h1,h2,h3⟩:=h.ok he
  have e:p.is 4 s=m.has (Mq.isS s):=by
   unfold Ps.is Mq.has Mq.isS Ps.peek
   rw [←h2]
   cases p.tk<;>simp
  unfold Ps.symb Mq.take
  by_cases hs:m.has (Mq.isS s)=true
  ·rw [if_pos (by rw [e];exact hs),if_neg (by rw [h1,hs];simp)]
   exact WY h
  ·have hs':m.has (Mq.isS s)=false:=by simpa using hs
   rw [if_neg (by rw [e];exact hs),if_pos (.inr hs')]
   exact Zc he h1 h.2.1 (h.pl he) (by decide)
 ·obtain ⟨h1,h2,h3⟩:=h.err he
  rw [WF he h3,XL (by rw [←h1];exact he)]
  exact h
theorem sim_op {p:Ps} {m:Mq} (h:Sim p m) (d:Int):Sim {p with op:=p.op+d} {m with op:=m.op+d}:=by
 refine ⟨h.1,h.2.1,?_⟩
 rcases h.2.2 with ⟨h1,h2,h3,h4⟩|⟨h1,h2,h3,h4⟩
 ·exact .inl ⟨h1,h2,h3,by show p.op+d=m.op+d;rw [h4]⟩
 ·exact .inr ⟨h1,h2,h3,h4⟩
theorem toC_or (l:List Tr5) (a b:ByteArray) (n:Int):toC (.mk wOr l a b n)=eitherF (toCs l):=by rw [toC,if_pos rfl]
theorem toC_and (l:List Tr5) (a b:ByteArray) (n:Int):toC (.mk wAnd l a b n)=bothF (toCs l):=by rw [toC,if_neg (by decide),if_pos rfl]
theorem toC_not (t:Tr5) (a b:ByteArray) (n:Int):toC (.mk wNot [t] a b n) = .nt (toC t):=by rw [toC,if_neg (by decide),if_neg (by decide),if_pos rfl];rfl
theorem sim_all:∀n:Nat,
  (∀p m,Sim p m→SimT (factorF n p) (factorM n m))∧
  (∀p m,Sim p m→SimT (termF n p) (termM n m))∧
  (∀p m l k,Sim p m→(p.e=0→l=toCs k∧WfTs k∧k≠[])→SimL (termL n l p) (termN n k m))∧
  (∀p m,Sim p m→SimT (condF n p) (condM n m))∧
  (∀p m l k,Sim p m→(p.e=0→l=toCs k∧WfTs k∧k≠[])→SimL (condL n l p) (condN n k m))
 | 0=>by
  have key:∀p m,Sim p m→Sim (p.fail p.peek.pl 99) (m.fail 99)∧(p.fail p.peek.pl 99).e≠0:=fun p m h=>by
   refine ⟨?_,Zs (by decide)⟩
   by_cases he:p.e=0
   ·exact Zc he (h.ok he).1 h.2.1 (h.pl he) (by decide)
   ·rw [Zl he,YF (by rw [←h.e0];exact he)];exact h
  exact ⟨fun p m h=>⟨(key p m h).1,fun hz=>absurd hz (key p m h).2⟩,fun p m h=>⟨(key p m h).1,fun hz=>absurd hz (key p m h).2⟩,fun p m _ _ h _=>⟨(key p m h).1,fun hz=>absurd hz (key p m h).2⟩,fun p m h=>⟨(key p m h).1,fun hz=>absurd hz (key p m h).2⟩,fun p m _ _ h _=>⟨(key p m h).1,fun hz=>absurd hz (key p m h).2⟩⟩
 | n+1=>by
  obtain ⟨ihf,iht,ihl,ihc,ihd⟩:=sim_all n
  refine ⟨fun p m h=>?_,fun p m h=>?_,fun p m l k h hk=>?_,fun p m h=>?_,fun p m l k h hk=>?_⟩
  ·-- factor
   by_cases he:p.e≠0
   ·obtain ⟨h1,h2,h3⟩:=h.err he
    have hm:m.e≠0:=by rw [←h1];exact he
    refine ⟨by rw [Xr he h3,W6 hm];exact h,fun hz=>absurd hz (by rw [Xr he h3];exact he)⟩
   have he:p.e=0:=by omega
   obtain ⟨h1,h2,h3⟩:=h.ok he
   obtain ⟨ts,en,op,pl,e⟩:=p
   obtain ⟨tk,en2,op2,e2,cl⟩:=m
   have h4:=h.2.1
   have h0:=h.1
   dsimp only at he h1 h2 h3 h4 h0
   subst he;subst h1;subst h2;subst h3;subst h4
   cases ts with
   | nil=>
    unfold factorF factorM
    have e1:(⟨[],en+1,op,0,cl⟩:Mq).word wNot=false:=by simp [Mq.word,Mq.has]
    have e2:∀q,(⟨[],en+1,op,0,cl⟩:Mq).has q=false:=fun q=>rfl
    simp only [Y2,e1,e2,Bool.false_eq_true,and_false,if_false]
    have a1:((0:Int)=1∧ofL []=wNot)=False:=eq_false (by decide)
    have a2:((0:Int)=4∧ofL []=yOpn)=False:=eq_false (by decide)
    have a3:((0:Int)=1∧isTst (ofL [])=true)=False:=eq_false (by decide)
    simp only [a1,a2,a3,if_false]
    exact ⟨Zc rfl rfl rfl rfl (by decide),fun h=>absurd h (Zs (by decide))⟩
   | cons t ts=>
    have h0':∀t ∈ ts,TkOK t:=fun t ht=>h0 t (.tail _ ht)
    have ep:(⟨t::ts,en,op,pl,0⟩:Ps).pass=⟨ts,en,op,pl,0⟩:=rfl
    have em:(⟨t::ts,en+1,op,0,cl⟩:Mq).pass=⟨ts,en+1,op,0,cl⟩:=rfl
    have sp:Sim (⟨ts,en,op,pl,0⟩:Ps) (⟨ts,en+1,op,0,cl⟩:Mq):=XV h0'
    unfold factorF factorM
    simp only [YL,ep,em]
    by_cases c1:t.kd=1∧t.tx=wNot
    ·have e1:(⟨t::ts,en+1,op,0,cl⟩:Mq).word wNot=true:=by simp [Mq.word,Mq.has,Mq.isW,c1]
     simp only [eq_true c1,eq_true e1,if_true]
     have ih:=ihf _ _ sp
     refine ⟨ih.1,fun hz=>?_⟩
     obtain ⟨i1,i2⟩:=ih.2 hz
     refine ⟨by show Cnd.nt _=_;rw [toC_not,i1],?_⟩
     show WfT (.mk wNot [_] eB eB 0)
     rw [WfT,if_neg (by decide),if_pos rfl]
     exact ⟨⟨_,rfl⟩,i2,trivial⟩
    ·have e1:¬(⟨t::ts,en+1,op,0,cl⟩:Mq).word wNot=true:=by simpa [Mq.word,Mq.has,Mq.isW] using c1
     simp only [eq_false c1,eq_false e1,if_false]
     by_cases c2:t.kd=4∧t.tx=yOpn
     ·have e2:(⟨t::ts,en+1,op,0,cl⟩:Mq).has (Mq.isS yOpn)=true:=by simp [Mq.has,Mq.isS,c2]
      simp only [eq_true c2,e2,and_self,if_true]
      by_cases c3:op=32
      ·simp only [eq_true c3,if_true]
       have he:((⟨ts,en,op,pl,0⟩:Ps).fail t.pl 9).e≠0:=Zs (by decide)
       have ht:((⟨ts,en,op,pl,0⟩:Ps).fail t.pl 9).tk=[]:=WI rfl
       generalize hq:(⟨ts,en,op,pl,0⟩:Ps).fail t.pl 9=q at he ht
       have s:Sim q ((⟨t::ts,en+1,op,0,cl⟩:Mq).fail 9):=by rw [←hq];exact Zc rfl rfl rfl rfl (by decide)
       have he':({q with op:=q.op+1}:Ps).e≠0:=he
       have ht':({q with op:=q.op+1}:Ps).tk=[]:=ht
       have g:=condF_err he' ht' n
       simp only [g,WF he' ht']
       refine ⟨⟨s.1,s.2.1,?_⟩,fun hz=>absurd hz he⟩
       rcases s.2.2 with s3|s3
       ·exact absurd s3.1 he
       ·exact .inr s3
      ·simp only [eq_false c3,if_false]
       have s1:Sim (⟨ts,en,op+1,pl,0⟩:Ps) (⟨ts,en+1,op+1,0,cl⟩:Mq):=XV h0'
       have ih:=ihc _ _ s1
       have s2:=sim_symb ih.1 yCls
       refine ⟨sim_op s2 (-1),fun hz=>ih.2 ?_⟩
       have hz':((condF n ⟨ts,en,op+1,pl,0⟩).2.symb yCls).e=0:=hz
       by_cases hc:(condF n ⟨ts,en,op+1,pl,0⟩).2.e=0
       ·exact hc
       ·rw [WF hc (ih.1.err hc).2.2] at hz'
        exact absurd hz' hc
     ·have e2:(⟨t::ts,en+1,op,0,cl⟩:Mq).has (Mq.isS yOpn)=false:=by simpa [Mq.has,Mq.isS] using c2
      simp only [eq_false c2,e2,Bool.false_eq_true,and_false,if_false]
      by_cases c3:t.kd=1∧isTst t.tx=true
      ·have e3:(⟨t::ts,en+1,op,0,cl⟩:Mq).has (fun t=>decide (t.kd=1) && isTst t.tx)=true:=by simp [Mq.has,c3]
       simp only [eq_true c3,e3,and_self,if_true]
       exact sim_test c3.2 h0'
      ·have e3:(⟨t::ts,en+1,op,0,cl⟩:Mq).has (fun t=>decide (t.kd=1) && isTst t.tx)=false:=by simpa [Mq.has] using c3
       simp only [eq_false c3,e3,Bool.false_eq_true,and_false,if_false]
       exact ⟨Zc rfl rfl rfl rfl (by decide),fun h=>absurd h (Zs (by decide))⟩
  ·-- term
   have ih:=ihf p m h
   have ih2:=ihl _ _ [(factorF n p).1] [(factorM n m).1] ih.1 (fun hz=>by
    obtain ⟨i1,i2⟩:=ih.2 hz
    exact ⟨by rw [i1];rfl,⟨i2,trivial⟩,by simp⟩)
   refine ⟨ih2.1,fun hz=>?_⟩
   obtain ⟨i1,i2,i3⟩:=ih2.2 hz
   refine ⟨by show bothF _=toC (.mk wAnd _ eB eB 0);rw [toC_and,i1],?_⟩
   show WfT (.mk wAnd _ eB eB 0)
   rw [WfT,if_pos (.inr rfl)]
   exact ⟨i3,i2⟩
  ·-- more terms
   unfold termL termN
   rw [sim_word h]
   by_cases hw:m.word wAnd=true
   ·rw [if_pos hw,if_pos hw]
    have ih:=ihf _ _ (WY h)
    refine ihl _ _ _ _ ih.1 fun hz=>?_
    obtain ⟨i1,i2⟩:=ih.2 hz
    have hz0:p.e=0:=by
     by_cases he:p.e=0
     ·exact he
     ·rw [Yv (by rw [←h.e0];exact he)] at hw;cases hw
    obtain ⟨k1,k2,k3⟩:=hk hz0
    exact ⟨by rw [toCs_app,k1,i1];rfl,by rw [WfTs_app];exact ⟨k2,i2,trivial⟩,by simp⟩
   ·rw [if_neg hw,if_neg hw]
    exact ⟨h,hk⟩
  ·-- cond
   have ih:=iht p m h
   have ih2:=ihd _ _ [(termF n p).1] [(termM n m).1] ih.1 (fun hz=>by
    obtain ⟨i1,i2⟩:=ih.2 hz
    exact ⟨by rw [i1];rfl,⟨i2,trivial⟩,by simp⟩)
   refine ⟨ih2.1,fun hz=>?_⟩
   obtain ⟨i1,i2,i3⟩:=ih2.2 hz
   refine ⟨by show eitherF _=toC (.mk wOr _ eB eB 0);rw [toC_or,i1],?_⟩
   show WfT (.mk wOr _ eB eB 0)
   rw [WfT,if_pos (.inl rfl)]
   exact ⟨i3,i2⟩
  ·unfold condL condN
   rw [sim_word h]
   by_cases hw:m.word wOr=true
   ·rw [if_pos hw,if_pos hw]
    have ih:=iht _ _ (WY h)
    refine ihd _ _ _ _ ih.1 fun hz=>?_
    obtain ⟨i1,i2⟩:=ih.2 hz
    have hz0:p.e=0:=by
     by_cases he:p.e=0
     ·exact he
     ·rw [Yv (by rw [←h.e0];exact he)] at hw;cases hw
    obtain ⟨k1,k2,k3⟩:=hk hz0
    exact ⟨by rw [toCs_app,k1,i1];rfl,by rw [WfTs_app];exact ⟨k2,i2,trivial⟩,by simp⟩
   ·rw [if_neg hw,if_neg hw]
    exact ⟨h,hk⟩
theorem WH:∀(n:Nat) (l:List UInt8) (i:Nat) (acc:List Tk),(∀t ∈ acc,TkOK t)→∀t ∈ (scanF n l i acc).1,TkOK t
 | 0,_,_,_,h=>h
 | _+1,[],_,_,h=>h
 | n+1,c::r,i,acc,h=>by
  have add:∀t,TkOK t→∀x ∈ acc++[t],TkOK x:=fun t ht x hx=>by
   rcases List.mem_append.1 hx with hx|hx
   ·exact h x hx
   ·rcases List.mem_singleton.1 hx with rfl
    exact ht
  unfold scanF
  split
  ·exact h
  ·split
   ·exact WH n _ _ _ h
   ·split
    ·exact WH n _ _ _ (add _ ⟨.inl rfl,fun h=>absurd h (by show ¬(1:Int)=2;decide)⟩)
    ·split
     ·rename_i hd
      refine WH n _ _ _ (add _ ⟨.inr (.inl rfl),fun _=>⟨?_,?_⟩⟩)
      ·have:spanF inNum (c::r)=spanF inNum r+1:=by simp [spanF,inNum,hd]
       show (ofL ((c::r).take (spanF inNum (c::r)))).data.toList≠[]
       rw [this];simp
      ·intro x hx
       exact spanF_take inNum (c::r) x (by simpa using hx)
     ·split
      ·split
       ·exact WH n _ _ _ (add _ ⟨.inr (.inr (.inl rfl)),fun h=>absurd h (by show ¬(3:Int)=2;decide)⟩)
       ·intro t ht;cases ht
      ·split
       ·exact WH n _ _ _ (add _ ⟨.inr (.inr (.inr rfl)),fun h=>absurd h (by show ¬(4:Int)=2;decide)⟩)
       ·intro t ht;cases ht
def ruC (x:RuM):Ru:=⟨x.c.map toC,x.a⟩
def WfR (x:RuM):Prop:=∀t,x.c=some t→WfT t
def actM (m1:Mq):Ac×Mq:=
 if m1.e=0∧m1.has (fun t=>decide (t.kd=1) && decide (idx t.tx wActs<5))=true then
  let k:=idx m1.hd wActs
  let m2:=m1.pass
  let y:ByteArray×Mq:=if k=1 then (let m3:=if m2.has (fun t=>decide (t.kd=3) && (tplF t.tx).2.isSome) then m2.fail 3 else m2;m3.take (fun t=>decide (t.kd=3))) else (eB,m2)
  (⟨(k:Int)+1,y.1⟩,if y.2.tk≠[] then y.2.fail 30 else y.2)
 else (⟨0,eB⟩,m1.fail 30)
def actE (p:Ps):Ac×Ps:=let y:=actF p;(y.1,if y.2.peek.kd≠0 then y.2.fail y.2.peek.pl 30 else y.2)
theorem end_ok {ts:List Tk} {en op pl cl:Int} (h:∀t ∈ ts,TkOK t) :
  Sim (if (⟨ts,en,op,pl,0⟩:Ps).peek.kd≠0 then (⟨ts,en,op,pl,0⟩:Ps).fail (⟨ts,en,op,pl,0⟩:Ps).peek.pl 30 else ⟨ts,en,op,pl,0⟩) (if (⟨ts,en+1,op,0,cl⟩:Mq).tk≠[] then (⟨ts,en+1,op,0,cl⟩:Mq).fail 30 else ⟨ts,en+1,op,0,cl⟩):=by
 cases ts with
 | nil=>exact XV h
 | cons t ts=>
  have h1:=(h t (.head _)).1
  have h2:t.kd≠0:=by omega
  rw [if_pos (show (⟨t::ts,en,op,pl,0⟩:Ps).peek.kd≠0 from h2),if_pos (by simp)]
  exact Zc rfl rfl rfl rfl (by decide)
theorem end_err {p:Ps} {m:Mq} (h:Sim p m) (he:p.e≠0):Sim (if p.peek.kd≠0 then p.fail p.peek.pl 30 else p) (if m.tk≠[] then m.fail 30 else m):=by
 obtain ⟨h1,h2,h3⟩:=h.err he
 rw [YN h3]
 simp only [ne_eq,not_true_eq_false,if_false]
 rw [YF (by rw [←h1];exact he)]
 simpa using h
theorem end_e {p:Ps} (he:p.e≠0):(if p.peek.kd≠0 then p.fail p.peek.pl 30 else p).e≠0:=by
 rw [Zl he,ite_self];exact he
theorem sim_act {p:Ps} {m:Mq} (h:Sim p m):Sim (actE p).2 (actM m).2∧((actE p).2.e=0→(actE p).1=(actM m).1):=by
 by_cases he:p.e≠0
 ·obtain ⟨h1,h2,h3⟩:=h.err he
  have hm:m.e≠0:=by rw [←h1];exact he
  have e1:(actF p).2=p:=by
   unfold actF
   simp only [YN h3,Yd he h3,Zl he,ite_self]
   rw [if_neg (by decide)]
  have e2:actM m=(⟨0,eB⟩,m):=by
   unfold actM
   rw [if_neg (fun h=>hm h.1),YF hm]
  unfold actE
  simp only [e1,e2,YN h3]
  exact ⟨h,fun hz=>absurd hz he⟩
 have he:p.e=0:=by omega
 obtain ⟨h1,h2,h3⟩:=h.ok he
 obtain ⟨ts,en,op,pl,e⟩:=p
 obtain ⟨tk,en2,op2,e2,cl⟩:=m
 have h4:=h.2.1
 have h0:=h.1
 dsimp only at he h1 h2 h3 h4 h0
 subst he;subst h1;subst h2;subst h3;subst h4
 have bad:∀{q:Ps} {a:Ac} {i:Int} {m':Mq},actF ⟨ts,en,op,pl,0⟩=(a,q.fail i 30)→Sim (q.fail i 30) m'→(actM ⟨ts,en+1,op,0,cl⟩).2=m'→Sim (actE ⟨ts,en,op,pl,0⟩).2 (actM ⟨ts,en+1,op,0,cl⟩).2∧((actE ⟨ts,en,op,pl,0⟩).2.e=0→(actE ⟨ts,en,op,pl,0⟩).1=(actM ⟨ts,en+1,op,0,cl⟩).1):=by
  intro q a i m' g1 g2 g3
  have hz:(q.fail i 30).e≠0:=Zs (by decide)
  obtain ⟨_,_,k3⟩:=g2.err hz
  unfold actE
  rw [g1,g3]
  simp only [YN k3]
  exact ⟨g2,fun h=>absurd h hz⟩
 cases ts with
 | nil=>
  refine bad (a:=⟨0,ofL []⟩) (q:=⟨[],en,op,pl,0⟩) (i:=en) (m':=(⟨[],en+1,op,0,cl⟩:Mq).fail 30) ?_ (Zc rfl rfl rfl rfl (by decide)) ?_
  ·unfold actF
   simp only [Y2,Yy (show (1:Int)≠0 by decide),ff (show (30:Int)≠0 by decide),ite_self]
   rfl
  ·unfold actM
   rw [if_neg (by simp [Mq.has])]
 | cons t ts=>
  by_cases hk:t.kd=1
  ·by_cases hi:idx t.tx wActs<5
   ·have e3:(⟨t::ts,en+1,op,0,cl⟩:Mq).has (fun t=>decide (t.kd=1) && decide (idx t.tx wActs<5))=true:=by simp [Mq.has,hk,hi]
    have em:(⟨t::ts,en+1,op,0,cl⟩:Mq).pass=⟨ts,en+1,op,0,cl⟩:=rfl
    have eh:(⟨t::ts,en+1,op,0,cl⟩:Mq).hd=t.tx:=rfl
    unfold actE actF actM
    rw [Y7 hk]
    simp only [YL,e3,em,eh,hi,and_self,if_true]
    by_cases hc:idx t.tx wActs=1
    ·simp only [hc,if_true]
     cases ts with
     | nil=>
      rw [Yy (by decide)]
      have q1:(⟨[],en+1,op,0,cl⟩:Mq).has (fun t=>decide (t.kd=3) && (tplF t.tx).2.isSome)=false:=rfl
      have q2:(⟨[],en+1,op,0,cl⟩:Mq).take (fun t=>decide (t.kd=3))=(eB,(⟨[],en+1,op,0,cl⟩:Mq).fail 30):=by simp [Mq.take,Mq.has]
      simp only [q1,Bool.false_eq_true,if_false,q2,Y2]
      have q3:(tplF (ofL [])).2.isSome=false:=by decide
      simp only [q3,Bool.false_eq_true,if_false]
      have s:Sim ((⟨[],en,op,pl,0⟩:Ps).fail en 30) ((⟨[],en+1,op,0,cl⟩:Mq).fail 30):=Zc rfl rfl rfl rfl (by decide)
      exact ⟨end_err s (Zs (by decide)),fun hz=>absurd hz (end_e (Zs (by decide)))⟩
     | cons u ts=>
      by_cases hu:u.kd=3
      ·rw [Y7 hu]
       simp only [YL]
       by_cases hq:(tplF u.tx).2.isSome=true
       ·have q1:(⟨u::ts,en+1,op,0,cl⟩:Mq).has (fun t=>decide (t.kd=3) && (tplF t.tx).2.isSome)=true:=by simp [Mq.has,hu,hq]
        have q0:((⟨u::ts,en+1,op,0,cl⟩:Mq).fail 3).e≠0:=by simp [Mq.fail]
        simp only [q1,hq,if_true,XL q0]
        have s:Sim ((⟨ts,en,op,pl,0⟩:Ps).fail u.pl 3) ((⟨u::ts,en+1,op,0,cl⟩:Mq).fail 3):=Zc rfl rfl rfl rfl (by decide)
        exact ⟨end_err s (Zs (by decide)),fun hz=>absurd hz (end_e (Zs (by decide)))⟩
       ·have hq:(tplF u.tx).2.isSome=false:=by simpa using hq
        have q1:(⟨u::ts,en+1,op,0,cl⟩:Mq).has (fun t=>decide (t.kd=3) && (tplF t.tx).2.isSome)=false:=by simp [Mq.has,hq]
        have q2:(⟨u::ts,en+1,op,0,cl⟩:Mq).take (fun t=>decide (t.kd=3))=(u.tx,⟨ts,en+1,op,0,cl⟩):=by simp [Mq.take,Mq.has,hu,Mq.hd,Mq.pass]
        simp only [q1,hq,Bool.false_eq_true,if_false,q2]
        exact ⟨end_ok fun t ht=>h0 t (.tail _ (.tail _ ht)),fun _=>rfl⟩
      ·rw [XU hu]
       have q1:(⟨u::ts,en+1,op,0,cl⟩:Mq).has (fun t=>decide (t.kd=3) && (tplF t.tx).2.isSome)=false:=by simp [Mq.has,hu]
       have q2:(⟨u::ts,en+1,op,0,cl⟩:Mq).take (fun t=>decide (t.kd=3))=(eB,(⟨u::ts,en+1,op,0,cl⟩:Mq).fail 30):=by simp [Mq.take,Mq.has,hu]
       simp only [q1,q2,Bool.false_eq_true,if_false,ff (show (30:Int)≠0 by decide),ite_self]
       have s:Sim ((⟨ts,en,op,pl,0⟩:Ps).fail u.pl 30) ((⟨u::ts,en+1,op,0,cl⟩:Mq).fail 30):=Zc rfl rfl rfl rfl (by decide)
       exact ⟨end_err s (Zs (by decide)),fun hz=>absurd hz (by first|exact Zs (by decide)|exact end_e (Zs (by decide)))⟩
    ·simp only [eq_false hc,if_false]
     refine ⟨end_ok fun t ht=>h0 t (.tail _ ht),fun _=>rfl⟩
   ·refine bad (a:=⟨0,ofL []⟩) (q:=⟨ts,en,op,pl,0⟩) (i:=t.pl) (m':=(⟨t::ts,en+1,op,0,cl⟩:Mq).fail 30) ?_ (Zc rfl rfl rfl rfl (by decide)) ?_
    ·unfold actF
     rw [Y7 hk]
     have hc:¬idx t.tx wActs=1:=by omega
     simp only [YL,eq_false hi,eq_false hc,if_false]
    ·unfold actM
     rw [if_neg (by simp [Mq.has,hi])]
  ·have hf:((⟨ts,en,op,pl,0⟩:Ps).fail t.pl 30).e≠0:=Zs (by decide)
   have ht:((⟨ts,en,op,pl,0⟩:Ps).fail t.pl 30).tk=[]:=WI rfl
   have e1:(actF ⟨t::ts,en,op,pl,0⟩).2=(⟨ts,en,op,pl,0⟩:Ps).fail t.pl 30:=by
    unfold actF
    rw [XU hk]
    simp only [Zl hf,ite_self,Yd hf ht]
    split<;>rfl
   refine bad (a:=(actF ⟨t::ts,en,op,pl,0⟩).1) (q:=⟨ts,en,op,pl,0⟩) (i:=t.pl) (m':=(⟨t::ts,en+1,op,0,cl⟩:Mq).fail 30) (by rw [←e1]) (Zc rfl rfl rfl rfl (by decide)) ?_
   unfold actM
   rw [if_neg (by simp [Mq.has,hk])]
theorem rule_eq (p:Ps):ruleF p=(let x:Option Cnd×Ps:=if p.is 1 wIf then let r:=condF (fuP p.pass) p.pass;(some r.1,r.2.symb yCol) else (none,p);(⟨x.1,(actE x.2).1⟩,(actE x.2).2)):=rfl
theorem ruleM_eq (m:Mq):ruleM m=(let x:Option Tr5×Mq:=if m.word wIf then let r:=condM (fuM m.pass) m.pass;(some r.1,(r.2.take (Mq.isS yCol)).2) else (none,m);(⟨x.1,(actM x.2).1⟩,(actM x.2).2)):=by
 unfold ruleM actM
 dsimp only
 generalize (if m.word wIf=true then (some (condM (fuM m.pass) m.pass).1,((condM (fuM m.pass) m.pass).2.take (Mq.isS yCol)).2) else (none,m))=x
 by_cases hc:x.2.e=0∧x.2.has (fun t=>decide (t.kd=1) && decide (idx t.tx wActs<5))=true
 ·rw [if_pos hc,if_pos hc]
 ·rw [if_neg hc,if_neg hc]
theorem act_err {p:Ps} (he:p.e≠0) (ht:p.tk=[]):(actE p).2=p:=by
 unfold actE actF
 simp only [YN ht,Yd he ht,Zl he,ite_self]
 rw [if_neg (show ¬idx (ofL []) wActs=1 by decide)]
 simp only [YN ht,ne_eq,not_true_eq_false,if_false]
theorem sim_rule {p:Ps} {m:Mq} (h:Sim p m) (he:p.e=0):Sim (ruleF p).2 (ruleM m).2∧((ruleF p).2.e=0→(ruleF p).1=ruC (ruleM m).1∧WfR (ruleM m).1):=by
 rw [rule_eq,ruleM_eq,sim_word h]
 by_cases hw:m.word wIf=true
 ·simp only [hw,if_true]
  have hp:=WY h
  have ef:fuP p.pass=fuM m.pass:=by
   unfold fuP fuM Ps.pass Mq.pass
   rw [(h.ok he).2.1]
  rw [ef]
  have ih:=(sim_all (fuM m.pass)).2.2.2.1 _ _ hp
  have s:=sim_symb ih.1 yCol
  have g:=sim_act s
  refine ⟨g.1,fun hz=>?_⟩
  have h1:=g.2 hz
  have h2:(condF (fuM m.pass) p.pass).2.e=0:=by
   by_cases hc:(condF (fuM m.pass) p.pass).2.e=0
   ·exact hc
   ·have ht:=(ih.1.err hc).2.2
    have hz':(actE ((condF (fuM m.pass) p.pass).2.symb yCol)).2.e=0:=hz
    rw [WF hc ht,act_err hc ht] at hz'
    exact absurd hz' hc
  obtain ⟨i1,i2⟩:=ih.2 h2
  refine ⟨?_,fun t ht=>?_⟩
  ·show (⟨some _,_⟩:Ru)=_
   rw [i1,h1];rfl
  ·cases ht;exact i2
 ·simp only [eq_false hw,if_false]
  have g:=sim_act h
  refine ⟨g.1,fun hz=>⟨?_,fun t ht=>by cases ht⟩⟩
  show (⟨none,_⟩:Ru)=_
  rw [g.2 hz];rfl
theorem sim_line (s:List UInt8) (n:Nat):match lineF s n,lineM s n with
  | (some x,_,_),(some y,_,_)=>x=ruC y∧WfR y
  | (none,a,e),(none,b,f)=>e=f∧(e≠0→a+1=b)
  | _,_=>False:=by
 unfold lineF lineM
 have htk:=WH (s.length+1) s 0 [] (fun t ht=>by cases ht)
 generalize scanF (s.length+1) s 0 []=r at *
 obtain ⟨ts,e,ok⟩:=r
 dsimp only at htk ⊢
 by_cases hb:ok=false
 ·simp only [hb,if_true]
  exact ⟨trivial,fun _=>trivial⟩
 ·have hb:ok=true:=by simpa using hb
  simp only [hb,Bool.true_eq_false,if_false]
  cases ts with
  | nil=>exact ⟨rfl,fun h=>absurd rfl h⟩
  | cons t ts=>
   dsimp only
   by_cases hn:n=256
   ·simp only [hn,if_true]
    exact ⟨trivial,fun _=>trivial⟩
   ·simp only [hn,if_false]
    have g:=sim_rule (p:=⟨t::ts,(e:Int),0,0,0⟩) (m:=⟨t::ts,(e:Int)+1,0,0,0⟩) (XV htk) rfl
    generalize ruleF ⟨t::ts,(e:Int),0,0,0⟩=p at *
    generalize ruleM ⟨t::ts,(e:Int)+1,0,0,0⟩=m at *
    have g0:=g.1.e0
    by_cases hz:p.2.e=0
    ·have hz2:m.2.e=0:=by rw [←g0];exact hz
     simp only [hz,hz2,ne_eq,not_true_eq_false,if_false]
     exact g.2 hz
    ·have hz2:m.2.e≠0:=by rw [←g0];exact hz
     simp only [hz,hz2,ne_eq,not_false_eq_true,if_true]
     exact ⟨g0,fun _=>(g.1.err hz).2.1⟩
theorem sim_rows:∀(l:List (List UInt8)) (i:Nat) (acc:List RuM),(∀x ∈ acc,WfR x)→match rowsF l i (acc.map ruC),rowsM l i acc with
  | .ok a,.ok b=>a=b.map ruC∧∀x ∈ b,WfR x
  | .error a,.error b=>a=b
  | _,_=>False
 | [],_,acc,h=>⟨rfl,h⟩
 | s::l,i,acc,h=>by
  have g:=sim_line s acc.length
  unfold rowsF rowsM
  rw [List.length_map]
  generalize lineF s acc.length=a at *
  generalize lineM s acc.length=b at *
  obtain ⟨a1,a2,a3⟩:=a
  obtain ⟨b1,b2,b3⟩:=b
  cases a1 with
  | some x=>cases b1 with
   | none=>exact g.elim
   | some y=>
    obtain ⟨rfl,g2⟩:=g
    have:=sim_rows l (i+1) (acc++[y]) (fun z hz=>by
     rcases List.mem_append.1 hz with hz|hz
     ·exact h z hz
     ·rcases List.mem_singleton.1 hz with rfl
      exact g2)
    rw [List.map_append] at this
    exact this
  | none=>cases b1 with
   | some y=>exact g.elim
   | none=>
    obtain ⟨rfl,g2⟩:=g
    by_cases hz:a3=0
    ·simp only [hz,if_true]
     exact sim_rows l (i+1) acc h
    ·simp only [hz,if_false]
     rw [g2 hz]
theorem par_sim (s:ByteArray):match parF s,parM s with
  | .ok a,.ok b=>a=b.map ruC∧∀x ∈ b,WfR x
  | .error a,.error b=>a=b
  | _,_=>False:=by
 unfold parF parM
 by_cases h:65536<s.size
 ·simp only [h,if_true]
 ·simp only [h,if_false]
  exact sim_rows _ 0 [] (fun x hx=>by cases hx)
theorem anyH_eq (c:Cq):∀l:List Cnd,anyH c l=l.any (holF c)
 | []=>by simp [anyH]
 | x::l=>by rw [anyH,anyH_eq c l];rfl
theorem allH_eq (c:Cq):∀l:List Cnd,allH c l=l.all (holF c)
 | []=>by simp [allH]
 | x::l=>by rw [allH,allH_eq c l];rfl
theorem any_anyP (c:Cq) (x:Cnd):(anyP x).any (holF c)=holF c x:=by
 cases x with
 | any l=>rw [anyP,holF,anyH_eq]
 | _=>simp [anyP]
theorem all_allP (c:Cq) (x:Cnd):(allP x).all (holF c)=holF c x:=by
 cases x with
 | all l=>rw [allP,holF,allH_eq]
 | _=>simp [allP]
theorem hol_either (c:Cq) (l:List Cnd):holF c (eitherF l)=l.any (holF c):=by
 have h:(l.flatMap anyP).any (holF c)=l.any (holF c):=by
  induction l with
  | nil=>rfl
  | cons x l ih=>rw [List.flatMap_cons,List.any_append,ih,any_anyP];rfl
 unfold eitherF
 split
 ·rename_i d hd
  rw [←h,hd];simp
 ·rw [←h,holF,anyH_eq]
theorem hol_both (c:Cq) (l:List Cnd):holF c (bothF l)=l.all (holF c):=by
 have h:(l.flatMap allP).all (holF c)=l.all (holF c):=by
  induction l with
  | nil=>rfl
  | cons x l ih=>rw [List.flatMap_cons,List.all_append,ih,all_allP];rfl
 unfold bothF
 split
 ·rename_i d hd
  rw [←h,hd];simp
 ·rw [←h,holF,allH_eq]
mutual
def holM (c:Cq):Tr5→Bool
 | .mk op args rel tx n=>
  if op=wOr then anyM c args else if op=wAnd then allM c args else if op=wNot then !headM c args
  else if idx op wKinds<3 then c.kind == ((idx op wKinds:Nat)+2:Int)
  else if op=wChan then (subO c).ch == n
  else if op=wBy then lwith c.who tx
  else if idx op wTxs<3 then cmpB (idx rel wCts) (fldT (idx op wTxs) c) tx
  else cmpZ (idx rel yCns) (fldN (idx op wNms) c) n
def anyM (c:Cq):List Tr5→Bool
 | []=>false
 | t::l=>holM c t || anyM c l
def allM (c:Cq):List Tr5→Bool
 | []=>true
 | t::l=>holM c t && allM c l
def headM (c:Cq):List Tr5→Bool
 | []=>false
 | t::_=>holM c t
end
mutual
theorem Wo (c:Cq):∀t:Tr5,WfT t→holF c (toC t)=holM c t
 | .mk op args rel tx n,h=>by
  rw [WfT] at h
  rw [toC,holM]
  by_cases h1:op=wOr
  ·rw [if_pos (.inl h1)] at h
   rw [if_pos h1,if_pos h1,hol_either,any_tree c args h.2]
  rw [if_neg h1,if_neg h1]
  by_cases h2:op=wAnd
  ·rw [if_pos (.inr h2)] at h
   rw [if_pos h2,if_pos h2,hol_both,all_tree c args h.2]
  rw [if_neg h2,if_neg h2]
  by_cases h3:op=wNot
  ·rw [if_neg (by rintro (h|h);exact h1 h;exact h2 h),if_pos h3] at h
   rw [if_pos h3,if_pos h3]
   obtain ⟨⟨t,rfl⟩,h4,_⟩:=h
   show (!holF c (toC t))=_
   rw [Wo c t h4,headM]
  rw [if_neg h3,if_neg h3]
  rw [if_neg (by rintro (h|h);exact h1 h;exact h2 h),if_neg h3] at h
  by_cases h4:idx op wKinds<3
  ·rw [if_pos h4,if_pos h4,holF]
  rw [if_neg h4,if_neg h4]
  by_cases h5:op=wChan
  ·rw [if_pos h5,if_pos h5,holF]
  rw [if_neg h5,if_neg h5]
  have ht:=h.2.1
  by_cases h6:op=wBy
  ·have x1:¬idx op wTxs<3:=by rw [h6];decide
   have x2:¬idx op wNms<4:=by rw [h6];decide
   rw [if_neg x1,if_neg x2,if_pos h6,holF]
  rw [if_neg h6]
  by_cases h7:idx op wTxs<3
  ·rw [if_pos h7,if_pos h7,holF]
  rw [if_neg h7,if_neg h7]
  have h8:idx op wNms<4:=by
   simp only [isTst,Bool.or_eq_true,decide_eq_true_eq] at ht
   rcases ht with (((ht|ht)|ht)|ht)|ht
   ·exact absurd ht h4
   ·exact absurd ht h5
   ·exact absurd ht h7
   ·exact ht
   ·exact absurd ht h6
  rw [if_pos h8,holF]
theorem any_tree (c:Cq):∀l:List Tr5,WfTs l→(toCs l).any (holF c)=anyM c l
 | [],_=>by simp [toCs,anyM]
 | t::l,h=>by rw [WfTs] at h;rw [toCs,List.any_cons,Wo c t h.1,any_tree c l h.2,anyM]
theorem all_tree (c:Cq):∀l:List Tr5,WfTs l→(toCs l).all (holF c)=allM c l
 | [],_=>by simp [toCs,allM]
 | t::l,h=>by rw [WfTs] at h;rw [toCs,List.all_cons,Wo c t h.1,all_tree c l h.2,allM]
end
def AcOK (a:Ac):Prop:=1≤a.k∧a.k≤5∧(a.k=2→(tplF a.t).2=none)∧(a.k≠2→a.t=ofL [])
theorem act_tpl {p:Ps} (h:(actE p).2.e=0):AcOK (actE p).1:=by
 have h1:(actF p).2.e=0:=by
  by_cases hz:(actF p).2.e=0
  ·exact hz
  ·exact absurd h (end_e hz)
 show AcOK (actF p).1
 unfold actF at h1 ⊢
 dsimp only at h1 ⊢
 by_cases hk:idx p.peek.tx wActs=1
 ·simp only [hk,if_true] at h1 ⊢
  refine ⟨show (1:Int)≤2 by decide,show (2:Int)≤5 by decide,fun _=>?_,fun h=>absurd rfl h⟩
  by_cases hq:(tplF (if 1<5 then p.need 1 else (p.need 1).fail p.peek.pl 30).peek.tx).2.isSome=true
  ·rw [if_pos hq] at h1
   exact absurd h1 (Zs (by decide))
  ·simpa using hq
 ·simp only [eq_false hk,if_false] at h1 ⊢
  by_cases h5:idx p.peek.tx wActs<5
  ·simp only [h5,if_true]
   exact ⟨show (1:Int)≤(idx p.peek.tx wActs:Int)+1 by omega,show (idx p.peek.tx wActs:Int)+1≤5 by omega,fun h=>absurd (show (idx p.peek.tx wActs:Int)+1=2 from h) (by omega),fun _=>rfl⟩
  ·simp only [h5,if_false] at h1
   exact absurd h1 (Zs (by decide))
theorem rule_ac {p:Ps} (h:(ruleF p).2.e=0):AcOK (ruleF p).1.a:=by
 rw [rule_eq] at h ⊢
 exact act_tpl h
theorem line_ac {s:List UInt8} {n:Nat} {x:Ru} {a e:Int} (h:lineF s n=(some x,a,e)):AcOK x.a:=by
 unfold lineF at h
 dsimp only at h
 split at h
 ·cases h
 ·split at h
  ·cases h
  ·split at h
   ·cases h
   ·split at h
    ·cases h
    ·rename_i hz
     cases h
     exact rule_ac (by omega)
theorem rows_ac:∀(l:List (List UInt8)) (i:Nat) (acc:List Ru),(∀x ∈ acc,AcOK x.a)→∀r,rowsF l i acc = .ok r→∀x ∈ r,AcOK x.a
 | [],_,acc,h,r,hr=>by cases hr;exact h
 | s::l,i,acc,h,r,hr=>by
  unfold rowsF at hr
  split at hr
  ·rename_i x a e hx
   refine rows_ac l (i+1) _ (fun z hz=>?_) r hr
   rcases List.mem_append.1 hz with hz|hz
   ·exact h z hz
   ·rcases List.mem_singleton.1 hz with rfl
    exact line_ac hx
  ·split at hr
   ·exact rows_ac l (i+1) acc h r hr
   ·cases hr
theorem par_ac {s:ByteArray} {r:List Ru} (h:parF s = .ok r):∀x ∈ r,AcOK x.a:=by
 unfold parF at h
 split at h
 ·cases h
 ·exact rows_ac _ 0 [] (fun x hx=>by cases hx) r h
section
mutual
def WfC:Cnd→Prop
 | .any l=>WfCs l
 | .all l=>WfCs l
 | .nt c=>WfC c
 | .nul=>False
 | .kd _ _=>True
 | .ch _ _=>True
 | .tx _ f k _=>f<3∧k<3
 | .nm _ f k _=>f<4∧k<3
 | .by_ _ _=>True
def WfCs:List Cnd→Prop
 | []=>True
 | c::l=>WfC c∧WfCs l
end
theorem Y0:∀l:List Cnd,WfCs l↔∀c ∈ l,WfC c
 | []=>by simp [WfCs]
 | c::l=>by simp [WfCs,Y0 l]
theorem wf_anyP {c:Cnd} (h:WfC c):∀x ∈ anyP c,WfC x:=by
 cases c with
 | any l=>intro x hx;rw [WfC] at h;exact (Y0 l).1 h x hx
 | _=>intro x hx;rcases List.mem_singleton.1 hx with rfl;exact h
theorem wf_allP {c:Cnd} (h:WfC c):∀x ∈ allP c,WfC x:=by
 cases c with
 | all l=>intro x hx;rw [WfC] at h;exact (Y0 l).1 h x hx
 | _=>intro x hx;rcases List.mem_singleton.1 hx with rfl;exact h
theorem wf_either {l:List Cnd} (h:WfCs l):WfC (eitherF l):=by
 have k:∀x ∈ l.flatMap anyP,WfC x:=fun x hx=>by
  obtain ⟨c,hc,hx⟩:=List.mem_flatMap.1 hx
  exact wf_anyP ((Y0 l).1 h c hc) x hx
 unfold eitherF
 split
 ·rename_i c hc;exact k c (by rw [hc];exact .head _)
 ·rw [WfC];exact (Y0 _).2 k
theorem wf_both {l:List Cnd} (h:WfCs l):WfC (bothF l):=by
 have k:∀x ∈ l.flatMap allP,WfC x:=fun x hx=>by
  obtain ⟨c,hc,hx⟩:=List.mem_flatMap.1 hx
  exact wf_allP ((Y0 l).1 h c hc) x hx
 unfold bothF
 split
 ·rename_i c hc;exact k c (by rw [hc];exact .head _)
 ·rw [WfC];exact (Y0 _).2 k
mutual
theorem wf_tree:∀t:Tr5,WfT t→WfC (toC t)
 | .mk op args rel tx n,h=>by
  rw [WfT] at h
  rw [toC]
  by_cases h1:op=wOr
  ·rw [if_pos (.inl h1)] at h
   rw [if_pos h1];exact wf_either (wf_trees args h.2)
  rw [if_neg h1]
  by_cases h2:op=wAnd
  ·rw [if_pos (.inr h2)] at h
   rw [if_pos h2];exact wf_both (wf_trees args h.2)
  rw [if_neg h2]
  by_cases h3:op=wNot
  ·rw [if_neg (by rintro (h|h);exact h1 h;exact h2 h),if_pos h3] at h
   rw [if_pos h3]
   obtain ⟨⟨t,rfl⟩,h4,_⟩:=h
   show WfC (.nt (toC t))
   rw [WfC];exact wf_tree t h4
  rw [if_neg h3]
  rw [if_neg (by rintro (h|h);exact h1 h;exact h2 h),if_neg h3] at h
  obtain ⟨_,_,h6,h7⟩:=h
  split
  ·rw [WfC];trivial
  ·split
   ·rw [WfC];trivial
   ·split
    ·rename_i a;rw [WfC];exact ⟨a,h6 a⟩
    ·split
     ·rename_i a;rw [WfC];exact ⟨a,h7 a⟩
     ·rw [WfC];trivial
theorem wf_trees:∀l:List Tr5,WfTs l→WfCs (toCs l)
 | [],_=>by simp [toCs,WfCs]
 | t::l,h=>by rw [WfTs] at h;rw [toCs,WfCs];exact ⟨wf_tree t h.1,wf_trees l h.2⟩
end
mutual
def SzC (M:Nat):Cnd→Prop
 | .any l=>SzCs M l
 | .all l=>SzCs M l
 | .nt c=>SzC M c
 | .nul=>True
 | .kd w _=>w.size≤4 * M+400
 | .ch w _=>w.size≤4 * M+400
 | .tx w _ _ s=>w.size≤4 * M+400∧s.size≤M
 | .nm w _ _ _=>w.size≤4 * M+400
 | .by_ w s=>w.size≤4 * M+400∧s.size≤M
def SzCs (M:Nat):List Cnd→Prop
 | []=>True
 | c::l=>SzC M c∧SzCs M l
end
theorem YR (M:Nat):∀l:List Cnd,SzCs M l↔∀c ∈ l,SzC M c
 | []=>by simp [SzCs]
 | c::l=>by simp [SzCs,YR M l]
theorem sz_anyP {M:Nat} {c:Cnd} (h:SzC M c):∀x ∈ anyP c,SzC M x:=by
 cases c with
 | any l=>intro x hx;rw [SzC] at h;exact (YR M l).1 h x hx
 | _=>intro x hx;rcases List.mem_singleton.1 hx with rfl;exact h
theorem sz_allP {M:Nat} {c:Cnd} (h:SzC M c):∀x ∈ allP c,SzC M x:=by
 cases c with
 | all l=>intro x hx;rw [SzC] at h;exact (YR M l).1 h x hx
 | _=>intro x hx;rcases List.mem_singleton.1 hx with rfl;exact h
theorem sz_either {M:Nat} {l:List Cnd} (h:SzCs M l):SzC M (eitherF l):=by
 have k:∀x ∈ l.flatMap anyP,SzC M x:=fun x hx=>by
  obtain ⟨c,hc,hx⟩:=List.mem_flatMap.1 hx
  exact sz_anyP ((YR M l).1 h c hc) x hx
 unfold eitherF
 split
 ·rename_i c hc;exact k c (by rw [hc];exact .head _)
 ·rw [SzC];exact (YR M _).2 k
theorem sz_both {M:Nat} {l:List Cnd} (h:SzCs M l):SzC M (bothF l):=by
 have k:∀x ∈ l.flatMap allP,SzC M x:=fun x hx=>by
  obtain ⟨c,hc,hx⟩:=List.mem_flatMap.1 hx
  exact sz_allP ((YR M l).1 h c hc) x hx
 unfold bothF
 split
 ·rename_i c hc;exact k c (by rw [hc];exact .head _)
 ·rw [SzC];exact (YR M _).2 k
theorem szs_add {M:Nat} {l:List Cnd} {c:Cnd} (h:SzCs M l) (k:SzC M c):SzCs M (l++[c]):=(YR M _).2 fun x hx=>by
 rcases List.mem_append.1 hx with hx|hx
 ·exact (YR M l).1 h x hx
 ·rcases List.mem_singleton.1 hx with rfl;exact k
def TB (M:Nat) (p:Ps):Prop:=∀t ∈ p.tk,t.tx.size≤M
namespace TB
variable {M:Nat} {x:Ps}
theorem peek (h:TB M x):x.peek.tx.size≤M:=by
 unfold Ps.peek
 split
 ·exact Nat.zero_le _
 ·rename_i t l ht;exact h t (by rw [ht];exact .head _)
theorem sfx {y:Ps} (h:TB M x) (s:Sfx x y):TB M y:=fun t ht=>h t (s.subset ht)
end TB
theorem Yo (a b:ByteArray):(a++b).size=a.size+b.size:=by
 have h:=congrArg List.length (ba_app a b)
 rw [List.length_append,lsz,lsz,lsz] at h
 exact h
theorem wSp_sz:wSp.size=1:=rfl
theorem sz_test {M:Nat} {x:Ps} (h:TB M x) {w:ByteArray} (hw:w.size≤M):SzC M (testF w x).1:=by
 unfold testF
 have hp:=h.peek
 split
 ·rw [SzC];omega
 ·split
  ·dsimp only
   rw [SzC,Yo,Yo,wSp_sz];omega
  ·split
   ·dsimp only
    have a:TB M (if idx x.peek.tx wCts<3 then x.need 1 else (x.need 1).fail x.peek.pl 30):=h.sfx (Sfx.ite (Sfx.need _ _) ((Sfx.need _ _).trans (Sfx.fail _ _ _)))
    have b:=a.peek
    have c:=quo_size (if idx x.peek.tx wCts<3 then x.need 1 else (x.need 1).fail x.peek.pl 30).peek.tx
    rw [SzC,Yo,Yo,Yo,Yo,wSp_sz]
    exact ⟨by omega,b⟩
   ·split
    ·dsimp only
     have b:=numF_bd (if idx x.peek.tx yCns<3 then x.need 4 else (x.need 4).fail x.peek.pl 30)
     have c:=Ws _ b.1 b.2
     rw [SzC,Yo,Yo,Yo,Yo,wSp_sz]
     omega
    ·dsimp only
     rw [SzC,Yo,Yo,wSp_sz]
     exact ⟨by omega,hp⟩
theorem sz_all (M:Nat):∀n:Nat,(∀p,TB M p→SzC M (factorF n p).1)∧(∀p,TB M p→SzC M (termF n p).1)∧(∀l p,TB M p→SzCs M l→SzCs M (termL n l p).1)∧(∀p,TB M p→SzC M (condF n p).1)∧(∀l p,TB M p→SzCs M l→SzCs M (condL n l p).1)
 | 0=>by
  have a:SzC M (.nt .nul):=by rw [SzC,SzC];trivial
  exact ⟨fun _ _=>a,fun _ _=>a,fun _ _ _ h=>h,fun _ _=>a,fun _ _ _ h=>h⟩
 | n+1=>by
  obtain ⟨h1,h2,h3,h4,h5⟩:=sz_all M n
  obtain ⟨g1,g2,_,_,_⟩:=YS n
  refine ⟨fun p h=>?_,fun p h=>?_,fun l p h hl=>?_,fun p h=>?_,fun l p h hl=>?_⟩
  ·have hq:TB M p.pass:=h.sfx (Sfx.pass _)
   unfold factorF
   dsimp only
   split
   ·rw [SzC];exact h1 _ hq
   ·split
    ·exact h4 _ (h.sfx (Sfx.ite ((Sfx.pass _).trans (Sfx.fail _ _ _)) (Sfx.pass _)))
    ·split
     ·exact sz_test hq h.peek
     ·rw [SzC,SzC];trivial
  ·unfold termF
   dsimp only
   exact sz_both (h3 _ _ (h.sfx (g1 p)) (by rw [SzCs,SzCs];exact ⟨h1 p h,trivial⟩))
  ·unfold termL
   split
   ·exact h3 _ _ (h.sfx ((Sfx.pass _).trans (g1 _))) (szs_add hl (h1 _ (h.sfx (Sfx.pass _))))
   ·exact hl
  ·unfold condF
   dsimp only
   exact sz_either (h5 _ _ (h.sfx (g2 p)) (by rw [SzCs,SzCs];exact ⟨h2 p h,trivial⟩))
  ·unfold condL
   split
   ·exact h5 _ _ (h.sfx ((Sfx.pass _).trans (g2 _))) (szs_add hl (h2 _ (h.sfx (Sfx.pass _))))
   ·exact hl
structure RuOK (M:Nat) (x:Ru):Prop where
 a:AcOK x.a
 t:x.a.t.size≤M
 c:∀d,x.c=some d→WfC d∧SzC M d∧lv d≤3 * M+10
def RuSz (M:Nat) (x:Ru):Prop:=x.a.t.size≤M∧∀d,x.c=some d→SzC M d∧lv d≤3 * M+10
theorem act_sz {M:Nat} {x:Ps} (h:TB M x):(actF x).1.t.size≤M:=by
 unfold actF
 dsimp only
 have a:TB M (if idx x.peek.tx wActs<5 then x.need 1 else (x.need 1).fail x.peek.pl 30):=h.sfx (Sfx.ite (Sfx.need _ _) ((Sfx.need _ _).trans (Sfx.fail _ _ _)))
 generalize (if idx x.peek.tx wActs<5 then x.need 1 else (x.need 1).fail x.peek.pl 30)=q at a ⊢
 split
 ·exact a.peek
 ·exact Nat.zero_le _
theorem rule_sz {M:Nat} {x:Ps} (h:TB M x) (hn:x.tk.length≤M):RuSz M (ruleF x).1:=by
 unfold ruleF
 dsimp only
 have hp:TB M x.pass:=h.sfx (Sfx.pass _)
 split
 ·exact ⟨act_sz (hp.sfx (((YS _).2.2.2.1 _).trans (Sfx.symb _ _))),fun d hd=>by
   cases hd
   have h1:=(lv_all (fuP x.pass)).2.2.2.1 x.pass
   have h2:x.pass.tk.length≤x.tk.length:=(Sfx.pass x).len
   exact ⟨(sz_all M _).2.2.2.1 _ hp,by omega⟩⟩
 ·exact ⟨act_sz h,fun d hd=>by cases hd⟩
theorem line_sz {s:List UInt8} {n M:Nat} (hM:s.length≤M) {x:Ru} {a e:Int} (h:lineF s n=(some x,a,e)):RuSz M x:=by
 obtain ⟨g,g2⟩:=scan_sz (s.length+1) s 0 [] M hM (fun t ht=>by cases ht)
 unfold lineF at h
 dsimp only at h
 split at h
 ·cases h
 ·split at h
  ·cases h
  ·split at h
   ·cases h
   ·split at h
    ·cases h
    ·cases h
     exact rule_sz (fun t ht=>(g t ht).2) (by simp only [List.length_nil] at g2;show (scanF _ _ _ _).1.length≤M;omega)
theorem rows_szs {M:Nat}:∀(l:List (List UInt8)) (i:Nat) (acc:List Ru),(∀x ∈ l,x.length≤M)→(∀x ∈ acc,RuSz M x)→∀r,rowsF l i acc = .ok r→∀x ∈ r,RuSz M x
 | [],_,acc,_,h,r,hr=>by cases hr;exact h
 | s::l,i,acc,hl,h,r,hr=>by
  have hl':∀x ∈ l,x.length≤M:=fun x hx=>hl x (.tail _ hx)
  unfold rowsF at hr
  split at hr
  ·rename_i x a e hx
   refine rows_szs l (i+1) _ hl' (fun z hz=>?_) r hr
   rcases List.mem_append.1 hz with hz|hz
   ·exact h z hz
   ·rcases List.mem_singleton.1 hz with rfl
    exact line_sz (hl s (.head _)) hx
  ·split at hr
   ·exact rows_szs l (i+1) acc hl' h r hr
   ·cases hr
theorem par_ok {s:ByteArray} {r:List Ru} (h:parF s = .ok r):r.length≤256∧∀x ∈ r,RuOK s.size x:=by
 have h1:=par_ac h
 have h2:=par_sim s
 rw [h] at h2
 cases hm:parM s with
 | error e=>rw [hm] at h2;exact absurd h2 id
 | ok b=>
  rw [hm] at h2
  obtain ⟨h3,h4⟩:=h2
  have h0:rowsF (linesF s.data.toList) 0 [] = .ok r:=by
   unfold parF at h
   split at h
   ·cases h
   ·exact h
  have h5:=rows_szs (M:=s.size) (linesF s.data.toList) 0 [] (fun x hx=>by rw [←lsz];exact (lines_sz _).2 x hx) (fun x hx=>by cases hx) r h0
  refine ⟨?_,fun x hx=>⟨h1 x hx,(h5 x hx).1,fun d hd=>⟨?_,(h5 x hx).2 d hd⟩⟩⟩
  ·have go:∀(l:List (List UInt8)) (i:Nat) (acc:List Ru),acc.length≤256→∀r,rowsF l i acc = .ok r→r.length≤256:=by
    intro l
    induction l with
    | nil=>intro i acc ha r hr;cases hr;exact ha
    | cons s l ih=>
     intro i acc ha r hr
     unfold rowsF at hr
     split at hr
     ·rename_i x a e hx
      refine ih _ _ ?_ r hr
      have:=(lineF_ok (x:=x) (by rw [hx])).2
      rw [List.length_append,List.length_singleton];omega
     ·split at hr
      ·exact ih _ _ ha r hr
      ·cases hr
   exact go _ _ _ (by decide) r h0
  ·subst h3
   obtain ⟨y,hy,rfl⟩:=List.mem_map.1 hx
   have hd:y.c.map toC=some d:=hd
   cases hc:y.c with
   | none=>rw [hc] at hd;cases hd
   | some t=>
    rw [hc] at hd
    obtain rfl:toC t=d:=Option.some.inj hd
    exact wf_tree t (h4 y hy t hc)
end
structure CqS (c:Cq):Prop where
 ot:c.old.tg.size≤5000
 ox:c.old.tx.size≤5000
 nt:c.new.tg.size≤5000
 nx:c.new.tx.size≤5000
 wh:c.who.size≤5000
theorem CqS.tg {c:Cq} (h:CqS c):(subO c).tg.size≤5000:=by
 unfold subO;split
 ·exact h.nt
 ·exact h.ot
theorem CqS.fld {c:Cq} (h:CqS c) (f:Nat):(fldT f c).size≤5000:=by
 unfold fldT;split
 ·exact h.tg
 ·split
  ·exact h.ox
  ·exact h.nx
theorem CqS.val {c:Cq} (h:CqS c) (hi:CqI c) (n:ByteArray):(valF n c).size≤5000:=by
 have i1:=Ws (subO c).us hi.u0 hi.u1
 have i2:=Ws (subT c) hi.t0 hi.t1
 have i3:=Ws c.nu hi.n0 hi.n1
 unfold valF
 dsimp only
 split
 ·exact h.tg
 split
 ·omega
 split
 ·omega
 split
 ·exact h.wh
 split
 ·omega
 split
 ·exact h.ox
 split
 ·exact h.nx
 ·exact Nat.zero_le _
theorem divF_sz:∀(n:Nat) (l:List UInt8) (i:Nat) (acc:List Seg) (M:Nat),l.length≤M→1≤M→(∀t,Seg.lit t ∈ acc→t.size≤M)→
  (∀t,Seg.lit t ∈ (divF n l i acc).1→t.size≤M)∧(divF n l i acc).1.length≤acc.length+n
 | 0,_,i,acc,M,_,_,h=>⟨h,by show acc.length≤_;omega⟩
 | n+1,[],i,acc,M,_,_,h=>⟨h,by show acc.length≤_;omega⟩
 | n+1,c::r,i,acc,M,hM,h1,h=>by
  have add:∀s:Seg,(∀t,s = .lit t→t.size≤M)→∀t,Seg.lit t ∈ acc++[s]→t.size≤M:=fun s hs t ht=>by
   rcases List.mem_append.1 ht with ht|ht
   ·exact h t ht
   ·exact hs t (List.mem_singleton.1 ht).symm
  have len:∀s:Seg,(acc++[s]).length=acc.length+1:=fun s=>by simp
  have go:∀(l:List UInt8) (i:Nat) (s:Seg),l.length≤M→(∀t,s = .lit t→t.size≤M)→(∀t,Seg.lit t ∈ (divF n l i (acc++[s])).1→t.size≤M)∧(divF n l i (acc++[s])).1.length≤acc.length+(n+1):=fun l i s hl hs=>by
   obtain ⟨a,b⟩:=divF_sz n l i (acc++[s]) M hl h1 (add s hs)
   exact ⟨a,by rw [len] at b;omega⟩
  rw [divF]
  dsimp only
  split
  ·refine ⟨add _ fun t ht=>?_,by rw [len];omega⟩
   obtain rfl:=Seg.lit.inj ht
   rw [Y3];exact hM
  ·split
   ·refine go _ _ _ (by rw [List.length_drop];omega) fun t ht=>?_
    obtain rfl:=Seg.lit.inj ht
    rw [Y3,List.length_take];omega
   ·split
    ·refine go _ _ _ (by rw [List.length_drop];simp only [List.length_cons] at hM;omega) fun t ht=>?_
     obtain rfl:=Seg.lit.inj ht
     exact h1
    ·split
     ·exact go _ _ _ (by rw [List.length_drop];simp only [List.length_cons] at hM;omega) (fun t ht=>by cases ht)
     ·exact ⟨h,by show acc.length≤_;omega⟩
theorem flat_le (c:Cq) (K:Nat):∀l:List Seg,(∀x ∈ l,(segF c x).size≤K)→(flat c l).length≤l.length * K
 | [],_=>by simp [flat]
 | x::l,h=>by
  have ih:=flat_le c K l fun y hy=>h y (.tail _ hy)
  have hx:=h x (.head _)
  have e:flat c (x::l)=(segF c x).data.toList++flat c l:=rfl
  rw [e,List.length_append,lsz,List.length_cons,Nat.succ_mul]
  omega
theorem exp_sz {s:ByteArray} {c:Cq} {M:Nat} (hs:s.size≤M) (h:CqS c) (hi:CqI c):(expF s c).size≤(M+1) * (M+5000):=by
 obtain ⟨a,b⟩:=divF_sz (s.size+1) s.data.toList 0 [] (s.size+1) (by rw [lsz];omega) (by omega) (fun t ht=>by cases ht)
 rw [expF_sz]
 refine Nat.le_trans (flat_le c (M+5000) _ fun x hx=>?_) (Nat.mul_le_mul_right _ ?_)
 ·cases x with
  | lit t=>have:=a t hx;show t.size≤_;omega
  | fld n=>have:=h.val hi n;show (valF n c).size≤_;omega
 ·simp only [List.length_nil] at b
  show (divF (s.size+1) s.data.toList 0 []).1.length≤_
  omega
def knS:ByteArray:=⟨#[105,102,32,109,105,115,115,105,110,103,32,97,110,100,32,99,104,97,110,110,101,108,32,109,97,105,108,58,32,99,111,109,112,101,110,115,97,116,101,32,34,80,108,101,97,115,101,32,105,103,110,111,114,101,32,116,104,101,32,109,97,105,108,32,116,111,32,123,116,97,114,103,101,116,125,46,34,10,105,102,32,110,101,119,32,97,110,100,32,110,111,116,32,40,99,104,97,110,110,101,108,32,111,114,100,101,114,32,111,114,32,115,105,122,101,32,62,32,49,48,48,48,41,58,32,115,101,110,100,10,97,115,107,10]⟩
def knT:ByteArray:=⟨#[80,108,101,97,115,101,32,105,103,110,111,114,101,32,116,104,101,32,109,97,105,108,32,116,111,32,123,116,97,114,103,101,116,125,46]⟩
def knX:ByteArray:=⟨#[80,108,101,97,115,101,32,105,103,110,111,114,101,32,116,104,101,32,109,97,105,108,32,116,111,32,97,64,98,46]⟩
def knA:ByteArray:=⟨#[97,64,98]⟩
def wNew:ByteArray:=⟨#[110,101,119]⟩
def wMis:ByteArray:=⟨#[109,105,115,115,105,110,103]⟩
def knL:List Ru:=[⟨some (.all [.kd wMis 2,.ch (wChan++wSp++⟨#[109,97,105,108]⟩) 1]),⟨2,knT⟩⟩,
 ⟨some (.all [.kd wNew 4,.nt (.any [.ch (wChan++wSp++⟨#[111,114,100,101,114]⟩) 3,.nm ((⟨#[115,105,122,101]⟩:ByteArray)++wSp++⟨#[62]⟩++wSp++ofL (Lib.itoa 1000)) 2 2 1000])]),⟨3,ofL []⟩⟩,⟨none,⟨5,ofL []⟩⟩]
set_option maxHeartbeats 4000000 in
theorem kn_par:parF knS = .ok knL:=by kernel_rfl
def ou0:Ou:=⟨0,ofL [],ofL [],0⟩
def kc1:Cq:=⟨2,ofL [],0,0,⟨1,knA,ofL [],0⟩,0,ou0,0⟩
def kc2:Cq:=⟨4,ofL [],0,0,ou0,0,⟨2,ofL [],ofL [],0⟩,0⟩
def kc3:Cq:=⟨4,ofL [],0,0,ou0,0,⟨3,ofL [],ofL [],0⟩,0⟩
theorem kn_1:decideF knL kc1=(⟨2,knX⟩,0):=by kernel_rfl
theorem kn_2:decideF knL kc2=(⟨3,ofL []⟩,1):=by kernel_rfl
theorem kn_3:decideF knL kc3=(⟨5,ofL []⟩,2):=by kernel_rfl
section
variable {γ:Type} {n:Nat} {C:Cx} {Q:Exit→Act→World→Prop} {E E':List (Nat×Value)} {F F' F1 Fs F0:List Pf} {R R' R0 Rs N N' A:List HP} {k k':List Fr} {ops l:List Oper} {L L':List (Nat×Nat)} {Tl:List Nat} {i d:Nat} {t ty0:TypeId} {x y:Operand} {pos:String} {aft:Array Edge} {gd:Option (Nat×Bool)}
def RQG (q:LR) (l:Nat) (G:H) (w0:World) (hp0:H) (Ft:γ→Pf) (Jt Jx:γ→HP):Exit→Act→World→Prop:=
 roundPost prog l fun e w'=>∃(b:Bool) (g:γ),e = .returned (.bool b)∧Sat G w0 hp0 (if b then [Ft g] else []) [if b then both (Pt l (.loop (rcd q .ready none))) (Jt g) else both (Pt l (.loop (rcd q .done (some .ret)))) (Jx g)] w'
theorem k_rnG {q:LR} {l:Nat} {r:Option Nat} {G:H} {w0:World} {hp0:H} {ds:List Deferred} {Ft:γ→Pf} {Jt Jx:γ→HP} (g:γ) (hs:Sels [Pt l (.loop (rcd q .busy none)),Jt g] R R0:=by (repeat (first|exact Sels.nil|exact Sel.here|apply Sel.there|apply Sels.cons));first|done|fail) (hF:EntF F [Ft g]:=by (repeat (first|exact trivial|exact Sel.here|apply Sel.there|apply EntF.cons));first|done|fail) (h:nf 1000 k=[]:=by rfl) :
  Wk n ⟨r,G,w0,hp0,ds⟩ k (RQG q l G w0 hp0 Ft Jt Jx) E F R:=fun a w ha hsat=>YT 1000 k (by
 rw [h]
 have h1:=hsat.sels hs
 refine ⟨_,_,run_endRound none (h1.pt Sel.here),true,g,rfl,?_⟩
 have h2:=Zt (o':=.loop (rcd q .ready none)) h1
 exact ((h2.shut (x:=both _ _) fun _ hh=>hh).facts (F':=[Ft g]) hF.all).res fun _ hh=>YB (A:=[_]) hh)
theorem k_rrG {q:LR} {l:Nat} {r:Option Nat} {G:H} {w0:World} {hp0:H} {ds:List Deferred} {Ft:γ→Pf} {Jt Jx:γ→HP} (g:γ) (hs:Sels [Pt l (.loop (rcd q .busy none)),Jx g] R R0:=by (repeat (first|exact Sels.nil|exact Sel.here|apply Sel.there|apply Sels.cons));first|done|fail) (h:nf 1000 k = .c .ret::k':=by rfl) (hn:noR k'=true:=by rfl) :
  Wk n ⟨r,G,w0,hp0,ds⟩ k (RQG q l G w0 hp0 Ft Jt Jx) E F R:=Z9 (fun a w ha hsat=>by
 have h1:=hsat.sels hs
 refine ⟨_,_,run_endRound (some .ret) (h1.pt Sel.here),false,g,rfl,?_⟩
 have h2:=Zt (o':=.loop (rcd q .done (some .ret))) h1
 exact ((h2.shut (x:=both _ _) fun _ hh=>hh).facts (F':=[]) (fun _ _ _ hx=>by cases hx)).res fun _ hh=>YB (A:=[_]) hh) h hn
def YPostG {α:Type} (FI:List α→γ→Pf) (I Ix:List α→γ→HP) (pre:List α) (e:α):Post:=⟨Bool×γ,fun b=>.bool b.1,fun _=>True,fun b=>if b.1 then [FI (pre++[e]) b.2] else [],fun b=>[if b.1 then I (pre++[e]) b.2 else Ix (pre++[e]) b.2]⟩
theorem yield_okG {α:Type} {FJ:List α→γ→Pf} {enc:α→Value} {q:LR} {l p:Nat} {J Jx:List α→γ→HP} {pre:List α} {gz:γ} {e:α} (hps:q.ps = #[p]) (hpn:p<n) (hag:∀a:Act,a.tmps=q.tmps→a.defers=[]→Agree n [] (look E) a)
  (hbody:∀G w0 hp0,Wk n ⟨some l,G,w0,hp0,[]⟩ [.c q.assign,.r l,.c q.body] (RQG q l G w0 hp0 (FJ (pre++[e])) (J (pre++[e])) (Jx (pre++[e]))) ((p,enc e)::E) (FJ pre gz::F) [Pt l (.loop (rcd q .ready none)),J pre gz]) :
  SpecV (.func (.yield l) #[] #[]) [enc e] [⟨fun h=>∀f ∈ F,f.p h,fun _ _ s h f hf=>f.m _ _ s (h f hf)⟩,FJ pre gz] [both (Pt l (.loop (rcd q .ready none))) (J pre gz)]
   (YPostG FJ (fun pre g=>both (Pt l (.loop (rcd q .ready none))) (J pre g)) (fun pre g=>both (Pt l (.loop (rcd q .done (some .ret)))) (Jx pre g)) pre e):=by
 intro G w hp hsat
 have h1:Sat G w hp (FJ pre gz::F) [both (Pt l (.loop (rcd q .ready none))) (J pre gz)] w:=hsat.facts fun hp hF f hf=>by
  rcases List.mem_cons.1 hf with rfl|hf
  ·exact hF _ (.tail _ (.head _))
  ·exact hF _ (List.mem_cons_self ..) f hf
 obtain ⟨_,h2⟩:=h1.open' (X:=Unit) (L:=fun _=>[Pt l (.loop (rcd q .ready none)),J pre gz]) fun _ hh=>⟨(),hh⟩
 have hl:=h2.pt Sel.here
 unfold CallsV OpRes
 have hy:=run_yield (P:=prog) (args:=#[enc e]) hl (by simp [rcd,hps])
 have hi:(invoke (.fn (.yield l) #[]) (#[]++[enc e].toArray)).run prog w=(Instr.yield l #[enc e]).run prog w:=by simp [invoke]
 simp only [hi,hy]
 refine roundIn_of_wpIn trivial ?_
 have ha:Agree n [] (look ((p,enc e)::E)) ({tmps:=((rcd q .ready none).params.zip #[enc e]).foldl (fun tmps (x:Tmp×Value)=>tmps.setIfInBounds x.1 x.2) (rcd q .ready none).tmps,defers:=[]}:Act):=by
  have:=(hag ⟨q.tmps,[]⟩ rfl rfl).put (d:=some p) (fun t ht=>by cases ht;exact hpn) (enc e)
  rw [XP]
  simpa [rcd,hps,Act.put] using this
 have hb:=hbody G w hp _ w ha h2
 refine wpIn_mono (show q.assign.wpIn (fz (some l)) 0 prog (after (some l) [.r l,.c q.body] (RQG q l G w hp (FJ (pre++[e])) (J (pre++[e])) (Jx (pre++[e])))) _ w from hb) ?_
 rintro ex a1 w1 hx
 cases ex with
 | normal=>
  obtain ⟨w2,g1,g2⟩:=hx
  refine ⟨w2,g1,?_⟩
  have g3:q.body.wpIn (fz (some l)) 0 prog (after (some l) [] (RQG q l G w hp (FJ (pre++[e])) (J (pre++[e])) (Jx (pre++[e])))) a1 w2:=g2
  rw [after_nil] at g3
  refine wpIn_mono g3 (X6 ?_)
  rintro e' w' ⟨b,g,rfl,hs'⟩
  exact ⟨(b,g),rfl,trivial,hs'⟩
 | _=>exact hx.elim
def IterG {α:Type} (gf:FuncId) (lb:List Value) (enc:α→Value) (xs:List α) (Fg:List Pf) (A:List HP):Prop:=
 ∀(γ:Type) (v:Value) (Y:Pf) (FI:List α→γ→Pf) (I Ix:List α→γ→HP) (g0:γ),(∀pre g e,pre++[e] <+: xs→SpecV v [enc e] [Y,FI pre g] [I pre g] (YPostG FI I Ix pre e))→
  Enters gf∧Spec prog gf (v::lb).toArray (Y::FI [] g0::Fg) (I [] g0::A) ⟨Option (List α)×γ,fun _=>.tuple #[],fun r=>∀pre,r.1=some pre→pre <+: xs,fun r=>(match r.1 with|none=>[FI xs r.2]|some _=>[]),fun r=>[match r.1 with|none=>I xs r.2|some pre=>Ix pre r.2]⟩
theorem k_rangeG {α:Type} {g:Operand} {p:Nat} {assign body:Code} {gf:FuncId} {lb:Array Value} {enc:α→Value} {xs:List α} {Fg:List Pf} {G:H} {w0:World} {hp0:H} {ds:List Deferred} (FJ:List α→γ→Pf) (J Jx:List α→γ→HP) (g0:γ) (hit:IterG gf lb.toList enc xs Fg A)
  (hbody:∀(q:LR) (l:Nat) (pre:List α) (gz:γ) (e:α),pre++[e] <+: xs→∀G w0 hp0,Wk n ⟨some l,G,w0,hp0,[]⟩ [.c assign,.r l,.c body] (RQG q l G w0 hp0 (FJ (pre++[e])) (J (pre++[e])) (Jx (pre++[e]))) ((p,enc e)::E) (FJ pre gz::F) [Pt l (.loop (rcd q .ready none)),J pre gz])
  (hdone:∀D g,Wk n ⟨none,G,w0,hp0,{target:=.collected D,args:=#[]}::ds⟩ k' Q E (FJ xs g::F) (J xs g::Pt D (.deferred (some []))::R'))
  (hstop:∀D pre g,pre <+: xs→Wret n ⟨none,G,w0,hp0,{target:=.collected D,args:=#[]}::ds⟩ Q E F (Jx pre g::Pt D (.deferred (some []))::R'))
  (h:nf 1000 k = .c (.rangeFunc g #[p] assign body)::k':=by rfl) (hg:ev E g=some (.func (.func gf) #[] lb):=by rfl) (hpn:Nat.blt p n=true:=by rfl) (hnr:noR k'=true:=by rfl)
  (sel:Sels (J [] g0::A) R R':=by (repeat (first|exact Sels.nil|exact Sel.here|apply Sel.there|apply Sels.cons));first|done|fail) (hF0:EntF F [FJ [] g0]:=by (repeat (first|exact trivial|exact Sel.here|apply Sel.there|apply EntF.cons));first|done|fail) (hFg:EntF F Fg:=by (repeat (first|exact trivial|exact Sel.here|apply Sel.there|apply EntF.cons));first|done|fail):Wk n ⟨none,G,w0,hp0,ds⟩ k Q E F R:=fun a w ha hs=>YT 1000 k (by
 rw [h]
 show (Code.rangeFunc g #[p] assign body).wpIn (fz none) 0 prog (after none k' Q) a w
 refine wpIn_rangeFunc fun fn hfn=>?_
 let q:LR:=⟨fn,a.tmps,#[p],assign,body,w.heap.size⟩
 let lo:Obj:=.loop (rcd q .ready none)
 have hs1:Sat G w0 hp0 F (Pt (w.heap.size+1) lo::Pt w.heap.size (.deferred (some []))::J [] g0::(A++R')) ((w.alloc (.deferred (some []))).alloc lo):=by
  have:=((hs.sels sel).alloc (.deferred (some []))).alloc lo
  simpa using this
 have hs2:Sat G w0 hp0 F (both (Pt (w.heap.size+1) lo) (J [] g0)::Pt w.heap.size (.deferred (some []))::(A++R')) ((w.alloc (.deferred (some []))).alloc lo):=
  (hs1.sels (A:=[Pt (w.heap.size+1) lo,J [] g0]) (.cons .here (.cons (.there .here) .nil))).shut (x:=both _ _) fun _ hh=>hh
 have hy:∀pre g e,pre++[e] <+: xs→SpecV (.func (.yield (w.heap.size+1)) #[] #[]) [enc e] _ _ _:=fun pre g e hpre=>
  yield_okG (n:=n) (E:=E) (F:=F) (enc:=enc) (q:=q) (l:=w.heap.size+1) (p:=p) (FJ:=FJ) (J:=J) (Jx:=Jx) (pre:=pre) (gz:=g) (e:=e) rfl (Nat.le_of_ble_eq_true hpn)
   (fun b hb hd=>⟨by rw [hb];exact ha.size,hd,fun t v hv=>by rw [hb];exact ha.slots t v hv⟩) (fun G w0 hp0=>hbody q _ pre g e hpre G w0 hp0)
 obtain ⟨eg,hsp⟩:=hit _ _ _ _ _ _ g0 hy
 have hev:=ha.ev (x:=g) (by rw [ZP];exact hg)
 refine ⟨w.heap.size+1,[{target:=.collected w.heap.size,args:=#[]}],(w.alloc (.deferred (some []))).alloc lo,{target:=.fn (.func gf) lb,args:=#[.func (.yield (w.heap.size+1)) #[] #[]]},(w.alloc (.deferred (some []))).alloc lo,gf,#[.func (.yield (w.heap.size+1)) #[] #[]]++lb,(w.alloc (.deferred (some []))).alloc lo,run_enterLoop_outer _ _ _ _ _,?_,fun _ _=>trivial,?_,(fun hx=>by cases hx),?_⟩
 ·simp only [resolve,hev]
  simp [go_sem,Deferred.ofValue,Act.eval]
 ·simp only [invoke]
  exact eg _ _
 ·have e1 : #[Value.func (.yield (w.heap.size+1)) #[] #[]]++lb=(Value.func (.yield (w.heap.size+1)) #[] #[]::lb.toList).toArray:=by rw [←Array.toList_inj];simp
  rw [e1]
  refine WP (XQ hsp hs2 (.cons .here (WZ A _ R')) (fun hp hF f hf=>?_) fun r w' hr hs3=>?_)
  ·rcases List.mem_cons.1 hf with rfl|hf
   ·exact hF
   ·rcases List.mem_cons.1 hf with rfl|hf
    ·exact hF0.all hp hF _ (.head _)
    ·exact hFg.all hp hF f hf
  ·have hds:({a with defers:=[{target:=.collected w.heap.size,args:=#[]}]++a.defers}:Act).defers={target:=.collected w.heap.size,args:=#[]}::ds:=by simp [ha.defers]
   have ha':Agree n ({target:=.collected w.heap.size,args:=#[]}::ds) (look E) {a with defers:=[{target:=.collected w.heap.size,args:=#[]}]++a.defers}:=⟨ha.size,hds,ha.slots⟩
   obtain ⟨r,gr⟩:=r
   cases r with
   | none=>
    obtain ⟨_,h4⟩:=(show Sat G w0 hp0 (FJ xs gr::F) (both (Pt (w.heap.size+1) lo) (J xs gr)::Pt w.heap.size (.deferred (some []))::R') w' from hs3).open' (X:=Unit) (L:=fun _=>[Pt (w.heap.size+1) lo,J xs gr]) fun _ hh=>⟨(),hh⟩
    refine ⟨none,_,run_endLoop (h4.pt Sel.here) (by simp [rcd]),?_⟩
    have h5:=Zt (o':=.loop (rcd q .exhausted none)) h4
    exact hdone w.heap.size gr _ _ ha' (h5.res fun _ hh=>Xx hh)
   | some pre=>
    obtain ⟨_,h4⟩:=(show Sat G w0 hp0 F (both (Pt (w.heap.size+1) (.loop (rcd q .done (some .ret)))) (Jx pre gr)::Pt w.heap.size (.deferred (some []))::R') w' from hs3).open' (X:=Unit) (L:=fun _=>[Pt (w.heap.size+1) (.loop (rcd q .done (some .ret))),Jx pre gr]) fun _ hh=>⟨(),hh⟩
    refine ⟨some .ret,_,run_endLoop (h4.pt Sel.here) (by simp [rcd]),?_⟩
    have h5:=Zt (o':=.loop (rcd q .exhausted (some .ret))) h4
    refine wpIn_ret ?_
    rw [Yx hnr]
    exact hstop w.heap.size pre gr (hr pre rfl) _ _ ha' (h5.res fun _ hh=>Xx hh))
end
end Go.Proofs.YtodkipbnefngkaaGreatDoor
