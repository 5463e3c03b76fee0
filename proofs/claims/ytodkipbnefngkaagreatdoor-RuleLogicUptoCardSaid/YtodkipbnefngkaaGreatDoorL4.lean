/-
  strings.SplitSeq at the ends of lines.
  Package rule: Parse.
  Package rule: the tests of conditions.
  Package rule: what conditions say of a consequence.
  A byte as a text; decimal numerals.
  The statements' model of the language of rules: decimal numerals, subjects, what is possible.
  Package rule: Len, Holds, Decide.
  Equality of actions of rules: rules for it.
  The statements' first example of the language of rules holds.
  A part of a text between two bounds.
  The statements' model of the language of rules: templates.
  Rules for the literals of maps in regions that draw their order.
  The statements' model of the language of rules: shortened consequences, expanded templates.
  The statements' cut of a text; the errors of a reading.
  Two texts of rules, one behind the other: what they are read as, and what they decide. No program in sight.
  Conditions that stand in other conditions: what the scanner and the model's parser make of them. No program in sight.
  Conditions that stand in other conditions: what the scanner makes of texts that are put together, and what such rules say. No program in sight.
  Two conditions, and those that combine them by not, and, or: what the rules of the combined text say. No program in sight.
  The law RuleLogic.
  From contracts to the statements' form: memory that was there stays; plain data read the same everywhere; the table of the kinds.
  Slices of plain data as arguments: the fact that they lie in memory, and that they read the same later.
  The settled world; arguments of plain types, opened.
  Contracts of the statements' own functions: names, out, build.
  The statements' arguments, opened: items, bytes.
  The contract of the statements' example, known.
  What the consequences of a ledger and a state hold; no program in sight.
  The contract of consequence.Equal.
  Contracts of consequence.Differences and consequence.Count.
  The statement ConsequenceErrors, walked.
  The statement ConsequenceCounts, walked.
  More of the statements' arguments, opened: a consequence, small integers.
  What the given cards of the laws about rules lay in memory, and an argument that is a consequence.
  Conditions: those that each theorem states.
-/
import Derived.Test.YtodkipbnefngkaaGreatDoorL3
import Derived.Shelf.Strings.Prefix
import Derived.Lib.ItoaNum
import Derived.Test.YtodkipbnefngkaaGreatDoorL2
import Derived.Test.YtodkipbnefngkaaGreatDoorRows
import Derived.Test.YtodkipbnefngkaaGreatDoorCards
import Derived.Test.YtodkipbnefngkaaGreatDoorTie
import Derived.ChangeSame
import Derived.ProofKit
import Derived.OpenShut
import Derived.MakeChecks
import Derived.Deep.DeepHandedRow
import Derived.Stop.LaidErr
import Derived.Deep.DeepWitnessRowRef
import Derived.Deep.DeepLaidRun
import Derived.Lib.LaidU8
import Derived.Lib.DecodeN
import Derived.Shelf.Vars
set_option maxRecDepth 10000
namespace Go.Proofs.YtodkipbnefngkaaGreatDoor
open Go.RowKit Go.Proofs.Tryz
def nlS:ByteArray:=⟨#[10]⟩
theorem lines_one:∀(l:List UInt8),spanF (fun x=>!(x == 10)) l=l.length→linesF l=[l]
 | [],_=>rfl
 | c::r,h=>by
  by_cases hc:c=10
  ·subst hc;simp [spanF] at h
  ·have e:spanF (fun x=>!(x == 10)) (c::r)=spanF (fun x=>!(x == 10)) r+1:=by simp [spanF,hc]
   rw [linesF,if_neg (by simpa using hc),lines_one r (by rw [e] at h;simpa using h)]
theorem lines_more:∀(l:List UInt8),spanF (fun x=>!(x == 10)) l<l.length→linesF l=l.take (spanF (fun x=>!(x == 10)) l)::linesF (l.drop (spanF (fun x=>!(x == 10)) l+1))
 | [],h=>by simp at h
 | c::r,h=>by
  by_cases hc:c=10
  ·subst hc
   have e:spanF (fun x=>!(x == 10)) ((10:UInt8)::r)=0:=by simp [spanF]
   rw [e,linesF];simp
  ·have e:spanF (fun x=>!(x == 10)) (c::r)=spanF (fun x=>!(x == 10)) r+1:=by simp [spanF,hc]
   rw [e] at h ⊢
   rw [linesF,if_neg (by simpa using hc),lines_more r (by simpa using h)]
   simp
theorem sIndex_ok (s:ByteArray) (c:UInt8):Enters 82∧Spec prog 82 #[.string s,.string ⟨#[c]⟩] [] [] (RetV (.int .i64 (Lib.indexByte s.data.toList c))):=by
 have n1:=index1_ok s c
 generalize Lib.indexByte s.data.toList c=z at *
 refine ZS [_,_] func82 ntmps82 fun G w hp=>?_
 repeat' (first|refine ZF ?_|refine ZI ?_|refine ZJ ?_|refine ZG ?_|refine ZO ?_|refine ZH ?_|refine ZN ?_|refine ZM (fun b=>?_)|refine ZL (fun b=>?_)|refine ZB ?_|refine ZD ?_|refine ZK ?_|refine ZA (n1) (fun _ _=>?_)|refine l_call0 (n1) (fun _ _=>?_)|(refine ZC (fun hc=>?_) (fun hc=>?_)<;>(try simp at hc))|(refine ZE (fun hc=>?_) (fun hc=>?_)<;>(try simp at hc)))
 exact ZR () rfl trivial
abbrev spl (b1 b2 b3:Nat):List Value:=[pv0 b1,pv0 b2,pv0 b3]
abbrev SpR (b1 b2 b3:Nat) (L:List UInt8):List HP:=[Pt b1 (.cells #[.string nlS] 9),Pt b2 (.cells #[.string (ofL L)] 9),Pt b3 (.cells #[.int .i64 0] 3)]
theorem splitSeq_ok (L:List UInt8):Enters 44∧Spec prog 44 #[.string (ofL L),.string nlS] [] [] ⟨Nat×Nat×Nat,fun q=>.func (.func 94) #[] #[pv0 q.1,pv0 q.2.1,pv0 q.2.2],fun _=>True,fun _=>[],fun q=>SpR q.1 q.2.1 q.2.2 L⟩:=by
 have n1:Enters 68∧Spec prog 68 #[.string (ofL L),.string nlS,.int .i64 0] [] [] ⟨Nat×Nat×Nat,fun q=>.func (.func 94) #[] #[pv0 q.1,pv0 q.2.1,pv0 q.2.2],fun _=>True,fun _=>[],fun q=>SpR q.1 q.2.1 q.2.2 L⟩:=by
  refine ZS [_,_,_] func68 ntmps68 fun G w hp=>?_
  repeat' (first|refine ZF ?_|refine ZI ?_|refine ZJ ?_|refine ZG ?_|refine ZO ?_|refine ZH ?_|refine ZN ?_|refine ZM (fun b=>?_)|refine ZL (fun b=>?_)|refine ZB ?_|refine ZD ?_|refine ZK ?_|(refine ZC (fun hc=>?_) (fun hc=>?_)<;>(try simp at hc))|(refine ZE (fun hc=>?_) (fun hc=>?_)<;>(try simp at hc)))
  rename_i b1 b2
  exact ZR (b2,b1,b) rfl trivial
 refine ZS [_,_] func44 ntmps44 fun G w hp=>?_
 repeat' (first|refine ZF ?_|refine ZI ?_|refine ZJ ?_|refine ZG ?_|refine ZO ?_|refine ZH ?_|refine ZN ?_|refine ZM (fun b=>?_)|refine ZL (fun b=>?_)|refine ZB ?_|refine ZD ?_|refine ZK ?_|refine ZA (n1) (fun _ _=>?_)|refine l_call0 (n1) (fun _ _=>?_)|(refine ZC (fun hc=>?_) (fun hc=>?_)<;>(try simp at hc))|(refine ZE (fun hc=>?_) (fun hc=>?_)<;>(try simp at hc)))
 rename_i q _
 exact ZR q rfl trivial
set_option maxHeartbeats 4000000 in
theorem split_iter (b1 b2 b3:Nat) (L:List UInt8) (hL:L.length≤1000000):IterG 94 (spl b1 b2 b3) (fun l=>.string (ofL l)) (linesF L) [] (SpR b1 b2 b3 L):=by
 intro γ v Y FI I Ix g0 hy
 obtain ⟨XS,hXS⟩:∃XS,linesF L=XS:=⟨_,rfl⟩
 rw [hXS] at hy ⊢
 have sz1:(((nlS).size:Nat):Int)=1:=rfl
 generalize b1=c1,b2=c2,b3=c3 at *
 show Enters 94∧Spec prog 94 #[v,pv0 c1,pv0 c2,pv0 c3] _ _ _
 refine ZS [_,_,_,_] func94 ntmps94 fun G w hp=>?_
 repeat' (first|refine ZF ?_|refine ZI ?_|refine ZJ ?_|refine ZG ?_|refine ZO ?_|refine ZH ?_|refine ZN ?_|refine ZM (fun b=>?_)|refine ZL (fun b=>?_)|refine ZB ?_|refine ZD ?_|(refine ZC (fun hc=>?_) (fun hc=>?_)<;>(try simp at hc)<;>(try omega))|(refine ZE (fun hc=>?_) (fun hc=>?_)<;>(try simp at hc)<;>(try omega)))
 refine Yj (X:={q:List (List UInt8)×List UInt8×γ // q.1++linesF q.2.1=XS∧q.2.1.length≤1000000}) (fun _=>[(0,v),(1,pv0 c1),(2,pv0 c2),(3,pv0 c3)]) (fun q=>[Y,FI q.1.1 q.1.2.2]) (fun q=>I q.1.1 q.1.2.2::SpR c1 c2 c3 q.1.2.1) (fun q=>q.1.2.1.length) ⟨([],L,g0),hXS,hL⟩ ⟨rfl,rfl,rfl,rfl,trivial⟩ ?_
 rintro ⟨⟨pre,l,gz⟩,hp,hl⟩
 dsimp only at hp hl ⊢
 have n1:=sIndex_ok (ofL l) 10
 rw [Y8,ixb_span] at n1
 have hm:=Z3 (fun x=>!(x == 10)) l
 have hone:=lines_one l
 have hmore:=lines_more l
 have hsz:=Y3 l
 have hll:=Y8 l
 generalize spanF (fun x=>!(x == 10)) l=m at *
 by_cases c:m=l.length
 ·rw [if_pos c] at n1
  have e:=hone c
  rw [e] at hp
  have y1:=hy pre gz l (by rw [hp];exact List.prefix_rfl)
  repeat' (first|refine ZF ?_|refine ZI ?_|refine ZJ ?_|refine ZG ?_|refine ZO ?_|refine ZH ?_|refine ZN ?_|refine ZM (fun b=>?_)|refine ZL (fun b=>?_)|refine ZB ?_|refine ZD ?_|refine ZK ?_|refine ZA (n1) (fun _ _=>?_)|refine l_call0 (n1) (fun _ _=>?_)|refine Yq y1 (fun _ _=>?_)|(refine ZC (fun hc=>?_) (fun hc=>?_)<;>(try simp at hc)<;>(try omega))|(refine ZE (fun hc=>?_) (fun hc=>?_)<;>(try simp at hc)<;>(try omega)))
  rename_i b _
  obtain ⟨b,gy⟩:=b
  subst hp
  cases b with
  | true=>exact XA (none,gy) rfl (fun _ h=>by cases h)
  | false=>exact XA (some (pre++[l]),gy) rfl (fun _ h=>by cases h;exact List.prefix_rfl)
 ·rw [if_neg c] at n1
  have hlt:m<l.length:=by omega
  have e:=hmore hlt
  rw [e] at hp
  have hp2:pre++[l.take m]++linesF (l.drop (m+1))=XS:=by rw [←hp];simp
  have y1:=hy pre gz (l.take m) (by rw [←hp2];exact List.prefix_append _ _)
  have w1:=wrapi (z:=(m:Int)+0) (by omega) (by omega)
  have w2:=wrapi (z:=(m:Int)+1) (by omega) (by omega)
  repeat' (first|refine ZF ?_|refine ZI ?_|refine ZJ ?_|refine ZG ?_|refine ZO ?_|refine ZH ?_|refine ZN ?_|refine ZM (fun b=>?_)|refine ZL (fun b=>?_)|refine ZB ?_|refine ZD ?_|refine ZA (n1) (fun _ _=>?_)|refine l_call0 (n1) (fun _ _=>?_)|refine Yq y1 (fun _ _=>?_)|rw [sz1]|rw [w1]|rw [w2]|refine l_sTo (s:=ofL l) (u:=ofL (l.take m)) m (by omega) (by rw [Y8,Y8]) ?_|refine Z1 (s:=ofL l) (u:=ofL (l.drop (m+1))) (m+1) (by omega) (by rw [Y8,Y8]) ?_|(refine ZC (fun hc=>?_) (fun hc=>?_)<;>(try simp at hc)<;>(try omega))|(refine ZE (fun hc=>?_) (fun hc=>?_)<;>(try simp at hc)<;>(try omega)))
  all_goals rename_i b _
  all_goals obtain ⟨b,gy⟩:=b
  ·cases b with
   | true=>cases hc
   | false=>exact Z9 (YH (Zx (some (pre++[l.take m]),gy) rfl (fun _ h=>by cases h;rw [←hp2];exact List.prefix_append _ _)))
  ·cases b with
   | false=>cases hc
   | true=>exact Ze ⟨(pre++[l.take m],l.drop (m+1),gy),hp2,by show (l.drop (m+1)).length≤_;rw [List.length_drop];omega⟩ (by show (l.drop (m+1)).length<l.length;rw [List.length_drop];omega) ⟨rfl,rfl,rfl,rfl,trivial⟩
variable {n:Nat} {C:Cx} {Q:Exit→Act→World→Prop} {E E':List (Nat×Value)} {F F' F1 Fs F0:List Pf} {R R' R0 Rs N N' A:List HP} {k k':List Fr} {ops l:List Oper} {L L':List (Nat×Nat)} {Tl:List Nat} {i d:Nat} {t t2 ty0:TypeId} {x y z:Operand} {pos:String} {aft:Array Edge} {gd:Option (Nat×Bool)}
section
variable {b off:Nat} {ty:TypeId} {v:Value} {cs:Array Value}
theorem r_stI (nx:Wr n C ops k Q Tl Fs R L E F N) (ho:nth ops i=some ⟨none,.store t x y,ty0,pos,aft,gd⟩:=by rfl) (hw:wantL ops E ⟨none,.store t x y,ty0,pos,aft,gd⟩=some true:=by rfl)
  (hx:ev E x=some (.pointer (some ⟨b,off,none⟩)):=by rfl) (hy:ev E y=some v:=by rfl) (hs:Sel (Pt b (.cells cs ty (0,0))) R R0:=by (repeat (first|exact Sel.here|apply Sel.there));first|done|fail) (hv:stv t cs.toList off v=some cs.toList:=by rfl) :
  Wr n C ops k Q Tl Fs R ((i,4)::L) E F N:=
 YQ ho fun hp hr w st hz sb=>by
  simp only [Zm hw]
  refine ⟨⟨Unit,fun _=>undef,fun _=>True,fun _=>F,fun _=>N⟩,fun a G w1 hp' ha hsub hsat=>?_,fun _ _=>nx hp hr w st hz sb⟩
  obtain ⟨h1,h2,_,s1,_,hpt,_⟩:=hs.sep st.r
  have hb:w1.heap[b]? = some (.cells cs ty (0,0)):=hsat.stat hsub b _ (sb b _ (ZV _ _ _ _ (s1 _ _ hpt)))
  obtain ⟨w',g1,g2,g3,g4⟩:=stv_ok hb hv
  have hh:∀c,w'.heap[c]? = w1.heap[c]?:=fun c=>by
   by_cases hc:c=b
   ·rw [hc,g2,hb]
   ·exact g4 c hc
  unfold OpRes
  simp only [execOp,Instr.storeAt,ha.ev (x:=x) (by rw [ZP];exact hx),ha.ev (x:=y) (by rw [ZP];exact hy),Instr.sureAddr,Sem.run_bind,Sem.run_pure,Result.andThen,g1]
  obtain ⟨hp2,hr2,s⟩:=hsat
  exact ⟨(),trivial,trivial,hp2,hr2,fun c o e=>(hh c).trans (s.inp c o e),fun c o e=>(hh c).trans (s.inr c o e),fun c o e=>(hh c).trans (s.ing c o e),s.d1,s.d2,s.d3,s.sub,s.f,s.r,s.same.trans g3⟩
end
def RlsF (b:Nat) (l:List Ru):Pf:=⟨fun h=>∃(xs:List RI) (o:Option Addr) (cap:Nat),(Blk b (.cells #[.slice o xs.length cap] 95)).p h∧(Sl 102 rul o cap xs).p h∧RusP h l xs,
 fun _ _ s ⟨xs,o,cap,h1,h2,h3⟩=>⟨xs,o,cap,(Blk b _).m _ _ s h1,(Sl _ _ o cap xs).m _ _ s h2,W0 s l xs h3⟩⟩
abbrev PaP (r:Except (Int×Int×Int) (List Ru)):Post:=match r with
 | .ok l=>⟨Nat,fun b=>.tuple #[.pointer (some ⟨b,0,none⟩),.int .i64 0,.int .i64 0,.int .i64 0],fun _=>True,fun b=>[RlsF b l],fun _=>[]⟩
 | .error x=>⟨Unit,fun _=>.tuple #[.pointer none,.int .i64 x.1,.int .i64 x.2.1,.int .i64 x.2.2],fun _=>True,fun _=>[],fun _=>[]⟩
abbrev PG:=List Ru×List RI×Option Addr×Nat
def PaJ (_:ByteArray) (b2 b3 b4 b5 br:Nat) (pre:List (List UInt8)) (g:PG):HP:=fun h=>((∀rest,rowsF (pre++rest) 0 []=rowsF rest pre.length g.1)∧g.2.1.length=g.1.length∧g.1.length≤256)∧
 Sep ([Pt b2 (.cells #[.pointer (some ⟨br,0,none⟩)] 39),Pt b3 (.cells #[.int .i64 (pre.length:Nat)] 3),Pt b4 (.cells #[.int .i64 0] 3),Pt b5 (.cells #[.int .i64 0] 28)]++RlR br g.2.1 g.2.2.1 g.2.2.2) h
def PaX (s:ByteArray) (b2 b3 b4 b5:Nat) (_:List (List UInt8)) (_:PG):HP:=fun h=>∃x:Int×Int×Int,rowsF (linesF s.data.toList) 0 [] = .error x∧
 Sep [Pt b2 (.cells #[.pointer none] 39),Pt b3 (.cells #[.int .i64 x.1] 3),Pt b4 (.cells #[.int .i64 x.2.1] 3),Pt b5 (.cells #[.int .i64 x.2.2] 28)] h
set_option maxHeartbeats 4000000 in
theorem XR (s:ByteArray) (hs:s.size≤1000000000):Enters 21∧Spec prog 21 #[.string s] [ErA,P10] [] (PaP (parF s)):=by
 have hsz:=lsz s
 by_cases hb:65536<s.size
 ·have e:parF s = .error (0,0,5):=if_pos hb
  rw [e]
  refine ZS [_] func21 ntmps21 fun G w hp=>?_
  repeat' (first|refine ZF ?_|refine ZI ?_|refine ZJ ?_|refine ZG ?_|refine ZO ?_|refine ZH ?_|refine ZN ?_|refine ZM (fun b=>?_)|refine ZL (fun b=>?_)|refine ZB ?_|refine ZD ?_|refine ZK ?_|(refine ZC (fun hc=>?_) (fun hc=>?_)<;>(try simp at hc)<;>(try omega))|(refine ZE (fun hc=>?_) (fun hc=>?_)<;>(try simp at hc)<;>(try omega)))
  exact ZR () rfl trivial
 ·have e0:parF s=rowsF (linesF s.data.toList) 0 []:=if_neg hb
  rw [e0]
  obtain ⟨hl1,hl2⟩:=lines_sz s.data.toList
  have n0:=splitSeq_ok s.data.toList
  have es:ofL s.data.toList=s:=XD rfl
  rw [es] at n0
  have hit:=fun (a b c:Nat)=>split_iter a b c s.data.toList (by omega)
  obtain ⟨R,hR⟩:∃R,rowsF (linesF s.data.toList) 0 []=R:=⟨_,rfl⟩
  rw [hR]
  refine ⟨enters_of func21 (by kernel_rfl) rfl,spec_ofM (vs:=[_]) func21 rfl ntmps21 rfl fun G w hp=>?_⟩
  repeat' (first|refine ZF ?_|refine ZI ?_|refine ZJ ?_|refine ZG ?_|refine ZO ?_|refine ZH ?_|refine ZN ?_|refine ZM (fun b=>?_)|refine ZL (fun b=>?_)|refine ZB ?_|refine ZD ?_|refine ZA (n0) (fun _ _=>?_)|refine l_call0 (n0) (fun _ _=>?_)|(refine ZC (fun hc=>?_) (fun hc=>?_)<;>(try simp at hc)<;>(try omega))|(refine ZE (fun hc=>?_) (fun hc=>?_)<;>(try simp at hc)<;>(try omega)))
  rename_i b2 b3 b4 b5 q _
  obtain ⟨q1,q2,q3⟩:=q
  generalize b=br at *
  refine Z0 (Lx:=[]) (r:=Row 102 3 none 0 0 []) (fun h _=>X9 _ _ h) ?_
  refine k_add (f:=RusF [] []) (fun _=>trivial) ?_
  refine Z0 (Lx:=[Pt b2 (.cells #[.pointer (some ⟨br,0,none⟩)] 39),Pt b3 (.cells #[.int .i64 0] 3),Pt b4 (.cells #[.int .i64 0] 3),Pt b5 (.cells #[.int .i64 0] 28)]++RlR br [] none 0) (r:=PaJ s b2 b3 b4 b5 br [] ([],[],none,0)) (fun h hh=>⟨⟨fun rest=>rfl,rfl,by decide⟩,hh⟩) ?_
  refine k_rangeG (α:=List UInt8) (enc:=fun l=>.string (ofL l)) (xs:=linesF s.data.toList) (fun pre g=>RusF g.1 g.2.1) (PaJ s b2 b3 b4 b5 br) (PaX s b2 b3 b4 b5) ([],[],none,0) (hit q1 q2 q3) ?_ ?_ ?_
  ·intro lr l pre g e hpre G w0 hp0
   obtain ⟨acc,xs,o,cap⟩:=g
   dsimp only
   refine YU (X:=Unit) (Lx:=fun _=>[Pt b2 (.cells #[.pointer (some ⟨br,0,none⟩)] 39),Pt b3 (.cells #[.int .i64 (pre.length:Nat)] 3),Pt b4 (.cells #[.int .i64 0] 3),Pt b5 (.cells #[.int .i64 0] 28)]++RlR br xs o cap) (p:=fun _=>(∀rest,rowsF (pre++rest) 0 []=rowsF rest pre.length acc)∧xs.length=acc.length∧acc.length≤256) (r:=PaJ s b2 b3 b4 b5 br pre (acc,xs,o,cap)) (.there .here) (fun h hh=>⟨(),hh.1,hh.2⟩) (fun _ hpu=>?_)
   obtain ⟨p1,p2,p3⟩:=hpu
   have hel:e.length≤s.data.toList.length:=hl2 e (hpre.subset (by simp))
   have hpl:pre.length+1≤s.data.toList.length+1:=by
    have:=hpre.length_le
    simp only [List.length_append,List.length_singleton] at this;omega
   have n1:=ruAdd_ok br (ofL e) (by rw [Y3];omega) acc xs o cap p2 p3
   rw [Y8] at n1
   delta AdP at n1
   have w1:IntKind.i64.wrap ((pre.length:Int)+1)=(((pre++[e]).length:Nat):Int):=by
    rw [wrapi (by omega) (by omega)];simp
   obtain ⟨a1,a2⟩:=lineF_pl e acc.length
   have w2:=wrapi (z:=(lineF e acc.length).2.1+1) (by omega) (by omega)
   have hlen:=addF_len (s:=e) p3
   by_cases he:(lineF e acc.length).2.2=0
   ·have hst:=fun rest=>rows_step (rest:=rest) (i:=pre.length) he
    rw [he] at n1
    generalize (lineF e acc.length).2.1=a at *
    generalize addF e acc=acc2 at *
    repeat' (first|refine ZF ?_|refine ZI ?_|refine ZJ ?_|refine ZG ?_|refine ZO ?_|refine ZH ?_|refine ZN ?_|refine ZM (fun b=>?_)|refine ZL (fun b=>?_)|refine ZB ?_|refine ZD ?_|refine ZK ?_|refine Za ?_|refine ZX ?_|refine Zh ?_|refine Zb ?_|refine ZY ?_|refine Zg (fun b=>?_)|refine Zi (fun b=>?_)|refine Zj ?_|refine ZZ ?_|refine ZA (n1) (fun _ _=>?_)|refine l_call0 (n1) (fun _ _=>?_)|refine ZQ (n1) (fun _ _=>?_)|refine k_beg ?_|rw [w1]|(refine ZC (fun hc=>?_) (fun hc=>?_)<;>(try simp at hc)<;>(try omega))|(refine ZU (fun hc=>?_) (fun hc=>?_)<;>(try simp at hc)<;>(try omega))|refine ZT 9 [] [(0,0),(1,0),(2,0),(3,0),(4,4),(5,4),(6,4)] [7] ?_|(refine ZE (fun hc=>?_) (fun hc=>?_)<;>(try simp at hc)<;>(try omega)))
    rename_i q hq
    obtain ⟨xs2,o2,cap2⟩:=q
    dsimp only at hq
    refine Z0 (Lx:=[Pt b2 (.cells #[.pointer (some ⟨br,0,none⟩)] 39),Pt b3 (.cells #[.int .i64 ((pre++[e]).length:Nat)] 3),Pt b4 (.cells #[.int .i64 0] 3),Pt b5 (.cells #[.int .i64 0] 28)]++RlR br xs2 o2 cap2) (r:=PaJ s b2 b3 b4 b5 br (pre++[e]) (acc2,xs2,o2,cap2)) (fun h hh=>⟨⟨fun rest=>(by rw [List.append_assoc,List.singleton_append,p1,hst,List.length_append];rfl),hq,hlen⟩,hh⟩) ?_
    exact k_rnG (acc2,xs2,o2,cap2)
   ·have hbad:=fun rest=>rows_bad (rest:=rest) (i:=pre.length) he
    obtain ⟨rest,hrest⟩:=hpre
    have hx:=p1 (e::rest)
    rw [hbad,show pre++e::rest=linesF s.data.toList by rw [←hrest];simp] at hx
    generalize (lineF e acc.length).2.1=a at *
    generalize (lineF e acc.length).2.2=er at *
    generalize addF e acc=acc2 at *
    have hne:¬er=0:=he
    repeat' (first|refine r_stI ?_|refine ZF ?_|refine ZI ?_|refine ZJ ?_|refine ZG ?_|refine ZO ?_|refine ZH ?_|refine ZN ?_|refine ZM (fun b=>?_)|refine ZL (fun b=>?_)|refine ZB ?_|refine ZD ?_|refine ZK ?_|refine Za ?_|refine ZX ?_|refine Zh ?_|refine Zb ?_|refine ZY ?_|refine Zg (fun b=>?_)|refine Zi (fun b=>?_)|refine Zj ?_|refine ZZ ?_|refine ZA (n1) (fun _ _=>?_)|refine l_call0 (n1) (fun _ _=>?_)|refine ZQ (n1) (fun _ _=>?_)|refine k_beg ?_|rw [w1]|rw [w2]|(refine ZC (fun hc=>?_) (fun hc=>?_)<;>(try simp at hc)<;>(try omega))|(refine ZU (fun hc=>?_) (fun hc=>?_)<;>(try simp at hc)<;>(try omega))|refine ZT 9 [Pt b2 _,Pt b4 _] [(0,0),(1,0),(2,0),(3,0),(4,4),(5,4),(6,4)] [7] ?_|(refine ZE (fun hc=>?_) (fun hc=>?_)<;>(try simp at hc)<;>(try omega)))
    have e1:((pre.length:Int)+1)=(((pre++[e]).length:Nat):Int):=by simp
    rw [e1] at hx
    refine Z0 (Lx:=[Pt b2 (.cells #[.pointer none] 39),Pt b3 (.cells #[.int .i64 ((pre++[e]).length:Nat)] 3),Pt b4 (.cells #[.int .i64 (a+1)] 3),Pt b5 (.cells #[.int .i64 er] 28)]) (r:=PaX s b2 b3 b4 b5 (pre++[e]) (acc,xs,o,cap)) (fun h hh=>⟨_,hx,hh⟩) ?_
    exact k_rrG (acc,xs,o,cap)
  ·intro D g
   obtain ⟨acc,xs,o,cap⟩:=g
   dsimp only
   refine YU (X:=Unit) (Lx:=fun _=>[Pt b2 (.cells #[.pointer (some ⟨br,0,none⟩)] 39),Pt b3 (.cells #[.int .i64 ((linesF s.data.toList).length:Nat)] 3),Pt b4 (.cells #[.int .i64 0] 3),Pt b5 (.cells #[.int .i64 0] 28)]++RlR br xs o cap) (p:=fun _=>(∀rest,rowsF (linesF s.data.toList++rest) 0 []=rowsF rest (linesF s.data.toList).length acc)∧xs.length=acc.length∧acc.length≤256) (r:=PaJ s b2 b3 b4 b5 br (linesF s.data.toList) (acc,xs,o,cap)) .here (fun h hh=>⟨(),hh.1,hh.2⟩) (fun _ hpu=>?_)
   obtain ⟨p1,p2,p3⟩:=hpu
   have hRa:=p1 []
   rw [List.append_nil,hR] at hRa
   obtain rfl:R = .ok acc:=hRa
   refine k_frz (f:=rul) xs ?_ rfl rfl
   refine Ym (b:=br) ?_
   refine Z2 (F1:=[Blk br (.cells #[.slice o xs.length cap] 95),Sl 102 rul o cap xs,RusF acc xs]) (f:=RlsF br acc) (fun hp hF=>⟨xs,o,cap,hF _ (.head _),hF _ (.tail _ (.head _)),hF _ (.tail _ (.tail _ (.head _)))⟩) ?_
   repeat' (first|refine ZF ?_|refine ZI ?_|refine ZJ ?_|refine ZG ?_|refine ZO ?_|refine ZH ?_|refine ZN ?_|refine ZM (fun b=>?_)|refine ZL (fun b=>?_)|refine ZB ?_|refine ZD ?_|refine ZK ?_|refine k_beg ?_|(refine ZC (fun hc=>?_) (fun hc=>?_)<;>(try simp at hc)<;>(try omega))|(refine ZE (fun hc=>?_) (fun hc=>?_)<;>(try simp at hc)<;>(try omega)))
   exact k_retM br rfl trivial
  ·intro D pre g hpre
   refine w_open (X:=Int×Int×Int) (Lx:=fun x=>[Pt b2 (.cells #[.pointer none] 39),Pt b3 (.cells #[.int .i64 x.1] 3),Pt b4 (.cells #[.int .i64 x.2.1] 3),Pt b5 (.cells #[.int .i64 x.2.2] 28)]) (p:=fun x=>rowsF (linesF s.data.toList) 0 [] = .error x) (r:=PaX s b2 b3 b4 b5 pre g) .here (fun h hh=>hh) (fun x hx=>?_)
   obtain rfl:R = .error x:=by rw [←hR,hx]
   exact w_retM () rfl trivial
end Go.Proofs.YtodkipbnefngkaaGreatDoor
set_option maxRecDepth 10000
namespace Go.Proofs
open Go.Shelf
def Tryz.lays99_ren:Go.Shelf.Ren:=⟨fun|99=>55|206=>85|n=>n,fun|9=>9|4=>4|3=>3|n=>n,fun|n=>n⟩
theorem Tryz.lays99:Go.Proofs.Lays.n99 Tryz.prog Tryz.lays99_ren:={
 mixed:=by kernel_rfl
 f99:=Tryz.func55.trans (congrArg some (by kernel_rfl))
 f206:=Tryz.func85.trans (congrArg some (by kernel_rfl))
 t3:=Tryz.underlying3
 a3:=Tryz.isAgg3
 z3:=Tryz.sizeOf3
 v3:=Tryz.zeroValue3
 t4:=Tryz.underlying4
 a4:=Tryz.isAgg4
 z4:=Tryz.sizeOf4
 v4:=Tryz.zeroValue4
 t9:=Tryz.underlying9
 a9:=Tryz.isAgg9
 z9:=Tryz.sizeOf9
 v9:=Tryz.zeroValue9}
end Go.Proofs
namespace Go.Proofs.YtodkipbnefngkaaGreatDoor
open Go.Proofs.Tryz
open Go.RowKit
variable {n:Nat} {C:Cx} {Q:Exit→Act→World→Prop} {E E':List (Nat×Value)} {F F' F1 Fs F0:List Pf} {R R' R0 Rs N N' A:List HP} {k k':List Fr} {ops l:List Oper} {L L':List (Nat×Nat)} {Tl:List Nat} {i d:Nat} {t t2 ty0:TypeId} {x y z:Operand} {pos:String} {aft:Array Edge} {gd:Option (Nat×Bool)}
section
theorem r_callV {v:Value} {args:Array Operand} {tys:Array TypeId} {vs:List Value} {post:Post} (spec:SpecV v vs F1 A post)
  (nx:∀x,post.pure x→Wr n C ops k Q Tl Fs R L ((d,post.val x)::E) (post.F x++F) (post.R x++N')) (ho:nth ops i=some ⟨some d,.call ⟨.value x,args,tys⟩,ty0,pos,aft,gd⟩:=by rfl)
  (hw:wantL ops E ⟨some d,.call ⟨.value x,args,tys⟩,ty0,pos,aft,gd⟩=some true:=by rfl) (hx:ev E x=some v:=by rfl) (hargs:evs (ev E) args.toList some=some vs:=by rfl)
  (sel:Sels A N N':=by (repeat (first|exact Sels.nil|exact Sel.here|apply Sel.there|apply Sels.cons));first|done|fail)
  (hF:EntF F F1:=by (repeat (first|exact trivial|exact Sel.here|apply Sel.there|apply EntF.cons));first|done|fail):Wr n C ops k Q Tl Fs R ((i,4)::L) E F N:=
 YQ ho fun hp hr w st hz sb=>by
  simp only [Zm hw]
  refine ⟨⟨post.X,post.val,post.pure,fun x=>post.F x++F,fun x=>post.R x++N'⟩,fun a G w hp' ha hsub hsat=>?_,fun x hx=>nx x hx hp hr w st hz sb⟩
  obtain ⟨G',hp2,h1,h2⟩:=WA hsat sel hF.all
  have h3:=spec G' w hp2 h1
  obtain ⟨us,_,e2,e3⟩:=XW _ _ _ hargs
  obtain rfl:=Option.some.inj e2
  have e1:=e3 a.eval fun x _ u hu=>ha.ev (by rw [ZP];exact hu)
  have e4:args.map a.eval=us.toArray:=by rw [←Array.toList_inj];simpa using e1
  have e5:(args.map fun x=>a.eval x)=us.toArray:=e4
  have e0:=ha.ev (x:=x) (by rw [ZP];exact hx)
  unfold CallsV at h3
  split at h3
  ·rename_i fn fs cs
   have h4:=h3.mono (R':=fun v w'=>∃x,v=post.val x∧post.pure x∧Sat G w hp' (post.F x++F) (post.R x++N') w') (by
    rintro v w' ⟨x,rfl,hx,hs⟩
    exact ⟨x,rfl,hx,h2 _ _ _ hs⟩)
   unfold OpRes at h4 ⊢
   have er:(execOp a.eval ⟨some d,.call ⟨.value x,args,tys⟩,ty0,pos,aft,gd⟩).run prog w=(invoke (.fn fn cs) (fs++us.toArray)).run prog w:=by
    simp only [execOp,resolve,e0,Deferred.ofValue,Sem.run_bind,Sem.run_pure,Result.andThen]
    rw [e5]
   rw [er]
   exact h4
  ·exact h3.elim
end
theorem sPrefix_ok (s p:ByteArray):Enters 55∧Spec prog 55 #[.string s,.string p] [] [] (RetV (.bool (Lib.hasPrefix s.data.toList p.data.toList))):=by
 refine ⟨enters_of func55 (by kernel_rfl) rfl,fun G w hp hs=>?_⟩
 refine (Any.strings_HasPrefix Tryz.lays99 s p w).mono ?_
 rintro e w' ⟨rfl,rfl⟩
 exact ⟨(),rfl,trivial,hs⟩
def MxL:Pf:=⟨fun h=>∃m T fz,h 0=some (.cells #[.int .i64 m] T fz),fun _ _ s ⟨m,T,fz,h1⟩=>⟨m,T,fz,s _ _ h1⟩⟩
theorem sContains_ok (s u:ByteArray) (hs:s.size≤1000000):Enters 53∧Spec prog 53 #[.string s,.string u] [MxL] [] (RetV (.bool (Lib.contains s.data.toList u.data.toList))):=by
 refine ⟨enters_of func53 (by kernel_rfl) rfl,fun G w hp hs0=>?_⟩
 obtain ⟨hp',hr,st⟩:=hs0
 obtain ⟨m,T,fz,h1⟩:=st.f MxL (by simp)
 refine (Any.strings_Contains Tryz.lays144 s u m w (by omega) (cell_of (st.inp _ _ h1))).mono ?_
 rintro e w' ⟨rfl,rfl⟩
 exact ⟨(),rfl,trivial,(show Sat G _ hp [MxL] [] _ from ⟨hp',hr,st⟩).facts fun _ _ x hx=>by cases hx⟩
theorem ruWithin_ok (s a:ByteArray) (hs:s.size≤1000000) (ha:a.size≤1000000):Enters 52∧Spec prog 52 #[.string s,.string a] [] [] (RetV (.bool (lwith s a))):=by
 have n1:=valid_ok s (by omega)
 have n2:=valid_ok a (by omega)
 have e:(a++(⟨#[46]⟩:ByteArray)).data.toList=a.data.toList++[46]:=ba_app _ _
 have n3:=sPrefix_ok s (a++⟨#[46]⟩)
 rw [e] at n3
 obtain ⟨R,hR⟩:∃R,lwith s a=R:=⟨_,rfl⟩
 rw [hR]
 unfold lwith isE at hR
 generalize lvalid s.data.toList=v1 at *
 generalize lvalid a.data.toList=v2 at *
 generalize Lib.hasPrefix s.data.toList (a.data.toList++[46])=v3 at *
 cases v1
 ·obtain rfl:R=false:=by rw [←hR];rfl
  refine ZS [_,_] func52 ntmps52 fun G w hp=>?_
  repeat' (first|refine ZF ?_|refine ZI ?_|refine ZJ ?_|refine ZG ?_|refine ZO ?_|refine ZH ?_|refine ZN ?_|refine ZM (fun b=>?_)|refine ZL (fun b=>?_)|refine ZB ?_|refine ZD ?_|refine ZK ?_|refine ZA (n1) (fun _ _=>?_)|refine l_call0 (n1) (fun _ _=>?_)|refine ZA (n2) (fun _ _=>?_)|refine l_call0 (n2) (fun _ _=>?_)|(refine ZC (fun hc=>?_) (fun hc=>?_)<;>(try simp at hc)<;>(try omega))|(refine ZE (fun hc=>?_) (fun hc=>?_)<;>(try simp at hc)<;>(try omega)))
  all_goals exact ZR () rfl trivial
 cases v2
 ·obtain rfl:R=false:=by rw [←hR];rfl
  refine ZS [_,_] func52 ntmps52 fun G w hp=>?_
  repeat' (first|refine ZF ?_|refine ZI ?_|refine ZJ ?_|refine ZG ?_|refine ZO ?_|refine ZH ?_|refine ZN ?_|refine ZM (fun b=>?_)|refine ZL (fun b=>?_)|refine ZB ?_|refine ZD ?_|refine ZK ?_|refine ZA (n1) (fun _ _=>?_)|refine l_call0 (n1) (fun _ _=>?_)|refine ZA (n2) (fun _ _=>?_)|refine l_call0 (n2) (fun _ _=>?_)|(refine ZC (fun hc=>?_) (fun hc=>?_)<;>(try simp at hc)<;>(try omega))|(refine ZE (fun hc=>?_) (fun hc=>?_)<;>(try simp at hc)<;>(try omega)))
  all_goals exact ZR () rfl trivial
 by_cases h1:s=a
 ·have b1:=beqT h1
  obtain rfl:R=true:=by rw [←hR,b1];rfl
  refine ZS [_,_] func52 ntmps52 fun G w hp=>?_
  repeat' (first|rw [b1]|refine ZF ?_|refine ZI ?_|refine ZJ ?_|refine ZG ?_|refine ZO ?_|refine ZH ?_|refine ZN ?_|refine ZM (fun b=>?_)|refine ZL (fun b=>?_)|refine ZB ?_|refine ZD ?_|refine ZK ?_|refine ZA (n1) (fun _ _=>?_)|refine l_call0 (n1) (fun _ _=>?_)|refine ZA (n2) (fun _ _=>?_)|refine l_call0 (n2) (fun _ _=>?_)|refine ZA (n3) (fun _ _=>?_)|refine l_call0 (n3) (fun _ _=>?_)|refine Zr ?_|(refine ZC (fun hc=>?_) (fun hc=>?_)<;>(try simp at hc)<;>(try omega))|(refine ZE (fun hc=>?_) (fun hc=>?_)<;>(try simp at hc)<;>(try omega)))
  all_goals exact ZR () rfl trivial
 have b1:=beqF h1
 by_cases h2:a=⟨#[]⟩
 ·have b2:=beqT h2
  obtain rfl:R=true:=by rw [←hR,b1,b2];rfl
  refine ZS [_,_] func52 ntmps52 fun G w hp=>?_
  repeat' (first|rw [b2]|rw [b1]|refine ZF ?_|refine ZI ?_|refine ZJ ?_|refine ZG ?_|refine ZO ?_|refine ZH ?_|refine ZN ?_|refine ZM (fun b=>?_)|refine ZL (fun b=>?_)|refine ZB ?_|refine ZD ?_|refine ZK ?_|refine ZA (n1) (fun _ _=>?_)|refine l_call0 (n1) (fun _ _=>?_)|refine ZA (n2) (fun _ _=>?_)|refine l_call0 (n2) (fun _ _=>?_)|refine ZA (n3) (fun _ _=>?_)|refine l_call0 (n3) (fun _ _=>?_)|refine Zr ?_|(refine ZC (fun hc=>?_) (fun hc=>?_)<;>(try simp at hc)<;>(try omega))|(refine ZE (fun hc=>?_) (fun hc=>?_)<;>(try simp at hc)<;>(try omega)))
  all_goals exact ZR () rfl trivial
 ·have b2:=beqF h2
  obtain rfl:R=v3:=by rw [←hR,b1,b2];cases v3<;>rfl
  refine ZS [_,_] func52 ntmps52 fun G w hp=>?_
  repeat' (first|rw [b2]|rw [b1]|refine ZF ?_|refine ZI ?_|refine ZJ ?_|refine ZG ?_|refine ZO ?_|refine ZH ?_|refine ZN ?_|refine ZM (fun b=>?_)|refine ZL (fun b=>?_)|refine ZB ?_|refine ZD ?_|refine ZK ?_|refine ZA (n1) (fun _ _=>?_)|refine l_call0 (n1) (fun _ _=>?_)|refine ZA (n2) (fun _ _=>?_)|refine l_call0 (n2) (fun _ _=>?_)|refine ZA (n3) (fun _ _=>?_)|refine l_call0 (n3) (fun _ _=>?_)|refine Zr ?_|(refine ZC (fun hc=>?_) (fun hc=>?_)<;>(try simp at hc)<;>(try omega))|(refine ZE (fun hc=>?_) (fun hc=>?_)<;>(try simp at hc)<;>(try omega)))
  all_goals exact ZR () rfl trivial
section
variable {c:Cq}
theorem kind1_ok (c:Cq) (b:Nat) (k:Int):Enters 123∧Spec prog 123 #[cqa c,pv0 b] [Blk b (.cells #[.int .i64 k] 3)] [] (RetV (.bool (c.kind == k))):=by
 refine ZS [_,_] func123 ntmps123 fun G w hp=>?_
 repeat' (first|refine ZF ?_|refine ZI ?_|refine ZJ ?_|refine ZG ?_|refine ZO ?_|refine ZH ?_|refine ZN ?_|refine ZM (fun b=>?_)|refine ZL (fun b=>?_)|refine ZB ?_|refine ZD ?_|refine ZK ?_|(refine ZC (fun hc=>?_) (fun hc=>?_)<;>(try simp at hc))|(refine ZE (fun hc=>?_) (fun hc=>?_)<;>(try simp at hc)))
 exact ZR () rfl trivial
theorem channel1_ok (c:Cq) (b:Nat) (k:Int):Enters 125∧Spec prog 125 #[cqa c,pv0 b] [Blk b (.cells #[.int .i64 k] 3)] [] (RetV (.bool ((subO c).ch == k))):=by
 have n1:=XX c
 refine ZS [_,_] func125 ntmps125 fun G w hp=>?_
 repeat' (first|refine ZF ?_|refine ZI ?_|refine ZJ ?_|refine ZG ?_|refine ZO ?_|refine ZH ?_|refine ZN ?_|refine ZM (fun b=>?_)|refine ZL (fun b=>?_)|refine ZB ?_|refine ZD ?_|refine ZK ?_|refine ZA (n1) (fun _ _=>?_)|refine l_call0 (n1) (fun _ _=>?_)|(refine ZC (fun hc=>?_) (fun hc=>?_)<;>(try simp at hc))|(refine ZE (fun hc=>?_) (fun hc=>?_)<;>(try simp at hc)))
 exact ZR () rfl trivial
theorem by1_ok (c:Cq) (hc:CqS c) (b:Nat) (a:ByteArray) (ha:a.size≤1000000):Enters 140∧Spec prog 140 #[cqa c,pv0 b] [Blk b (.cells #[.string a] 22)] [] (RetV (.bool (lwith c.who a))):=by
 have n1:=ruWithin_ok c.who a (by have:=hc.wh;omega) ha
 refine ZS [_,_] func140 ntmps140 fun G w hp=>?_
 repeat' (first|refine ZF ?_|refine ZI ?_|refine ZJ ?_|refine ZG ?_|refine ZO ?_|refine ZH ?_|refine ZN ?_|refine ZM (fun b=>?_)|refine ZL (fun b=>?_)|refine ZB ?_|refine ZD ?_|refine ZK ?_|refine ZA (n1) (fun _ _=>?_)|refine l_call0 (n1) (fun _ _=>?_)|(refine ZC (fun hc=>?_) (fun hc=>?_)<;>(try simp at hc))|(refine ZE (fun hc=>?_) (fun hc=>?_)<;>(try simp at hc)))
 exact ZR () rfl trivial
theorem fldT_ok (c:Cq) (f:Nat) (hf:f<3):SpecV (fdT f) [cqa c] [] [] (RetV (.string (fldT f c))):=by
 have n1:=XX c
 match f,hf with
 | 0,_=>
  refine Zn (f:=126) ?_
  refine ZS [_] func126 ntmps126 fun G w hp=>?_
  repeat' (first|refine ZF ?_|refine ZI ?_|refine ZJ ?_|refine ZG ?_|refine ZO ?_|refine ZH ?_|refine ZN ?_|refine ZM (fun b=>?_)|refine ZL (fun b=>?_)|refine ZB ?_|refine ZD ?_|refine ZK ?_|refine ZA (n1) (fun _ _=>?_)|refine l_call0 (n1) (fun _ _=>?_)|(refine ZC (fun hc=>?_) (fun hc=>?_)<;>(try simp at hc))|(refine ZE (fun hc=>?_) (fun hc=>?_)<;>(try simp at hc)))
  exact ZR () rfl trivial
 | 1,_=>
  refine Zn (f:=127) ?_
  refine ZS [_] func127 ntmps127 fun G w hp=>?_
  repeat' (first|refine ZF ?_|refine ZI ?_|refine ZJ ?_|refine ZG ?_|refine ZO ?_|refine ZH ?_|refine ZN ?_|refine ZM (fun b=>?_)|refine ZL (fun b=>?_)|refine ZB ?_|refine ZD ?_|refine ZK ?_|(refine ZC (fun hc=>?_) (fun hc=>?_)<;>(try simp at hc))|(refine ZE (fun hc=>?_) (fun hc=>?_)<;>(try simp at hc)))
  exact ZR () rfl trivial
 | 2,_=>
  refine Zn (f:=128) ?_
  refine ZS [_] func128 ntmps128 fun G w hp=>?_
  repeat' (first|refine ZF ?_|refine ZI ?_|refine ZJ ?_|refine ZG ?_|refine ZO ?_|refine ZH ?_|refine ZN ?_|refine ZM (fun b=>?_)|refine ZL (fun b=>?_)|refine ZB ?_|refine ZD ?_|refine ZK ?_|(refine ZC (fun hc=>?_) (fun hc=>?_)<;>(try simp at hc))|(refine ZE (fun hc=>?_) (fun hc=>?_)<;>(try simp at hc)))
  exact ZR () rfl trivial
theorem fldN_ok (c:Cq) (f:Nat) (hf:f<4):SpecV (fdN f) [cqa c] [] [] (RetV (.int .i64 (fldN f c))):=by
 have n1:=XX c
 match f,hf with
 | 0,_=>
  refine Zn (f:=131) ?_
  refine ZS [_] func131 ntmps131 fun G w hp=>?_
  repeat' (first|refine ZF ?_|refine ZI ?_|refine ZJ ?_|refine ZG ?_|refine ZO ?_|refine ZH ?_|refine ZN ?_|refine ZM (fun b=>?_)|refine ZL (fun b=>?_)|refine ZB ?_|refine ZD ?_|refine ZK ?_|refine ZA (n1) (fun _ _=>?_)|refine l_call0 (n1) (fun _ _=>?_)|(refine ZC (fun hc=>?_) (fun hc=>?_)<;>(try simp at hc))|(refine ZE (fun hc=>?_) (fun hc=>?_)<;>(try simp at hc)))
  exact ZR () rfl trivial
 | 1,_=>
  refine Zn (f:=132) ?_
  refine ZS [_] func132 ntmps132 fun G w hp=>?_
  repeat' (first|refine ZF ?_|refine ZI ?_|refine ZJ ?_|refine ZG ?_|refine ZO ?_|refine ZH ?_|refine ZN ?_|refine ZM (fun b=>?_)|refine ZL (fun b=>?_)|refine ZB ?_|refine ZD ?_|refine ZK ?_|(refine ZC (fun hc=>?_) (fun hc=>?_)<;>(try simp at hc))|(refine ZE (fun hc=>?_) (fun hc=>?_)<;>(try simp at hc)))
  exact ZR () rfl trivial
 | 2,_=>
  refine Zn (f:=133) ?_
  refine ZS [_] func133 ntmps133 fun G w hp=>?_
  repeat' (first|refine ZF ?_|refine ZI ?_|refine ZJ ?_|refine ZG ?_|refine ZO ?_|refine ZH ?_|refine ZN ?_|refine ZM (fun b=>?_)|refine ZL (fun b=>?_)|refine ZB ?_|refine ZD ?_|refine ZK ?_|refine ZA (n1) (fun _ _=>?_)|refine l_call0 (n1) (fun _ _=>?_)|(refine ZC (fun hc=>?_) (fun hc=>?_)<;>(try simp at hc))|(refine ZE (fun hc=>?_) (fun hc=>?_)<;>(try simp at hc)))
  exact ZR () rfl trivial
 | 3,_=>
  refine Zn (f:=134) ?_
  refine ZS [_] func134 ntmps134 fun G w hp=>?_
  repeat' (first|refine ZF ?_|refine ZI ?_|refine ZJ ?_|refine ZG ?_|refine ZO ?_|refine ZH ?_|refine ZN ?_|refine ZM (fun b=>?_)|refine ZL (fun b=>?_)|refine ZB ?_|refine ZD ?_|refine ZK ?_|refine ZA (n1) (fun _ _=>?_)|refine l_call0 (n1) (fun _ _=>?_)|(refine ZC (fun hc=>?_) (fun hc=>?_)<;>(try simp at hc))|(refine ZE (fun hc=>?_) (fun hc=>?_)<;>(try simp at hc)))
  exact ZR () rfl trivial
theorem cmpT_ok (k:Nat) (hk:k<3) (s u:ByteArray) (hs:s.size≤1000000):SpecV (cmT k) [.string s,.string u] [MxL] [] (RetV (.bool (cmpB k s u))):=by
 match k,hk with
 | 0,_=>
  refine Zn (f:=129) ?_
  refine ZS [_,_] func129 ntmps129 fun G w hp=>?_
  repeat' (first|refine ZF ?_|refine ZI ?_|refine ZJ ?_|refine ZG ?_|refine ZO ?_|refine ZH ?_|refine ZN ?_|refine ZM (fun b=>?_)|refine ZL (fun b=>?_)|refine ZB ?_|refine ZD ?_|refine ZK ?_|(refine ZC (fun hc=>?_) (fun hc=>?_)<;>(try simp at hc))|(refine ZE (fun hc=>?_) (fun hc=>?_)<;>(try simp at hc)))
  exact ZR () rfl trivial
 | 1,_=>exact Zn (f:=53) (sContains_ok s u hs)
 | 2,_=>exact Zn (f:=55) ((sPrefix_ok s u).imp_right fun h G w hp hs=>h G w hp (hs.facts fun _ _ x hx=>by cases hx))
theorem cmpN_ok (k:Nat) (hk:k<3) (n m:Int):SpecV (cmN k) [.int .i64 n,.int .i64 m] [] [] (RetV (.bool (cmpZ k n m))):=by
 match k,hk with
 | 0,_=>
  refine Zn (f:=135) ?_
  refine ZS [_,_] func135 ntmps135 fun G w hp=>?_
  repeat' (first|refine ZF ?_|refine ZI ?_|refine ZJ ?_|refine ZG ?_|refine ZO ?_|refine ZH ?_|refine ZN ?_|refine ZM (fun b=>?_)|refine ZL (fun b=>?_)|refine ZB ?_|refine ZD ?_|refine ZK ?_|(refine ZC (fun hc=>?_) (fun hc=>?_)<;>(try simp at hc))|(refine ZE (fun hc=>?_) (fun hc=>?_)<;>(try simp at hc)))
  exact ZR () rfl trivial
 | 1,_=>
  refine Zn (f:=136) ?_
  refine ZS [_,_] func136 ntmps136 fun G w hp=>?_
  repeat' (first|refine ZF ?_|refine ZI ?_|refine ZJ ?_|refine ZG ?_|refine ZO ?_|refine ZH ?_|refine ZN ?_|refine ZM (fun b=>?_)|refine ZL (fun b=>?_)|refine ZB ?_|refine ZD ?_|refine ZK ?_|(refine ZC (fun hc=>?_) (fun hc=>?_)<;>(try simp at hc))|(refine ZE (fun hc=>?_) (fun hc=>?_)<;>(try simp at hc)))
  exact ZR () rfl trivial
 | 2,_=>
  refine Zn (f:=137) ?_
  refine ZS [_,_] func137 ntmps137 fun G w hp=>?_
  repeat' (first|refine ZF ?_|refine ZI ?_|refine ZJ ?_|refine ZG ?_|refine ZO ?_|refine ZH ?_|refine ZN ?_|refine ZM (fun b=>?_)|refine ZL (fun b=>?_)|refine ZB ?_|refine ZD ?_|refine ZK ?_|(refine ZC (fun hc=>?_) (fun hc=>?_)<;>(try simp at hc))|(refine ZE (fun hc=>?_) (fun hc=>?_)<;>(try simp at hc)))
  exact ZR () rfl trivial
theorem text5_ok (c:Cq) (hc:CqS c) (f k:Nat) (hf:f<3) (hk:k<3) (b1 b2 b3:Nat) (s:ByteArray):Enters 130∧Spec prog 130 #[cqa c,pv0 b1,pv0 b2,pv0 b3]
  [Blk b1 (.cells #[cmT k] 116),Blk b2 (.cells #[fdT f] 187),Blk b3 (.cells #[.string s] 9),MxL] [] (RetV (.bool (cmpB k (fldT f c) s))):=by
 have n1:=fldT_ok c f hf
 have n2:=cmpT_ok k hk (fldT f c) s (by have:=hc.fld f;omega)
 obtain ⟨v1,e1⟩:∃v,cmT k=v:=⟨_,rfl⟩
 obtain ⟨v2,e2⟩:∃v,fdT f=v:=⟨_,rfl⟩
 rw [e1] at n2 ⊢
 rw [e2] at n1 ⊢
 refine ZS [_,_,_,_] func130 ntmps130 fun G w hp=>?_
 repeat' (first|refine ZF ?_|refine ZI ?_|refine ZJ ?_|refine ZG ?_|refine ZO ?_|refine ZH ?_|refine ZN ?_|refine ZM (fun b=>?_)|refine ZL (fun b=>?_)|refine ZB ?_|refine ZD ?_|refine ZK ?_|refine Za ?_|refine ZX ?_|refine Zh ?_|refine Zb ?_|refine ZY ?_|refine Zg (fun b=>?_)|refine Zi (fun b=>?_)|refine Zj ?_|refine ZZ ?_|refine r_callV n1 (fun _ _=>?_)|refine r_callV n2 (fun _ _=>?_)|(refine ZC (fun hc=>?_) (fun hc=>?_)<;>(try simp at hc))|(refine ZU (fun hc=>?_) (fun hc=>?_)<;>(try simp at hc))|refine ZT 1 [] [(0,0),(1,0),(2,0),(4,0),(3,4),(5,4),(6,0)] [] ?_|(refine ZE (fun hc=>?_) (fun hc=>?_)<;>(try simp at hc)))
 exact ZR () rfl trivial
theorem number8_ok (c:Cq) (f k:Nat) (hf:f<4) (hk:k<3) (b1 b2 b3:Nat) (m:Int):Enters 139∧Spec prog 139 #[cqa c,pv0 b1,pv0 b2,pv0 b3]
  [Blk b1 (.cells #[cmN k] 37),Blk b2 (.cells #[fdN f] 191),Blk b3 (.cells #[.int .i64 m] 3)] [] (RetV (.bool (cmpZ k (fldN f c) m))):=by
 have n1:=fldN_ok c f hf
 have n2:=cmpN_ok k hk (fldN f c) m
 obtain ⟨v1,e1⟩:∃v,cmN k=v:=⟨_,rfl⟩
 obtain ⟨v2,e2⟩:∃v,fdN f=v:=⟨_,rfl⟩
 rw [e1] at n2 ⊢
 rw [e2] at n1 ⊢
 refine ZS [_,_,_,_] func139 ntmps139 fun G w hp=>?_
 repeat' (first|refine ZF ?_|refine ZI ?_|refine ZJ ?_|refine ZG ?_|refine ZO ?_|refine ZH ?_|refine ZN ?_|refine ZM (fun b=>?_)|refine ZL (fun b=>?_)|refine ZB ?_|refine ZD ?_|refine ZK ?_|refine Za ?_|refine ZX ?_|refine Zh ?_|refine Zb ?_|refine ZY ?_|refine Zg (fun b=>?_)|refine Zi (fun b=>?_)|refine Zj ?_|refine ZZ ?_|refine r_callV n1 (fun _ _=>?_)|refine r_callV n2 (fun _ _=>?_)|(refine ZC (fun hc=>?_) (fun hc=>?_)<;>(try simp at hc))|(refine ZU (fun hc=>?_) (fun hc=>?_)<;>(try simp at hc))|refine ZT 1 [] [(0,0),(1,0),(2,0),(4,0),(3,4),(5,4),(6,0)] [] ?_|(refine ZE (fun hc=>?_) (fun hc=>?_)<;>(try simp at hc)))
 exact ZR () rfl trivial
end
end Go.Proofs.YtodkipbnefngkaaGreatDoor
namespace Go.Proofs.YtodkipbnefngkaaGreatDoor
open Go.RowKit Go.Proofs.Tryz
theorem sat_fact {G:H} {w0 w:World} {hp0:H} {F:List Pf} {R:List HP} {X:Type} {f:Pf} {Fx:X→List Pf} {p:X→Prop} (hs:Sat G w0 hp0 (f::F) R w) (h:∀hp,f.p hp→∃x,p x∧∀g ∈ Fx x,g.p hp):∃x,p x∧Sat G w0 hp0 (Fx x++F) R w:=by
 obtain ⟨hp,hr,st⟩:=hs
 obtain ⟨x,hpx,hfx⟩:=h hp (st.f f (.head _))
 refine ⟨x,hpx,hp,hr,st.inp,st.inr,st.ing,st.d1,st.d2,st.d3,st.sub,fun g hg=>?_,st.r,st.same⟩
 rcases List.mem_append.1 hg with h|h
 ·exact hfx g h
 ·exact st.f g (.tail _ h)
theorem YC {v:Value} {name:String} {vs:List Value} {F:List Pf} {R:List HP} {post:Post} {X:Type} {f:Pf} {Fx:X→List Pf} {p:X→Prop} (h:∀hp,f.p hp→∃x,p x∧∀g ∈ Fx x,g.p hp)
  (s:∀x,p x→SpecI v name vs (Fx x++F) R post):SpecI v name vs (f::F) R post:=fun G w hp hs=>by
 obtain ⟨x,hx,hs⟩:=sat_fact hs h
 exact s x hx G w hp hs
theorem specMore {P:Program} {f:FuncId} {args:Array Value} {F F1:List Pf} {R:List HP} {post:Post} (s:Spec P f args F R post):Spec P f args (F++F1) R post:=fun G w hp hs=>s G w hp (hs.facts fun _ h x hx=>h x (List.mem_append_left _ hx))
theorem test_holds (wd:ByteArray) (fv:Value) (c:Cq) {F:List Pf} {x:Bool} (spec:SpecV fv [cqa c] F [] (RetV (.bool x))):Enters 199∧Spec prog 199 #[.agg #[.string wd,fv],cqa c] F [] (RetV (.bool x)):=by
 refine ZS [_,_] func199 ntmps199 fun G w hp=>?_
 repeat' (first|refine ZF ?_|refine ZI ?_|refine ZJ ?_|refine ZG ?_|refine ZO ?_|refine ZH ?_|refine ZN ?_|refine ZM (fun b=>?_)|refine ZL (fun b=>?_)|refine ZB ?_|refine ZD ?_|refine ZK ?_|refine Yq spec (fun _ _=>?_) (hF:=entF_self _)|(refine ZC (fun hc=>?_) (fun hc=>?_)<;>(try simp at hc))|(refine ZE (fun hc=>?_) (fun hc=>?_)<;>(try simp at hc)))
 exact ZR () rfl trivial
abbrev HoI (c : Cq) (d : Cnd) : Prop := ∀ v, SpecI v "replevin/rule.holds" [cqa c] [CdF d v, MxL] [] (RetV (.bool (holF c d)))
theorem tst_ho {c : Cq} {wd : ByteArray} {f : FuncId} {cs : Array Value} {F : List Pf} {x : Bool} (spec : Enters f ∧ Spec prog f ([cqa c].toArray ++ cs) F [] (RetV (.bool x))) : SpecI (tsv wd f cs) "replevin/rule.holds" [cqa c] F [] (RetV (.bool x)) :=
 Wi (f:=199) (by intro w;kernel_rfl) (test_holds wd _ c (Zn spec))
theorem not_holds (c:Cq) (d:Cnd) (u:Value) (ih:HoI c d):Enters 203∧Spec prog 203 #[.agg #[u],cqa c] [CdF d u,MxL] [] (RetV (.bool (!holF c d))):=by
 have n1:=ih u
 refine ZS [_,_] func203 ntmps203 fun G w hp=>?_
 repeat' (first|refine ZF ?_|refine ZI ?_|refine ZJ ?_|refine ZG ?_|refine ZO ?_|refine ZH ?_|refine ZN ?_|refine ZM (fun b=>?_)|refine ZL (fun b=>?_)|refine ZB ?_|refine ZD ?_|refine ZK ?_|refine l_inv n1 (fun _ _=>?_)|(refine ZC (fun hc=>?_) (fun hc=>?_)<;>(try simp at hc))|(refine ZE (fun hc=>?_) (fun hc=>?_)<;>(try simp at hc)))
 exact ZR () rfl trivial
set_option maxHeartbeats 4000000 in
theorem any_holds (c:Cq) (l:List Cnd) (hbd:l.length≤1000000) (ih:∀d ∈ l,HoI c d) (o:Option Addr) (cap:Nat) (vs:List IV) (hl:vs.length=l.length):Enters 201∧Spec prog 201 #[.agg #[.slice o vs.length cap],cqa c] [Sl 100 ivl o cap vs,CdsF l (vs.map ivOf),MxL] [] (RetV (.bool (anyH c l))):=by
 obtain ⟨R,hR⟩:∃R,anyH c l=R:=⟨_,rfl⟩
 rw [hR]
 refine ZS [_,_] func201 ntmps201 fun G w hp=>?_
 repeat' (first|refine ZF ?_|refine ZI ?_|refine ZJ ?_|refine ZG ?_|refine ZO ?_|refine ZH ?_|refine ZN ?_|refine ZM (fun b=>?_)|refine ZL (fun b=>?_)|refine ZB ?_|refine ZD ?_|(refine ZC (fun hc=>?_) (fun hc=>?_)<;>(try simp at hc))|(refine ZE (fun hc=>?_) (fun hc=>?_)<;>(try simp at hc)))
 rename_i b2
 refine Yj (X:={j:Nat // j≤vs.length∧anyH c (l.drop j)=R}) (fun j=>[(3,pv0 b),(8,.slice o vs.length cap),(9,.int .i64 (vs.length:Int)),(10,.int .i64 (j.1:Int))]) (fun _=>[Sl 100 ivl o cap vs,CdsF l (vs.map ivOf),MxL]) (fun _=>[Pt b (.cells (cqf c).toArray 26)]) (fun j=>vs.length - j.1) ⟨0,Nat.zero_le _,hR⟩ ⟨rfl,rfl,rfl,rfl,trivial⟩ ?_
 rintro ⟨j,hj,hRj⟩
 dsimp only at hj hRj ⊢
 by_cases hlt:j<vs.length
 ·have hxj:=List.getElem?_eq_getElem hlt
  have hltc:j<l.length:=by omega
  have hcj:=List.getElem?_eq_getElem hltc
  rw [List.drop_eq_getElem_cons hltc] at hRj
  have ihd:=ih _ (List.getElem_mem hltc)
  generalize vs[j]=x at *
  generalize l[j]=d at *
  rw [anyH] at hRj
  obtain ⟨T,u⟩:=x
  have n1:=ihd (ivOf (T,u))
  refine Z2 (F1:=[CdsF l (vs.map ivOf)]) (f:=CdF d (ivOf (T,u))) (fun hp hF=>X7 (hF _ (.head _)) hcj (by rw [List.getElem?_map,hxj];rfl)) ?_
  have w1:=wrapi (z:=(j:Int)+1) (by omega) (by omega)
  cases hh:holF c d with
  | true=>
   rw [hh] at n1 hRj
   obtain rfl:R=true:=hRj.symm
   repeat' (first|refine ZF ?_|refine ZI ?_|refine ZJ ?_|refine ZG ?_|refine ZO ?_|refine ZH ?_|refine ZN ?_|refine ZM (fun b=>?_)|refine ZL (fun b=>?_)|refine ZB ?_|refine ZD ?_|refine Zo (es:=vs) (f:=ivl) j _ hxj (fun b off=>?_)|refine Zq ?_|refine l_inv n1 (fun _ _=>?_)|rw [w1]|(refine ZC (fun hc=>?_) (fun hc=>?_)<;>(try simp at hc)<;>(try omega))|(refine ZE (fun hc=>?_) (fun hc=>?_)<;>(try simp at hc)<;>(try omega)))
   exact Z9 (YH (Zx () rfl trivial))
  | false=>
   rw [hh] at n1 hRj
   repeat' (first|refine ZF ?_|refine ZI ?_|refine ZJ ?_|refine ZG ?_|refine ZO ?_|refine ZH ?_|refine ZN ?_|refine ZM (fun b=>?_)|refine ZL (fun b=>?_)|refine ZB ?_|refine ZD ?_|refine Zo (es:=vs) (f:=ivl) j _ hxj (fun b off=>?_)|refine Zq ?_|refine l_inv n1 (fun _ _=>?_)|rw [w1]|(refine ZC (fun hc=>?_) (fun hc=>?_)<;>(try simp at hc)<;>(try omega))|(refine ZE (fun hc=>?_) (fun hc=>?_)<;>(try simp at hc)<;>(try omega)))
   exact Ze ⟨j+1,by show j+1≤vs.length;omega,hRj⟩ (by show vs.length - (j+1)<vs.length - j;omega) ⟨rfl,rfl,rfl,rfl,trivial⟩
 ·rw [List.drop_eq_nil_of_le (by omega)] at hRj
  obtain rfl:R=false:=hRj.symm
  repeat' (first|refine ZF ?_|refine ZI ?_|refine ZJ ?_|refine ZG ?_|refine ZO ?_|refine ZH ?_|refine ZN ?_|refine ZM (fun b=>?_)|refine ZL (fun b=>?_)|refine ZB ?_|refine ZD ?_|refine ZK ?_|(refine ZC (fun hc=>?_) (fun hc=>?_)<;>(try simp at hc)<;>(try omega))|(refine ZE (fun hc=>?_) (fun hc=>?_)<;>(try simp at hc)<;>(try omega)))
  exact ZR () rfl trivial
set_option maxHeartbeats 4000000 in
theorem all_holds (c:Cq) (l:List Cnd) (hbd:l.length≤1000000) (ih:∀d ∈ l,HoI c d) (o:Option Addr) (cap:Nat) (vs:List IV) (hl:vs.length=l.length):Enters 206∧Spec prog 206 #[.agg #[.slice o vs.length cap],cqa c] [Sl 100 ivl o cap vs,CdsF l (vs.map ivOf),MxL] [] (RetV (.bool (allH c l))):=by
 obtain ⟨R,hR⟩:∃R,allH c l=R:=⟨_,rfl⟩
 rw [hR]
 refine ZS [_,_] func206 ntmps206 fun G w hp=>?_
 repeat' (first|refine ZF ?_|refine ZI ?_|refine ZJ ?_|refine ZG ?_|refine ZO ?_|refine ZH ?_|refine ZN ?_|refine ZM (fun b=>?_)|refine ZL (fun b=>?_)|refine ZB ?_|refine ZD ?_|(refine ZC (fun hc=>?_) (fun hc=>?_)<;>(try simp at hc))|(refine ZE (fun hc=>?_) (fun hc=>?_)<;>(try simp at hc)))
 rename_i b2
 refine Yj (X:={j:Nat // j≤vs.length∧allH c (l.drop j)=R}) (fun j=>[(3,pv0 b),(8,.slice o vs.length cap),(9,.int .i64 (vs.length:Int)),(10,.int .i64 (j.1:Int))]) (fun _=>[Sl 100 ivl o cap vs,CdsF l (vs.map ivOf),MxL]) (fun _=>[Pt b (.cells (cqf c).toArray 26)]) (fun j=>vs.length - j.1) ⟨0,Nat.zero_le _,hR⟩ ⟨rfl,rfl,rfl,rfl,trivial⟩ ?_
 rintro ⟨j,hj,hRj⟩
 dsimp only at hj hRj ⊢
 by_cases hlt:j<vs.length
 ·have hxj:=List.getElem?_eq_getElem hlt
  have hltc:j<l.length:=by omega
  have hcj:=List.getElem?_eq_getElem hltc
  rw [List.drop_eq_getElem_cons hltc] at hRj
  have ihd:=ih _ (List.getElem_mem hltc)
  generalize vs[j]=x at *
  generalize l[j]=d at *
  rw [allH] at hRj
  obtain ⟨T,u⟩:=x
  have n1:=ihd (ivOf (T,u))
  refine Z2 (F1:=[CdsF l (vs.map ivOf)]) (f:=CdF d (ivOf (T,u))) (fun hp hF=>X7 (hF _ (.head _)) hcj (by rw [List.getElem?_map,hxj];rfl)) ?_
  have w1:=wrapi (z:=(j:Int)+1) (by omega) (by omega)
  cases hh:holF c d with
  | false=>
   rw [hh] at n1 hRj
   obtain rfl:R=false:=hRj.symm
   repeat' (first|refine ZF ?_|refine ZI ?_|refine ZJ ?_|refine ZG ?_|refine ZO ?_|refine ZH ?_|refine ZN ?_|refine ZM (fun b=>?_)|refine ZL (fun b=>?_)|refine ZB ?_|refine ZD ?_|refine Zo (es:=vs) (f:=ivl) j _ hxj (fun b off=>?_)|refine Zq ?_|refine l_inv n1 (fun _ _=>?_)|rw [w1]|(refine ZC (fun hc=>?_) (fun hc=>?_)<;>(try simp at hc)<;>(try omega))|(refine ZE (fun hc=>?_) (fun hc=>?_)<;>(try simp at hc)<;>(try omega)))
   exact Z9 (YH (Zx () rfl trivial))
  | true=>
   rw [hh] at n1 hRj
   repeat' (first|refine ZF ?_|refine ZI ?_|refine ZJ ?_|refine ZG ?_|refine ZO ?_|refine ZH ?_|refine ZN ?_|refine ZM (fun b=>?_)|refine ZL (fun b=>?_)|refine ZB ?_|refine ZD ?_|refine Zo (es:=vs) (f:=ivl) j _ hxj (fun b off=>?_)|refine Zq ?_|refine l_inv n1 (fun _ _=>?_)|rw [w1]|(refine ZC (fun hc=>?_) (fun hc=>?_)<;>(try simp at hc)<;>(try omega))|(refine ZE (fun hc=>?_) (fun hc=>?_)<;>(try simp at hc)<;>(try omega)))
   exact Ze ⟨j+1,by show j+1≤vs.length;omega,hRj⟩ (by show vs.length - (j+1)<vs.length - j;omega) ⟨rfl,rfl,rfl,rfl,trivial⟩
 ·rw [List.drop_eq_nil_of_le (by omega)] at hRj
  obtain rfl:R=true:=hRj.symm
  repeat' (first|refine ZF ?_|refine ZI ?_|refine ZJ ?_|refine ZG ?_|refine ZO ?_|refine ZH ?_|refine ZN ?_|refine ZM (fun b=>?_)|refine ZL (fun b=>?_)|refine ZB ?_|refine ZD ?_|refine ZK ?_|(refine ZC (fun hc=>?_) (fun hc=>?_)<;>(try simp at hc)<;>(try omega))|(refine ZE (fun hc=>?_) (fun hc=>?_)<;>(try simp at hc)<;>(try omega)))
  exact ZR () rfl trivial
mutual
theorem W3 (c:Cq) (hc:CqS c) {M:Nat} (hM:M≤100000):∀d:Cnd,WfC d→SzC M d→lv d≤1000000→HoI c d
 | .any l,hw,hz,hv,v=>by
  rw [WfC] at hw;rw [SzC] at hz;rw [lv] at hv
  have hll:=Xj l
  refine YC (X:=Option Addr×Nat×List IV) (Fx:=fun q=>[Sl 100 ivl q.1 q.2.1 q.2.2,CdsF l (q.2.2.map ivOf)]) (p:=fun q=>v = .iface 211 (.agg #[.slice q.1 q.2.2.length q.2.1])∧q.2.2.length=l.length) (fun h hh=>?_) (fun q hq=>?_)
  ·have hh:CdP h (.any l) v:=hh
   rw [CdP] at hh
   obtain ⟨o,cap,vs,h1,h2,h3⟩:=hh
   exact ⟨(o,cap,vs),⟨h1,by have:=Xu h3;simpa using this⟩,fun g hg=>by
    simp only [List.mem_cons,List.not_mem_nil,or_false] at hg
    rcases hg with rfl|rfl
    ·exact h2
    ·exact h3⟩
  ·obtain ⟨rfl,hl⟩:=hq
   rw [holF]
   exact Wi (f:=201) (by intro w;kernel_rfl) (any_holds c l (by omega) (WN c hc hM l hw hz (by omega)) _ _ _ hl)
 | .all l,hw,hz,hv,v=>by
  rw [WfC] at hw;rw [SzC] at hz;rw [lv] at hv
  have hll:=Xj l
  refine YC (X:=Option Addr×Nat×List IV) (Fx:=fun q=>[Sl 100 ivl q.1 q.2.1 q.2.2,CdsF l (q.2.2.map ivOf)]) (p:=fun q=>v = .iface 225 (.agg #[.slice q.1 q.2.2.length q.2.1])∧q.2.2.length=l.length) (fun h hh=>?_) (fun q hq=>?_)
  ·have hh:CdP h (.all l) v:=hh
   rw [CdP] at hh
   obtain ⟨o,cap,vs,h1,h2,h3⟩:=hh
   exact ⟨(o,cap,vs),⟨h1,by have:=Xu h3;simpa using this⟩,fun g hg=>by
    simp only [List.mem_cons,List.not_mem_nil,or_false] at hg
    rcases hg with rfl|rfl
    ·exact h2
    ·exact h3⟩
  ·obtain ⟨rfl,hl⟩:=hq
   rw [holF]
   exact Wi (f:=206) (by intro w;kernel_rfl) (all_holds c l (by omega) (WN c hc hM l hw hz (by omega)) _ _ _ hl)
 | .nt d,hw,hz,hv,v=>by
  rw [WfC] at hw;rw [SzC] at hz;rw [lv] at hv
  refine YC (X:=Value) (Fx:=fun u=>[CdF d u]) (p:=fun u=>v = .iface 223 (.agg #[u])) (fun h hh=>?_) (fun u hq=>?_)
  ·have hh:CdP h (.nt d) v:=hh
   rw [CdP] at hh
   obtain ⟨u,h1,h2⟩:=hh
   exact ⟨u,h1,fun g hg=>by rcases List.mem_singleton.1 hg with rfl;exact h2⟩
  ·subst hq
   rw [holF]
   exact Wi (f:=203) (by intro w;kernel_rfl) (not_holds c d u (W3 c hc hM d hw hz (by omega)))
 | .nul,hw,_,_,_=>by rw [WfC] at hw;exact absurd hw id
 | .kd wd k,_,_,_,v=>by
  refine YC (X:=Nat) (Fx:=fun b=>[Blk b (.cells #[.int .i64 k] 3)]) (p:=fun b=>v=tsv wd 123 #[pv0 b]) (fun h hh=>?_) (fun b hq=>?_)
  ·have hh:CdP h (.kd wd k) v:=hh
   rw [CdP] at hh
   obtain ⟨b,h1,h2⟩:=hh
   exact ⟨b,h1,fun g hg=>by rcases List.mem_singleton.1 hg with rfl;exact h2⟩
  ·subst hq
   rw [holF]
   exact tst_ho ((kind1_ok c b k).imp_right fun h=>specMore h)
 | .ch wd k,_,_,_,v=>by
  refine YC (X:=Nat) (Fx:=fun b=>[Blk b (.cells #[.int .i64 k] 3)]) (p:=fun b=>v=tsv wd 125 #[pv0 b]) (fun h hh=>?_) (fun b hq=>?_)
  ·have hh:CdP h (.ch wd k) v:=hh
   rw [CdP] at hh
   obtain ⟨b,h1,h2⟩:=hh
   exact ⟨b,h1,fun g hg=>by rcases List.mem_singleton.1 hg with rfl;exact h2⟩
  ·subst hq
   rw [holF]
   exact tst_ho ((channel1_ok c b k).imp_right fun h=>specMore h)
 | .tx wd f k s,hw,hz,_,v=>by
  rw [WfC] at hw;rw [SzC] at hz
  refine YC (X:=Nat×Nat×Nat) (Fx:=fun q=>[Blk q.1 (.cells #[cmT k] 116),Blk q.2.1 (.cells #[fdT f] 187),Blk q.2.2 (.cells #[.string s] 9)]) (p:=fun q=>v=tsv wd 130 #[pv0 q.1,pv0 q.2.1,pv0 q.2.2]) (fun h hh=>?_) (fun q hq=>?_)
  ·have hh:CdP h (.tx wd f k s) v:=hh
   rw [CdP] at hh
   obtain ⟨b1,b2,b3,h1,h2,h3,h4⟩:=hh
   exact ⟨(b1,b2,b3),h1,fun g hg=>by
    simp only [List.mem_cons,List.not_mem_nil,or_false] at hg
    rcases hg with rfl|rfl|rfl
    ·exact h2
    ·exact h3
    ·exact h4⟩
  ·subst hq
   rw [holF]
   exact tst_ho (text5_ok c hc f k hw.1 hw.2 _ _ _ s)
 | .nm wd f k n,hw,_,_,v=>by
  rw [WfC] at hw
  refine YC (X:=Nat×Nat×Nat) (Fx:=fun q=>[Blk q.1 (.cells #[cmN k] 37),Blk q.2.1 (.cells #[fdN f] 191),Blk q.2.2 (.cells #[.int .i64 n] 3)]) (p:=fun q=>v=tsv wd 139 #[pv0 q.1,pv0 q.2.1,pv0 q.2.2]) (fun h hh=>?_) (fun q hq=>?_)
  ·have hh:CdP h (.nm wd f k n) v:=hh
   rw [CdP] at hh
   obtain ⟨b1,b2,b3,h1,h2,h3,h4⟩:=hh
   exact ⟨(b1,b2,b3),h1,fun g hg=>by
    simp only [List.mem_cons,List.not_mem_nil,or_false] at hg
    rcases hg with rfl|rfl|rfl
    ·exact h2
    ·exact h3
    ·exact h4⟩
  ·subst hq
   rw [holF]
   exact tst_ho ((number8_ok c f k hw.1 hw.2 _ _ _ n).imp_right fun h=>specMore h)
 | .by_ wd s,_,hz,_,v=>by
  rw [SzC] at hz
  refine YC (X:=Nat) (Fx:=fun b=>[Blk b (.cells #[.string s] 22)]) (p:=fun b=>v=tsv wd 140 #[pv0 b]) (fun h hh=>?_) (fun b hq=>?_)
  ·have hh:CdP h (.by_ wd s) v:=hh
   rw [CdP] at hh
   obtain ⟨b,h1,h2⟩:=hh
   exact ⟨b,h1,fun g hg=>by rcases List.mem_singleton.1 hg with rfl;exact h2⟩
  ·subst hq
   rw [holF]
   exact tst_ho ((by1_ok c hc b s (by omega)).imp_right fun h=>specMore h)
theorem WN (c:Cq) (hc:CqS c) {M:Nat} (hM:M≤100000):∀l:List Cnd,WfCs l→SzCs M l→lvs l≤1000000→∀d ∈ l,HoI c d
 | [],_,_,_=>fun d hd=>by cases hd
 | x::l,hw,hz,hv=>fun d hd=>by
  rw [WfCs] at hw;rw [SzCs] at hz;rw [lvs] at hv
  rcases List.mem_cons.1 hd with hd|hd
  ·exact hd ▸ W3 c hc hM x hw.1 hz.1 (by omega)
  ·exact WN c hc hM l hw.2 hz.2 (by omega) d hd
end
variable {n:Nat} {C:Cx} {Q:Exit→Act→World→Prop} {E E':List (Nat×Value)} {F F' F1 Fs F0:List Pf} {R R' R0 Rs N N' A:List HP} {k k':List Fr} {ops l:List Oper} {L L':List (Nat×Nat)} {Tl:List Nat} {i d:Nat} {t t2 ty0:TypeId} {x y:Operand} {pos:String} {aft:Array Edge} {gd:Option (Nat×Bool)}
section
variable {b:Nat} {td:TypeId}
end
theorem pos_iff (a k:Int):posF a k=true↔((a=1∨a=2)∧(k=2∨k=3))∨(a=3∧(k=3∨k=4))∨(a=4∧k=4)∨(a=5∧(k=2∨k=3∨k=4)):=by
 unfold posF
 split
 ·rw [decide_eq_true_iff];omega
 split
 ·rw [decide_eq_true_iff];omega
 split
 ·rw [decide_eq_true_iff];omega
 split
 ·rw [decide_eq_true_iff];omega
 ·constructor
  ·intro h;cases h
  ·omega
set_option maxHeartbeats 4000000 in
theorem possibleM_ok (a k:Int):Enters 20∧Spec prog 20 #[.int .i64 a,.int .i64 k] [] [] (RetV (.bool (posF a k))):=by
 have hpz:=pos_iff a k
 refine ZS [_,_] func20 ntmps20 fun G w hp=>?_
 repeat' (first|refine ZF ?_|refine ZI ?_|refine ZJ ?_|refine ZG ?_|refine ZO ?_|refine ZH ?_|refine ZN ?_|refine ZM (fun b=>?_)|refine ZL (fun b=>?_)|refine ZB ?_|refine ZD ?_|refine ZK ?_|(refine ZC (fun hc=>?_) (fun hc=>?_)<;>(try simp at hc)<;>(try omega))|(refine ZE (fun hc=>?_) (fun hc=>?_)<;>(try simp at hc)<;>(try omega)))
 all_goals refine ZR () ?_ trivial
 all_goals show Value.bool _=Value.bool _
 all_goals congr 1
 all_goals rw [Bool.eq_iff_iff,hpz]
 all_goals first|(simp;omega)|omega
set_option maxHeartbeats 4000000 in
theorem VA (a k:Int):Enters 19∧Spec prog 19 #[.int .i64 a,.int .i64 k] [] [] (RetV (.bool (posF a k))):=by
 have hpz:=pos_iff a k
 refine ZS [_,_] func19 ntmps19 fun G w hp=>?_
 repeat' (first|refine ZF ?_|refine ZI ?_|refine ZJ ?_|refine ZG ?_|refine ZO ?_|refine ZH ?_|refine ZN ?_|refine ZM (fun b=>?_)|refine ZL (fun b=>?_)|refine ZB ?_|refine ZD ?_|refine ZK ?_|(refine ZC (fun hc=>?_) (fun hc=>?_)<;>(try simp at hc)<;>(try omega))|(refine ZE (fun hc=>?_) (fun hc=>?_)<;>(try simp at hc)<;>(try omega)))
 all_goals refine ZR () ?_ trivial
 all_goals show Value.bool _=Value.bool _
 all_goals congr 1
 all_goals rw [Bool.eq_iff_iff,hpz]
 all_goals first|(simp;omega)|omega
theorem line_holds (c:Cq) (hc:CqS c) {M:Nat} (hM:M≤100000) (x:Ru) (hx:RuOK M x) (i:Option IV):Enters 46∧Spec prog 46 #[ruV i x.a,cqa c] [OcF x.c i,MxL] [] (RetV (.bool (condH c x))):=by
 obtain ⟨xc,xa⟩:=x
 cases xc with
 | none=>
  cases i with
  | none=>
   refine ZS [_,_] func46 ntmps46 fun G w hp=>?_
   repeat' (first|refine l_eqI underlying100 (.inl ⟨rfl,rfl⟩) ?_|refine ZF ?_|refine ZI ?_|refine ZJ ?_|refine ZG ?_|refine ZO ?_|refine ZH ?_|refine ZN ?_|refine ZM (fun b=>?_)|refine ZL (fun b=>?_)|refine ZB ?_|refine ZD ?_|refine ZK ?_|(refine ZC (fun hc=>?_) (fun hc=>?_)<;>(try simp at hc)<;>(try omega))|(refine ZE (fun hc=>?_) (fun hc=>?_)<;>(try simp at hc)<;>(try omega)))
   exact ZR () rfl trivial
  | some iv=>
   refine ⟨enters_of func46 (by kernel_rfl) rfl,fun G w hp hs=>?_⟩
   obtain ⟨hp',hr,st⟩:=hs
   exact absurd (st.f _ (.head _)) id
 | some d=>
  cases i with
  | none=>
   refine ⟨enters_of func46 (by kernel_rfl) rfl,fun G w hp hs=>?_⟩
   obtain ⟨hp',hr,st⟩:=hs
   exact absurd (st.f _ (.head _)) id
  | some iv=>
   obtain ⟨hw,hz,hv⟩:=hx.c d rfl
   have n1:=W3 c hc hM d hw hz (by omega) (ivOf iv)
   have e:condH c ⟨some d,xa⟩=holF c d:=rfl
   rw [e]
   obtain ⟨R,hR⟩:∃R,holF c d=R:=⟨_,rfl⟩
   rw [hR] at n1 ⊢
   obtain ⟨T,u⟩:=iv
   refine ZS [_,_] func46 ntmps46 fun G w hp=>?_
   refine Z2 (F1:=[OcF (some d) (some (T,u))]) (f:=CdF d (ivOf (T,u))) (fun hp hF=>hF _ (.head _)) ?_
   repeat' (first|refine l_eqI underlying100 (.inr ⟨⟨_,_,rfl⟩,rfl⟩) ?_|refine ZF ?_|refine ZI ?_|refine ZJ ?_|refine ZG ?_|refine ZO ?_|refine ZH ?_|refine ZN ?_|refine ZM (fun b=>?_)|refine ZL (fun b=>?_)|refine ZB ?_|refine ZD ?_|refine ZK ?_|refine l_inv n1 (fun _ _=>?_)|(refine ZC (fun hc=>?_) (fun hc=>?_)<;>(try simp at hc)<;>(try omega))|(refine ZE (fun hc=>?_) (fun hc=>?_)<;>(try simp at hc)<;>(try omega)))
   exact ZR () rfl trivial
theorem rls_open {b:Nat} {l:List Ru} (h:H) (hh:(RlsF b l).p h):∃q:List RI×Option Addr×Nat,q.1.length=l.length∧∀g ∈ [Blk b (.cells #[.slice q.2.1 q.1.length q.2.2] 95),Sl 102 rul q.2.1 q.2.2 q.1,RusF l q.1],g.p h:=by
 obtain ⟨xs,o,cap,h1,h2,h3⟩:=hh
 refine ⟨(xs,o,cap),rusP_len h3,fun g hg=>?_⟩
 simp only [List.mem_cons,List.not_mem_nil,or_false] at hg
 rcases hg with rfl|rfl|rfl
 ·exact h1
 ·exact h2
 ·exact h3
theorem Yk (b:Nat) (l:List Ru):Enters 23∧Spec prog 23 #[pv0 b] [RlsF b l] [] (RetV (.int .i64 (l.length:Nat))):=by
 refine ZS [_] func23 ntmps23 fun G w hp=>?_
 refine Xa (X:=List RI×Option Addr×Nat) (f:=RlsF b l) .here rls_open (fun q hq=>?_)
 obtain ⟨xs,o,cap⟩:=q
 dsimp only at hq ⊢
 rw [←hq]
 repeat' (first|refine ZF ?_|refine ZI ?_|refine ZJ ?_|refine ZG ?_|refine ZO ?_|refine ZH ?_|refine ZN ?_|refine ZM (fun b=>?_)|refine ZL (fun b=>?_)|refine ZB ?_|refine ZD ?_|refine ZK ?_|(refine ZC (fun hc=>?_) (fun hc=>?_)<;>(try simp at hc)<;>(try omega))|(refine ZE (fun hc=>?_) (fun hc=>?_)<;>(try simp at hc)<;>(try omega)))
 exact ZR () rfl trivial
def hoV (l:List Ru) (i:Int) (c:Cq):Value:=match (if 0≤i then l[i.toNat]? else none) with
 | some x=>.tuple #[.bool (condH c x),.int .i64 0]
 | none=>.tuple #[.bool false,.int .i64 2]
set_option maxHeartbeats 4000000 in
theorem Xc (b:Nat) (l:List Ru) (i:Int) (c:Cq) (hs:CqS c) {M:Nat} (hM:M≤100000) (hl:∀x ∈ l,RuOK M x):Enters 25∧Spec prog 25 #[pv0 b,.int .i64 i,cqa c] [RlsF b l,MxL] [] (RetV (hoV l i c)):=by
 have n1:=Yk b l
 obtain ⟨V,hV⟩:∃V,hoV l i c=V:=⟨_,rfl⟩
 rw [hV]
 unfold hoV at hV
 by_cases hi:0≤i∧i<(l.length:Int)
 ·obtain ⟨j,rfl⟩:∃j:Nat,i=(j:Int):=⟨i.toNat,by omega⟩
  have hlt:j<l.length:=by omega
  have hxj:=List.getElem?_eq_getElem hlt
  rw [if_pos (by omega),Int.toNat_natCast,hxj] at hV
  dsimp only at hV
  have hx:=hl _ (List.getElem_mem hlt)
  generalize l[j]=x at *
  subst hV
  refine ZS [_,_,_] func25 ntmps25 fun G w hp=>?_
  refine Xa (X:=List RI×Option Addr×Nat) (f:=RlsF b l) .here rls_open (fun q hq=>?_)
  obtain ⟨xs,o,cap⟩:=q
  dsimp only at hq ⊢
  have hyj:=List.getElem?_eq_getElem (show j<xs.length by omega)
  generalize xs[j]=y at *
  obtain ⟨iv,a⟩:=y
  refine Xa (X:=Unit) (Fx:=fun _=>[OcF x.c iv]) (p:=fun _=>x.a=a) (f:=RusF l xs) (.there (.there .here)) (fun h hh=>?_) (fun _ ha=>?_)
  ·obtain ⟨g1,g2⟩:=rusP_get (show RusP h l xs from hh) hxj hyj
   exact ⟨(),g2,fun g hg=>by rcases List.mem_singleton.1 hg with rfl;exact g1⟩
  subst ha
  have n2:=line_holds c hs hM x hx iv
  repeat' (first|refine ZF ?_|refine ZI ?_|refine ZJ ?_|refine ZG ?_|refine ZO ?_|refine ZH ?_|refine ZN ?_|refine ZM (fun b=>?_)|refine ZL (fun b=>?_)|refine ZB ?_|refine ZD ?_|refine ZK ?_|refine Za ?_|refine ZX ?_|refine Zh ?_|refine Zb ?_|refine ZY ?_|refine Zg (fun b=>?_)|refine Zi (fun b=>?_)|refine Zj ?_|refine ZZ ?_|refine ZA (n1) (fun _ _=>?_)|refine l_call0 (n1) (fun _ _=>?_)|refine ZQ (n1) (fun _ _=>?_)|refine ZA (n2) (fun _ _=>?_)|refine l_call0 (n2) (fun _ _=>?_)|refine ZQ (n2) (fun _ _=>?_)|refine r_ixe (es:=xs) (f:=rul) j _ hyj (fun b off=>?_)|refine r_ldC ?_|(refine ZC (fun hc=>?_) (fun hc=>?_)<;>(try simp at hc)<;>(try omega))|(refine ZU (fun hc=>?_) (fun hc=>?_)<;>(try simp at hc)<;>(try omega))|refine ZT 3 [] [(0,0),(1,0),(2,0),(3,0),(4,0),(5,0),(6,0),(7,0),(8,4),(9,0),(10,0)] [] ?_|(refine ZE (fun hc=>?_) (fun hc=>?_)<;>(try simp at hc)<;>(try omega)))
  exact ZR () rfl trivial
 ·have hn:(if 0≤i then l[i.toNat]? else none)=none:=by
   split
   ·rw [List.getElem?_eq_none_iff];omega
   ·rfl
  rw [hn] at hV
  dsimp only at hV
  subst hV
  refine ZS [_,_,_] func25 ntmps25 fun G w hp=>?_
  repeat' (first|refine ZF ?_|refine ZI ?_|refine ZJ ?_|refine ZG ?_|refine ZO ?_|refine ZH ?_|refine ZN ?_|refine ZM (fun b=>?_)|refine ZL (fun b=>?_)|refine ZB ?_|refine ZD ?_|refine ZK ?_|refine Za ?_|refine ZX ?_|refine Zh ?_|refine Zb ?_|refine ZY ?_|refine Zg (fun b=>?_)|refine Zi (fun b=>?_)|refine Zj ?_|refine ZZ ?_|refine ZA (n1) (fun _ _=>?_)|refine l_call0 (n1) (fun _ _=>?_)|refine ZQ (n1) (fun _ _=>?_)|(refine ZC (fun hc=>?_) (fun hc=>?_)<;>(try simp at hc)<;>(try omega))|(refine ZU (fun hc=>?_) (fun hc=>?_)<;>(try simp at hc)<;>(try omega))|refine ZT 3 [] [(0,0),(1,0),(2,0),(3,0),(4,0),(5,0),(6,0),(7,0),(8,4),(9,0),(10,0)] [] ?_|(refine ZE (fun hc=>?_) (fun hc=>?_)<;>(try simp at hc)<;>(try omega)))
  all_goals exact ZR () rfl trivial
abbrev DeV (r:Ac×Int):Value:=.tuple #[acV r.1,.int .i64 r.2]
set_option maxHeartbeats 4000000 in
theorem X3 (bp:Nat) (l:List Ru) (c:Cq) (hc:CqI c) (hs:CqS c) {M:Nat} (hM:M≤70000) (hl:∀x ∈ l,RuOK M x) (hn:l.length≤256):Enters 22∧Spec prog 22 #[pv0 bp,cqa c] [RlsF bp l,P10,MxL] [] (RetV (DeV (decideF l c))):=by
 have n1:=Yk bp l
 have m1:=VA 5 c.kind
 obtain ⟨V,hV⟩:∃V,DeV (decideF l c)=V:=⟨_,rfl⟩
 rw [hV]
 cases hp:posF 5 c.kind with
 | false=>
  rw [hp] at m1
  unfold decideF at hV
  rw [if_pos hp] at hV
  subst hV
  refine ZS [_,_] func22 ntmps22 fun G w hp=>?_
  repeat' (first|refine ZF ?_|refine ZI ?_|refine ZJ ?_|refine ZG ?_|refine ZO ?_|refine ZH ?_|refine ZN ?_|refine ZM (fun b=>?_)|refine ZL (fun b=>?_)|refine ZB ?_|refine ZD ?_|refine ZK ?_|refine ZA (m1) (fun _ _=>?_)|refine l_call0 (m1) (fun _ _=>?_)|(refine ZC (fun hc=>?_) (fun hc=>?_)<;>(try simp at hc)<;>(try omega))|(refine ZE (fun hc=>?_) (fun hc=>?_)<;>(try simp at hc)<;>(try omega)))
  all_goals exact ZR () rfl trivial
 | true=>
  rw [hp] at m1
  unfold decideF at hV
  rw [if_neg (by rw [hp];decide)] at hV
  refine ZS [_,_] func22 ntmps22 fun G w hp=>?_
  refine Xa (X:=List RI×Option Addr×Nat) (f:=RlsF bp l) .here rls_open (fun q hq=>?_)
  obtain ⟨xs,o,cap⟩:=q
  dsimp only at hq ⊢
  repeat' (first|refine ZF ?_|refine ZI ?_|refine ZJ ?_|refine ZG ?_|refine ZO ?_|refine ZH ?_|refine ZN ?_|refine ZM (fun b=>?_)|refine ZL (fun b=>?_)|refine ZB ?_|refine ZD ?_|refine ZA (m1) (fun _ _=>?_)|refine l_call0 (m1) (fun _ _=>?_)|refine ZA (n1) (fun _ _=>?_)|refine l_call0 (n1) (fun _ _=>?_)|(refine ZC (fun hc=>?_) (fun hc=>?_)<;>(try simp at hc)<;>(try omega))|(refine ZE (fun hc=>?_) (fun hc=>?_)<;>(try simp at hc)<;>(try omega)))
  rename_i b3 _ _ _ _
  generalize b=b4 at *
  refine Yj (X:={j:Nat // j≤l.length∧DeV (decF c (l.drop j) j)=V}) (fun j=>[(0,pv0 bp),(3,pv0 b3),(4,pv0 b4),(16,.int .i64 (l.length:Int)),(17,.int .i64 (j.1:Int))]) (fun _=>[Blk bp (.cells #[.slice o xs.length cap] 95),Sl 102 rul o cap xs,RusF l xs,P10,MxL]) (fun _=>[Pt b3 (.cells (cqf c).toArray 26),Pt b4 (.cells #[.int .i64 0,.string ⟨#[]⟩] 43)]) (fun j=>l.length - j.1) ⟨0,Nat.zero_le _,hV⟩ ⟨rfl,rfl,rfl,rfl,rfl,trivial⟩ ?_
  rintro ⟨j,hj,hR⟩
  dsimp only at hj hR ⊢
  by_cases hlt:j<l.length
  ·have hxj:=List.getElem?_eq_getElem hlt
   rw [List.drop_eq_getElem_cons hlt] at hR
   have hx:=hl _ (List.getElem_mem hlt)
   generalize l[j]=x at *
   rw [decF] at hR
   have hyj:=List.getElem?_eq_getElem (show j<xs.length by omega)
   generalize xs[j]=y at *
   obtain ⟨iv,a⟩:=y
   have w1:=wrapi (z:=(j:Int)+1) (by omega) (by omega)
   refine Xa (X:=Unit) (Fx:=fun _=>[OcF x.c iv]) (p:=fun _=>x.a=a) (f:=RusF l xs) (.there (.there .here)) (fun h hh=>?_) (fun _ ha=>?_)
   ·obtain ⟨g1,g2⟩:=rusP_get (show RusP h l xs from hh) hxj hyj
    exact ⟨(),g2,fun g hg=>by rcases List.mem_singleton.1 hg with rfl;exact g1⟩
   subst ha
   have m2:=VA x.a.k c.kind
   have m3:=line_holds c hs (show M≤100000 by omega) x hx iv
   have m4:=ruSize_ok x.a.t c (by have:=hx.t;omega) hc (by have:=exp_sz hx.t hs hc;have:(M+1) * (M+5000)≤70001 * 75000:=Nat.mul_le_mul (by omega) (by omega);omega)
   cases hpo:posF x.a.k c.kind with
   | false=>
    rw [if_pos (.inl hpo)] at hR
    rw [hpo] at m2
    rcases iv with _|⟨T,u⟩
    ·repeat' (first|refine ZF ?_|refine ZI ?_|refine ZJ ?_|refine ZG ?_|refine ZO ?_|refine ZH ?_|refine ZN ?_|refine ZM (fun b=>?_)|refine ZL (fun b=>?_)|refine ZB ?_|refine ZD ?_|refine ZA (m2) (fun _ _=>?_)|refine l_call0 (m2) (fun _ _=>?_)|refine ZA (m3) (fun _ _=>?_)|refine l_call0 (m3) (fun _ _=>?_)|refine ZA (m4) (fun _ _=>?_)|refine l_call0 (m4) (fun _ _=>?_)|refine Zo (es:=xs) (f:=rul) j _ hyj (fun b off=>?_)|refine Zq ?_|rw [w1]|(refine ZC (fun hc=>?_) (fun hc=>?_)<;>(try simp at hc)<;>(try omega))|(refine ZE (fun hc=>?_) (fun hc=>?_)<;>(try simp at hc)<;>(try omega)))
     all_goals exact Ze ⟨j+1,by show j+1≤l.length;omega,hR⟩ (by show l.length - (j+1)<l.length - j;omega) ⟨rfl,rfl,rfl,rfl,rfl,trivial⟩
    ·repeat' (first|refine ZF ?_|refine ZI ?_|refine ZJ ?_|refine ZG ?_|refine ZO ?_|refine ZH ?_|refine ZN ?_|refine ZM (fun b=>?_)|refine ZL (fun b=>?_)|refine ZB ?_|refine ZD ?_|refine ZA (m2) (fun _ _=>?_)|refine l_call0 (m2) (fun _ _=>?_)|refine ZA (m3) (fun _ _=>?_)|refine l_call0 (m3) (fun _ _=>?_)|refine ZA (m4) (fun _ _=>?_)|refine l_call0 (m4) (fun _ _=>?_)|refine Zo (es:=xs) (f:=rul) j _ hyj (fun b off=>?_)|refine Zq ?_|rw [w1]|(refine ZC (fun hc=>?_) (fun hc=>?_)<;>(try simp at hc)<;>(try omega))|(refine ZE (fun hc=>?_) (fun hc=>?_)<;>(try simp at hc)<;>(try omega)))
     all_goals exact Ze ⟨j+1,by show j+1≤l.length;omega,hR⟩ (by show l.length - (j+1)<l.length - j;omega) ⟨rfl,rfl,rfl,rfl,rfl,trivial⟩
   | true=>
    rw [hpo] at m2
    cases hh:condH c x with
    | false=>
     rw [if_pos (.inr hh)] at hR
     rw [hh] at m3
     rcases iv with _|⟨T,u⟩
     ·repeat' (first|refine ZF ?_|refine ZI ?_|refine ZJ ?_|refine ZG ?_|refine ZO ?_|refine ZH ?_|refine ZN ?_|refine ZM (fun b=>?_)|refine ZL (fun b=>?_)|refine ZB ?_|refine ZD ?_|refine ZA (m2) (fun _ _=>?_)|refine l_call0 (m2) (fun _ _=>?_)|refine ZA (m3) (fun _ _=>?_)|refine l_call0 (m3) (fun _ _=>?_)|refine ZA (m4) (fun _ _=>?_)|refine l_call0 (m4) (fun _ _=>?_)|refine Zo (es:=xs) (f:=rul) j _ hyj (fun b off=>?_)|refine Zq ?_|rw [w1]|(refine ZC (fun hc=>?_) (fun hc=>?_)<;>(try simp at hc)<;>(try omega))|(refine ZE (fun hc=>?_) (fun hc=>?_)<;>(try simp at hc)<;>(try omega)))
      all_goals exact Ze ⟨j+1,by show j+1≤l.length;omega,hR⟩ (by show l.length - (j+1)<l.length - j;omega) ⟨rfl,rfl,rfl,rfl,rfl,trivial⟩
     ·repeat' (first|refine ZF ?_|refine ZI ?_|refine ZJ ?_|refine ZG ?_|refine ZO ?_|refine ZH ?_|refine ZN ?_|refine ZM (fun b=>?_)|refine ZL (fun b=>?_)|refine ZB ?_|refine ZD ?_|refine ZA (m2) (fun _ _=>?_)|refine l_call0 (m2) (fun _ _=>?_)|refine ZA (m3) (fun _ _=>?_)|refine l_call0 (m3) (fun _ _=>?_)|refine ZA (m4) (fun _ _=>?_)|refine l_call0 (m4) (fun _ _=>?_)|refine Zo (es:=xs) (f:=rul) j _ hyj (fun b off=>?_)|refine Zq ?_|rw [w1]|(refine ZC (fun hc=>?_) (fun hc=>?_)<;>(try simp at hc)<;>(try omega))|(refine ZE (fun hc=>?_) (fun hc=>?_)<;>(try simp at hc)<;>(try omega)))
      all_goals exact Ze ⟨j+1,by show j+1≤l.length;omega,hR⟩ (by show l.length - (j+1)<l.length - j;omega) ⟨rfl,rfl,rfl,rfl,rfl,trivial⟩
    | true=>
     rw [if_neg (fun h=>h.elim (fun h=>by rw [hpo] at h;cases h) (fun h=>by rw [hh] at h;cases h))] at hR
     rw [hh] at m3
     by_cases hk:x.a.k=2
     ·rw [if_neg (fun h=>h hk)] at hR
      by_cases hz:4096<(expF x.a.t c).size
      ·rw [if_pos hz] at hR
       subst hR
       rcases iv with _|⟨T,u⟩
       ·repeat' (first|refine ZF ?_|refine ZI ?_|refine ZJ ?_|refine ZG ?_|refine ZO ?_|refine ZH ?_|refine ZN ?_|refine ZM (fun b=>?_)|refine ZL (fun b=>?_)|refine ZB ?_|refine ZD ?_|refine ZK ?_|refine ZA (m2) (fun _ _=>?_)|refine l_call0 (m2) (fun _ _=>?_)|refine ZA (m3) (fun _ _=>?_)|refine l_call0 (m3) (fun _ _=>?_)|refine ZA (m4) (fun _ _=>?_)|refine l_call0 (m4) (fun _ _=>?_)|refine Zo (es:=xs) (f:=rul) j _ hyj (fun b off=>?_)|refine Zq ?_|rw [w1]|(refine ZC (fun hc=>?_) (fun hc=>?_)<;>(try simp at hc)<;>(try omega))|(refine ZE (fun hc=>?_) (fun hc=>?_)<;>(try simp at hc)<;>(try omega)))
        all_goals exact ZR () rfl trivial
       ·repeat' (first|refine ZF ?_|refine ZI ?_|refine ZJ ?_|refine ZG ?_|refine ZO ?_|refine ZH ?_|refine ZN ?_|refine ZM (fun b=>?_)|refine ZL (fun b=>?_)|refine ZB ?_|refine ZD ?_|refine ZK ?_|refine ZA (m2) (fun _ _=>?_)|refine l_call0 (m2) (fun _ _=>?_)|refine ZA (m3) (fun _ _=>?_)|refine l_call0 (m3) (fun _ _=>?_)|refine ZA (m4) (fun _ _=>?_)|refine l_call0 (m4) (fun _ _=>?_)|refine Zo (es:=xs) (f:=rul) j _ hyj (fun b off=>?_)|refine Zq ?_|rw [w1]|(refine ZC (fun hc=>?_) (fun hc=>?_)<;>(try simp at hc)<;>(try omega))|(refine ZE (fun hc=>?_) (fun hc=>?_)<;>(try simp at hc)<;>(try omega)))
        all_goals exact ZR () rfl trivial
      ·rw [if_neg hz] at hR
       have m5:=ruExpand_ok x.a.t c (by have:=hx.t;omega) hc (by omega)
       rw [hx.a.2.2.1 hk] at m5
       have hR':DeV (⟨2,expF x.a.t c⟩,(j:Int))=V:=hR
       subst hR'
       rcases iv with _|⟨T,u⟩
       ·repeat' (first|refine ZF ?_|refine ZI ?_|refine ZJ ?_|refine ZG ?_|refine ZO ?_|refine ZH ?_|refine ZN ?_|refine ZM (fun b=>?_)|refine ZL (fun b=>?_)|refine ZB ?_|refine ZD ?_|refine ZA (m2) (fun _ _=>?_)|refine l_call0 (m2) (fun _ _=>?_)|refine ZA (m3) (fun _ _=>?_)|refine l_call0 (m3) (fun _ _=>?_)|refine ZA (m4) (fun _ _=>?_)|refine l_call0 (m4) (fun _ _=>?_)|refine ZA (m5) (fun _ _=>?_)|refine l_call0 (m5) (fun _ _=>?_)|refine Zo (es:=xs) (f:=rul) j _ hyj (fun b off=>?_)|refine Zq ?_|rw [w1]|(refine ZC (fun hc=>?_) (fun hc=>?_)<;>(try simp at hc)<;>(try omega))|(refine ZE (fun hc=>?_) (fun hc=>?_)<;>(try simp at hc)<;>(try omega)))
        all_goals exact Z9 (YH (Zx () rfl trivial))
       ·repeat' (first|refine ZF ?_|refine ZI ?_|refine ZJ ?_|refine ZG ?_|refine ZO ?_|refine ZH ?_|refine ZN ?_|refine ZM (fun b=>?_)|refine ZL (fun b=>?_)|refine ZB ?_|refine ZD ?_|refine ZA (m2) (fun _ _=>?_)|refine l_call0 (m2) (fun _ _=>?_)|refine ZA (m3) (fun _ _=>?_)|refine l_call0 (m3) (fun _ _=>?_)|refine ZA (m4) (fun _ _=>?_)|refine l_call0 (m4) (fun _ _=>?_)|refine ZA (m5) (fun _ _=>?_)|refine l_call0 (m5) (fun _ _=>?_)|refine Zo (es:=xs) (f:=rul) j _ hyj (fun b off=>?_)|refine Zq ?_|rw [w1]|(refine ZC (fun hc=>?_) (fun hc=>?_)<;>(try simp at hc)<;>(try omega))|(refine ZE (fun hc=>?_) (fun hc=>?_)<;>(try simp at hc)<;>(try omega)))
        all_goals exact Z9 (YH (Zx () rfl trivial))
     ·rw [if_pos hk] at hR
      subst hR
      rcases iv with _|⟨T,u⟩
      ·repeat' (first|refine ZF ?_|refine ZI ?_|refine ZJ ?_|refine ZG ?_|refine ZO ?_|refine ZH ?_|refine ZN ?_|refine ZM (fun b=>?_)|refine ZL (fun b=>?_)|refine ZB ?_|refine ZD ?_|refine ZA (m2) (fun _ _=>?_)|refine l_call0 (m2) (fun _ _=>?_)|refine ZA (m3) (fun _ _=>?_)|refine l_call0 (m3) (fun _ _=>?_)|refine ZA (m4) (fun _ _=>?_)|refine l_call0 (m4) (fun _ _=>?_)|refine Zo (es:=xs) (f:=rul) j _ hyj (fun b off=>?_)|refine Zq ?_|rw [w1]|(refine ZC (fun hc=>?_) (fun hc=>?_)<;>(try simp at hc)<;>(try omega))|(refine ZE (fun hc=>?_) (fun hc=>?_)<;>(try simp at hc)<;>(try omega)))
       all_goals exact Z9 (YH (Zx () rfl trivial))
      ·repeat' (first|refine ZF ?_|refine ZI ?_|refine ZJ ?_|refine ZG ?_|refine ZO ?_|refine ZH ?_|refine ZN ?_|refine ZM (fun b=>?_)|refine ZL (fun b=>?_)|refine ZB ?_|refine ZD ?_|refine ZA (m2) (fun _ _=>?_)|refine l_call0 (m2) (fun _ _=>?_)|refine ZA (m3) (fun _ _=>?_)|refine l_call0 (m3) (fun _ _=>?_)|refine ZA (m4) (fun _ _=>?_)|refine l_call0 (m4) (fun _ _=>?_)|refine Zo (es:=xs) (f:=rul) j _ hyj (fun b off=>?_)|refine Zq ?_|rw [w1]|(refine ZC (fun hc=>?_) (fun hc=>?_)<;>(try simp at hc)<;>(try omega))|(refine ZE (fun hc=>?_) (fun hc=>?_)<;>(try simp at hc)<;>(try omega)))
       all_goals exact Z9 (YH (Zx () rfl trivial))
  ·rw [List.drop_eq_nil_of_le (by omega)] at hR
   subst hR
   repeat' (first|refine ZF ?_|refine ZI ?_|refine ZJ ?_|refine ZG ?_|refine ZO ?_|refine ZH ?_|refine ZN ?_|refine ZM (fun b=>?_)|refine ZL (fun b=>?_)|refine ZB ?_|refine ZD ?_|refine ZK ?_|(refine ZC (fun hc=>?_) (fun hc=>?_)<;>(try simp at hc)<;>(try omega))|(refine ZE (fun hc=>?_) (fun hc=>?_)<;>(try simp at hc)<;>(try omega)))
   exact ZR () rfl trivial
def eqA:List Nat:=[43]
theorem eqA_ok:eqA.all chkE=true:=by decide +kernel
section
variable {xs ys:Array Value}
theorem l_seqA {b:Bool} (nx:Wl n C ops.toArray k Q l ((d,.bool b)::E) F R) (hw:wantL ops E ⟨some d,.binOp .eql t x y t2,ty0,pos,aft,gd⟩=some true:=by rfl) (hn:Nat.blt d n=true:=by rfl)
  (hx:ev E x=some (.agg xs):=by rfl) (hy:ev E y=some (.agg ys):=by rfl) (hm:memN eqA t=true:=by rfl) (he:eqC eqA 20 t (.agg xs) (.agg ys)=some b:=by rfl):Wl n C ops.toArray k Q (⟨some d,.binOp .eql t x y t2,ty0,pos,aft,gd⟩::l) E F R:=
 l_q (fun a w ha=>by
  have hc:=List.all_eq_true.1 eqA_ok t (memN_mem hm)
  simp only [chkE,Bool.and_eq_true,beq_iff_eq] at hc
  have h1:=eqC_ok eqA_ok 20 10000 t _ _ b w (by omega) he
  simp only [execOp,ha.ev (x:=x) (by rw [ZP];exact hx),ha.ev (x:=y) (by rw [ZP];exact hy),Sem.run_bind,run_eqGuard_agg w .eql t x y xs ys hc.2,Result.andThen,run_eql_struct,h1,Sem.run_pure]) nx (by intro c h;cases h) hw hn
end
theorem kc_i:CqI kc1∧CqI kc2∧CqI kc3:=by refine ⟨?_,?_,?_⟩<;>constructor<;>decide
theorem kc_s:CqS kc1∧CqS kc2∧CqS kc3:=by refine ⟨?_,?_,?_⟩<;>constructor<;>decide
set_option maxHeartbeats 4000000 in
theorem known51_ok:Enters 17∧Spec prog 17 #[] [ErA,P10,MxL] [] (RetV (.bool true)):=by
 have n1:=XR knS (by decide)
 rw [kn_par] at n1
 obtain ⟨h1,h2⟩:=par_ok kn_par
 have hz:knS.size≤70000:=by decide
 have d1:=fun b=>X3 b knL kc1 kc_i.1 kc_s.1 hz h2 h1
 have d2:=fun b=>X3 b knL kc2 kc_i.2.1 kc_s.2.1 hz h2 h1
 have d3:=fun b=>X3 b knL kc3 kc_i.2.2 kc_s.2.2 hz h2 h1
 rw [kn_1] at d1;rw [kn_2] at d2;rw [kn_3] at d3
 have l1:=fun b=>Yk b knL
 rw [show knL.length=3 from rfl] at l1
 generalize knL=l at *
 have bX:(knX.toList == (⟨#[80,108,101,97,115,101,32,105,103,110,111,114,101,32,116,104,101,32,109,97,105,108,32,116,111,32,97,64,98,46]⟩:ByteArray).toList)=true:=beqT rfl
 refine ZS [] func17 ntmps17 fun G w hp=>?_
 repeat' (first|rw [bX]|refine ZF ?_|refine ZI ?_|refine ZJ ?_|refine ZG ?_|refine ZO ?_|refine ZH ?_|refine ZN ?_|refine ZM (fun b=>?_)|refine ZL (fun b=>?_)|refine ZB ?_|refine ZD ?_|refine ZK ?_|refine ZA (n1) (fun _ _=>?_)|refine l_call0 (n1) (fun _ _=>?_)|refine ZA (l1 _) (fun _ _=>?_)|refine l_call0 (l1 _) (fun _ _=>?_)|refine ZA (d1 _) (fun _ _=>?_)|refine l_call0 (d1 _) (fun _ _=>?_)|refine ZA (d2 _) (fun _ _=>?_)|refine l_call0 (d2 _) (fun _ _=>?_)|refine ZA (d3 _) (fun _ _=>?_)|refine l_call0 (d3 _) (fun _ _=>?_)|refine l_seqA ?_|(refine ZC (fun hc=>?_) (fun hc=>?_)<;>(try simp at hc)<;>(try omega))|(refine ZE (fun hc=>?_) (fun hc=>?_)<;>(try simp at hc)<;>(try omega)))
 all_goals exact ZR () rfl trivial
variable {z:Operand}
section
variable {y2:Operand}
end
theorem blk_sl {α:Type} {b:Nat} {cs:Array Value} {T U:Nat} {f:α→List Value} {es:List α} {cap:Nat} {h:H} (hb:(Blk b (.cells cs U)).p h) (e:cs.toList=es.flatMap f) (hc:es.length≤cap):(Sl T f (some ⟨b,0,none⟩) cap es).p h:=
 ⟨hc,.inr ⟨b,cs,(U,0,0),[],[],rfl,hb,by rw [e];simp⟩⟩
def tmZ (o:Option Nat):Value:=match o with
 | none=>.int .i64 (-1)
 | some i=>.int .i64 (i:Int)
abbrev skl (s:ByteArray):List Value:=[.string s]
def fldP (r:List UInt8) (j:Nat):Nat:=(wFlds.take j).foldl (fun n w=>if (w.data.toList++[125]).isPrefixOf r then w.size+1 else n) 0
section
variable {n:Nat} {C:Cx} {Q:Exit→Act→World→Prop} {E E':List (Nat×Value)} {F F' F1 Fs F0:List Pf} {R R' R0 Rs N N' A:List HP} {k k':List Fr} {ops l:List Oper} {L L':List (Nat×Nat)} {Tl:List Nat} {i d:Nat} {t ty0:TypeId} {x y z:Operand} {pos:String} {aft:Array Edge} {gd:Option (Nat×Bool)} {α β:Type} [DecidableEq α] {K:α→Value} {V:β→Value}
end
def clmp (a:Int):Int:=if a < -1099511627776 then -1099511627776 else a
def shO (o:Ou):Ou:=⟨clmp o.ch,cutS o.tg 80,cutS o.tx 3000,clmp o.us⟩
def shF (c:Cq):Cq:=⟨c.kind,cutS c.who 80,clmp c.nu,c.place,shO c.old,clmp c.oldAt,shO c.new,clmp c.newAt⟩
theorem shF_s (c:Cq):CqS (shF c):=by
 constructor
 ·exact Nat.le_trans (YV _ _) (by omega)
 ·exact Nat.le_trans (YV _ _) (by omega)
 ·exact Nat.le_trans (YV _ _) (by omega)
 ·exact Nat.le_trans (YV _ _) (by omega)
 ·exact Nat.le_trans (YV _ _) (by omega)
structure CqW (c:Cq):Prop where
 nu:c.nu≤9223372036854775807
 ou:c.old.us≤9223372036854775807
 oa:c.oldAt≤9223372036854775807
 eu:c.new.us≤9223372036854775807
 ea:c.newAt≤9223372036854775807
structure CqJ (c:Cq):Prop where
 i:CqI c
 n0 : -1099511627776≤c.nu
 u0 : -1099511627776≤(subO c).us
 t0 : -1099511627776≤subT c
def shP (j:Nat) (c:Cq):Cq:=match j with
 | 0=>c
 | 1=>{c with old:=shO c.old}
 | _=>{c with old:=shO c.old,new:=shO c.new}
set_option maxHeartbeats 4000000 in
theorem shortM_ok (c:Cq):Enters 13∧Spec prog 13 #[cqa c] [] [] (RetV (cqa (shF c))):=by
 refine ZS [_] func13 ntmps13 fun G w hp=>?_
 repeat' (first|refine ZF ?_|refine ZI ?_|refine ZJ ?_|refine ZG ?_|refine ZO ?_|refine ZH ?_|refine ZN ?_|refine ZM (fun b=>?_)|refine ZL (fun b=>?_)|refine ZB ?_|refine ZD ?_|(refine ZC (fun hc=>?_) (fun hc=>?_)<;>(try simp at hc))|(refine ZE (fun hc=>?_) (fun hc=>?_)<;>(try simp at hc)))
 rename_i b1 b2
 refine Ym (b:=b) (o:=.cells #[.pointer (some ⟨b1,4,none⟩),.pointer (some ⟨b1,9,none⟩)] 75) ?_
 refine Z2 (F1:=[Blk b (.cells #[.pointer (some ⟨b1,4,none⟩),.pointer (some ⟨b1,9,none⟩)] 75)]) (f:=Sl 75 (fun v:Value=>[v]) (some ⟨b,0,none⟩) 2 [.pointer (some ⟨b1,4,none⟩),.pointer (some ⟨b1,9,none⟩)]) (fun hp hF=>blk_sl (hF _ (.head _)) rfl (Nat.le_refl 2)) ?_
 refine Yj (X:={j:Nat // j≤2}) (fun j=>[(1,pv0 b1),(2,pv0 b2),(7,.slice (some ⟨b,0,none⟩) 2 2),(8,.int .i64 2),(9,.int .i64 (j.1:Int))]) (fun _=>[Sl 75 (fun v:Value=>[v]) (some ⟨b,0,none⟩) 2 [.pointer (some ⟨b1,4,none⟩),.pointer (some ⟨b1,9,none⟩)]]) (fun j=>[Pt b2 (.cells (cqf cq0).toArray 26),Pt b1 (.cells (cqf (shP j.1 c)).toArray 26)]) (fun j=>2 - j.1) ⟨0,by omega⟩ ⟨rfl,rfl,rfl,rfl,rfl,trivial⟩ ?_
 rintro ⟨j,hj⟩
 dsimp only
 by_cases h0:j=0
 ·subst h0
  repeat' (first|refine ZF ?_|refine ZI ?_|refine ZJ ?_|refine ZG ?_|refine ZO ?_|refine ZH ?_|refine ZN ?_|refine ZM (fun b=>?_)|refine ZL (fun b=>?_)|refine ZB ?_|refine ZD ?_|refine Za ?_|refine ZX ?_|refine Zh ?_|refine Zb ?_|refine ZY ?_|refine Zg (fun b=>?_)|refine Zi (fun b=>?_)|refine Zj ?_|refine ZZ ?_|refine Zo (es:=[Value.pointer (some ⟨b1,4,none⟩),.pointer (some ⟨b1,9,none⟩)]) (f:=fun v:Value=>[v]) 0 _ rfl (fun b off=>?_)|refine Zq ?_|refine r_cutS 80 ?_|refine r_cutS 3000 ?_|refine r_up ?_|(refine ZC (fun hc=>?_) (fun hc=>?_)<;>(try simp at hc)<;>(try omega))|(refine ZU (fun hc=>?_) (fun hc=>?_)<;>(try simp at hc)<;>(try omega))|refine ZT 4 [Pt b1 _] [(0,0),(1,0),(2,0),(3,0),(4,0),(6,0),(7,0),(8,0),(13,0),(14,0),(15,0),(17,0),(18,0),(19,0),(5,3),(9,3),(10,0),(11,0),(12,0),(16,3),(20,3),(21,0),(22,0),(23,0),(24,0),(25,0),(26,4),(27,0),(28,0)] [29] ?_|refine ZT 5 [Pt b1 _] [(0,0),(1,0),(2,0),(3,0),(4,0),(7,0),(8,0),(9,0),(5,3),(6,0),(10,3),(11,0),(12,0),(13,0),(14,4),(15,0),(16,0)] [17] ?_|(refine ZE (fun hc=>?_) (fun hc=>?_)<;>(try simp at hc)<;>(try omega)))
  exact Ze ⟨1,by omega⟩ (by show 2 - 1<2 - 0;omega) ⟨rfl,rfl,rfl,rfl,rfl,trivial⟩
 by_cases h1:j=1
 ·subst h1
  repeat' (first|refine ZF ?_|refine ZI ?_|refine ZJ ?_|refine ZG ?_|refine ZO ?_|refine ZH ?_|refine ZN ?_|refine ZM (fun b=>?_)|refine ZL (fun b=>?_)|refine ZB ?_|refine ZD ?_|refine Za ?_|refine ZX ?_|refine Zh ?_|refine Zb ?_|refine ZY ?_|refine Zg (fun b=>?_)|refine Zi (fun b=>?_)|refine Zj ?_|refine ZZ ?_|refine Zo (es:=[Value.pointer (some ⟨b1,4,none⟩),.pointer (some ⟨b1,9,none⟩)]) (f:=fun v:Value=>[v]) 1 _ rfl (fun b off=>?_)|refine Zq ?_|refine r_cutS 80 ?_|refine r_cutS 3000 ?_|refine r_up ?_|(refine ZC (fun hc=>?_) (fun hc=>?_)<;>(try simp at hc)<;>(try omega))|(refine ZU (fun hc=>?_) (fun hc=>?_)<;>(try simp at hc)<;>(try omega))|refine ZT 4 [Pt b1 _] [(0,0),(1,0),(2,0),(3,0),(4,0),(6,0),(7,0),(8,0),(13,0),(14,0),(15,0),(17,0),(18,0),(19,0),(5,3),(9,3),(10,0),(11,0),(12,0),(16,3),(20,3),(21,0),(22,0),(23,0),(24,0),(25,0),(26,4),(27,0),(28,0)] [29] ?_|refine ZT 5 [Pt b1 _] [(0,0),(1,0),(2,0),(3,0),(4,0),(7,0),(8,0),(9,0),(5,3),(6,0),(10,3),(11,0),(12,0),(13,0),(14,4),(15,0),(16,0)] [17] ?_|(refine ZE (fun hc=>?_) (fun hc=>?_)<;>(try simp at hc)<;>(try omega)))
  exact Ze ⟨2,by omega⟩ (by show 2 - 2<2 - 1;omega) ⟨rfl,rfl,rfl,rfl,rfl,trivial⟩
 ·obtain rfl:j=2:=by omega
  repeat' (first|refine ZF ?_|refine ZI ?_|refine ZJ ?_|refine ZG ?_|refine ZO ?_|refine ZH ?_|refine ZN ?_|refine ZM (fun b=>?_)|refine ZL (fun b=>?_)|refine ZB ?_|refine ZD ?_|refine ZK ?_|refine l_cutS 80 ?_|(refine ZC (fun hc=>?_) (fun hc=>?_)<;>(try simp at hc)<;>(try omega))|(refine ZE (fun hc=>?_) (fun hc=>?_)<;>(try simp at hc)<;>(try omega)))
  exact ZR () rfl trivial
theorem par_err {s:ByteArray} {x:Int×Int×Int} (h:parF s = .error x):x.2.2≠0:=by
 have go:∀(l:List (List UInt8)) (i:Nat) (acc:List Ru),rowsF l i acc = .error x→x.2.2≠0:=by
  intro l
  induction l with
  | nil=>intro i acc h;cases h
  | cons s l ih=>
   intro i acc h
   unfold rowsF at h
   split at h
   ·exact ih _ _ h
   ·split at h
    ·exact ih _ _ h
    ·rename_i he
     obtain rfl:=Except.error.inj h
     exact he
 unfold parF at h
 split at h
 ·obtain rfl:=Except.error.inj h
  exact (by decide:(5:Int)≠0)
 ·exact go _ _ _ h
theorem lines_neFi:∀l:List UInt8,linesF l≠[]
 | []=>by simp [linesF]
 | c::r=>by
  rw [linesF]
  split
  ·simp
  ·split<;>simp
theorem Yh:∀(a b:List UInt8),linesF (a++10::b)=linesF a++linesF b
 | [],b=>by simp [linesF]
 | c::a,b=>by
  rw [List.cons_append,linesF,linesF]
  by_cases hc:(c == 10)=true
  ·rw [if_pos hc,if_pos hc,Yh a b];rfl
  ·rw [if_neg hc,if_neg hc,Yh a b]
   cases h:linesF a with
   | nil=>exact absurd h (lines_neFi a)
   | cons x m=>rfl
def bytesL:List (List UInt8)→Nat
 | []=>0
 | e::l=>e.length+1+bytesL l
def longF (c:Cq):List Ru→Bool
 | []=>false
 | x::l=>if posF x.a.k c.kind=false∨condH c x=false then longF c l else decide (x.a.k=2∧4096<(expF x.a.t c).size)
abbrev St5:=Int×ByteArray
def sk5 (l:List Tk):List St5:=l.map fun t=>(t.kd,t.tx)
theorem Ye {l:List Tk} {s:St5} {R:List St5} (h:sk5 l=s::R):∃t ts,l=t::ts∧t.kd=s.1∧t.tx=s.2∧sk5 ts=R:=by
 cases l with
 | nil=>cases h
 | cons t ts=>
  obtain ⟨h1,h2⟩:=List.cons.inj h
  exact ⟨t,ts,rfl,by rw [←h1],by rw [←h1],h2⟩
def TstD (w:ByteArray) (A:List St5) (c:Tr5):Prop:=∀(m:Mq) (R:List St5),m.e=0→sk5 m.tk=A++R→∃m',tstM w m=(c,m')∧m'.e=0∧m'.op=m.op∧sk5 m'.tk=R
mutual
inductive DF5:Nat→List St5→Tr5→Prop
 | not {d:Nat} {T:List St5} {c:Tr5}:DF5 d T c→DF5 d ((1,wNot)::T) (.mk wNot [c] eB eB 0)
 | par {d:Nat} {T:List St5} {c:Tr5}:DC5 d T c→DF5 (d+1) ((4,yOpn)::(T++[(4,yCls)])) c
 | tst {d:Nat} {w:ByteArray} {A:List St5} {c:Tr5}:isTst w=true→TstD w A c→DF5 d ((1,w)::A) c
inductive DT5:Nat→List St5→Tr5→Prop
 | mk {d:Nat} {T U:List St5} {c:Tr5} {cs:List Tr5}:DF5 d T c→DTL5 d U cs→DT5 d (T++U) (.mk wAnd (c::cs) eB eB 0)
inductive DTL5:Nat→List St5→List Tr5→Prop
 | nil {d:Nat}:DTL5 d [] []
 | cons {d:Nat} {T U:List St5} {c:Tr5} {cs:List Tr5}:DF5 d T c→DTL5 d U cs→DTL5 d ((1,wAnd)::(T++U)) (c::cs)
inductive DC5:Nat→List St5→Tr5→Prop
 | mk {d:Nat} {T U:List St5} {c:Tr5} {cs:List Tr5}:DT5 d T c→DCL5 d U cs→DC5 d (T++U) (.mk wOr (c::cs) eB eB 0)
inductive DCL5:Nat→List St5→List Tr5→Prop
 | nil {d:Nat}:DCL5 d [] []
 | cons {d:Nat} {T U:List St5} {c:Tr5} {cs:List Tr5}:DT5 d T c→DCL5 d U cs→DCL5 d ((1,wOr)::(T++U)) (c::cs)
end
theorem word_e5 {m:Mq} {w:ByteArray} (h:m.word w=true):m.e=0∧m.hd=w∧∃t ts,m.tk=t::ts∧t.kd=1∧t.tx=w:=by
 obtain ⟨tk,en,op,e,cl⟩:=m
 simp only [Mq.word,Bool.and_eq_true,decide_eq_true_eq] at h
 cases tk with
 | nil=>exact absurd h.2 (by simp [Mq.has])
 | cons t ts=>
  have h2:t.kd=1∧t.tx=w:=by simpa [Mq.has,Mq.isW] using h.2
  exact ⟨h.1,h2.2,t,ts,rfl,h2.1,h2.2⟩
theorem YA {m:Mq} {e:Int} (h:e≠0):(m.fail e).e≠0:=by
 unfold Mq.fail
 split
 ·exact h
 ·assumption
theorem Wa {m:Mq} {w:ByteArray} {R:List St5} (he:m.e=0) (h:sk5 m.tk=(1,w)::R):m.word w=true∧sk5 m.pass.tk=R:=by
 obtain ⟨t,ts,h1,h2,h3,h4⟩:=Ye h
 obtain ⟨tk,en,op,e,cl⟩:=m
 dsimp only at h1 he
 subst h1;subst he
 exact ⟨by simp [Mq.word,Mq.has,Mq.isW,h2,h3],h4⟩
theorem word_no {m:Mq} {w:ByteArray} {R:List St5} (h:sk5 m.tk=R) (hn:R.head?≠some (1,w)):m.word w=false:=by
 obtain ⟨tk,en,op,e,cl⟩:=m
 cases tk with
 | nil=>simp [Mq.word,Mq.has]
 | cons t ts=>
  have h:(t.kd,t.tx)::sk5 ts=R:=h
  subst h
  have hn:¬(t.kd=1∧t.tx=w):=fun hh=>hn (by rw [List.head?_cons,hh.1,hh.2])
  have:(decide (t.kd=1) && decide (t.tx=w))=false:=by simpa using hn
  simp [Mq.word,Mq.has,Mq.isW,this]
theorem word_sk2 {m:Mq} {w:ByteArray} (h:m.word w=true):sk5 m.tk=(1,w)::sk5 m.pass.tk:=by
 obtain ⟨_,_,t,ts,h1,h2,h3⟩:=word_e5 h
 obtain ⟨tk,en,op,e,cl⟩:=m
 dsimp only at h1
 subst h1
 show (t.kd,t.tx)::sk5 ts=_
 rw [h2,h3];rfl
theorem has_sk {m:Mq} {s:ByteArray} (h:m.has (Mq.isS s)=true):sk5 m.tk=(4,s)::sk5 m.pass.tk:=by
 obtain ⟨tk,en,op,e,cl⟩:=m
 cases tk with
 | nil=>cases h
 | cons t ts=>
  have h:(decide (t.kd=4) && decide (t.tx=s))=true:=h
  simp only [Bool.and_eq_true,decide_eq_true_eq] at h
  show (t.kd,t.tx)::sk5 ts=_
  rw [h.1,h.2];rfl
theorem sk_has {m:Mq} {s:ByteArray} {R:List St5} (h:sk5 m.tk=(4,s)::R):m.has (Mq.isS s)=true∧sk5 m.pass.tk=R:=by
 obtain ⟨t,ts,h1,h2,h3,h4⟩:=Ye h
 obtain ⟨tk,en,op,e,cl⟩:=m
 dsimp only at h1
 subst h1
 exact ⟨by simp [Mq.has,Mq.isS,h2,h3],h4⟩
theorem Xz {m:Mq} {q:Tk→Bool} (h:(m.take q).2.e=0):m.e=0∧m.has q=true∧m.take q=(m.hd,m.pass):=by
 unfold Mq.take at h ⊢
 split at h
 ·exact absurd h (YA (by decide))
 ·rename_i hc
  have h1:m.e=0:=by
   by_cases hz:m.e=0
   ·exact hz
   ·exact absurd (.inl hz) hc
  have h2:m.has q=true:=by
   cases hh:m.has q with
   | true=>rfl
   | false=>exact absurd (.inr hh) hc
  exact ⟨h1,h2,by rw [if_neg hc]⟩
theorem take_sk {m:Mq} {s:ByteArray} {R:List St5} (he:m.e=0) (h:sk5 m.tk=(4,s)::R):(m.take (Mq.isS s)).2=m.pass∧sk5 m.pass.tk=R:=by
 obtain ⟨h1,h2⟩:=sk_has h
 refine ⟨?_,h2⟩
 unfold Mq.take
 rw [if_neg (by rw [h1];simp [he])]
theorem factor_e0 {n:Nat} {m:Mq} (h:(factorM n m).2.e=0):m.e=0:=by
 by_cases hz:m.e=0
 ·exact hz
 ·rw [W6 hz] at h;exact absurd h hz
theorem termN_e0 {n:Nat} {l:List Tr5} {m:Mq} (h:(termN n l m).2.e=0):m.e=0:=by
 by_cases hz:m.e=0
 ·exact hz
 ·rw [W4 hz] at h;exact absurd h hz
theorem condN_e0 {n:Nat} {l:List Tr5} {m:Mq} (h:(condN n l m).2.e=0):m.e=0:=by
 by_cases hz:m.e=0
 ·exact hz
 ·rw [W5 hz] at h;exact absurd h hz
theorem tst_loc {w:ByteArray} {m:Mq} (he:m.e=0) (h:(tstM w m).2.e=0):∃A,sk5 m.tk=A++sk5 (tstM w m).2.tk∧TstD w A (tstM w m).1∧(tstM w m).2.op=m.op:=by
 obtain ⟨tk,en,op,e,cl⟩:=m
 dsimp only at he
 subst he
 by_cases h1:idx w wKinds<3
 ·have e1:∀m,tstM w m=(.mk w [] eB eB 0,m):=fun m=>by unfold tstM;rw [if_pos h1]
  rw [e1]
  exact ⟨[],rfl,fun m R h2 h3=>⟨m,e1 m,h2,rfl,h3⟩,rfl⟩
 by_cases h2:w=wChan
 ·have e1:∀m,tstM w m=if m.has (fun t=>decide (t.kd=1) && decide (idx t.tx wChs<4)) then (.mk w [] m.hd eB ((idx m.hd wChs:Nat)+1),m.pass) else (.mk w [] eB eB 0,m.fail 30):=fun m=>by unfold tstM;rw [if_neg h1,if_pos h2]
  rw [e1] at h ⊢
  split at h
  ·rename_i hh
   rw [if_pos hh]
   cases tk with
   | nil=>cases hh
   | cons t ts=>
    have hh:(decide (t.kd=1) && decide (idx t.tx wChs<4))=true:=hh
    simp only [Bool.and_eq_true,decide_eq_true_eq] at hh
    refine ⟨[(1,t.tx)],by show (t.kd,t.tx)::_=_;rw [hh.1];rfl,fun m R he hs=>?_,rfl⟩
    obtain ⟨u,us,g1,g2,g3,g4⟩:=Ye hs
    dsimp only at g2 g3
    refine ⟨m.pass,?_,he,rfl,?_⟩
    ·have hu:m.has (fun t=>decide (t.kd=1) && decide (idx t.tx wChs<4))=true:=by unfold Mq.has;rw [g1];simp [g2,g3,hh.2]
     have hd:m.hd=t.tx:=by unfold Mq.hd;rw [g1];exact g3
     rw [e1,if_pos hu,hd];rfl
    ·unfold Mq.pass;rw [g1];exact g4
  ·exact absurd h (YA (by decide))
 by_cases h3:idx w wTxs<3
 ·have e1:∀m,tstM w m=if m.has (fun t=>decide (t.kd=1) && decide (idx t.tx wCts<3)) then (.mk w [] m.hd (m.pass.take (fun t=>decide (t.kd=3))).1 0,(m.pass.take (fun t=>decide (t.kd=3))).2) else (.mk w [] eB eB 0,m.fail 30):=fun m=>by unfold tstM;rw [if_neg h1,if_neg h2,if_pos h3]
  rw [e1] at h ⊢
  split at h
  ·rename_i hh
   rw [if_pos hh]
   obtain ⟨k1,k2,k3⟩:=Xz h
   rw [k3]
   cases tk with
   | nil=>cases hh
   | cons t ts=>
    cases ts with
    | nil=>cases k2
    | cons u us=>
     have hh:(decide (t.kd=1) && decide (idx t.tx wCts<3))=true:=hh
     simp only [Bool.and_eq_true,decide_eq_true_eq] at hh
     have k2:u.kd=3:=of_decide_eq_true k2
     refine ⟨[(1,t.tx),(3,u.tx)],by show (t.kd,t.tx)::(u.kd,u.tx)::_=_;rw [hh.1,k2];rfl,fun m R he hs=>?_,rfl⟩
     obtain ⟨a,al,g1,g2,g3,g4⟩:=Ye hs
     obtain ⟨b,bs,i1,i2,i3,i4⟩:=Ye g4
     dsimp only at g2 g3 i2 i3
     have hu:m.has (fun t=>decide (t.kd=1) && decide (idx t.tx wCts<3))=true:=by unfold Mq.has;rw [g1];simp [g2,g3,hh.2]
     have hd:m.hd=t.tx:=by unfold Mq.hd;rw [g1];exact g3
     have hp:m.pass.take (fun t=>decide (t.kd=3))=(u.tx,m.pass.pass):=by
      unfold Mq.take
      have q1:m.pass.has (fun t=>decide (t.kd=3))=true:=by unfold Mq.has Mq.pass;rw [g1,i1];simp [i2]
      have q2:m.pass.hd=u.tx:=by unfold Mq.hd Mq.pass;rw [g1,i1];exact i3
      have q3:m.pass.e=0:=he
      rw [if_neg (by rw [q1];simp [q3]),q2]
     refine ⟨m.pass.pass,?_,he,rfl,?_⟩
     ·rw [e1,if_pos hu,hd,hp];rfl
     ·unfold Mq.pass;rw [g1,i1];exact i4
  ·exact absurd h (YA (by decide))
 by_cases h4:idx w wNms<4
 ·have e1:∀m,tstM w m=if m.has (fun t=>decide (t.kd=4) && decide (idx t.tx yCns<3)) then (.mk w [] m.hd eB (numM m.pass).1,(numM m.pass).2) else (.mk w [] eB eB 0,m.fail 30):=fun m=>by unfold tstM;rw [if_neg h1,if_neg h2,if_neg h3,if_pos h4]
  rw [e1] at h ⊢
  split at h
  ·rename_i hh
   rw [if_pos hh]
   have e2:∀m:Mq,numM m=if m.e≠0∨m.has (fun t=>decide (t.kd=2))=false then (0,m.fail 30) else if badN m.hd then (0,m.fail 3) else if 1073741824<numL m.hd.data.toList 0 then (0,m.fail 2) else (numL m.hd.data.toList 0,m.pass):=fun m=>rfl
   rw [e2] at h ⊢
   dsimp only at h ⊢
   split at h
   ·exact absurd h (YA (by decide))
   ·rename_i c1
    split at h
    ·exact absurd h (YA (by decide))
    ·rename_i c2
     split at h
     ·exact absurd h (YA (by decide))
     ·rename_i c3
      rw [if_neg c1,if_neg c2,if_neg c3]
      cases tk with
      | nil=>cases hh
      | cons t ts=>
       cases ts with
       | nil=>exact absurd (.inr rfl) c1
       | cons u us=>
        have hh:(decide (t.kd=4) && decide (idx t.tx yCns<3))=true:=hh
        simp only [Bool.and_eq_true,decide_eq_true_eq] at hh
        have k2:u.kd=2:=by
         by_cases hk:u.kd=2
         ·exact hk
         ·exact absurd (.inr (decide_eq_false hk)) c1
        have c2:¬badN u.tx=true:=c2
        have c3:¬1073741824<numL u.tx.data.toList 0:=c3
        refine ⟨[(4,t.tx),(2,u.tx)],by show (t.kd,t.tx)::(u.kd,u.tx)::_=_;rw [hh.1,k2];rfl,fun m R he hs=>?_,rfl⟩
        obtain ⟨a,al,g1,g2,g3,g4⟩:=Ye hs
        obtain ⟨b,bs,i1,i2,i3,i4⟩:=Ye g4
        dsimp only at g2 g3 i2 i3
        have hu:m.has (fun t=>decide (t.kd=4) && decide (idx t.tx yCns<3))=true:=by unfold Mq.has;rw [g1];simp [g2,g3,hh.2]
        have hd:m.hd=t.tx:=by unfold Mq.hd;rw [g1];exact g3
        have q1:m.pass.has (fun t=>decide (t.kd=2))=true:=by unfold Mq.has Mq.pass;rw [g1,i1];simp [i2]
        have q2:m.pass.hd=u.tx:=by unfold Mq.hd Mq.pass;rw [g1,i1];exact i3
        have q3:m.pass.e=0:=he
        have hp:numM m.pass=(numL u.tx.data.toList 0,m.pass.pass):=by
         rw [e2,if_neg (by rw [q1];simp [q3]),q2,if_neg c2,if_neg c3]
        refine ⟨m.pass.pass,?_,he,rfl,?_⟩
        ·rw [e1,if_pos hu,hd,hp];rfl
        ·unfold Mq.pass;rw [g1,i1];exact i4
  ·exact absurd h (YA (by decide))
 have e1:∀m:Mq,tstM w m=(.mk w [] eB ((if m.has (fun t=>decide (t.kd=2) && !lvalid t.tx.data.toList) then m.fail 12 else m).take (fun t=>decide (t.kd=2))).1 0,((if m.has (fun t=>decide (t.kd=2) && !lvalid t.tx.data.toList) then m.fail 12 else m).take (fun t=>decide (t.kd=2))).2):=fun m=>by unfold tstM;rw [if_neg h1,if_neg h2,if_neg h3,if_neg h4]
 rw [e1] at h ⊢
 dsimp only at h ⊢
 obtain ⟨k1,k2,k3⟩:=Xz h
 rw [k3]
 by_cases hv:(⟨tk,en,op,0,cl⟩:Mq).has (fun t=>decide (t.kd=2) && !lvalid t.tx.data.toList)=true
 ·rw [if_pos hv] at k1
  exact absurd k1 (YA (by decide))
 ·rw [if_neg hv] at k2 ⊢
  cases tk with
  | nil=>cases k2
  | cons t ts=>
   have k2:t.kd=2:=of_decide_eq_true k2
   have hv:¬(decide (t.kd=2) && !lvalid t.tx.data.toList)=true:=hv
   refine ⟨[(2,t.tx)],by show (t.kd,t.tx)::_=_;rw [k2];rfl,fun m R he hs=>?_,rfl⟩
   obtain ⟨a,al,g1,g2,g3,g4⟩:=Ye hs
   dsimp only at g2 g3
   have hu:¬m.has (fun t=>decide (t.kd=2) && !lvalid t.tx.data.toList)=true:=by
    unfold Mq.has;rw [g1]
    dsimp only
    rw [g2,g3]
    rw [k2] at hv;exact hv
   have hp:m.take (fun t=>decide (t.kd=2))=(t.tx,m.pass):=by
    unfold Mq.take
    have q1:m.has (fun t=>decide (t.kd=2))=true:=by unfold Mq.has;rw [g1];simp [g2]
    have q2:m.hd=t.tx:=by unfold Mq.hd;rw [g1];exact g3
    rw [if_neg (by rw [q1];simp [he]),q2]
   refine ⟨m.pass,?_,he,rfl,?_⟩
   ·rw [e1,if_neg hu,hp];rfl
   ·unfold Mq.pass;rw [g1];exact g4
theorem snd_all:∀n:Nat,
  (∀m,m.op≤32→(factorM n m).2.e=0→(factorM n m).2.op=m.op∧∃T,sk5 m.tk=T++sk5 (factorM n m).2.tk∧DF5 (32 - m.op).toNat T (factorM n m).1)∧
  (∀m,m.op≤32→(termM n m).2.e=0→(termM n m).2.op=m.op∧∃T,sk5 m.tk=T++sk5 (termM n m).2.tk∧DT5 (32 - m.op).toNat T (termM n m).1)∧
  (∀l m,m.op≤32→(termN n l m).2.e=0→(termN n l m).2.op=m.op∧∃T cs,(termN n l m).1=l++cs∧sk5 m.tk=T++sk5 (termN n l m).2.tk∧DTL5 (32 - m.op).toNat T cs)∧
  (∀m,m.op≤32→(condM n m).2.e=0→(condM n m).2.op=m.op∧∃T,sk5 m.tk=T++sk5 (condM n m).2.tk∧DC5 (32 - m.op).toNat T (condM n m).1)∧
  (∀l m,m.op≤32→(condN n l m).2.e=0→(condN n l m).2.op=m.op∧∃T cs,(condN n l m).1=l++cs∧sk5 m.tk=T++sk5 (condN n l m).2.tk∧DCL5 (32 - m.op).toNat T cs)
 | 0=>by
  have no:∀m:Mq,(m.fail 99).e≠0:=fun m=>YA (by decide)
  refine ⟨fun m _ h=>?_,fun m _ h=>?_,fun l m _ h=>?_,fun m _ h=>?_,fun l m _ h=>?_⟩
  ·rw [factorM] at h;exact absurd h (no m)
  ·rw [termM] at h;exact absurd h (no m)
  ·rw [termN] at h;exact absurd h (no m)
  ·rw [condM] at h;exact absurd h (no m)
  ·rw [condN] at h;exact absurd h (no m)
 | n+1=>by
  obtain ⟨h1,h2,h3,h4,h5⟩:=snd_all n
  refine ⟨fun m ho h=>?_,fun m ho h=>?_,fun l m ho h=>?_,fun m ho h=>?_,fun l m ho h=>?_⟩
  ·have he:=factor_e0 h
   rw [factorM] at h ⊢
   split at h
   ·rename_i hw
    rw [if_pos hw]
    obtain ⟨o1,T,t1,t2⟩:=h1 m.pass ho h
    exact ⟨o1,(1,wNot)::T,by rw [word_sk2 hw,t1];rfl,.not t2⟩
   ·rename_i hw
    rw [if_neg hw]
    split at h
    ·rename_i hp
     rw [if_pos hp]
     split at h
     ·exact absurd h (YA (by decide))
     ·rename_i h32
      rw [if_neg h32]
      dsimp only at h ⊢
      obtain ⟨k1,k2,k3⟩:=Xz h
      obtain ⟨o1,T,t1,t2⟩:=h4 {m.pass with op:=m.op+1} (show m.op+1≤32 by omega) k1
      have t1:sk5 m.pass.tk=T++sk5 (condM n {m.pass with op:=m.op+1}).2.tk:=t1
      have o1:(condM n {m.pass with op:=m.op+1}).2.op=m.op+1:=o1
      have t2:DC5 (32 - (m.op+1)).toNat T (condM n {m.pass with op:=m.op+1}).1:=t2
      have ed:(32 - m.op).toNat=(32 - (m.op+1)).toNat+1:=by omega
      refine ⟨?_,(4,yOpn)::(T++[(4,yCls)]),?_,by rw [ed];exact .par t2⟩
      ·rw [k3]
       show (condM n {m.pass with op:=m.op+1}).2.op - 1=m.op
       rw [o1];omega
      ·rw [has_sk hp.2,t1,has_sk k2,k3]
       simp
    ·rename_i hp
     rw [if_neg hp]
     split at h
     ·rename_i ht
      rw [if_pos ht]
      obtain ⟨tk,en,op,e,cl⟩:=m
      cases tk with
      | nil=>exact absurd ht.2 (by simp [Mq.has])
      | cons t ts=>
       have hh:(decide (t.kd=1) && isTst t.tx)=true:=ht.2
       simp only [Bool.and_eq_true,decide_eq_true_eq] at hh
       obtain ⟨A,a1,a2,a3⟩:=tst_loc (w:=t.tx) (m:=⟨ts,en,op,e,cl⟩) he h
       refine ⟨a3,(1,t.tx)::A,?_,.tst hh.2 a2⟩
       show (t.kd,t.tx)::sk5 ts=_
       have a1:sk5 ts=A++sk5 (tstM t.tx ⟨ts,en,op,e,cl⟩).2.tk:=a1
       rw [hh.1,a1];rfl
     ·exact absurd h (YA (by decide))
  ·rw [termM] at h ⊢
   dsimp only at h ⊢
   obtain ⟨o1,T,t1,t2⟩:=h1 m ho (termN_e0 h)
   obtain ⟨o2,U,cs,u1,u2,u3⟩:=h3 _ _ (by rw [o1];exact ho) h
   rw [o1] at u3
   rw [u1]
   exact ⟨o2.trans o1,T++U,by rw [t1,u2,List.append_assoc],.mk t2 u3⟩
  ·rw [termN] at h ⊢
   split at h
   ·rename_i hw
    rw [if_pos hw]
    dsimp only at h ⊢
    obtain ⟨o1,T,t1,t2⟩:=h1 m.pass ho (termN_e0 h)
    have o1:(factorM n m.pass).2.op=m.op:=o1
    obtain ⟨o2,U,cs,u1,u2,u3⟩:=h3 _ _ (by rw [o1];exact ho) h
    rw [o1] at u3
    exact ⟨o2.trans o1,(1,wAnd)::(T++U),(factorM n m.pass).1::cs,by rw [u1];simp,by rw [word_sk2 hw,t1,u2];simp,.cons t2 u3⟩
   ·rename_i hw
    rw [if_neg hw]
    exact ⟨rfl,[],[],by simp,rfl,.nil⟩
  ·rw [condM] at h ⊢
   dsimp only at h ⊢
   obtain ⟨o1,T,t1,t2⟩:=h2 m ho (condN_e0 h)
   obtain ⟨o2,U,cs,u1,u2,u3⟩:=h5 _ _ (by rw [o1];exact ho) h
   rw [o1] at u3
   rw [u1]
   exact ⟨o2.trans o1,T++U,by rw [t1,u2,List.append_assoc],.mk t2 u3⟩
  ·rw [condN] at h ⊢
   split at h
   ·rename_i hw
    rw [if_pos hw]
    dsimp only at h ⊢
    obtain ⟨o1,T,t1,t2⟩:=h2 m.pass ho (condN_e0 h)
    have o1:(termM n m.pass).2.op=m.op:=o1
    obtain ⟨o2,U,cs,u1,u2,u3⟩:=h5 _ _ (by rw [o1];exact ho) h
    rw [o1] at u3
    exact ⟨o2.trans o1,(1,wOr)::(T++U),(termM n m.pass).1::cs,by rw [u1];simp,by rw [word_sk2 hw,t1,u2];simp,.cons t2 u3⟩
   ·rename_i hw
    rw [if_neg hw]
    exact ⟨rfl,[],[],by simp,rfl,.nil⟩
def ResM (d:Nat) (r:Tr5×Mq) (c:Tr5) (m:Mq) (R:List St5):Prop:=(r.1=c∧r.2.e=0∧r.2.op=m.op∧sk5 r.2.tk=R)∨(r.2.e=9∧32<m.op+d)
def ResN (d:Nat) (r:List Tr5×Mq) (c:List Tr5) (m:Mq) (R:List St5):Prop:=(r.1=c∧r.2.e=0∧r.2.op=m.op∧sk5 r.2.tk=R)∨(r.2.e=9∧32<m.op+d)
theorem cmp_all:∀n:Nat,
  (∀d T c,DF5 d T c→∀m R,4 * T.length+1≤n→m.e=0→sk5 m.tk=T++R→ResM d (factorM n m) c m R)∧
  (∀d T c,DT5 d T c→∀m R,4 * T.length+2≤n→m.e=0→sk5 m.tk=T++R→R.head?≠some (1,wAnd)→ResM d (termM n m) c m R)∧
  (∀d T cs,DTL5 d T cs→∀l m R,4 * T.length+1≤n→m.e=0→sk5 m.tk=T++R→R.head?≠some (1,wAnd)→ResN d (termN n l m) (l++cs) m R)∧
  (∀d T c,DC5 d T c→∀m R,4 * T.length+3≤n→m.e=0→sk5 m.tk=T++R→R.head?≠some (1,wAnd)→R.head?≠some (1,wOr)→ResM d (condM n m) c m R)∧
  (∀d T cs,DCL5 d T cs→∀l m R,4 * T.length+2≤n→m.e=0→sk5 m.tk=T++R→R.head?≠some (1,wAnd)→R.head?≠some (1,wOr)→ResN d (condN n l m) (l++cs) m R)
 | 0=>⟨fun _ _ _ _ _ _ h=>by omega,fun _ _ _ _ _ _ h=>by omega,fun _ _ _ _ _ _ _ h=>by omega,fun _ _ _ _ _ _ h=>by omega,fun _ _ _ _ _ _ _ h=>by omega⟩
 | n+1=>by
  obtain ⟨h1,h2,h3,h4,h5⟩:=cmp_all n
  refine ⟨fun d T c hd m R hn he hs=>?_,fun d T c hd m R hn he hs hR=>?_,fun d T cs hd l m R hn he hs hR=>?_,fun d T c hd m R hn he hs hR hR2=>?_,fun d T cs hd l m R hn he hs hR hR2=>?_⟩
  ·cases hd with
   | @not _ T c hd=>
    obtain ⟨w1,w2⟩:=Wa he hs
    rw [factorM,if_pos w1]
    simp only [List.length_cons] at hn
    rcases h1 _ T c hd m.pass R (by omega) he w2 with ⟨r1,r2,r3,r4⟩|r
    ·exact .inl ⟨by dsimp only;rw [r1],r2,r3,r4⟩
    ·exact .inr r
   | @par d T c hd=>
    have w0:m.word wNot=false:=word_no hs (by rw [List.cons_append,List.head?_cons];decide)
    have hs':sk5 m.tk=(4,yOpn)::(T++(4,yCls)::R):=by rw [hs];simp
    obtain ⟨p1,p2⟩:=sk_has hs'
    rw [factorM,if_neg (by rw [w0];decide),if_pos ⟨he,p1⟩]
    by_cases ho:m.op=32
    ·rw [if_pos ho]
     exact .inr ⟨by show (m.fail 9).e=9;unfold Mq.fail;rw [if_pos he],by rw [ho];omega⟩
    ·rw [if_neg ho]
     simp only [List.length_cons,List.length_append,List.length_nil] at hn
     rcases h4 _ T c hd {m.pass with op:=m.op+1} ((4,yCls)::R) (by omega) he p2 (by rw [List.head?_cons];decide) (by rw [List.head?_cons];decide) with ⟨r1,r2,r3,r4⟩|r
     ·obtain ⟨q1,q2⟩:=take_sk r2 r4
      left
      dsimp only
      rw [q1]
      refine ⟨r1,r2,?_,q2⟩
      show (condM n {m.pass with op:=m.op+1}).2.op - 1=m.op
      rw [r3];show m.op+1 - 1=m.op;omega
     ·right
      have r2:32<m.op+1+(d:Int):=r.2
      dsimp only
      rw [XL (by rw [r.1];decide)]
      exact ⟨r.1,by omega⟩
   | @tst _ w A c hw ht=>
    have hne:=tst_ne hw
    have w0:m.word wNot=false:=word_no hs (by rw [List.cons_append,List.head?_cons];intro h;exact hne.2.2 (Prod.mk.inj (Option.some.inj h)).2)
    obtain ⟨t,ts,g1,g2,g3,g4⟩:=Ye hs
    dsimp only at g2 g3
    have p0:¬(m.e=0∧m.has (Mq.isS yOpn)=true):=fun h=>by
     have h2:=h.2
     unfold Mq.has Mq.isS at h2
     rw [g1] at h2
     simp [g2] at h2
    have p1:m.has (fun t=>decide (t.kd=1) && isTst t.tx)=true:=by unfold Mq.has;rw [g1];simp [g2,g3,hw]
    have p2:m.hd=w:=by unfold Mq.hd;rw [g1];exact g3
    have p3:sk5 m.pass.tk=A++R:=by unfold Mq.pass;rw [g1];exact g4
    rw [factorM,if_neg (by rw [w0];decide),if_neg p0,if_pos ⟨he,p1⟩,p2]
    obtain ⟨m',r1,r2,r3,r4⟩:=ht m.pass R he p3
    rw [r1]
    exact .inl ⟨rfl,r2,r3,r4⟩
  ·cases hd with
   | @mk _ T U c cs hf hl=>
    rw [termM]
    rw [List.length_append] at hn
    rw [List.append_assoc] at hs
    rcases h1 _ T c hf m (U++R) (by omega) he hs with ⟨r1,r2,r3,r4⟩|r
    ·try dsimp only
     rcases h3 _ U cs hl [(factorM n m).1] (factorM n m).2 R (by omega) r2 r4 hR with ⟨q1,q2,q3,q4⟩|q
     ·exact .inl ⟨by rw [q1,r1];rfl,q2,q3.trans r3,q4⟩
     ·exact .inr ⟨q.1,by have:=q.2;rw [r3] at this;exact this⟩
    ·right
     try dsimp only
     rw [W4 (by rw [r.1];decide)]
     exact r
  ·cases hd with
   | nil=>
    have w0:m.word wAnd=false:=word_no hs (by rw [List.nil_append];exact hR)
    rw [termN,if_neg (by rw [w0];decide)]
    exact .inl ⟨by simp,he,rfl,hs⟩
   | @cons _ T U c cs hf hl=>
    have hs':sk5 m.tk=(1,wAnd)::(T++(U++R)):=by rw [hs];simp
    obtain ⟨w1,w2⟩:=Wa he hs'
    rw [termN,if_pos w1]
    simp only [List.length_cons,List.length_append] at hn
    rcases h1 _ T c hf m.pass (U++R) (by omega) he w2 with ⟨r1,r2,r3,r4⟩|r
    ·try dsimp only
     rcases h3 _ U cs hl (l++[(factorM n m.pass).1]) (factorM n m.pass).2 R (by omega) r2 r4 hR with ⟨q1,q2,q3,q4⟩|q
     ·exact .inl ⟨by rw [q1,r1];simp,q2,q3.trans r3,q4⟩
     ·exact .inr ⟨q.1,by have:=q.2;rw [r3] at this;exact this⟩
    ·right
     try dsimp only
     rw [W4 (by rw [r.1];decide)]
     exact r
  ·cases hd with
   | @mk _ T U c cs hf hl=>
    rw [condM]
    rw [List.length_append] at hn
    rw [List.append_assoc] at hs
    have hU:(U++R).head?≠some (1,wAnd):=by
     cases hl with
     | nil=>exact hR
     | cons _ _=>rw [List.cons_append,List.head?_cons];decide
    rcases h2 _ T c hf m (U++R) (by omega) he hs hU with ⟨r1,r2,r3,r4⟩|r
    ·try dsimp only
     rcases h5 _ U cs hl [(termM n m).1] (termM n m).2 R (by omega) r2 r4 hR hR2 with ⟨q1,q2,q3,q4⟩|q
     ·exact .inl ⟨by rw [q1,r1];rfl,q2,q3.trans r3,q4⟩
     ·exact .inr ⟨q.1,by have:=q.2;rw [r3] at this;exact this⟩
    ·right
     try dsimp only
     rw [W5 (by rw [r.1];decide)]
     exact r
  ·cases hd with
   | nil=>
    have w0:m.word wOr=false:=word_no hs (by rw [List.nil_append];exact hR2)
    rw [condN,if_neg (by rw [w0];decide)]
    exact .inl ⟨by simp,he,rfl,hs⟩
   | @cons _ T U c cs hf hl=>
    have hs':sk5 m.tk=(1,wOr)::(T++(U++R)):=by rw [hs];simp
    obtain ⟨w1,w2⟩:=Wa he hs'
    rw [condN,if_pos w1]
    simp only [List.length_cons,List.length_append] at hn
    have hU:(U++R).head?≠some (1,wAnd):=by
     cases hl with
     | nil=>exact hR
     | cons _ _=>rw [List.cons_append,List.head?_cons];decide
    rcases h2 _ T c hf m.pass (U++R) (by omega) he w2 hU with ⟨r1,r2,r3,r4⟩|r
    ·try dsimp only
     rcases h5 _ U cs hl (l++[(termM n m.pass).1]) (termM n m.pass).2 R (by omega) r2 r4 hR hR2 with ⟨q1,q2,q3,q4⟩|q
     ·exact .inl ⟨by rw [q1,r1];simp,q2,q3.trans r3,q4⟩
     ·exact .inr ⟨q.1,by have:=q.2;rw [r3] at this;exact this⟩
    ·right
     try dsimp only
     rw [W5 (by rw [r.1];decide)]
     exact r
def Z7 (L:List UInt8) (T:List St5):Prop:=∀n i acc,L.length<n→∃ts j,scanF n L i acc=(acc++ts,j,true)∧sk5 ts=T
def Stp5 (L:List UInt8):Prop:=∀c,L.head? = some c→isLet c=false∧inNum c=false
theorem YX {p:UInt8→Bool}:∀(A X:List UInt8),(∀c,X.head? = some c→p c=false)→spanF p (A++X)=spanF p A
 | [],X,h=>by
  cases X with
  | nil=>rfl
  | cons c X=>
   show (if p c=true then spanF p X+1 else 0)=0
   rw [h c rfl];rfl
 | c::A,X,h=>by
  rw [List.cons_append,spanF,spanF,YX A X h]
theorem scs_nil5:Z7 [] []:=fun n i acc hn=>by
 obtain ⟨n,rfl⟩:∃k,n=k+1:=⟨n - 1,by simp at hn;omega⟩
 exact ⟨[],i,by simp [scanF],rfl⟩
theorem Yf {L:List UInt8} {T:List St5} {c:UInt8} (hc:(c == 32 || c == 9)=true) (h:Z7 L T):Z7 (c::L) T:=fun n i acc hn=>by
 obtain ⟨n,rfl⟩:∃k,n=k+1:=⟨n - 1,by simp at hn;omega⟩
 have h35:¬(c == 35)=true:=fun hh=>by rw [beq_iff_eq] at hh;subst hh;revert hc;decide
 rw [scanF,if_neg h35,if_pos hc]
 exact h n (i+1) acc (by simp at hn;omega)
theorem Wp {L M:List UInt8} {T:List St5} {t:Tk} {n i j:Nat} {acc:List Tk} (h:Z7 M T) (hn:M.length<n) (e:scanF (n+1) L i acc=scanF n M j (acc++[t])):∃ts j,scanF (n+1) L i acc=(acc++ts,j,true)∧sk5 ts=(t.kd,t.tx)::T:=by
 obtain ⟨ts,j',e1,e2⟩:=h n j (acc++[t]) hn
 exact ⟨t::ts,j',by rw [e,e1];simp,by show (t.kd,t.tx)::sk5 ts=_;rw [e2]⟩
theorem let_not5 {c:UInt8} (h:isLet c=true):¬(c == 35)=true∧¬(c == 32 || c == 9)=true:=by
 constructor<;>(intro hh;simp only [Bool.or_eq_true,beq_iff_eq] at hh)
 ·subst hh;revert h;decide
 ·rcases hh with rfl|rfl<;>(revert h;decide)
theorem dgt_not5 {c:UInt8} (h:isDgt c=true):¬(c == 35)=true∧¬(c == 32 || c == 9)=true∧¬isLet c=true:=by
 refine ⟨?_,?_,?_⟩
 ·intro hh;rw [beq_iff_eq] at hh;subst hh;revert h;decide
 ·intro hh;simp only [Bool.or_eq_true,beq_iff_eq] at hh;rcases hh with rfl|rfl<;>(revert h;decide)
 ·intro hh;unfold isLet at hh;unfold isDgt at h;simp only [Bool.and_eq_true,decide_eq_true_eq] at hh h;omega
theorem sym_not5 {c:UInt8} (h:isSym c=true):¬(c == 35)=true∧¬(c == 32 || c == 9)=true∧¬isLet c=true∧¬isDgt c=true∧¬(c == 34)=true:=by
 have h2:c=40∨c=41∨c=58∨c=61∨c=60∨c=62:=by simpa [isSym,or_assoc] using h
 rcases h2 with rfl|rfl|rfl|rfl|rfl|rfl<;>decide
theorem scs_let5 {L:List UInt8} {T:List St5} {c:UInt8} (hc:isLet c=true) (h:Z7 ((c::L).drop (spanF isLet (c::L))) T):Z7 (c::L) ((1,ofL ((c::L).take (spanF isLet (c::L))))::T):=fun n i acc hn=>by
 obtain ⟨n,rfl⟩:∃k,n=k+1:=⟨n - 1,by simp at hn;omega⟩
 obtain ⟨a1,a2⟩:=let_not5 hc
 have h1:1≤spanF isLet (c::L):=by rw [spanF,if_pos hc];omega
 exact Wp (t:=⟨1,ofL ((c::L).take (spanF isLet (c::L))),i⟩) h (by rw [List.length_drop];simp only [List.length_cons] at hn ⊢;omega) (by rw [scanF,if_neg a1,if_neg a2,if_pos hc])
theorem scs_num5 {L:List UInt8} {T:List St5} {c:UInt8} (hc:isDgt c=true) (h:Z7 ((c::L).drop (spanF inNum (c::L))) T):Z7 (c::L) ((2,ofL ((c::L).take (spanF inNum (c::L))))::T):=fun n i acc hn=>by
 obtain ⟨n,rfl⟩:∃k,n=k+1:=⟨n - 1,by simp at hn;omega⟩
 obtain ⟨a1,a2,a3⟩:=dgt_not5 hc
 have h1:1≤spanF inNum (c::L):=by rw [spanF,if_pos (by rw [inNum,hc];rfl)];omega
 exact Wp (t:=⟨2,ofL ((c::L).take (spanF inNum (c::L))),i⟩) h (by rw [List.length_drop];simp only [List.length_cons] at hn ⊢;omega) (by rw [scanF,if_neg a1,if_neg a2,if_neg a3,if_pos hc])
theorem scs_str5 {L t:List UInt8} {T:List St5} {k:Nat} (hu:unqF L 1 []=some (t,k)) (hk:1≤k) (h:Z7 ((34::L).drop k) T):Z7 (34::L) ((3,ofL t)::T):=fun n i acc hn=>by
 obtain ⟨n,rfl⟩:∃k,n=k+1:=⟨n - 1,by simp at hn;omega⟩
 exact Wp (t:=⟨3,ofL t,i⟩) h (by rw [List.length_drop];simp only [List.length_cons] at hn ⊢;omega) (by rw [scanF,if_neg (by decide),if_neg (by decide),if_neg (by decide),if_neg (by decide),if_pos (by decide),hu])
theorem YP {L:List UInt8} {T:List St5} {c:UInt8} (hc:isSym c=true) (h:Z7 L T):Z7 (c::L) ((4,ofL [c])::T):=fun n i acc hn=>by
 obtain ⟨n,rfl⟩:∃k,n=k+1:=⟨n - 1,by simp at hn;omega⟩
 obtain ⟨a1,a2,a3,a4,a5⟩:=sym_not5 hc
 exact Wp (t:=⟨4,ofL [c],i⟩) h (by simp at hn;omega) (by rw [scanF,if_neg a1,if_neg a2,if_neg a3,if_neg a4,if_neg a5,if_pos hc])
theorem span_all5 {p:UInt8→Bool}:∀w:List UInt8,w.all p=true→spanF p w=w.length
 | [],_=>rfl
 | c::w,h=>by
  rw [List.all_cons,Bool.and_eq_true] at h
  rw [spanF,if_pos h.1,span_all5 w h.2,List.length_cons]
theorem Ys {w L:List UInt8} {T:List St5} (hw:w.all isLet=true) (h0:w≠[]) (hL:Stp5 L) (h:Z7 L T):Z7 (w++L) ((1,ofL w)::T):=by
 cases w with
 | nil=>exact absurd rfl h0
 | cons c w=>
  have e:spanF isLet (c::(w++L))=(c::w).length:=by
   rw [←List.cons_append,YX (c::w) L (fun c hc=>(hL c hc).1),span_all5 _ hw]
  have hc:isLet c=true:=by rw [List.all_cons,Bool.and_eq_true] at hw;exact hw.1
  have e1:(c::(w++L)).drop (c::w).length=L:=by rw [←List.cons_append,List.drop_left]
  have e2:(c::(w++L)).take (c::w).length=c::w:=by rw [←List.cons_append,List.take_left]
  have:=scs_let5 (L:=w++L) (T:=T) hc (by rw [e,e1];exact h)
  rw [e,e2] at this
  exact this
theorem Xi:∀(X:List UInt8) (i:Nat) (acc:List UInt8),(34:UInt8) ∉ X→unqF X i acc=none
 | [],_,_,_=>rfl
 | [c],i,acc,h=>by
  rw [unqF,if_neg (fun hh=>by rw [beq_iff_eq] at hh;exact h (by rw [hh];exact .head _))]
 | c::d::r,i,acc,h=>by
  have hc:¬(c == 34)=true:=fun hh=>by rw [beq_iff_eq] at hh;exact h (by rw [hh];exact .head _)
  have hr:(34:UInt8) ∉ r:=fun hh=>h (.tail _ (.tail _ hh))
  have hd:(34:UInt8) ∉ d::r:=fun hh=>h (.tail _ hh)
  rw [unqF,if_neg hc]
  split
  ·split
   ·exact Xi r _ _ hr
   ·split
    ·exact Xi r _ _ hr
    ·rfl
  ·exact Xi (d::r) _ _ hd
theorem unq_in5:∀(A X:List UInt8) (i:Nat) (acc:List UInt8) {y:List UInt8×Nat},(34:UInt8) ∉ X→unqF (A++X) i acc=some y→unqF A i acc=some y
 | [],X,i,acc,y,hX,h=>by rw [List.nil_append,Xi X i acc hX] at h;cases h
 | [c],X,i,acc,y,hX,h=>by
  cases X with
  | nil=>rw [List.append_nil] at h;exact h
  | cons d r=>
   have hr:(34:UInt8) ∉ r:=fun hh=>hX (.tail _ hh)
   rw [List.singleton_append,unqF] at h
   rw [unqF]
   split at h
   ·rename_i hc;rw [if_pos hc];exact h
   ·rename_i hc
    split at h
    ·split at h
     ·rw [Xi r _ _ hr] at h;cases h
     ·split at h
      ·rw [Xi r _ _ hr] at h;cases h
      ·cases h
    ·rw [Xi (d::r) _ _ hX] at h;cases h
 | c::d::r,X,i,acc,y,hX,h=>by
  rw [List.cons_append,List.cons_append,unqF] at h
  rw [unqF]
  split at h
  ·rename_i hc;rw [if_pos hc];exact h
  ·rename_i hc
   rw [if_neg hc]
   split at h
   ·rename_i h92
    rw [if_pos h92]
    split at h
    ·rename_i hd;rw [if_pos hd];exact unq_in5 r X _ _ hX h
    ·rename_i hd
     rw [if_neg hd]
     split at h
     ·rename_i hn;rw [if_pos hn];exact unq_in5 r X _ _ hX h
     ·cases h
   ·rename_i h92
    rw [if_neg h92]
    exact unq_in5 (d::r) X _ _ hX h
theorem WW:∀(A Y:List UInt8) (i:Nat) (acc:List UInt8) {y:List UInt8×Nat},unqF A i acc=some y→unqF (A++Y) i acc=some y
 | [],_,_,_,_,h=>by cases h
 | [c],Y,i,acc,y,h=>by
  rw [unqF] at h
  split at h
  ·rename_i hc
   cases Y with
   | nil=>rw [List.append_nil,unqF,if_pos hc];exact h
   | cons d r=>rw [List.singleton_append,unqF,if_pos hc];exact h
  ·cases h
 | c::d::r,Y,i,acc,y,h=>by
  rw [List.cons_append,List.cons_append,unqF]
  rw [unqF] at h
  split at h
  ·rename_i hc;rw [if_pos hc];exact h
  ·rename_i hc
   rw [if_neg hc]
   split at h
   ·rename_i h92
    rw [if_pos h92]
    split at h
    ·rename_i hd;rw [if_pos hd];exact WW r Y _ _ h
    ·rename_i hd
     rw [if_neg hd]
     split at h
     ·rename_i hn;rw [if_pos hn];exact WW r Y _ _ h
     ·cases h
   ·rename_i h92
    rw [if_neg h92]
    exact WW (d::r) Y _ _ h
theorem unq_bd5:∀(l:List UInt8) (i:Nat) (acc t:List UInt8) (k:Nat),unqF l i acc=some (t,k)→i+1≤k∧k≤i+l.length
 | [],_,_,_,_,h=>by simp [unqF] at h
 | [c],i,acc,t,k,h=>by
  rw [unqF] at h
  split at h
  ·cases h;simp
  ·cases h
 | c::d::r,i,acc,t,k,h=>by
  rw [unqF] at h
  simp only [List.length_cons]
  split at h
  ·cases h;omega
  ·split at h
   ·split at h
    ·have:=unq_bd5 r _ _ _ _ h;omega
    ·split at h
     ·have:=unq_bd5 r _ _ _ _ h;omega
     ·cases h
   ·have:=unq_bd5 (d::r) _ _ _ _ h
    simp only [List.length_cons] at this;omega
theorem Yu:∀(k:Nat) (A:List UInt8) (n i:Nat) (acc:List Tk) (X:List UInt8),A.length≤k→Stp5 X→(34:UInt8) ∉ X→(35:UInt8) ∉ A→(A++X).length<n→(scanF n (A++X) i acc).2.2=true→
  ∃tA,∀Y T,Stp5 Y→Z7 Y T→Z7 (A++Y) (tA++T)
 | _,[],_,_,_,_,_,_,_,_,_,_=>⟨[],fun Y T _ h=>h⟩
 | 0,c::A,_,_,_,_,h,_,_,_,_,_=>by simp at h
 | k+1,c::A,n,i,acc,X,hk,hX,hq,h35,hn,h=>by
  obtain ⟨n,rfl⟩:∃k,n=k+1:=⟨n - 1,by simp at hn;omega⟩
  have hk:A.length≤k:=by simpa using hk
  have hnA:(A++X).length<n:=by simpa using hn
  have c35:¬(c == 35)=true:=fun hh=>h35 (by rw [beq_iff_eq] at hh;rw [hh];exact .head _)
  have h35A:(35:UInt8) ∉ A:=fun hh=>h35 (.tail _ hh)
  have h35d:∀m,(35:UInt8) ∉ (c::A).drop m:=fun m hh=>h35 (List.mem_of_mem_drop hh)
  rw [List.cons_append,scanF,if_neg c35] at h
  by_cases csp:(c == 32 || c == 9)=true
  ·rw [if_pos csp] at h
   obtain ⟨tA,hA⟩:=Yu k A n _ _ X hk hX hq h35A hnA h
   exact ⟨tA,fun Y T hY hT=>Yf csp (hA Y T hY hT)⟩
  rw [if_neg csp] at h
  by_cases cl:isLet c=true
  ·rw [if_pos cl] at h
   have e:=YX (p:=isLet) (c::A) X (fun d hd=>(hX d hd).1)
   rw [List.cons_append] at e
   rw [e] at h
   have h1:1≤spanF isLet (c::A):=by rw [spanF,if_pos cl];omega
   have h2:=Z3 isLet (c::A)
   rw [←List.cons_append,List.drop_append_of_le_length h2] at h
   obtain ⟨tA,hA⟩:=Yu k _ n _ _ X (by rw [List.length_drop,List.length_cons];omega) hX hq (h35d _) (by rw [List.length_append,List.length_drop,List.length_cons];rw [List.length_append] at hnA;omega) h
   refine ⟨(1,ofL ((c::A).take (spanF isLet (c::A))))::tA,fun Y T hY hT=>?_⟩
   have e':=YX (p:=isLet) (c::A) Y (fun d hd=>(hY d hd).1)
   rw [List.cons_append] at e'
   have:=scs_let5 (L:=A++Y) (T:=tA++T) cl (by rw [e',←List.cons_append,List.drop_append_of_le_length h2];exact hA Y T hY hT)
   rw [e',←List.cons_append,List.take_append_of_le_length h2] at this
   exact this
  rw [if_neg cl] at h
  by_cases cd:isDgt c=true
  ·rw [if_pos cd] at h
   have e:=YX (p:=inNum) (c::A) X (fun d hd=>(hX d hd).2)
   rw [List.cons_append] at e
   rw [e] at h
   have h1:1≤spanF inNum (c::A):=by rw [spanF,if_pos (by rw [inNum,cd];rfl)];omega
   have h2:=Z3 inNum (c::A)
   rw [←List.cons_append,List.drop_append_of_le_length h2] at h
   obtain ⟨tA,hA⟩:=Yu k _ n _ _ X (by rw [List.length_drop,List.length_cons];omega) hX hq (h35d _) (by rw [List.length_append,List.length_drop,List.length_cons];rw [List.length_append] at hnA;omega) h
   refine ⟨(2,ofL ((c::A).take (spanF inNum (c::A))))::tA,fun Y T hY hT=>?_⟩
   have e':=YX (p:=inNum) (c::A) Y (fun d hd=>(hY d hd).2)
   rw [List.cons_append] at e'
   have:=scs_num5 (L:=A++Y) (T:=tA++T) cd (by rw [e',←List.cons_append,List.drop_append_of_le_length h2];exact hA Y T hY hT)
   rw [e',←List.cons_append,List.take_append_of_le_length h2] at this
   exact this
  rw [if_neg cd] at h
  by_cases c34:(c == 34)=true
  ·rw [if_pos c34] at h
   have c34:c=34:=by simpa using c34
   subst c34
   cases hu:unqF (A++X) 1 [] with
   | none=>rw [hu] at h;cases h
   | some y=>
    obtain ⟨t,m⟩:=y
    rw [hu] at h
    have hu2:=unq_in5 A X 1 [] hq hu
    obtain ⟨b1,b2⟩:=unq_bd5 _ _ _ _ _ hu2
    have h2:m≤(34::A).length:=by rw [List.length_cons];omega
    have h:(scanF n ((34::(A++X)).drop m) (i+m) (acc++[⟨3,ofL t,i⟩])).2.2=true:=h
    rw [←List.cons_append,List.drop_append_of_le_length h2] at h
    obtain ⟨tA,hA⟩:=Yu k _ n _ _ X (by rw [List.length_drop,List.length_cons];omega) hX hq (h35d _) (by rw [List.length_append,List.length_drop,List.length_cons];rw [List.length_append] at hnA;omega) h
    refine ⟨(3,ofL t)::tA,fun Y T hY hT=>?_⟩
    exact scs_str5 (L:=A++Y) (T:=tA++T) (WW A Y 1 [] hu2) (by omega) (by rw [←List.cons_append,List.drop_append_of_le_length h2];exact hA Y T hY hT)
  rw [if_neg c34] at h
  by_cases cs:isSym c=true
  ·rw [if_pos cs] at h
   obtain ⟨tA,hA⟩:=Yu k A n _ _ X hk hX hq h35A hnA h
   exact ⟨(4,ofL [c])::tA,fun Y T hY hT=>YP cs (hA Y T hY hT)⟩
  ·rw [if_neg cs] at h
   cases h
def YE:ByteArray:=⟨#[97,115,107]⟩
def actY5 (m:Mq):ByteArray×Mq:=if idx m.hd wActs=1 then (if m.pass.has (fun t=>decide (t.kd=3) && (tplF t.tx).2.isSome) then m.pass.fail 3 else m.pass).take (fun t=>decide (t.kd=3)) else (eB,m.pass)
theorem act_eq5 {m:Mq} (hc:m.e=0∧m.has (fun t=>decide (t.kd=1) && decide (idx t.tx wActs<5))=true):actM m=(⟨(idx m.hd wActs:Nat)+1,(actY5 m).1⟩,if (actY5 m).2.tk≠[] then (actY5 m).2.fail 30 else (actY5 m).2):=by
 unfold actM
 rw [if_pos hc]
 rfl
theorem act_snd5 {m:Mq} (h:(actM m).2.e=0):m.e=0∧((∃w,sk5 m.tk=[(1,w)]∧idx w wActs<5∧(actM m).1=⟨(idx w wActs:Nat)+1,eB⟩)∨∃w s,sk5 m.tk=[(1,w),(3,s)]):=by
 by_cases hc:m.e=0∧m.has (fun t=>decide (t.kd=1) && decide (idx t.tx wActs<5))=true
 ·rw [act_eq5 hc] at h ⊢
  refine ⟨hc.1,?_⟩
  dsimp only at h ⊢
  by_cases hz:(actY5 m).2.tk≠[]
  ·rw [if_pos hz] at h
   exact absurd h (YA (by decide))
  rw [if_neg hz] at h
  have hz:=Classical.not_not.1 hz
  obtain ⟨he,hc⟩:=hc
  obtain ⟨tk,en,op,e,cl⟩:=m
  cases tk with
  | nil=>cases hc
  | cons t ts=>
   have hq:(decide (t.kd=1) && decide (idx t.tx wActs<5))=true:=hc
   simp only [Bool.and_eq_true,decide_eq_true_eq] at hq
   have hhd:(⟨t::ts,en,op,e,cl⟩:Mq).hd=t.tx:=rfl
   unfold actY5 at h hz ⊢
   rw [hhd] at h hz ⊢
   by_cases h1:idx t.tx wActs=1
   ·rw [if_pos h1] at h hz
    obtain ⟨k1,k2,k3⟩:=Xz h
    rw [k3] at hz
    by_cases hv:(⟨t::ts,en,op,e,cl⟩:Mq).pass.has (fun t=>decide (t.kd=3) && (tplF t.tx).2.isSome)=true
    ·rw [if_pos hv] at k1
     exact absurd k1 (YA (by decide))
    ·rw [if_neg hv] at k2 hz
     cases ts with
     | nil=>cases k2
     | cons u us=>
      have hk3:u.kd=3:=of_decide_eq_true k2
      have hz:us=[]:=hz
      subst hz
      exact .inr ⟨t.tx,u.tx,by show [(t.kd,t.tx),(u.kd,u.tx)]=_;rw [hq.1,hk3]⟩
   ·rw [if_neg h1] at h hz
    have hz:ts=[]:=hz
    subst hz
    left
    refine ⟨t.tx,by show [(t.kd,t.tx)]=_;rw [hq.1],hq.2,?_⟩
    rw [if_neg h1]
 ·unfold actM at h
  rw [if_neg hc] at h
  exact absurd h (YA (by decide))
theorem rule_snd5 {m:Mq} {tA:List St5} (he:m.e=0) (ho:m.op=0) (hs:sk5 m.tk=(1,wIf)::(tA++[(4,yCol),(1,YE)])) (h:(ruleM m).2.e=0):∃c,DC5 32 tA c∧(ruleM m).1=⟨some c,⟨5,eB⟩⟩:=by
 obtain ⟨w1,w2⟩:=Wa he hs
 rw [ruleM_eq] at h ⊢
 rw [if_pos w1] at h ⊢
 dsimp only at h ⊢
 obtain ⟨a1,a2⟩:=act_snd5 h
 obtain ⟨k1,k2,k3⟩:=Xz a1
 rw [k3] at a2
 obtain ⟨_,T,t1,t2⟩:=(snd_all _).2.2.2.1 m.pass (by show m.op≤32;omega) k1
 have ed:(32 - m.pass.op).toNat=32:=by show (32 - m.op).toNat=32;omega
 rw [ed] at t2
 rw [w2,has_sk k2] at t1
 rcases a2 with ⟨w,b1,b2,b3⟩|⟨w,s,b1⟩
 ·have b1':sk5 (condM (fuM m.pass) m.pass).2.pass.tk=[(1,w)]:=b1
  rw [b1'] at t1
  obtain ⟨e1,e2⟩:=List.append_inj' t1 rfl
  subst e1
  obtain ⟨_,e3⟩:=List.cons.inj e2
  have e4:w=YE:=((Prod.mk.inj (List.cons.inj e3).1).2).symm
  refine ⟨_,t2,?_⟩
  rw [k3]
  dsimp only at b3 ⊢
  rw [b3,e4]
  rfl
 ·have b1':sk5 (condM (fuM m.pass) m.pass).2.pass.tk=[(1,w),(3,s)]:=b1
  rw [b1'] at t1
  have e:=congrArg List.getLast? t1
  have l1:(tA++[((4:Int),yCol),(1,YE)]).getLast? = some (1,YE):=by rw [show tA++[((4:Int),yCol),(1,YE)]=(tA++[(4,yCol)])++[(1,YE)] by simp,List.getLast?_append];rfl
  have l2:(T++((4:Int),yCol)::[(1,w),(3,s)]).getLast? = some (3,s):=by rw [show T++((4:Int),yCol)::[(1,w),(3,s)]=(T++[(4,yCol),(1,w)])++[(3,s)] by simp,List.getLast?_append];rfl
  rw [l1,l2] at e
  exact absurd (Prod.mk.inj (Option.some.inj e)).1 (by decide)
theorem act_ask5 {m:Mq} (he:m.e=0) (h:sk5 m.tk=[(1,YE)]):(actM m).1=⟨5,eB⟩∧(actM m).2.e=0:=by
 obtain ⟨t,ts,h1,h2,h3,h4⟩:=Ye h
 obtain ⟨tk,en,op,e,cl⟩:=m
 dsimp only at he h1 h2 h3
 subst he;subst h1
 have h5:ts=[]:=by
  cases ts with
  | nil=>rfl
  | cons _ _=>cases h4
 subst h5
 obtain ⟨kd,tx,pl⟩:=t
 dsimp only at h2 h3
 subst h2;subst h3
 have hp:(⟨[⟨1,YE,pl⟩],en,op,0,cl⟩:Mq).has (fun t=>decide (t.kd=1) && decide (idx t.tx wActs<5))=true:=by show (decide ((1:Int)=1) && decide (idx YE wActs<5))=true;decide
 have hi:idx YE wActs=4:=by decide
 unfold actM
 rw [if_pos ⟨rfl,hp⟩]
 have hhd:(⟨[⟨1,YE,pl⟩],en,op,0,cl⟩:Mq).hd=YE:=rfl
 simp only [hhd,hi]
 exact ⟨rfl,rfl⟩
theorem rule_cmp5 {d:Nat} {m:Mq} {tX:List St5} {c:Tr5} (he:m.e=0) (ho:m.op=0) (hs:sk5 m.tk=(1,wIf)::(tX++[(4,yCol),(1,YE)])) (hd:DC5 d tX c):((ruleM m).2.e=9∧32<d)∨(ruleM m).2.e=0∧(ruleM m).1=⟨some c,⟨5,eB⟩⟩:=by
 obtain ⟨w1,w2⟩:=Wa he hs
 rw [ruleM_eq,if_pos w1]
 dsimp only
 have hlen:m.pass.tk.length=tX.length+2:=by
  have:=congrArg List.length w2
  unfold sk5 at this
  rw [List.length_map] at this
  rw [this];simp
 rcases (cmp_all _).2.2.2.1 d tX c hd m.pass [(4,yCol),(1,YE)] (show 4 * tX.length+3≤fuM m.pass by unfold fuM;omega) he w2 (by rw [List.head?_cons];decide) (by rw [List.head?_cons];decide) with ⟨r1,r2,r3,r4⟩|r
 ·obtain ⟨q1,q2⟩:=take_sk r2 r4
  rw [q1]
  obtain ⟨a1,a2⟩:=act_ask5 (m:=(condM (fuM m.pass) m.pass).2.pass) r2 q2
  exact .inr ⟨a2,by rw [r1,a1]⟩
 ·left
  have hne:(condM (fuM m.pass) m.pass).2.e≠0:=by rw [r.1];decide
  have r2:32<m.op+(d:Int):=r.2
  refine ⟨?_,by omega⟩
  rw [XL hne]
  unfold actM
  rw [if_neg (fun h=>hne h.1),YF hne]
  exact r.1
theorem line_snd5 {L:List UInt8} {tA:List St5} {n:Nat} {x:RuM} {y:Int×Int} (hsc:Z7 L ((1,wIf)::(tA++[(4,yCol),(1,YE)]))) (h:lineM L n=(some x,y)):∃c,DC5 32 tA c∧x=⟨some c,⟨5,eB⟩⟩:=by
 obtain ⟨ts,j,e1,e2⟩:=hsc (L.length+1) 0 [] (Nat.lt_succ_self _)
 rw [List.nil_append] at e1
 unfold lineM at h
 rw [e1] at h
 dsimp only at h
 rw [if_neg (by decide)] at h
 cases ts with
 | nil=>cases h
 | cons t tl=>
  dsimp only at h
  split at h
  ·cases h
  ·split at h
   ·cases h
   ·rename_i hz
    have hz:=Classical.not_not.1 hz
    obtain ⟨c,c1,c2⟩:=rule_snd5 (m:=⟨t::tl,(j:Int)+1,0,0,0⟩) rfl rfl e2 hz
    refine ⟨c,c1,?_⟩
    rw [←c2]
    exact (Option.some.inj (Prod.mk.inj h).1).symm
theorem WJ {d:Nat} {L:List UInt8} {tX:List St5} {c:Tr5} {n:Nat} (hsc:Z7 L ((1,wIf)::(tX++[(4,yCol),(1,YE)]))) (hd:DC5 d tX c) (hn:n≠256):((∃a,lineM L n=(none,a,9))∧32<d)∨lineM L n=(some ⟨some c,⟨5,eB⟩⟩,0,0):=by
 obtain ⟨ts,j,e1,e2⟩:=hsc (L.length+1) 0 [] (Nat.lt_succ_self _)
 rw [List.nil_append] at e1
 unfold lineM
 rw [e1]
 dsimp only
 rw [if_neg (by decide)]
 cases ts with
 | nil=>cases e2
 | cons t tl=>
  dsimp only
  rw [if_neg hn]
  rcases rule_cmp5 (m:=⟨t::tl,(j:Int)+1,0,0,0⟩) rfl rfl e2 hd with ⟨r,r3⟩|⟨r1,r2⟩
  ·rw [if_pos (by rw [r];decide),r]
   exact .inl ⟨⟨_,rfl⟩,r3⟩
  ·rw [if_neg (by rw [r1];decide),r2]
   exact .inr rfl
def pIf5:List UInt8:=[105,102,32]
def XJ:List UInt8:=[58,32,97,115,107]
def pNot5:List UInt8:=[105,102,32,110,111,116,32,40]
def pCls5:List UInt8:=[41,58,32,97,115,107]
def pOpn5:List UInt8:=[105,102,32,40]
def pAnd5:List UInt8:=[41,32,97,110,100,32,40]
def pOr5:List UInt8:=[41,32,111,114,32,40]
def pOrr5:List UInt8:=[32,111,114,32]
def S15 (a:List UInt8):List UInt8:=pIf5++(a++XJ)
def lnA5 (a:List UInt8):List UInt8:=pNot5++(a++pCls5)
def lnB5 (a b:List UInt8):List UInt8:=pOpn5++(a++(pAnd5++(b++pCls5)))
def lnC5 (a b:List UInt8):List UInt8:=pOpn5++(a++(pOr5++(b++pCls5)))
def lnD5 (a b:List UInt8):List UInt8:=pIf5++(a++(pOrr5++(b++XJ)))
def SW5 (a b:List UInt8):List UInt8:=lnA5 a++10::(lnB5 a b++10::(lnC5 a b++10::lnD5 a b))
def PfT5 (a:List UInt8) (tA:List St5):Prop:=∀Y T,Stp5 Y→Z7 Y T→Z7 (a++Y) (tA++T)
theorem stp5 {c:UInt8} {Y:List UInt8} (h:isLet c=false∧inNum c=false):Stp5 (c::Y):=fun d hd=>by cases hd;exact h
theorem ask_scs5:Z7 XJ [(4,yCol),(1,YE)]:=
 YP (c:=58) (by decide) (Yf (c:=32) (by decide) (Ys (w:=[97,115,107]) (L:=[]) (by decide) (by decide) (fun _ h=>by cases h) scs_nil5))
theorem cls_scs5:Z7 pCls5 [(4,yCls),(4,yCol),(1,YE)]:=YP (c:=41) (by decide) ask_scs5
theorem if_scs5 {L:List UInt8} {T:List St5} (h:Z7 L T):Z7 (pIf5++L) ((1,wIf)::T):=
 Ys (w:=[105,102]) (L:=32::L) (by decide) (by decide) (stp5 (by decide)) (Yf (by decide) h)
theorem opn_scs5 {L:List UInt8} {T:List St5} (h:Z7 L T):Z7 (pOpn5++L) ((1,wIf)::(4,yOpn)::T):=
 if_scs5 (L:=40::L) (YP (by decide) h)
theorem not_scs5 {L:List UInt8} {T:List St5} (h:Z7 L T):Z7 (pNot5++L) ((1,wIf)::(1,wNot)::(4,yOpn)::T):=
 if_scs5 (L:=110::111::116::32::40::L) (Ys (w:=[110,111,116]) (L:=32::40::L) (by decide) (by decide) (stp5 (by decide)) (Yf (by decide) (YP (by decide) h)))
theorem and_scs5 {L:List UInt8} {T:List St5} (h:Z7 L T):Z7 (pAnd5++L) ((4,yCls)::(1,wAnd)::(4,yOpn)::T):=
 YP (c:=41) (by decide) (Yf (c:=32) (by decide) (Ys (w:=[97,110,100]) (L:=32::40::L) (by decide) (by decide) (stp5 (by decide)) (Yf (by decide) (YP (by decide) h))))
theorem or_scs5 {L:List UInt8} {T:List St5} (h:Z7 L T):Z7 (pOr5++L) ((4,yCls)::(1,wOr)::(4,yOpn)::T):=
 YP (c:=41) (by decide) (Yf (c:=32) (by decide) (Ys (w:=[111,114]) (L:=32::40::L) (by decide) (by decide) (stp5 (by decide)) (Yf (by decide) (YP (by decide) h))))
theorem orr_scs5 {L:List UInt8} {T:List St5} (h:Z7 L T):Z7 (pOrr5++L) ((1,wOr)::T):=
 Yf (c:=32) (by decide) (Ys (w:=[111,114]) (L:=32::L) (by decide) (by decide) (stp5 (by decide)) (Yf (by decide) h))
theorem dt_of5 {d:Nat} {T:List St5} {c:Tr5} (h:DF5 d T c):DT5 d T (.mk wAnd [c] eB eB 0):=by
 have:=DT5.mk h .nil
 rwa [List.append_nil] at this
theorem dc_of5 {d:Nat} {T:List St5} {c:Tr5} (h:DT5 d T c):DC5 d T (.mk wOr [c] eB eB 0):=by
 have:=DC5.mk h .nil
 rwa [List.append_nil] at this
theorem dcl_app5 {d:Nat} {V:List St5} {ds:List Tr5} (k:DCL5 d V ds):∀(cs:List Tr5) (U:List St5),DCL5 d U cs→DCL5 d (U++V) (cs++ds)
 | [],_,h=>by cases h;exact k
 | c::cs,_,h=>by
  cases h with
  | @cons _ T U _ _ h1 h2=>
   have:=DCL5.cons h1 (dcl_app5 k cs U h2)
   rw [List.cons_append,List.append_assoc]
   exact this
theorem dc_or5 {d:Nat} {tA tB:List St5} {ca cb:Tr5} (ha:DC5 d tA ca) (hb:DC5 d tB cb):∃la lb,ca = .mk wOr la eB eB 0∧cb = .mk wOr lb eB eB 0∧DC5 d (tA++(1,wOr)::tB) (.mk wOr (la++lb) eB eB 0):=by
 cases ha with
 | @mk _ T U c cs h1 h2=>
  cases hb with
  | @mk _ T' U' c' cs' k1 k2=>
   refine ⟨c::cs,c'::cs',rfl,rfl,?_⟩
   have:=DC5.mk h1 (dcl_app5 (DCL5.cons k1 k2) cs U h2)
   rw [List.append_assoc]
   exact this
theorem Yw:∀l:List UInt8,(10:UInt8) ∉ l→linesF l=[l]
 | [],_=>rfl
 | c::r,h=>by
  have hc:¬(c == 10)=true:=fun hh=>by rw [beq_iff_eq] at hh;exact h (by rw [hh];exact .head _)
  rw [linesF,if_neg hc,Yw r (fun hh=>h (.tail _ hh))]
theorem scan_if5 (n:Nat) (R:List UInt8) (i:Nat) (acc:List Tk):scanF (n+2) (105::102::32::R) i acc=scanF n R (i+2+1) (acc++[⟨1,wIf,i⟩]):=by
 have e:spanF isLet (105::102::32::R)=2:=YX (p:=isLet) [105,102] (32::R) (fun c hc=>by cases hc;decide)
 rw [scanF,if_neg (by decide),if_neg (by decide),if_pos (by decide),e]
 show scanF (n+1) (32::R) (i+2) _=_
 rw [scanF,if_neg (by decide),if_pos (by decide)]
 rfl
theorem one5 {a:List UInt8} (h10:(10:UInt8) ∉ a) (h35:(35:UInt8) ∉ a) {ra:List Ru} (h:parF (ofL (S15 a)) = .ok ra) (hl:ra.length=1) :
  ∃tA ca,PfT5 a tA∧DC5 32 tA ca∧WfT ca∧ra=[⟨some (toC ca),⟨5,eB⟩⟩]:=by
 have hs:=par_sim (ofL (S15 a))
 rw [h] at hs
 cases hm:parM (ofL (S15 a)) with
 | error e=>rw [hm] at hs;exact absurd hs id
 | ok k=>
  rw [hm] at hs
  obtain ⟨rfl,hw⟩:=hs
  rw [List.length_map] at hl
  obtain ⟨x,rfl⟩:=List.length_eq_one_iff.1 hl
  unfold parM at hm
  rw [Y8] at hm
  have hno:(10:UInt8) ∉ S15 a:=fun hh=>by
   unfold S15 pIf5 XJ at hh
   simp only [List.mem_append,List.mem_cons,List.not_mem_nil,or_false] at hh
   rcases hh with hh|hh|hh
   ·revert hh;decide
   ·exact h10 hh
   ·revert hh;decide
  rw [Yw _ hno] at hm
  split at hm
  ·cases hm
  ·rw [rowsM] at hm
   split at hm
   ·rename_i x' y z hx
    rw [rowsM] at hm
    have hx':[x']=[x]:=by have:=Except.ok.inj hm;simpa using this
    obtain rfl:x'=x:=(List.cons.inj hx').1
    have hok:(scanF ((S15 a).length+1) (S15 a) 0 []).2.2=true:=by
     unfold lineM at hx
     dsimp only at hx
     cases ho:(scanF ((S15 a).length+1) (S15 a) 0 []).2.2 with
     | true=>rfl
     | false=>rw [if_pos ho] at hx;cases hx
    have hlen:(S15 a).length+1=(a++XJ).length+2+2:=by unfold S15 pIf5;simp
    rw [hlen] at hok
    have hok:(scanF ((a++XJ).length+2) (a++XJ) (0+2+1) ([]++[⟨1,wIf,(0:Nat)⟩])).2.2=true:=by rw [←scan_if5];exact hok
    obtain ⟨tA,hA⟩:=Yu a.length a _ _ _ XJ (Nat.le_refl _) (stp5 (by decide)) (by decide) h35 (by omega) hok
    have hsc:Z7 (S15 a) ((1,wIf)::(tA++[(4,yCol),(1,YE)])):=if_scs5 (hA _ _ (stp5 (by decide)) ask_scs5)
    obtain ⟨ca,c1,c2⟩:=line_snd5 hsc hx
    subst c2
    exact ⟨tA,ca,hA,c1,hw _ (.head _) ca rfl,rfl⟩
   ·split at hm
    ·rw [rowsM] at hm;cases hm
    ·cases hm
theorem rows_four5 {l1 l2 l3 l4:List UInt8} {x1 x2 x3 x4:RuM} (h1:(∃a,lineM l1 0=(none,a,9))∨lineM l1 0=(some x1,0,0)) (h2:(∃a,lineM l2 1=(none,a,9))∨lineM l2 1=(some x2,0,0))
  (h3:(∃a,lineM l3 2=(none,a,9))∨lineM l3 2=(some x3,0,0)) (h4:(∃a,lineM l4 3=(none,a,9))∨lineM l4 3=(some x4,0,0)) :
  (∃r a,rowsM [l1,l2,l3,l4] 0 [] = .error (r,a,9))∨rowsM [l1,l2,l3,l4] 0 [] = .ok [x1,x2,x3,x4]:=by
 rw [rowsM]
 show (∃r a,(match lineM l1 0 with|(some x,_,_)=>rowsM [l2,l3,l4] 1 ([]++[x])|(none,a,e)=>if e=0 then rowsM [l2,l3,l4] 1 [] else .error (((0:Nat):Int)+1,a,e)) = .error (r,a,9))∨(match lineM l1 0 with|(some x,_,_)=>rowsM [l2,l3,l4] 1 ([]++[x])|(none,a,e)=>if e=0 then rowsM [l2,l3,l4] 1 [] else .error (((0:Nat):Int)+1,a,e)) = .ok [x1,x2,x3,x4]
 rcases h1 with ⟨a,h1⟩|h1
 ·rw [h1];exact .inl ⟨_,a,rfl⟩
 rw [h1]
 dsimp only
 rw [rowsM]
 show (∃r a,(match lineM l2 1 with|(some x,_,_)=>rowsM [l3,l4] 2 ([x1]++[x])|(none,a,e)=>if e=0 then rowsM [l3,l4] 2 [x1] else .error (((1:Nat):Int)+1,a,e)) = .error (r,a,9))∨(match lineM l2 1 with|(some x,_,_)=>rowsM [l3,l4] 2 ([x1]++[x])|(none,a,e)=>if e=0 then rowsM [l3,l4] 2 [x1] else .error (((1:Nat):Int)+1,a,e)) = .ok [x1,x2,x3,x4]
 rcases h2 with ⟨a,h2⟩|h2
 ·rw [h2];exact .inl ⟨_,a,rfl⟩
 rw [h2]
 dsimp only
 rw [rowsM]
 show (∃r a,(match lineM l3 2 with|(some x,_,_)=>rowsM [l4] 3 ([x1,x2]++[x])|(none,a,e)=>if e=0 then rowsM [l4] 3 [x1,x2] else .error (((2:Nat):Int)+1,a,e)) = .error (r,a,9))∨(match lineM l3 2 with|(some x,_,_)=>rowsM [l4] 3 ([x1,x2]++[x])|(none,a,e)=>if e=0 then rowsM [l4] 3 [x1,x2] else .error (((2:Nat):Int)+1,a,e)) = .ok [x1,x2,x3,x4]
 rcases h3 with ⟨a,h3⟩|h3
 ·rw [h3];exact .inl ⟨_,a,rfl⟩
 rw [h3]
 dsimp only
 rw [rowsM]
 show (∃r a,(match lineM l4 3 with|(some x,_,_)=>rowsM [] 4 ([x1,x2,x3]++[x])|(none,a,e)=>if e=0 then rowsM [] 4 [x1,x2,x3] else .error (((3:Nat):Int)+1,a,e)) = .error (r,a,9))∨(match lineM l4 3 with|(some x,_,_)=>rowsM [] 4 ([x1,x2,x3]++[x])|(none,a,e)=>if e=0 then rowsM [] 4 [x1,x2,x3] else .error (((3:Nat):Int)+1,a,e)) = .ok [x1,x2,x3,x4]
 rcases h4 with ⟨a,h4⟩|h4
 ·rw [h4];exact .inl ⟨_,a,rfl⟩
 rw [h4]
 exact .inr rfl
theorem anyM_app5 (c:Cq):∀l m:List Tr5,anyM c (l++m)=(anyM c l || anyM c m)
 | [],m=>by rw [List.nil_append,anyM];rfl
 | t::l,m=>by rw [List.cons_append,anyM,anyM,anyM_app5 c l m,Bool.or_assoc]
theorem XG (c:Cq) (l:List Tr5) (a b:ByteArray) (n:Int):holM c (.mk wOr l a b n)=anyM c l:=by rw [holM,if_pos rfl]
theorem WG (c:Cq) (l:List Tr5) (a b:ByteArray) (n:Int):holM c (.mk wAnd l a b n)=allM c l:=by rw [holM,if_neg (by decide),if_pos rfl]
theorem holM_not5 (c:Cq) (t:Tr5) (a b:ByteArray) (n:Int):holM c (.mk wNot [t] a b n) = !holM c t:=by rw [holM,if_neg (by decide),if_neg (by decide),if_pos rfl,headM]
theorem logic5 {a b:List UInt8} (ha10:(10:UInt8) ∉ a) (ha35:(35:UInt8) ∉ a) (hb10:(10:UInt8) ∉ b) (hb35:(35:UInt8) ∉ b) {ra rb:List Ru} (hsz:a.length≤300∧b.length≤300)
  (ha:parF (ofL (S15 a)) = .ok ra) (hal:ra.length=1) (hb:parF (ofL (S15 b)) = .ok rb) (hbl:rb.length=1) :
  (∃r x,parF (ofL (SW5 a b)) = .error (r,x,9))∨∃xa xb y1 y2 y3 y4,ra=[xa]∧rb=[xb]∧parF (ofL (SW5 a b)) = .ok [y1,y2,y3,y4]∧
   ∀c:Cq,condH c y1 = !condH c xa∧condH c y2=(condH c xa && condH c xb)∧condH c y3=(condH c xa || condH c xb)∧condH c y4=(condH c xa || condH c xb):=by
 obtain ⟨tA,ca,pA,dA,wA,rfl⟩:=one5 ha10 ha35 ha hal
 obtain ⟨tB,cb,pB,dB,wB,rfl⟩:=one5 hb10 hb35 hb hbl
 obtain ⟨la,lb,ea,eb,d4⟩:=dc_or5 dA dB
 have s1:Z7 (lnA5 a) ((1,wIf)::(((1,wNot)::(4,yOpn)::(tA++[(4,yCls)]))++[(4,yCol),(1,YE)])):=by
  have h:=not_scs5 (pA _ _ (stp5 (by decide)) cls_scs5)
  simp only [List.cons_append,List.append_assoc,List.nil_append]
  exact h
 have s2:Z7 (lnB5 a b) ((1,wIf)::(((4,yOpn)::(tA++[(4,yCls)])++(1,wAnd)::(((4,yOpn)::(tB++[(4,yCls)]))++[]))++[(4,yCol),(1,YE)])):=by
  have h:=opn_scs5 (pA _ _ (stp5 (by decide)) (and_scs5 (pB _ _ (stp5 (by decide)) cls_scs5)))
  simp only [List.cons_append,List.append_assoc,List.nil_append,List.append_nil]
  exact h
 have s3:Z7 (lnC5 a b) ((1,wIf)::(((4,yOpn)::(tA++[(4,yCls)])++(1,wOr)::(((4,yOpn)::(tB++[(4,yCls)]))++[]))++[(4,yCol),(1,YE)])):=by
  have h:=opn_scs5 (pA _ _ (stp5 (by decide)) (or_scs5 (pB _ _ (stp5 (by decide)) cls_scs5)))
  simp only [List.cons_append,List.append_assoc,List.nil_append,List.append_nil]
  exact h
 have s4:Z7 (lnD5 a b) ((1,wIf)::((tA++(1,wOr)::tB)++[(4,yCol),(1,YE)])):=by
  have h:=if_scs5 (pA _ _ (stp5 (by decide)) (orr_scs5 (pB _ _ (stp5 (by decide)) ask_scs5)))
  simp only [List.cons_append,List.append_assoc]
  exact h
 have d1:=dc_of5 (dt_of5 (DF5.not (DF5.par dA)))
 have d2:=dc_of5 (DT5.mk (DF5.par dA) (DTL5.cons (DF5.par dB) .nil))
 have d3:=DC5.mk (dt_of5 (DF5.par dA)) (DCL5.cons (dt_of5 (DF5.par dB)) .nil)
 have n1:=(WJ (n:=0) s1 d1 (by decide)).imp_left And.left
 have n2:=(WJ (n:=1) s2 d2 (by decide)).imp_left And.left
 have n3:=(WJ (n:=2) s3 d3 (by decide)).imp_left And.left
 have n4:=(WJ (n:=3) s4 d4 (by decide)).imp_left And.left
 have no:∀l:List UInt8,(10:UInt8) ∉ l→∀m:List UInt8,(10:UInt8) ∉ m→(10:UInt8) ∉ l++m:=fun l hl m hm h=>(List.mem_append.1 h).elim hl hm
 have hls:linesF (SW5 a b)=[lnA5 a,lnB5 a b,lnC5 a b,lnD5 a b]:=by
  unfold SW5
  have l1:linesF (lnA5 a)=[lnA5 a]:=Yw _ (show (10:UInt8) ∉ pNot5++(a++pCls5) from no _ (by decide) _ (no _ ha10 _ (by decide)))
  have l2:linesF (lnB5 a b)=[lnB5 a b]:=Yw _ (show (10:UInt8) ∉ pOpn5++(a++(pAnd5++(b++pCls5))) from no _ (by decide) _ (no _ ha10 _ (no _ (by decide) _ (no _ hb10 _ (by decide)))))
  have l3:linesF (lnC5 a b)=[lnC5 a b]:=Yw _ (show (10:UInt8) ∉ pOpn5++(a++(pOr5++(b++pCls5))) from no _ (by decide) _ (no _ ha10 _ (no _ (by decide) _ (no _ hb10 _ (by decide)))))
  have l4:linesF (lnD5 a b)=[lnD5 a b]:=Yw _ (show (10:UInt8) ∉ pIf5++(a++(pOrr5++(b++XJ))) from no _ (by decide) _ (no _ ha10 _ (no _ (by decide) _ (no _ hb10 _ (by decide)))))
  rw [Yh,Yh,Yh,l1,l2,l3,l4]
  rfl
 have hM:parM (ofL (SW5 a b))=rowsM [lnA5 a,lnB5 a b,lnC5 a b,lnD5 a b] 0 []:=by
  unfold parM
  rw [Y8,hls,if_neg]
  rw [Y3]
  unfold SW5 lnA5 lnB5 lnC5 lnD5 pNot5 pOpn5 pIf5 pCls5 pAnd5 pOr5 pOrr5 XJ
  simp only [List.length_append,List.length_cons,List.length_nil]
  omega
 have hs:=par_sim (ofL (SW5 a b))
 rcases rows_four5 n1 n2 n3 n4 with ⟨r,x,e⟩|e
 ·left
  rw [hM,e] at hs
  cases hf:parF (ofL (SW5 a b)) with
  | ok l=>rw [hf] at hs;exact absurd hs id
  | error z=>rw [hf] at hs;exact ⟨r,x,by rw [show z=_ from hs]⟩
 ·right
  rw [hM,e] at hs
  cases hf:parF (ofL (SW5 a b)) with
  | error z=>rw [hf] at hs;exact absurd hs id
  | ok l=>
   rw [hf] at hs
   obtain ⟨rfl,hw⟩:=hs
   refine ⟨_,_,_,_,_,_,rfl,rfl,rfl,fun c=>?_⟩
   have v:∀t,WfT t→condH c ⟨some (toC t),⟨5,eB⟩⟩=holM c t:=fun t ht=>Wo c t ht
   have w1:=v _ (hw _ (.head _) _ rfl)
   have w2:=v _ (hw _ (.tail _ (.head _)) _ rfl)
   have w3:=v _ (hw _ (.tail _ (.tail _ (.head _))) _ rfl)
   have w4:=v _ (hw _ (.tail _ (.tail _ (.tail _ (.head _)))) _ rfl)
   have va:=v _ wA
   have vb:=v _ wB
   refine ⟨?_,?_,?_,?_⟩
   ·refine w1.trans ?_
    rw [va,XG,anyM,anyM,WG,allM,allM,holM_not5];simp
   ·refine w2.trans ?_
    rw [va,vb,XG,anyM,anyM,WG,allM,allM,allM];simp
   ·refine w3.trans ?_
    rw [va,vb,XG,anyM,anyM,anyM,WG,WG,allM,allM,allM,allM];simp
   ·refine w4.trans ?_
    rw [va,vb,ea,eb,XG,XG,XG,anyM_app5]
abbrev S1B (w:ByteArray):ByteArray:=(⟨#[105,102,32]⟩:ByteArray)++w++⟨#[58,32,97,115,107]⟩
theorem S1B_eq (w:ByteArray):S1B w=ofL (S15 w.data.toList):=XD (by rw [ba_app,ba_app,Y8];simp [S15,pIf5,XJ])
theorem S1B_sz (w:ByteArray):(S1B w).size=w.size+8:=by
 show ((⟨#[105,102,32]⟩:ByteArray)++w++⟨#[58,32,97,115,107]⟩).size=_
 rw [ByteArray.size_append,ByteArray.size_append]
 show 3+w.size+5=_
 omega
abbrev SWB (u v:ByteArray):ByteArray:=(⟨#[105,102,32,110,111,116,32,40]⟩:ByteArray)++u++⟨#[41,58,32,97,115,107,10,105,102,32,40]⟩++u++⟨#[41,32,97,110,100,32,40]⟩++v++⟨#[41,58,32,97,115,107,10,105,102,32,40]⟩++u++⟨#[41,32,111,114,32,40]⟩++v++⟨#[41,58,32,97,115,107,10,105,102,32]⟩++u++⟨#[32,111,114,32]⟩++v++⟨#[58,32,97,115,107]⟩
theorem SWB_eq (u v:ByteArray):SWB u v=ofL (SW5 u.data.toList v.data.toList):=XD (by
 simp only [ba_app]
 simp [SW5,lnA5,lnB5,lnC5,lnD5,pNot5,pOpn5,pIf5,pCls5,pAnd5,pOr5,pOrr5,XJ])
theorem SWB_sz {u v:ByteArray} (hu:u.size≤300) (hv:v.size≤300):(SWB u v).size≤3000:=by
 have e:=congrArg ByteArray.size (SWB_eq u v)
 rw [e,Y3]
 have h1:=lsz u
 have h2:=lsz v
 unfold SW5 lnA5 lnB5 lnC5 lnD5 pNot5 pOpn5 pIf5 pCls5 pAnd5 pOr5 pOrr5 XJ
 simp only [List.length_append,List.length_cons,List.length_nil]
 omega
theorem XE {l:List UInt8} {c:UInt8}:0≤Lib.indexByte l c↔c ∈ l:=by
 have h:=Xm l c
 rw [←List.contains_iff_mem,←h,decide_eq_true_iff]
def okT5 (w:ByteArray) (x:Ru):Prop:=parF (S1B w) = .ok [x]∧(10:UInt8) ∉ w.data.toList∧(35:UInt8) ∉ w.data.toList
abbrev blv (x:Bool):List Value:=[.bool x]
set_option maxHeartbeats 8000000 in
theorem lawLogic_ok (s t:ByteArray) (c:Cq) (_:CqW c):Enters 5∧Spec prog 5 #[.string s,.string t,cqa c] [ErA,P10,MxL] [] (RetV (.bool true)):=by
 have n0:=shortM_ok c
 have hq:=shF_s c
 generalize shF c=e at *
 have n1:=known51_ok
 have hcu:=YV s 300
 have hcv:=YV t 300
 generalize hu:cutS s 300=u at *
 generalize hv:cutS t 300=v at *
 have zu:=S1B_sz u
 have zv:=S1B_sz v
 have zl:u.size+v.size≤600:=by omega
 have p1:=XR (S1B u) (by omega)
 have p2:=XR (S1B v) (by omega)
 have p3:=XR (SWB u v) (by have:=SWB_sz hcu hcv;omega)
 have i1:=Z6 u 10
 have i2:=Z6 u 35
 have i3:=Z6 v 10
 have i4:=Z6 v 35
 have w1:=wrapi (z:=(0:Int)+1) (by omega) (by omega)
 have w2:=wrapi (z:=(1:Int)+1) (by omega) (by omega)
 refine ZS [_,_,_] func5 ntmps5 fun G w hp=>?_
 repeat' (first|rw [hv]|rw [hu]|refine ZF ?_|refine ZI ?_|refine ZJ ?_|refine ZG ?_|refine ZO ?_|refine ZH ?_|refine ZN ?_|refine ZM (fun b=>?_)|refine ZL (fun b=>?_)|refine ZB ?_|refine ZD ?_|refine Za ?_|refine ZX ?_|refine Zh ?_|refine Zb ?_|refine ZY ?_|refine Zg (fun b=>?_)|refine Zi (fun b=>?_)|refine Zj ?_|refine ZZ ?_|refine ZA (n0) (fun _ _=>?_)|refine l_call0 (n0) (fun _ _=>?_)|refine ZQ (n0) (fun _ _=>?_)|refine r_cutS 300 ?_|(refine ZC (fun hc=>?_) (fun hc=>?_)<;>(try simp at hc)<;>(try omega))|(refine ZU (fun hc=>?_) (fun hc=>?_)<;>(try simp at hc)<;>(try omega))|refine ZT 1 [] [(0,0),(1,0),(2,0),(3,0),(4,0),(5,0),(6,0),(7,0),(8,0),(9,0),(10,0),(11,0)] [] ?_|(refine ZE (fun hc=>?_) (fun hc=>?_)<;>(try simp at hc)<;>(try omega)))
 rename_i b5 _ _ b7
 generalize b=bs at *
 refine Ym (b:=bs) (o:=.cells (([u,v]:List ByteArray).map Value.string).toArray 9) ?_
 refine Z2 (F1:=[Blk bs (.cells (([u,v]:List ByteArray).map Value.string).toArray 9)]) (f:=Sl 9 skl (some ⟨bs,0,none⟩) 2 [u,v]) (fun hp hF=>blk_sl (hF _ (.head _)) rfl (Nat.le_refl 2)) ?_
 by_cases gu:∃x,okT5 u x
 ·obtain ⟨xa,ga⟩:=gu
  by_cases gv:∃x,okT5 v x
  ·obtain ⟨xb,gb⟩:=gv
   refine Yj (X:={j:Nat // j≤2}) (fun j=>[(0,.string u),(1,.string v),(5,pv0 b5),(7,pv0 b7),(36,.slice (some ⟨bs,0,none⟩) 2 2),(37,.int .i64 2),(38,.int .i64 (j.1:Int))]) (fun _=>[Sl 9 skl (some ⟨bs,0,none⟩) 2 [u,v],ErA,P10,MxL]) (fun j=>[Pt b7 (.cells #[.bool (if j.1=0 then false else condH e xa),.bool (if j.1≤1 then false else condH e xb)] 47),Pt b5 (.cells (cqf e).toArray 26)]) (fun j=>2 - j.1) ⟨0,Nat.zero_le _⟩ ⟨rfl,rfl,rfl,rfl,rfl,rfl,rfl,trivial⟩ ?_
   rintro ⟨j,hj⟩
   dsimp only
   by_cases h0:j=0
   ·subst h0
    obtain ⟨hp,h10,h35⟩:=ga
    have h10:¬0≤Lib.indexByte u.data.toList 10:=fun h=>h10 (XE.1 h)
    have h35:¬0≤Lib.indexByte u.data.toList 35:=fun h=>h35 (XE.1 h)
    rw [hp] at p1
    obtain ⟨_,hk⟩:=par_ok hp
    have ln:∀b,Enters 23∧Spec prog 23 #[pv0 b] [RlsF b [xa]] [] (RetV (.int .i64 1)):=fun b=>Yk b [xa]
    have hh:∀b,Enters 25∧Spec prog 25 #[pv0 b,.int .i64 0,cqa e] [RlsF b [xa],MxL] [] (RetV (.tuple #[.bool (condH e xa),.int .i64 0])):=fun b=>Xc b [xa] 0 e hq (M:=(S1B u).size) (by omega) hk
    generalize condH e xa=B0 at *
    generalize Lib.indexByte u.data.toList 10=z at *
    generalize Lib.indexByte u.data.toList 35=z2 at *
    repeat' (first|refine Zq ?_|refine Zo (es:=[u,v]) (f:=skl) 0 u rfl (fun b off=>?_)|refine ZF ?_|refine ZI ?_|refine ZJ ?_|refine ZG ?_|refine ZO ?_|refine ZH ?_|refine ZN ?_|refine ZM (fun b=>?_)|refine ZL (fun b=>?_)|refine ZB ?_|refine ZD ?_|refine Za ?_|refine ZX ?_|refine Zh ?_|refine Zb ?_|refine ZY ?_|refine Zg (fun b=>?_)|refine Zi (fun b=>?_)|refine Zj ?_|refine ZZ ?_|refine ZA (n1) (fun _ _=>?_)|refine l_call0 (n1) (fun _ _=>?_)|refine ZQ (n1) (fun _ _=>?_)|refine ZA (p1) (fun _ _=>?_)|refine l_call0 (p1) (fun _ _=>?_)|refine ZQ (p1) (fun _ _=>?_)|refine ZA (ln _) (fun _ _=>?_)|refine l_call0 (ln _) (fun _ _=>?_)|refine ZQ (ln _) (fun _ _=>?_)|refine ZA (hh _) (fun _ _=>?_)|refine l_call0 (hh _) (fun _ _=>?_)|refine ZQ (hh _) (fun _ _=>?_)|refine ZA (i1) (fun _ _=>?_)|refine l_call0 (i1) (fun _ _=>?_)|refine ZQ (i1) (fun _ _=>?_)|refine ZA (i2) (fun _ _=>?_)|refine l_call0 (i2) (fun _ _=>?_)|refine ZQ (i2) (fun _ _=>?_)|refine X1 (m:=2) 0 (by omega) ?_|rw [w1]|refine Zr (a:=⟨#[105,102,32]⟩) (b:=u) ?_ (h:=by show 3+_≤_;omega)|refine Zr (a:=(⟨#[105,102,32]⟩:ByteArray)++u) (b:=⟨#[58,32,97,115,107]⟩) ?_ (h:=by rw [ByteArray.size_append];show 3+_+5≤_;omega)|(refine ZC (fun hc=>?_) (fun hc=>?_)<;>(try simp at hc)<;>(try omega))|(refine ZU (fun hc=>?_) (fun hc=>?_)<;>(try simp at hc)<;>(try omega))|refine ZT 1 [] [(0,0),(1,0),(2,0),(3,0),(4,0),(5,0),(6,0),(7,0),(8,0),(9,0),(10,0),(11,0)] [] ?_|(refine ZE (fun hc=>?_) (fun hc=>?_)<;>(try simp at hc)<;>(try omega)))
    all_goals exact Ze ⟨1,by omega⟩ (by show 2 - 1<2 - 0;omega) ⟨rfl,rfl,rfl,rfl,rfl,rfl,rfl,trivial⟩
   by_cases h1:j=1
   ·subst h1
    obtain ⟨hp,h10,h35⟩:=gb
    have h10:¬0≤Lib.indexByte v.data.toList 10:=fun h=>h10 (XE.1 h)
    have h35:¬0≤Lib.indexByte v.data.toList 35:=fun h=>h35 (XE.1 h)
    rw [hp] at p2
    obtain ⟨_,hk⟩:=par_ok hp
    have ln:∀b,Enters 23∧Spec prog 23 #[pv0 b] [RlsF b [xb]] [] (RetV (.int .i64 1)):=fun b=>Yk b [xb]
    have hh:∀b,Enters 25∧Spec prog 25 #[pv0 b,.int .i64 0,cqa e] [RlsF b [xb],MxL] [] (RetV (.tuple #[.bool (condH e xb),.int .i64 0])):=fun b=>Xc b [xb] 0 e hq (M:=(S1B v).size) (by omega) hk
    generalize condH e xb=B1 at *
    generalize Lib.indexByte v.data.toList 10=z at *
    generalize Lib.indexByte v.data.toList 35=z2 at *
    repeat' (first|refine Zq ?_|refine Zo (es:=[u,v]) (f:=skl) 1 v rfl (fun b off=>?_)|refine ZF ?_|refine ZI ?_|refine ZJ ?_|refine ZG ?_|refine ZO ?_|refine ZH ?_|refine ZN ?_|refine ZM (fun b=>?_)|refine ZL (fun b=>?_)|refine ZB ?_|refine ZD ?_|refine Za ?_|refine ZX ?_|refine Zh ?_|refine Zb ?_|refine ZY ?_|refine Zg (fun b=>?_)|refine Zi (fun b=>?_)|refine Zj ?_|refine ZZ ?_|refine ZA (n1) (fun _ _=>?_)|refine l_call0 (n1) (fun _ _=>?_)|refine ZQ (n1) (fun _ _=>?_)|refine ZA (p2) (fun _ _=>?_)|refine l_call0 (p2) (fun _ _=>?_)|refine ZQ (p2) (fun _ _=>?_)|refine ZA (ln _) (fun _ _=>?_)|refine l_call0 (ln _) (fun _ _=>?_)|refine ZQ (ln _) (fun _ _=>?_)|refine ZA (hh _) (fun _ _=>?_)|refine l_call0 (hh _) (fun _ _=>?_)|refine ZQ (hh _) (fun _ _=>?_)|refine ZA (i3) (fun _ _=>?_)|refine l_call0 (i3) (fun _ _=>?_)|refine ZQ (i3) (fun _ _=>?_)|refine ZA (i4) (fun _ _=>?_)|refine l_call0 (i4) (fun _ _=>?_)|refine ZQ (i4) (fun _ _=>?_)|refine X1 (m:=2) 1 (by omega) ?_|rw [w2]|refine Zr (a:=⟨#[105,102,32]⟩) (b:=v) ?_ (h:=by show 3+_≤_;omega)|refine Zr (a:=(⟨#[105,102,32]⟩:ByteArray)++v) (b:=⟨#[58,32,97,115,107]⟩) ?_ (h:=by rw [ByteArray.size_append];show 3+_+5≤_;omega)|(refine ZC (fun hc=>?_) (fun hc=>?_)<;>(try simp at hc)<;>(try omega))|(refine ZU (fun hc=>?_) (fun hc=>?_)<;>(try simp at hc)<;>(try omega))|refine ZT 1 [] [(0,0),(1,0),(2,0),(3,0),(4,0),(5,0),(6,0),(7,0),(8,0),(9,0),(10,0),(11,0)] [] ?_|(refine ZE (fun hc=>?_) (fun hc=>?_)<;>(try simp at hc)<;>(try omega)))
    all_goals exact Ze ⟨2,by omega⟩ (by show 2 - 2<2 - 1;omega) ⟨rfl,rfl,rfl,rfl,rfl,rfl,rfl,trivial⟩
   obtain rfl:j=2:=by omega
   obtain ⟨ga1,ga2,ga3⟩:=ga
   obtain ⟨gb1,gb2,gb3⟩:=gb
   have hl:=logic5 ga2 ga3 gb2 gb3 ⟨by have:=lsz u;omega,by have:=lsz v;omega⟩ (by rw [←S1B_eq];exact ga1) rfl (by rw [←S1B_eq];exact gb1) rfl
   rw [←SWB_eq] at hl
   rcases hl with ⟨r,x,e9⟩|⟨xa',xb',y1,y2,y3,y4,ea,eb,eY,hcc⟩
   ·rw [e9] at p3
    repeat' (first|refine ZF ?_|refine ZI ?_|refine ZJ ?_|refine ZG ?_|refine ZO ?_|refine ZH ?_|refine ZN ?_|refine ZM (fun b=>?_)|refine ZL (fun b=>?_)|refine ZB ?_|refine ZD ?_|refine ZK ?_|refine Za ?_|refine ZX ?_|refine Zh ?_|refine Zb ?_|refine ZY ?_|refine Zg (fun b=>?_)|refine Zi (fun b=>?_)|refine Zj ?_|refine ZZ ?_|refine ZA (p3) (fun _ _=>?_)|refine l_call0 (p3) (fun _ _=>?_)|refine ZQ (p3) (fun _ _=>?_)|refine Zr ?_|(refine ZC (fun hc=>?_) (fun hc=>?_)<;>(try simp at hc)<;>(try omega))|(refine ZU (fun hc=>?_) (fun hc=>?_)<;>(try simp at hc)<;>(try omega))|refine ZT 1 [] [(0,0),(1,0),(2,0),(3,0),(4,0),(5,0),(6,0),(7,0),(8,0),(9,0),(10,0),(11,0)] [] ?_|(refine ZE (fun hc=>?_) (fun hc=>?_)<;>(try simp at hc)<;>(try omega)))
    all_goals exact ZR () rfl trivial
   obtain rfl:xa=xa':=(List.cons.inj ea).1
   obtain rfl:xb=xb':=(List.cons.inj eb).1
   rw [eY] at p3
   obtain ⟨_,hk⟩:=par_ok eY
   obtain ⟨v1,v2,v3,v4⟩:=hcc e
   have hw3:=SWB_sz hcu hcv
   have hh:=fun b (i:Int)=>Xc b [y1,y2,y3,y4] i e hq (M:=(SWB u v).size) (by omega) hk
   generalize condH e xa=A at *
   generalize condH e xb=B at *
   have key:∀i:Nat,i<4→∃w,[!A,A && B,A || B,A || B][i]? = some w∧hoV [y1,y2,y3,y4] (i:Int) e = .tuple #[.bool w,.int .i64 0]:=by
    intro i hi
    rcases (by omega:i=0∨i=1∨i=2∨i=3) with rfl|rfl|rfl|rfl
    ·exact ⟨_,rfl,by rw [←v1];rfl⟩
    ·exact ⟨_,rfl,by rw [←v2];rfl⟩
    ·exact ⟨_,rfl,by rw [←v3];rfl⟩
    ·exact ⟨_,rfl,by rw [←v4];rfl⟩
   clear v1 v2 v3 v4 hcc
   cases A with
   | false=>
    cases B with
    | false=>
     repeat' (first|refine ZF ?_|refine ZI ?_|refine ZJ ?_|refine ZG ?_|refine ZO ?_|refine ZH ?_|refine ZN ?_|refine ZM (fun b=>?_)|refine ZL (fun b=>?_)|refine ZB ?_|refine ZD ?_|refine ZK ?_|refine Za ?_|refine ZX ?_|refine Zh ?_|refine Zb ?_|refine ZY ?_|refine Zg (fun b=>?_)|refine Zi (fun b=>?_)|refine Zj ?_|refine ZZ ?_|refine ZA (p3) (fun _ _=>?_)|refine l_call0 (p3) (fun _ _=>?_)|refine ZQ (p3) (fun _ _=>?_)|refine Zr ?_|refine X1 (m:=2) 0 (by omega) ?_|refine X1 (m:=2) 1 (by omega) ?_|(refine ZC (fun hc=>?_) (fun hc=>?_)<;>(try simp at hc)<;>(try omega))|(refine ZU (fun hc=>?_) (fun hc=>?_)<;>(try simp at hc)<;>(try omega))|refine ZT 1 [] [(0,0),(1,0),(2,0),(3,0),(4,0),(5,0),(6,0),(7,0),(8,0),(9,0),(10,0),(11,0)] [] ?_|(refine ZE (fun hc=>?_) (fun hc=>?_)<;>(try simp at hc)<;>(try omega)))
     rename_i bR _
     refine Ym (b:=b) (o:=.cells ([!false,false && false,false || false,false || false].map Value.bool).toArray 4) ?_
     refine Z2 (F1:=[Blk b (.cells ([!false,false && false,false || false,false || false].map Value.bool).toArray 4)]) (f:=Sl 4 blv (some ⟨b,0,none⟩) 4 [!false,false && false,false || false,false || false]) (fun hp hF=>blk_sl (hF _ (.head _)) rfl (Nat.le_refl 4)) ?_
     refine Yj (X:={j:Nat // j≤4}) (fun j=>[(5,pv0 b5),(14,pv0 bR),(18,.slice (some ⟨b,0,none⟩) 4 4),(19,.int .i64 (j.1:Int))]) (fun _=>[Sl 4 blv (some ⟨b,0,none⟩) 4 [!false,false && false,false || false,false || false],RlsF bR [y1,y2,y3,y4],MxL]) (fun _=>[Pt b5 (.cells (cqf e).toArray 26)]) (fun j=>4 - j.1) ⟨0,Nat.zero_le _⟩ ⟨rfl,rfl,rfl,rfl,trivial⟩ ?_
     rintro ⟨j,hj4⟩
     dsimp only
     by_cases hlt:j<4
     ·obtain ⟨w,k1,k2⟩:=key j hlt
      have m:=fun b=>hh b (j:Int)
      rw [k2] at m
      have w5:=wrapi (z:=(j:Int)+1) (by omega) (by omega)
      cases w
      all_goals (
       repeat' (first|refine ZF ?_|refine ZI ?_|refine ZJ ?_|refine ZG ?_|refine ZO ?_|refine ZH ?_|refine ZN ?_|refine ZM (fun b=>?_)|refine ZL (fun b=>?_)|refine ZB ?_|refine ZD ?_|refine Za ?_|refine ZX ?_|refine Zh ?_|refine Zb ?_|refine ZY ?_|refine Zg (fun b=>?_)|refine Zi (fun b=>?_)|refine Zj ?_|refine ZZ ?_|refine ZA (m _) (fun _ _=>?_)|refine l_call0 (m _) (fun _ _=>?_)|refine ZQ (m _) (fun _ _=>?_)|refine Zo (es:=[!false,false && false,false || false,false || false]) (f:=blv) j _ k1 (fun b off=>?_)|refine Zq ?_|rw [w5]|(refine ZC (fun hc=>?_) (fun hc=>?_)<;>(try simp at hc)<;>(try omega))|(refine ZU (fun hc=>?_) (fun hc=>?_)<;>(try simp at hc)<;>(try omega))|refine ZT 1 [] [(0,0),(1,0),(2,0),(3,0),(4,0),(5,0),(6,0),(7,0),(8,0),(9,0),(10,0),(11,0)] [] ?_|(refine ZE (fun hc=>?_) (fun hc=>?_)<;>(try simp at hc)<;>(try omega)))
       exact Ze ⟨j+1,by omega⟩ (by show 4 - (j+1)<4 - j;omega) ⟨rfl,rfl,rfl,rfl,trivial⟩)
     ·obtain rfl:j=4:=by omega
      repeat' (first|refine ZF ?_|refine ZI ?_|refine ZJ ?_|refine ZG ?_|refine ZO ?_|refine ZH ?_|refine ZN ?_|refine ZM (fun b=>?_)|refine ZL (fun b=>?_)|refine ZB ?_|refine ZD ?_|refine ZK ?_|refine Za ?_|refine ZX ?_|refine Zh ?_|refine Zb ?_|refine ZY ?_|refine Zg (fun b=>?_)|refine Zi (fun b=>?_)|refine Zj ?_|refine ZZ ?_|(refine ZC (fun hc=>?_) (fun hc=>?_)<;>(try simp at hc)<;>(try omega))|(refine ZU (fun hc=>?_) (fun hc=>?_)<;>(try simp at hc)<;>(try omega))|refine ZT 1 [] [(0,0),(1,0),(2,0),(3,0),(4,0),(5,0),(6,0),(7,0),(8,0),(9,0),(10,0),(11,0)] [] ?_|(refine ZE (fun hc=>?_) (fun hc=>?_)<;>(try simp at hc)<;>(try omega)))
      exact ZR () rfl trivial
    | true=>
     repeat' (first|refine ZF ?_|refine ZI ?_|refine ZJ ?_|refine ZG ?_|refine ZO ?_|refine ZH ?_|refine ZN ?_|refine ZM (fun b=>?_)|refine ZL (fun b=>?_)|refine ZB ?_|refine ZD ?_|refine ZK ?_|refine Za ?_|refine ZX ?_|refine Zh ?_|refine Zb ?_|refine ZY ?_|refine Zg (fun b=>?_)|refine Zi (fun b=>?_)|refine Zj ?_|refine ZZ ?_|refine ZA (p3) (fun _ _=>?_)|refine l_call0 (p3) (fun _ _=>?_)|refine ZQ (p3) (fun _ _=>?_)|refine Zr ?_|refine X1 (m:=2) 0 (by omega) ?_|refine X1 (m:=2) 1 (by omega) ?_|(refine ZC (fun hc=>?_) (fun hc=>?_)<;>(try simp at hc)<;>(try omega))|(refine ZU (fun hc=>?_) (fun hc=>?_)<;>(try simp at hc)<;>(try omega))|refine ZT 1 [] [(0,0),(1,0),(2,0),(3,0),(4,0),(5,0),(6,0),(7,0),(8,0),(9,0),(10,0),(11,0)] [] ?_|(refine ZE (fun hc=>?_) (fun hc=>?_)<;>(try simp at hc)<;>(try omega)))
     rename_i bR _
     refine Ym (b:=b) (o:=.cells ([!false,false && true,false || true,false || true].map Value.bool).toArray 4) ?_
     refine Z2 (F1:=[Blk b (.cells ([!false,false && true,false || true,false || true].map Value.bool).toArray 4)]) (f:=Sl 4 blv (some ⟨b,0,none⟩) 4 [!false,false && true,false || true,false || true]) (fun hp hF=>blk_sl (hF _ (.head _)) rfl (Nat.le_refl 4)) ?_
     refine Yj (X:={j:Nat // j≤4}) (fun j=>[(5,pv0 b5),(14,pv0 bR),(18,.slice (some ⟨b,0,none⟩) 4 4),(19,.int .i64 (j.1:Int))]) (fun _=>[Sl 4 blv (some ⟨b,0,none⟩) 4 [!false,false && true,false || true,false || true],RlsF bR [y1,y2,y3,y4],MxL]) (fun _=>[Pt b5 (.cells (cqf e).toArray 26)]) (fun j=>4 - j.1) ⟨0,Nat.zero_le _⟩ ⟨rfl,rfl,rfl,rfl,trivial⟩ ?_
     rintro ⟨j,hj4⟩
     dsimp only
     by_cases hlt:j<4
     ·obtain ⟨w,k1,k2⟩:=key j hlt
      have m:=fun b=>hh b (j:Int)
      rw [k2] at m
      have w5:=wrapi (z:=(j:Int)+1) (by omega) (by omega)
      cases w
      all_goals (
       repeat' (first|refine ZF ?_|refine ZI ?_|refine ZJ ?_|refine ZG ?_|refine ZO ?_|refine ZH ?_|refine ZN ?_|refine ZM (fun b=>?_)|refine ZL (fun b=>?_)|refine ZB ?_|refine ZD ?_|refine Za ?_|refine ZX ?_|refine Zh ?_|refine Zb ?_|refine ZY ?_|refine Zg (fun b=>?_)|refine Zi (fun b=>?_)|refine Zj ?_|refine ZZ ?_|refine ZA (m _) (fun _ _=>?_)|refine l_call0 (m _) (fun _ _=>?_)|refine ZQ (m _) (fun _ _=>?_)|refine Zo (es:=[!false,false && true,false || true,false || true]) (f:=blv) j _ k1 (fun b off=>?_)|refine Zq ?_|rw [w5]|(refine ZC (fun hc=>?_) (fun hc=>?_)<;>(try simp at hc)<;>(try omega))|(refine ZU (fun hc=>?_) (fun hc=>?_)<;>(try simp at hc)<;>(try omega))|refine ZT 1 [] [(0,0),(1,0),(2,0),(3,0),(4,0),(5,0),(6,0),(7,0),(8,0),(9,0),(10,0),(11,0)] [] ?_|(refine ZE (fun hc=>?_) (fun hc=>?_)<;>(try simp at hc)<;>(try omega)))
       exact Ze ⟨j+1,by omega⟩ (by show 4 - (j+1)<4 - j;omega) ⟨rfl,rfl,rfl,rfl,trivial⟩)
     ·obtain rfl:j=4:=by omega
      repeat' (first|refine ZF ?_|refine ZI ?_|refine ZJ ?_|refine ZG ?_|refine ZO ?_|refine ZH ?_|refine ZN ?_|refine ZM (fun b=>?_)|refine ZL (fun b=>?_)|refine ZB ?_|refine ZD ?_|refine ZK ?_|refine Za ?_|refine ZX ?_|refine Zh ?_|refine Zb ?_|refine ZY ?_|refine Zg (fun b=>?_)|refine Zi (fun b=>?_)|refine Zj ?_|refine ZZ ?_|(refine ZC (fun hc=>?_) (fun hc=>?_)<;>(try simp at hc)<;>(try omega))|(refine ZU (fun hc=>?_) (fun hc=>?_)<;>(try simp at hc)<;>(try omega))|refine ZT 1 [] [(0,0),(1,0),(2,0),(3,0),(4,0),(5,0),(6,0),(7,0),(8,0),(9,0),(10,0),(11,0)] [] ?_|(refine ZE (fun hc=>?_) (fun hc=>?_)<;>(try simp at hc)<;>(try omega)))
      exact ZR () rfl trivial
   | true=>
    cases B with
    | false=>
     repeat' (first|refine ZF ?_|refine ZI ?_|refine ZJ ?_|refine ZG ?_|refine ZO ?_|refine ZH ?_|refine ZN ?_|refine ZM (fun b=>?_)|refine ZL (fun b=>?_)|refine ZB ?_|refine ZD ?_|refine ZK ?_|refine Za ?_|refine ZX ?_|refine Zh ?_|refine Zb ?_|refine ZY ?_|refine Zg (fun b=>?_)|refine Zi (fun b=>?_)|refine Zj ?_|refine ZZ ?_|refine ZA (p3) (fun _ _=>?_)|refine l_call0 (p3) (fun _ _=>?_)|refine ZQ (p3) (fun _ _=>?_)|refine Zr ?_|refine X1 (m:=2) 0 (by omega) ?_|refine X1 (m:=2) 1 (by omega) ?_|(refine ZC (fun hc=>?_) (fun hc=>?_)<;>(try simp at hc)<;>(try omega))|(refine ZU (fun hc=>?_) (fun hc=>?_)<;>(try simp at hc)<;>(try omega))|refine ZT 1 [] [(0,0),(1,0),(2,0),(3,0),(4,0),(5,0),(6,0),(7,0),(8,0),(9,0),(10,0),(11,0)] [] ?_|(refine ZE (fun hc=>?_) (fun hc=>?_)<;>(try simp at hc)<;>(try omega)))
     rename_i bR _
     refine Ym (b:=b) (o:=.cells ([!true,true && false,true || false,true || false].map Value.bool).toArray 4) ?_
     refine Z2 (F1:=[Blk b (.cells ([!true,true && false,true || false,true || false].map Value.bool).toArray 4)]) (f:=Sl 4 blv (some ⟨b,0,none⟩) 4 [!true,true && false,true || false,true || false]) (fun hp hF=>blk_sl (hF _ (.head _)) rfl (Nat.le_refl 4)) ?_
     refine Yj (X:={j:Nat // j≤4}) (fun j=>[(5,pv0 b5),(14,pv0 bR),(18,.slice (some ⟨b,0,none⟩) 4 4),(19,.int .i64 (j.1:Int))]) (fun _=>[Sl 4 blv (some ⟨b,0,none⟩) 4 [!true,true && false,true || false,true || false],RlsF bR [y1,y2,y3,y4],MxL]) (fun _=>[Pt b5 (.cells (cqf e).toArray 26)]) (fun j=>4 - j.1) ⟨0,Nat.zero_le _⟩ ⟨rfl,rfl,rfl,rfl,trivial⟩ ?_
     rintro ⟨j,hj4⟩
     dsimp only
     by_cases hlt:j<4
     ·obtain ⟨w,k1,k2⟩:=key j hlt
      have m:=fun b=>hh b (j:Int)
      rw [k2] at m
      have w5:=wrapi (z:=(j:Int)+1) (by omega) (by omega)
      cases w
      all_goals (
       repeat' (first|refine ZF ?_|refine ZI ?_|refine ZJ ?_|refine ZG ?_|refine ZO ?_|refine ZH ?_|refine ZN ?_|refine ZM (fun b=>?_)|refine ZL (fun b=>?_)|refine ZB ?_|refine ZD ?_|refine Za ?_|refine ZX ?_|refine Zh ?_|refine Zb ?_|refine ZY ?_|refine Zg (fun b=>?_)|refine Zi (fun b=>?_)|refine Zj ?_|refine ZZ ?_|refine ZA (m _) (fun _ _=>?_)|refine l_call0 (m _) (fun _ _=>?_)|refine ZQ (m _) (fun _ _=>?_)|refine Zo (es:=[!true,true && false,true || false,true || false]) (f:=blv) j _ k1 (fun b off=>?_)|refine Zq ?_|rw [w5]|(refine ZC (fun hc=>?_) (fun hc=>?_)<;>(try simp at hc)<;>(try omega))|(refine ZU (fun hc=>?_) (fun hc=>?_)<;>(try simp at hc)<;>(try omega))|refine ZT 1 [] [(0,0),(1,0),(2,0),(3,0),(4,0),(5,0),(6,0),(7,0),(8,0),(9,0),(10,0),(11,0)] [] ?_|(refine ZE (fun hc=>?_) (fun hc=>?_)<;>(try simp at hc)<;>(try omega)))
       exact Ze ⟨j+1,by omega⟩ (by show 4 - (j+1)<4 - j;omega) ⟨rfl,rfl,rfl,rfl,trivial⟩)
     ·obtain rfl:j=4:=by omega
      repeat' (first|refine ZF ?_|refine ZI ?_|refine ZJ ?_|refine ZG ?_|refine ZO ?_|refine ZH ?_|refine ZN ?_|refine ZM (fun b=>?_)|refine ZL (fun b=>?_)|refine ZB ?_|refine ZD ?_|refine ZK ?_|refine Za ?_|refine ZX ?_|refine Zh ?_|refine Zb ?_|refine ZY ?_|refine Zg (fun b=>?_)|refine Zi (fun b=>?_)|refine Zj ?_|refine ZZ ?_|(refine ZC (fun hc=>?_) (fun hc=>?_)<;>(try simp at hc)<;>(try omega))|(refine ZU (fun hc=>?_) (fun hc=>?_)<;>(try simp at hc)<;>(try omega))|refine ZT 1 [] [(0,0),(1,0),(2,0),(3,0),(4,0),(5,0),(6,0),(7,0),(8,0),(9,0),(10,0),(11,0)] [] ?_|(refine ZE (fun hc=>?_) (fun hc=>?_)<;>(try simp at hc)<;>(try omega)))
      exact ZR () rfl trivial
    | true=>
     repeat' (first|refine ZF ?_|refine ZI ?_|refine ZJ ?_|refine ZG ?_|refine ZO ?_|refine ZH ?_|refine ZN ?_|refine ZM (fun b=>?_)|refine ZL (fun b=>?_)|refine ZB ?_|refine ZD ?_|refine ZK ?_|refine Za ?_|refine ZX ?_|refine Zh ?_|refine Zb ?_|refine ZY ?_|refine Zg (fun b=>?_)|refine Zi (fun b=>?_)|refine Zj ?_|refine ZZ ?_|refine ZA (p3) (fun _ _=>?_)|refine l_call0 (p3) (fun _ _=>?_)|refine ZQ (p3) (fun _ _=>?_)|refine Zr ?_|refine X1 (m:=2) 0 (by omega) ?_|refine X1 (m:=2) 1 (by omega) ?_|(refine ZC (fun hc=>?_) (fun hc=>?_)<;>(try simp at hc)<;>(try omega))|(refine ZU (fun hc=>?_) (fun hc=>?_)<;>(try simp at hc)<;>(try omega))|refine ZT 1 [] [(0,0),(1,0),(2,0),(3,0),(4,0),(5,0),(6,0),(7,0),(8,0),(9,0),(10,0),(11,0)] [] ?_|(refine ZE (fun hc=>?_) (fun hc=>?_)<;>(try simp at hc)<;>(try omega)))
     rename_i bR _
     refine Ym (b:=b) (o:=.cells ([!true,true && true,true || true,true || true].map Value.bool).toArray 4) ?_
     refine Z2 (F1:=[Blk b (.cells ([!true,true && true,true || true,true || true].map Value.bool).toArray 4)]) (f:=Sl 4 blv (some ⟨b,0,none⟩) 4 [!true,true && true,true || true,true || true]) (fun hp hF=>blk_sl (hF _ (.head _)) rfl (Nat.le_refl 4)) ?_
     refine Yj (X:={j:Nat // j≤4}) (fun j=>[(5,pv0 b5),(14,pv0 bR),(18,.slice (some ⟨b,0,none⟩) 4 4),(19,.int .i64 (j.1:Int))]) (fun _=>[Sl 4 blv (some ⟨b,0,none⟩) 4 [!true,true && true,true || true,true || true],RlsF bR [y1,y2,y3,y4],MxL]) (fun _=>[Pt b5 (.cells (cqf e).toArray 26)]) (fun j=>4 - j.1) ⟨0,Nat.zero_le _⟩ ⟨rfl,rfl,rfl,rfl,trivial⟩ ?_
     rintro ⟨j,hj4⟩
     dsimp only
     by_cases hlt:j<4
     ·obtain ⟨w,k1,k2⟩:=key j hlt
      have m:=fun b=>hh b (j:Int)
      rw [k2] at m
      have w5:=wrapi (z:=(j:Int)+1) (by omega) (by omega)
      cases w
      all_goals (
       repeat' (first|refine ZF ?_|refine ZI ?_|refine ZJ ?_|refine ZG ?_|refine ZO ?_|refine ZH ?_|refine ZN ?_|refine ZM (fun b=>?_)|refine ZL (fun b=>?_)|refine ZB ?_|refine ZD ?_|refine Za ?_|refine ZX ?_|refine Zh ?_|refine Zb ?_|refine ZY ?_|refine Zg (fun b=>?_)|refine Zi (fun b=>?_)|refine Zj ?_|refine ZZ ?_|refine ZA (m _) (fun _ _=>?_)|refine l_call0 (m _) (fun _ _=>?_)|refine ZQ (m _) (fun _ _=>?_)|refine Zo (es:=[!true,true && true,true || true,true || true]) (f:=blv) j _ k1 (fun b off=>?_)|refine Zq ?_|rw [w5]|(refine ZC (fun hc=>?_) (fun hc=>?_)<;>(try simp at hc)<;>(try omega))|(refine ZU (fun hc=>?_) (fun hc=>?_)<;>(try simp at hc)<;>(try omega))|refine ZT 1 [] [(0,0),(1,0),(2,0),(3,0),(4,0),(5,0),(6,0),(7,0),(8,0),(9,0),(10,0),(11,0)] [] ?_|(refine ZE (fun hc=>?_) (fun hc=>?_)<;>(try simp at hc)<;>(try omega)))
       exact Ze ⟨j+1,by omega⟩ (by show 4 - (j+1)<4 - j;omega) ⟨rfl,rfl,rfl,rfl,trivial⟩)
     ·obtain rfl:j=4:=by omega
      repeat' (first|refine ZF ?_|refine ZI ?_|refine ZJ ?_|refine ZG ?_|refine ZO ?_|refine ZH ?_|refine ZN ?_|refine ZM (fun b=>?_)|refine ZL (fun b=>?_)|refine ZB ?_|refine ZD ?_|refine ZK ?_|refine Za ?_|refine ZX ?_|refine Zh ?_|refine Zb ?_|refine ZY ?_|refine Zg (fun b=>?_)|refine Zi (fun b=>?_)|refine Zj ?_|refine ZZ ?_|(refine ZC (fun hc=>?_) (fun hc=>?_)<;>(try simp at hc)<;>(try omega))|(refine ZU (fun hc=>?_) (fun hc=>?_)<;>(try simp at hc)<;>(try omega))|refine ZT 1 [] [(0,0),(1,0),(2,0),(3,0),(4,0),(5,0),(6,0),(7,0),(8,0),(9,0),(10,0),(11,0)] [] ?_|(refine ZE (fun hc=>?_) (fun hc=>?_)<;>(try simp at hc)<;>(try omega)))
      exact ZR () rfl trivial
  ·refine Yj (X:={j:Nat // j≤1}) (fun j=>[(0,.string u),(1,.string v),(5,pv0 b5),(7,pv0 b7),(36,.slice (some ⟨bs,0,none⟩) 2 2),(37,.int .i64 2),(38,.int .i64 (j.1:Int))]) (fun _=>[Sl 9 skl (some ⟨bs,0,none⟩) 2 [u,v],ErA,P10,MxL]) (fun j=>[Pt b7 (.cells #[.bool (if j.1=0 then false else condH e xa),.bool false] 47),Pt b5 (.cells (cqf e).toArray 26)]) (fun j=>1 - j.1) ⟨0,Nat.zero_le _⟩ ⟨rfl,rfl,rfl,rfl,rfl,rfl,rfl,trivial⟩ ?_
   rintro ⟨j,hj⟩
   dsimp only
   by_cases h0:j=0
   ·subst h0
    obtain ⟨hp,h10,h35⟩:=ga
    have h10:¬0≤Lib.indexByte u.data.toList 10:=fun h=>h10 (XE.1 h)
    have h35:¬0≤Lib.indexByte u.data.toList 35:=fun h=>h35 (XE.1 h)
    rw [hp] at p1
    obtain ⟨_,hk⟩:=par_ok hp
    have ln:∀b,Enters 23∧Spec prog 23 #[pv0 b] [RlsF b [xa]] [] (RetV (.int .i64 1)):=fun b=>Yk b [xa]
    have hh:∀b,Enters 25∧Spec prog 25 #[pv0 b,.int .i64 0,cqa e] [RlsF b [xa],MxL] [] (RetV (.tuple #[.bool (condH e xa),.int .i64 0])):=fun b=>Xc b [xa] 0 e hq (M:=(S1B u).size) (by omega) hk
    generalize condH e xa=B0 at *
    generalize Lib.indexByte u.data.toList 10=z at *
    generalize Lib.indexByte u.data.toList 35=z2 at *
    repeat' (first|refine Zq ?_|refine Zo (es:=[u,v]) (f:=skl) 0 u rfl (fun b off=>?_)|refine ZF ?_|refine ZI ?_|refine ZJ ?_|refine ZG ?_|refine ZO ?_|refine ZH ?_|refine ZN ?_|refine ZM (fun b=>?_)|refine ZL (fun b=>?_)|refine ZB ?_|refine ZD ?_|refine Za ?_|refine ZX ?_|refine Zh ?_|refine Zb ?_|refine ZY ?_|refine Zg (fun b=>?_)|refine Zi (fun b=>?_)|refine Zj ?_|refine ZZ ?_|refine ZA (n1) (fun _ _=>?_)|refine l_call0 (n1) (fun _ _=>?_)|refine ZQ (n1) (fun _ _=>?_)|refine ZA (p1) (fun _ _=>?_)|refine l_call0 (p1) (fun _ _=>?_)|refine ZQ (p1) (fun _ _=>?_)|refine ZA (ln _) (fun _ _=>?_)|refine l_call0 (ln _) (fun _ _=>?_)|refine ZQ (ln _) (fun _ _=>?_)|refine ZA (hh _) (fun _ _=>?_)|refine l_call0 (hh _) (fun _ _=>?_)|refine ZQ (hh _) (fun _ _=>?_)|refine ZA (i1) (fun _ _=>?_)|refine l_call0 (i1) (fun _ _=>?_)|refine ZQ (i1) (fun _ _=>?_)|refine ZA (i2) (fun _ _=>?_)|refine l_call0 (i2) (fun _ _=>?_)|refine ZQ (i2) (fun _ _=>?_)|refine X1 (m:=2) 0 (by omega) ?_|rw [w1]|refine Zr (a:=⟨#[105,102,32]⟩) (b:=u) ?_ (h:=by show 3+_≤_;omega)|refine Zr (a:=(⟨#[105,102,32]⟩:ByteArray)++u) (b:=⟨#[58,32,97,115,107]⟩) ?_ (h:=by rw [ByteArray.size_append];show 3+_+5≤_;omega)|(refine ZC (fun hc=>?_) (fun hc=>?_)<;>(try simp at hc)<;>(try omega))|(refine ZU (fun hc=>?_) (fun hc=>?_)<;>(try simp at hc)<;>(try omega))|refine ZT 1 [] [(0,0),(1,0),(2,0),(3,0),(4,0),(5,0),(6,0),(7,0),(8,0),(9,0),(10,0),(11,0)] [] ?_|(refine ZE (fun hc=>?_) (fun hc=>?_)<;>(try simp at hc)<;>(try omega)))
    all_goals exact Ze ⟨1,by omega⟩ (by show 1 - 1<1 - 0;omega) ⟨rfl,rfl,rfl,rfl,rfl,rfl,rfl,trivial⟩
   obtain rfl:j=1:=by omega
   have gv:¬∃x,okT5 v x:=gv
   cases hp:parF (S1B v) with
   | error x=>
    rw [hp] at p2
    have hne:=par_err hp
    obtain ⟨x1,x2,x3⟩:=x
    dsimp only at hne
    repeat' (first|refine Zq ?_|refine Zo (es:=[u,v]) (f:=skl) 1 v rfl (fun b off=>?_)|refine ZF ?_|refine ZI ?_|refine ZJ ?_|refine ZG ?_|refine ZO ?_|refine ZH ?_|refine ZN ?_|refine ZM (fun b=>?_)|refine ZL (fun b=>?_)|refine ZB ?_|refine ZD ?_|refine Za ?_|refine ZX ?_|refine Zh ?_|refine Zb ?_|refine ZY ?_|refine Zg (fun b=>?_)|refine Zi (fun b=>?_)|refine Zj ?_|refine ZZ ?_|refine ZA (n1) (fun _ _=>?_)|refine l_call0 (n1) (fun _ _=>?_)|refine ZQ (n1) (fun _ _=>?_)|refine ZA (p2) (fun _ _=>?_)|refine l_call0 (p2) (fun _ _=>?_)|refine ZQ (p2) (fun _ _=>?_)|refine Zr (a:=⟨#[105,102,32]⟩) (b:=v) ?_ (h:=by show 3+_≤_;omega)|refine Zr (a:=(⟨#[105,102,32]⟩:ByteArray)++v) (b:=⟨#[58,32,97,115,107]⟩) ?_ (h:=by rw [ByteArray.size_append];show 3+_+5≤_;omega)|(refine ZC (fun hc=>?_) (fun hc=>?_)<;>(try simp at hc)<;>(try omega))|(refine ZU (fun hc=>?_) (fun hc=>?_)<;>(try simp at hc)<;>(try omega))|refine ZT 1 [] [(0,0),(1,0),(2,0),(3,0),(4,0),(5,0),(6,0),(7,0),(8,0),(9,0),(10,0),(11,0)] [] ?_|(refine ZE (fun hc=>?_) (fun hc=>?_)<;>(try simp at hc)<;>(try omega)))
    all_goals exact Z9 (YH (Zx () rfl trivial))
   | ok r=>
    rw [hp] at p2
    have ln:=fun b=>Yk b r
    by_cases hr:r.length=1
    ·obtain ⟨x,rfl⟩:=List.length_eq_one_iff.1 hr
     have ln:∀b,Enters 23∧Spec prog 23 #[pv0 b] [RlsF b [x]] [] (RetV (.int .i64 1)):=ln
     by_cases h10:0≤Lib.indexByte v.data.toList 10
     ·generalize Lib.indexByte v.data.toList 10=z at *
      repeat' (first|refine Zq ?_|refine Zo (es:=[u,v]) (f:=skl) 1 v rfl (fun b off=>?_)|refine ZF ?_|refine ZI ?_|refine ZJ ?_|refine ZG ?_|refine ZO ?_|refine ZH ?_|refine ZN ?_|refine ZM (fun b=>?_)|refine ZL (fun b=>?_)|refine ZB ?_|refine ZD ?_|refine Za ?_|refine ZX ?_|refine Zh ?_|refine Zb ?_|refine ZY ?_|refine Zg (fun b=>?_)|refine Zi (fun b=>?_)|refine Zj ?_|refine ZZ ?_|refine ZA (n1) (fun _ _=>?_)|refine l_call0 (n1) (fun _ _=>?_)|refine ZQ (n1) (fun _ _=>?_)|refine ZA (p2) (fun _ _=>?_)|refine l_call0 (p2) (fun _ _=>?_)|refine ZQ (p2) (fun _ _=>?_)|refine ZA (ln _) (fun _ _=>?_)|refine l_call0 (ln _) (fun _ _=>?_)|refine ZQ (ln _) (fun _ _=>?_)|refine ZA (i3) (fun _ _=>?_)|refine l_call0 (i3) (fun _ _=>?_)|refine ZQ (i3) (fun _ _=>?_)|refine Zr (a:=⟨#[105,102,32]⟩) (b:=v) ?_ (h:=by show 3+_≤_;omega)|refine Zr (a:=(⟨#[105,102,32]⟩:ByteArray)++v) (b:=⟨#[58,32,97,115,107]⟩) ?_ (h:=by rw [ByteArray.size_append];show 3+_+5≤_;omega)|(refine ZC (fun hc=>?_) (fun hc=>?_)<;>(try simp at hc)<;>(try omega))|(refine ZU (fun hc=>?_) (fun hc=>?_)<;>(try simp at hc)<;>(try omega))|refine ZT 1 [] [(0,0),(1,0),(2,0),(3,0),(4,0),(5,0),(6,0),(7,0),(8,0),(9,0),(10,0),(11,0)] [] ?_|(refine ZE (fun hc=>?_) (fun hc=>?_)<;>(try simp at hc)<;>(try omega)))
      all_goals exact Z9 (YH (Zx () rfl trivial))
     ·by_cases h35:0≤Lib.indexByte v.data.toList 35
      ·generalize Lib.indexByte v.data.toList 10=z at *
       generalize Lib.indexByte v.data.toList 35=z2 at *
       repeat' (first|refine Zq ?_|refine Zo (es:=[u,v]) (f:=skl) 1 v rfl (fun b off=>?_)|refine ZF ?_|refine ZI ?_|refine ZJ ?_|refine ZG ?_|refine ZO ?_|refine ZH ?_|refine ZN ?_|refine ZM (fun b=>?_)|refine ZL (fun b=>?_)|refine ZB ?_|refine ZD ?_|refine Za ?_|refine ZX ?_|refine Zh ?_|refine Zb ?_|refine ZY ?_|refine Zg (fun b=>?_)|refine Zi (fun b=>?_)|refine Zj ?_|refine ZZ ?_|refine ZA (n1) (fun _ _=>?_)|refine l_call0 (n1) (fun _ _=>?_)|refine ZQ (n1) (fun _ _=>?_)|refine ZA (p2) (fun _ _=>?_)|refine l_call0 (p2) (fun _ _=>?_)|refine ZQ (p2) (fun _ _=>?_)|refine ZA (ln _) (fun _ _=>?_)|refine l_call0 (ln _) (fun _ _=>?_)|refine ZQ (ln _) (fun _ _=>?_)|refine ZA (i3) (fun _ _=>?_)|refine l_call0 (i3) (fun _ _=>?_)|refine ZQ (i3) (fun _ _=>?_)|refine ZA (i4) (fun _ _=>?_)|refine l_call0 (i4) (fun _ _=>?_)|refine ZQ (i4) (fun _ _=>?_)|refine Zr (a:=⟨#[105,102,32]⟩) (b:=v) ?_ (h:=by show 3+_≤_;omega)|refine Zr (a:=(⟨#[105,102,32]⟩:ByteArray)++v) (b:=⟨#[58,32,97,115,107]⟩) ?_ (h:=by rw [ByteArray.size_append];show 3+_+5≤_;omega)|(refine ZC (fun hc=>?_) (fun hc=>?_)<;>(try simp at hc)<;>(try omega))|(refine ZU (fun hc=>?_) (fun hc=>?_)<;>(try simp at hc)<;>(try omega))|refine ZT 1 [] [(0,0),(1,0),(2,0),(3,0),(4,0),(5,0),(6,0),(7,0),(8,0),(9,0),(10,0),(11,0)] [] ?_|(refine ZE (fun hc=>?_) (fun hc=>?_)<;>(try simp at hc)<;>(try omega)))
       all_goals exact Z9 (YH (Zx () rfl trivial))
      ·exact absurd ⟨x,hp,fun h=>h10 (XE.2 h),fun h=>h35 (XE.2 h)⟩ gv
    ·have hr2:¬(r.length:Int)=1:=by omega
     repeat' (first|refine Zq ?_|refine Zo (es:=[u,v]) (f:=skl) 1 v rfl (fun b off=>?_)|refine ZF ?_|refine ZI ?_|refine ZJ ?_|refine ZG ?_|refine ZO ?_|refine ZH ?_|refine ZN ?_|refine ZM (fun b=>?_)|refine ZL (fun b=>?_)|refine ZB ?_|refine ZD ?_|refine Za ?_|refine ZX ?_|refine Zh ?_|refine Zb ?_|refine ZY ?_|refine Zg (fun b=>?_)|refine Zi (fun b=>?_)|refine Zj ?_|refine ZZ ?_|refine ZA (n1) (fun _ _=>?_)|refine l_call0 (n1) (fun _ _=>?_)|refine ZQ (n1) (fun _ _=>?_)|refine ZA (p2) (fun _ _=>?_)|refine l_call0 (p2) (fun _ _=>?_)|refine ZQ (p2) (fun _ _=>?_)|refine ZA (ln _) (fun _ _=>?_)|refine l_call0 (ln _) (fun _ _=>?_)|refine ZQ (ln _) (fun _ _=>?_)|refine Zr (a:=⟨#[105,102,32]⟩) (b:=v) ?_ (h:=by show 3+_≤_;omega)|refine Zr (a:=(⟨#[105,102,32]⟩:ByteArray)++v) (b:=⟨#[58,32,97,115,107]⟩) ?_ (h:=by rw [ByteArray.size_append];show 3+_+5≤_;omega)|(refine ZC (fun hc=>?_) (fun hc=>?_)<;>(try simp at hc)<;>(try omega))|(refine ZU (fun hc=>?_) (fun hc=>?_)<;>(try simp at hc)<;>(try omega))|refine ZT 1 [] [(0,0),(1,0),(2,0),(3,0),(4,0),(5,0),(6,0),(7,0),(8,0),(9,0),(10,0),(11,0)] [] ?_|(refine ZE (fun hc=>?_) (fun hc=>?_)<;>(try simp at hc)<;>(try omega)))
     all_goals exact Z9 (YH (Zx () rfl trivial))
 ·refine Yj (X:={j:Nat // j≤0}) (fun j=>[(0,.string u),(1,.string v),(5,pv0 b5),(7,pv0 b7),(36,.slice (some ⟨bs,0,none⟩) 2 2),(37,.int .i64 2),(38,.int .i64 (j.1:Int))]) (fun _=>[Sl 9 skl (some ⟨bs,0,none⟩) 2 [u,v],ErA,P10,MxL]) (fun j=>[Pt b7 (.cells #[.bool false,.bool false] 47),Pt b5 (.cells (cqf e).toArray 26)]) (fun j=>0 - j.1) ⟨0,Nat.zero_le _⟩ ⟨rfl,rfl,rfl,rfl,rfl,rfl,rfl,trivial⟩ ?_
  rintro ⟨j,hj⟩
  dsimp only
  obtain rfl:j=0:=by omega
  cases hp:parF (S1B u) with
  | error x=>
   rw [hp] at p1
   have hne:=par_err hp
   obtain ⟨x1,x2,x3⟩:=x
   dsimp only at hne
   repeat' (first|refine Zq ?_|refine Zo (es:=[u,v]) (f:=skl) 0 u rfl (fun b off=>?_)|refine ZF ?_|refine ZI ?_|refine ZJ ?_|refine ZG ?_|refine ZO ?_|refine ZH ?_|refine ZN ?_|refine ZM (fun b=>?_)|refine ZL (fun b=>?_)|refine ZB ?_|refine ZD ?_|refine Za ?_|refine ZX ?_|refine Zh ?_|refine Zb ?_|refine ZY ?_|refine Zg (fun b=>?_)|refine Zi (fun b=>?_)|refine Zj ?_|refine ZZ ?_|refine ZA (n1) (fun _ _=>?_)|refine l_call0 (n1) (fun _ _=>?_)|refine ZQ (n1) (fun _ _=>?_)|refine ZA (p1) (fun _ _=>?_)|refine l_call0 (p1) (fun _ _=>?_)|refine ZQ (p1) (fun _ _=>?_)|refine Zr (a:=⟨#[105,102,32]⟩) (b:=u) ?_ (h:=by show 3+_≤_;omega)|refine Zr (a:=(⟨#[105,102,32]⟩:ByteArray)++u) (b:=⟨#[58,32,97,115,107]⟩) ?_ (h:=by rw [ByteArray.size_append];show 3+_+5≤_;omega)|(refine ZC (fun hc=>?_) (fun hc=>?_)<;>(try simp at hc)<;>(try omega))|(refine ZU (fun hc=>?_) (fun hc=>?_)<;>(try simp at hc)<;>(try omega))|refine ZT 1 [] [(0,0),(1,0),(2,0),(3,0),(4,0),(5,0),(6,0),(7,0),(8,0),(9,0),(10,0),(11,0)] [] ?_|(refine ZE (fun hc=>?_) (fun hc=>?_)<;>(try simp at hc)<;>(try omega)))
   all_goals exact Z9 (YH (Zx () rfl trivial))
  | ok r=>
   rw [hp] at p1
   have ln:=fun b=>Yk b r
   by_cases hr:r.length=1
   ·obtain ⟨x,rfl⟩:=List.length_eq_one_iff.1 hr
    have ln:∀b,Enters 23∧Spec prog 23 #[pv0 b] [RlsF b [x]] [] (RetV (.int .i64 1)):=ln
    by_cases h10:0≤Lib.indexByte u.data.toList 10
    ·generalize Lib.indexByte u.data.toList 10=z at *
     repeat' (first|refine Zq ?_|refine Zo (es:=[u,v]) (f:=skl) 0 u rfl (fun b off=>?_)|refine ZF ?_|refine ZI ?_|refine ZJ ?_|refine ZG ?_|refine ZO ?_|refine ZH ?_|refine ZN ?_|refine ZM (fun b=>?_)|refine ZL (fun b=>?_)|refine ZB ?_|refine ZD ?_|refine Za ?_|refine ZX ?_|refine Zh ?_|refine Zb ?_|refine ZY ?_|refine Zg (fun b=>?_)|refine Zi (fun b=>?_)|refine Zj ?_|refine ZZ ?_|refine ZA (n1) (fun _ _=>?_)|refine l_call0 (n1) (fun _ _=>?_)|refine ZQ (n1) (fun _ _=>?_)|refine ZA (p1) (fun _ _=>?_)|refine l_call0 (p1) (fun _ _=>?_)|refine ZQ (p1) (fun _ _=>?_)|refine ZA (ln _) (fun _ _=>?_)|refine l_call0 (ln _) (fun _ _=>?_)|refine ZQ (ln _) (fun _ _=>?_)|refine ZA (i1) (fun _ _=>?_)|refine l_call0 (i1) (fun _ _=>?_)|refine ZQ (i1) (fun _ _=>?_)|refine Zr (a:=⟨#[105,102,32]⟩) (b:=u) ?_ (h:=by show 3+_≤_;omega)|refine Zr (a:=(⟨#[105,102,32]⟩:ByteArray)++u) (b:=⟨#[58,32,97,115,107]⟩) ?_ (h:=by rw [ByteArray.size_append];show 3+_+5≤_;omega)|(refine ZC (fun hc=>?_) (fun hc=>?_)<;>(try simp at hc)<;>(try omega))|(refine ZU (fun hc=>?_) (fun hc=>?_)<;>(try simp at hc)<;>(try omega))|refine ZT 1 [] [(0,0),(1,0),(2,0),(3,0),(4,0),(5,0),(6,0),(7,0),(8,0),(9,0),(10,0),(11,0)] [] ?_|(refine ZE (fun hc=>?_) (fun hc=>?_)<;>(try simp at hc)<;>(try omega)))
     all_goals exact Z9 (YH (Zx () rfl trivial))
    ·by_cases h35:0≤Lib.indexByte u.data.toList 35
     ·generalize Lib.indexByte u.data.toList 10=z at *
      generalize Lib.indexByte u.data.toList 35=z2 at *
      repeat' (first|refine Zq ?_|refine Zo (es:=[u,v]) (f:=skl) 0 u rfl (fun b off=>?_)|refine ZF ?_|refine ZI ?_|refine ZJ ?_|refine ZG ?_|refine ZO ?_|refine ZH ?_|refine ZN ?_|refine ZM (fun b=>?_)|refine ZL (fun b=>?_)|refine ZB ?_|refine ZD ?_|refine Za ?_|refine ZX ?_|refine Zh ?_|refine Zb ?_|refine ZY ?_|refine Zg (fun b=>?_)|refine Zi (fun b=>?_)|refine Zj ?_|refine ZZ ?_|refine ZA (n1) (fun _ _=>?_)|refine l_call0 (n1) (fun _ _=>?_)|refine ZQ (n1) (fun _ _=>?_)|refine ZA (p1) (fun _ _=>?_)|refine l_call0 (p1) (fun _ _=>?_)|refine ZQ (p1) (fun _ _=>?_)|refine ZA (ln _) (fun _ _=>?_)|refine l_call0 (ln _) (fun _ _=>?_)|refine ZQ (ln _) (fun _ _=>?_)|refine ZA (i1) (fun _ _=>?_)|refine l_call0 (i1) (fun _ _=>?_)|refine ZQ (i1) (fun _ _=>?_)|refine ZA (i2) (fun _ _=>?_)|refine l_call0 (i2) (fun _ _=>?_)|refine ZQ (i2) (fun _ _=>?_)|refine Zr (a:=⟨#[105,102,32]⟩) (b:=u) ?_ (h:=by show 3+_≤_;omega)|refine Zr (a:=(⟨#[105,102,32]⟩:ByteArray)++u) (b:=⟨#[58,32,97,115,107]⟩) ?_ (h:=by rw [ByteArray.size_append];show 3+_+5≤_;omega)|(refine ZC (fun hc=>?_) (fun hc=>?_)<;>(try simp at hc)<;>(try omega))|(refine ZU (fun hc=>?_) (fun hc=>?_)<;>(try simp at hc)<;>(try omega))|refine ZT 1 [] [(0,0),(1,0),(2,0),(3,0),(4,0),(5,0),(6,0),(7,0),(8,0),(9,0),(10,0),(11,0)] [] ?_|(refine ZE (fun hc=>?_) (fun hc=>?_)<;>(try simp at hc)<;>(try omega)))
      all_goals exact Z9 (YH (Zx () rfl trivial))
     ·exact absurd ⟨x,hp,fun h=>h10 (XE.2 h),fun h=>h35 (XE.2 h)⟩ gu
   ·have hr2:¬(r.length:Int)=1:=by omega
    repeat' (first|refine Zq ?_|refine Zo (es:=[u,v]) (f:=skl) 0 u rfl (fun b off=>?_)|refine ZF ?_|refine ZI ?_|refine ZJ ?_|refine ZG ?_|refine ZO ?_|refine ZH ?_|refine ZN ?_|refine ZM (fun b=>?_)|refine ZL (fun b=>?_)|refine ZB ?_|refine ZD ?_|refine Za ?_|refine ZX ?_|refine Zh ?_|refine Zb ?_|refine ZY ?_|refine Zg (fun b=>?_)|refine Zi (fun b=>?_)|refine Zj ?_|refine ZZ ?_|refine ZA (n1) (fun _ _=>?_)|refine l_call0 (n1) (fun _ _=>?_)|refine ZQ (n1) (fun _ _=>?_)|refine ZA (p1) (fun _ _=>?_)|refine l_call0 (p1) (fun _ _=>?_)|refine ZQ (p1) (fun _ _=>?_)|refine ZA (ln _) (fun _ _=>?_)|refine l_call0 (ln _) (fun _ _=>?_)|refine ZQ (ln _) (fun _ _=>?_)|refine Zr (a:=⟨#[105,102,32]⟩) (b:=u) ?_ (h:=by show 3+_≤_;omega)|refine Zr (a:=(⟨#[105,102,32]⟩:ByteArray)++u) (b:=⟨#[58,32,97,115,107]⟩) ?_ (h:=by rw [ByteArray.size_append];show 3+_+5≤_;omega)|(refine ZC (fun hc=>?_) (fun hc=>?_)<;>(try simp at hc)<;>(try omega))|(refine ZU (fun hc=>?_) (fun hc=>?_)<;>(try simp at hc)<;>(try omega))|refine ZT 1 [] [(0,0),(1,0),(2,0),(3,0),(4,0),(5,0),(6,0),(7,0),(8,0),(9,0),(10,0),(11,0)] [] ?_|(refine ZE (fun hc=>?_) (fun hc=>?_)<;>(try simp at hc)<;>(try omega)))
    all_goals exact Z9 (YH (Zx () rfl trivial))
section
open Go.ChangeShapes Go.WideShapes Go.ChangeAt
structure Kept (W W':World):Prop where
 os:W'.os=W.os
 output:W'.output=W.output
 heap:∀(b:Nat) (o:Obj),W.heap[b]? = some o→W'.heap[b]? = some o
theorem Kept.but {W W':World} (h:Kept W W') (may:MemPlace→Prop):W.keptBut W' may:=by
 refine ⟨h.os,h.output,fun i hi=>?_⟩
 have h1:W.heap[i]? = some W.heap[i]:=Array.getElem?_eq_getElem hi
 have h2:=h.heap i _ h1
 rw [h1,h2]
 split
 ·rename_i c t fr c' t' fr' e1 e2
  rw [e1] at e2
  injection e2 with e2
  injection e2 with a1 a2 a3
  subst a1 a2 a3
  exact ⟨rfl,rfl,rfl,fun _ _=>rfl⟩
 ·rename_i es clock es' clock' e1 e2
  rw [e1] at e2
  injection e2 with e2
  injection e2 with a1 a2
  subst a1 a2
  exact .inr ⟨rfl,rfl⟩
 ·rfl
theorem calls_law {f:FuncId} {args:Array Value} {F:List Pf} {v:Value} (h:Spec prog f args F [] (RetV v)) (W:World) (hF:∀x ∈ F,x.p fun b=>W.heap[b]?) :
  Calls prog f args W fun e W'=>e = .returned v∧Kept W W':=by
 have hs:Sat emp W (fun b=>W.heap[b]?) F [] W:=⟨fun b=>W.heap[b]?,emp,fun _ _ e=>e,(fun _ _ e=>by cases e),(fun _ _ e=>by cases e),fun _=>.inr rfl,fun _=>.inr rfl,fun _=>.inr rfl,Sub.refl _,hF,trivial,Same.refl _⟩
 refine (h _ _ _ hs).mono ?_
 rintro e W' ⟨_,rfl,_,hp',hr,st⟩
 exact ⟨rfl,st.same.os,st.same.output,fun b o hb=>st.inp b o (st.sub b o hb)⟩
def contig (P:Program):Nat→List Field→Option Nat
 | o,[]=>some o
 | o,f::fs=>if f.offset=o then contig P (o+P.cellsOf f.type) fs else none
def plainT (P:Program):Nat→TypeId→Bool
 | 0,_=>false
 | k+1,t=>match P.underlying t with
  | some .bool=>true
  | some (.int _)=>true
  | some .string=>true
  | some (.struct fs)=>(fs.toList.all fun f=>plainT P k f.type) && (contig P 0 fs.toList == some (P.cellsOf t))
  | some (.array n e)=>plainT P k e && (P.cellsOf t == n * P.cellsOf e)
  | _=>false
variable {H:Type} {enc:TypeId×Value→H} {P:Program}
theorem WC {α β:Type} {f g:α→Option β}:∀{l:List α} {r:List β},(∀a ∈ l,∀x,f a=some x→g a=some x)→l.mapM f=some r→l.mapM g=some r
 | [],r,_,h=>h
 | a::l,r,hfg,h=>by
  rw [List.mapM_cons] at h ⊢
  simp only [Option.bind_eq_bind,Option.bind_eq_some_iff,Option.pure_def,Option.some.injEq] at h ⊢
  obtain ⟨x,hx,xs,hxs,rfl⟩:=h
  exact ⟨x,hfg a (by simp) x hx,xs,WC (fun b hb=>hfg b (by simp [hb])) hxs,rfl⟩
theorem mapM_all {α β:Type} {f:α→Option β} {p:β→Prop}:∀{l:List α} {r:List β},(∀a ∈ l,∀x,f a=some x→p x)→l.mapM f=some r→∀x ∈ r,p x
 | [],r,_,h=>by simp at h;subst h;simp
 | a::l,r,hfg,h=>by
  rw [List.mapM_cons] at h
  simp only [Option.bind_eq_bind,Option.bind_eq_some_iff,Option.pure_def,Option.some.injEq] at h
  obtain ⟨x,hx,xs,hxs,rfl⟩:=h
  intro y hy
  rcases List.mem_cons.1 hy with rfl|hy
  ·exact hfg a (by simp) y hx
  ·exact mapM_all (fun b hb=>hfg b (by simp [hb])) hxs y hy
theorem XY {β γ:Type} {f:β→List γ}:∀{l:List β},(∀x ∈ l,f x=[])→l.flatMap f=[]
 | [],_=>rfl
 | a::l,h=>by rw [List.flatMap_cons,h a (by simp),XY (fun x hx=>h x (by simp [hx]))];rfl
theorem Xe:∀(n k:Nat) (t:TypeId) (w:World) (base:Nat) (sp:Nat→Bool) (hd:Bool) (cs:List Value) (x:DataW H×List MemPlace),plainT P k t=true→DataW.trod enc P w base sp hd n t cs=some x→
  x.2=[]∧∀w' base' sp' hd',DataW.trod enc P w' base' sp' hd' n t cs=some x
 | 0,_,_,_,_,_,_,_,_,_,h=>by simp [DataW.trod] at h
 | n+1,0,_,_,_,_,_,_,_,hp,_=>by simp [plainT] at hp
 | n+1,k+1,t,w,base,sp,hd,cs,x,hp,h=>by
  unfold plainT at hp
  split at hp
  ·rename_i hu
   obtain ⟨b,rfl,rfl⟩:=DataW.trod_bool hu h
   exact ⟨rfl,fun _ _ _ _=>by simp [DataW.trod,hu]⟩
  ·rename_i hu
   obtain ⟨z,rfl,rfl,hz⟩:=DataW.trod_int hu h
   exact ⟨rfl,fun _ _ _ _=>by simp [DataW.trod,hu,hz]⟩
  ·rename_i hu
   obtain ⟨s,rfl,rfl,hs⟩:=DataW.trod_string hu h
   exact ⟨rfl,fun _ _ _ _=>by simp [DataW.trod,hu,hs]⟩
  ·rename_i fs hu
   rw [Bool.and_eq_true,List.all_eq_true] at hp
   simp only [DataW.trod,hu] at h ⊢
   split at h
   ·rename_i hl
    simp only [Option.map_eq_some_iff] at h
    obtain ⟨xs,hxs,rfl⟩:=h
    have ih:∀f ∈ fs.toList,∀y,DataW.trod enc P w base sp hd n f.type ((cs.drop f.offset).take (P.cellsOf f.type))=some y→y.2=[]∧∀w' base' sp' hd',DataW.trod enc P w' base' sp' hd' n f.type ((cs.drop f.offset).take (P.cellsOf f.type))=some y:=fun f hf y hy=>
     Xe n k f.type w base sp hd _ y (hp.1 f hf) hy
    refine ⟨XY (mapM_all (fun f hf y hy=>(ih f hf y hy).1) hxs),fun w' base' sp' hd'=>?_⟩
    rw [if_pos hl,WC (fun f hf y hy=>(ih f hf y hy).2 w' base' sp' hd') hxs]
    rfl
   ·cases h
  ·rename_i m e hu
   rw [Bool.and_eq_true] at hp
   simp only [DataW.trod,hu] at h ⊢
   split at h
   ·rename_i hl
    simp only [Option.map_eq_some_iff] at h
    obtain ⟨xs,hxs,rfl⟩:=h
    have ih:∀i ∈ List.range m,∀y,DataW.trod enc P w base sp hd n e ((cs.drop (i * P.cellsOf e)).take (P.cellsOf e))=some y→y.2=[]∧∀w' base' sp' hd',DataW.trod enc P w' base' sp' hd' n e ((cs.drop (i * P.cellsOf e)).take (P.cellsOf e))=some y:=fun i _ y hy=>
     Xe n k e w base sp hd _ y hp.1 hy
    refine ⟨XY (mapM_all (fun i hi y hy=>(ih i hi y hy).1) hxs),fun w' base' sp' hd'=>?_⟩
    rw [if_pos hl,WC (fun i hi y hy=>(ih i hi y hy).2 w' base' sp' hd') hxs]
    rfl
   ·cases h
  ·cases hp
theorem Y6 {α β:Type} {f:α→Option β}:∀{l:List α} {r:List β},l.mapM f=some r→∀(i:Nat) (a:α),l[i]? = some a→∃b,r[i]? = some b∧f a=some b
 | [],r,_,i,a,hi=>by simp at hi
 | c::l,r,h,i,a,hi=>by
  rw [List.mapM_cons] at h
  simp only [Option.bind_eq_bind,Option.bind_eq_some_iff,Option.pure_def,Option.some.injEq] at h
  obtain ⟨x,hx,xs,hxs,rfl⟩:=h
  cases i with
  | zero=>simp at hi;subst hi;exact ⟨x,by simp,hx⟩
  | succ i=>simpa using Y6 hxs i a (by simpa using hi)
theorem cover:∀(fs:List Field) (o total:Nat) (cs cs':List Value),contig P o fs=some total→cs.length=total→cs'.length=total→
  (∀f ∈ fs,(cs.drop f.offset).take (P.cellsOf f.type)=(cs'.drop f.offset).take (P.cellsOf f.type))→cs.drop o=cs'.drop o
 | [],o,total,cs,cs',h,h1,h2,_=>by
  simp only [contig,Option.some.injEq] at h
  rw [List.drop_eq_nil_of_le (by omega),List.drop_eq_nil_of_le (by omega)]
 | f::fs,o,total,cs,cs',h,h1,h2,hp=>by
  unfold contig at h
  split at h
  ·rename_i ho
   have ih:=cover fs (o+P.cellsOf f.type) total cs cs' h h1 h2 fun g hg=>hp g (by simp [hg])
   have h3:=hp f (by simp)
   rw [ho] at h3
   rw [←List.take_append_drop (P.cellsOf f.type) (cs.drop o),←List.take_append_drop (P.cellsOf f.type) (cs'.drop o),List.drop_drop,List.drop_drop,h3,ih]
  ·cases h
theorem trod_inj {H':Type} {enc':TypeId×Value→H'}:∀(n n' k:Nat) (t:TypeId) (w w':World) (base base':Nat) (sp sp':Nat→Bool) (hd hd':Bool) (cs cs':List Value) (x x':DataW H×List MemPlace),plainT P k t=true→
  DataW.trod enc P w base sp hd n t cs=some x→DataW.trod enc P w' base' sp' hd' n' t cs'=some x'→x.1=x'.1→cs=cs'
 | 0,_,_,_,_,_,_,_,_,_,_,_,_,_,_,_,_,h,_,_=>by simp [DataW.trod] at h
 | _+1,0,_,_,_,_,_,_,_,_,_,_,_,_,_,_,_,_,h,_=>by simp [DataW.trod] at h
 | n+1,n'+1,0,_,_,_,_,_,_,_,_,_,_,_,_,_,hp,_,_,_=>by simp [plainT] at hp
 | n+1,n'+1,k+1,t,w,w',base,base',sp,sp',hd,hd',cs,cs',x,x',hp,h,h',he=>by
  unfold plainT at hp
  split at hp
  ·rename_i hu
   obtain ⟨b,rfl,rfl⟩:=DataW.trod_bool hu h
   obtain ⟨b',rfl,rfl⟩:=DataW.trod_bool hu h'
   simp at he;subst he;rfl
  ·rename_i hu
   obtain ⟨z,rfl,rfl,hz⟩:=DataW.trod_int hu h
   obtain ⟨z',rfl,rfl,hz'⟩:=DataW.trod_int hu h'
   simp at he;subst he;rfl
  ·rename_i hu
   obtain ⟨s,rfl,rfl,hs⟩:=DataW.trod_string hu h
   obtain ⟨s',rfl,rfl,hs'⟩:=DataW.trod_string hu h'
   simp at he
   rw [XD (by rw [he]:s.data.toList=s'.data.toList)]
  ·rename_i fs hu
   rw [Bool.and_eq_true,List.all_eq_true,beq_iff_eq] at hp
   simp only [DataW.trod,hu] at h h'
   split at h
   ·rename_i hl
    split at h'
    ·rename_i hl'
     simp only [Option.map_eq_some_iff] at h h'
     obtain ⟨xs,hxs,rfl⟩:=h
     obtain ⟨xs',hxs',rfl⟩:=h'
     simp only [DataW.agg.injEq] at he
     have:=cover fs.toList 0 _ cs cs' hp.2 hl hl' fun f hf=>by
      obtain ⟨i,hi,rfl⟩:=List.mem_iff_getElem.1 hf
      have hi':=List.getElem?_eq_getElem hi
      obtain ⟨y,hy1,hy2⟩:=Y6 hxs i _ hi'
      obtain ⟨y',hy1',hy2'⟩:=Y6 hxs' i _ hi'
      have hyy:y.1=y'.1:=by
       have h1:(xs.map (·.1))[i]? = some y.1:=by simp [hy1]
       have h2:(xs'.map (·.1))[i]? = some y'.1:=by simp [hy1']
       rw [he] at h1
       exact Option.some.inj (h1.symm.trans h2)
      exact trod_inj (enc':=enc') n n' k _ w w' base base' sp sp' hd hd' _ _ y y' (hp.1 _ hf) hy2 hy2' hyy
     simpa using this
    ·cases h'
   ·cases h
  ·rename_i m e hu
   rw [Bool.and_eq_true,beq_iff_eq] at hp
   simp only [DataW.trod,hu] at h h'
   split at h
   ·rename_i hl
    split at h'
    ·rename_i hl'
     simp only [Option.map_eq_some_iff] at h h'
     obtain ⟨xs,hxs,rfl⟩:=h
     obtain ⟨xs',hxs',rfl⟩:=h'
     simp only [DataW.agg.injEq] at he
     have hpart:∀i,i<m→(cs.drop (i * P.cellsOf e)).take (P.cellsOf e)=(cs'.drop (i * P.cellsOf e)).take (P.cellsOf e):=fun i hi=>by
      have hi':(List.range m)[i]? = some i:=by simp [hi]
      obtain ⟨y,hy1,hy2⟩:=Y6 hxs i _ hi'
      obtain ⟨y',hy1',hy2'⟩:=Y6 hxs' i _ hi'
      have hyy:y.1=y'.1:=by
       have h1:(xs.map (·.1))[i]? = some y.1:=by simp [hy1]
       have h2:(xs'.map (·.1))[i]? = some y'.1:=by simp [hy1']
       rw [he] at h1
       exact Option.some.inj (h1.symm.trans h2)
      exact trod_inj (enc':=enc') n n' k _ w w' base base' sp sp' hd hd' _ _ y y' hp.1 hy2 hy2' hyy
     apply List.ext_getElem?
     intro j
     by_cases hj:j<m * P.cellsOf e
     ·have hc:0<P.cellsOf e:=Nat.pos_of_ne_zero fun h0=>by rw [h0] at hj;simp at hj
      have h1:=congrArg (fun l=>l[j % P.cellsOf e]?) (hpart (j / P.cellsOf e) (Nat.div_lt_of_lt_mul (by rw [Nat.mul_comm];exact hj)))
      simp only [List.getElem?_take,List.getElem?_drop,if_pos (Nat.mod_lt j hc)] at h1
      rw [show j / P.cellsOf e * P.cellsOf e+j % P.cellsOf e=j by rw [Nat.mul_comm];exact Nat.div_add_mod j _] at h1
      exact h1
     ·rw [List.getElem?_eq_none (by omega),List.getElem?_eq_none (by omega)]
    ·cases h'
   ·cases h
  ·cases hp
theorem post_kept {f:Func} {s:ChangeSpec} {apart fresh handsOn again:Bool} {W W':World} {args:Array Value} {v:Value} {ds gs:List (DataW H)} {before pa pv:List MemPlace}
  (hW:DataW.Whole enc P f.params.toList s.vars apart W args.toList ds gs before)
  (hres:∀(b:Nat) (sp:Nat→Bool) (hd:Bool),DataW.TrodAll enc P W' b sp hd f.resultTypes.toList (v.resultList f.resultTypes.size) (s.fn H (ds++gs)).results [])
  (hargs:∀sp:Nat→Bool,(∀b<W.heap.size,sp b=true)→DataW.TrodAll enc P W' 0 sp true f.params.toList args.toList (s.fn H (ds++gs)).args pa)
  (hvars:∀sp:Nat→Bool,(∀b<W.heap.size,sp b=true)→DataW.TrodVars enc P W' sp s.vars (s.fn H (ds++gs)).vars pv)
  (hps:before=pa++pv) (hk:Kept W W')
  (hok:∀(j:Nat) (t:TypeId) (r:Value),f.resultTypes[j]? = some t→(v.resultList f.resultTypes.size)[j]? = some r→Value.okWide P W' .any 0 t r) :
  s.post enc P f apart fresh handsOn again W args v W':=by
 have hlt:=hW.lt
 refine ⟨ds,gs,before,[],pa,pv,hW,hres _ _ _,hargs _ (fun b hb=>by simpa using hb),hvars _ (fun b hb=>by simpa using hb),World.keptBut_mono (fun p hp=>⟨hp,?_⟩) (hk.but (· ∈ before)),fun _=>?_⟩
 ·rw [hps,List.mem_append] at hp
  exact Or.inr hp
 ·obtain ⟨_,_,_,_,_,hz,hn⟩:=hW
  refine ⟨hok,_,_,([]++pa)++pv,⟨[]++pa,pv,trodAll_append (hargs _ (fun _ _=>rfl)) (hres _ _ _),hvars _ (fun _ _=>rfl),rfl,?_,?_⟩,?_⟩
  ·intro b off hp
   have hm:MemPlace.cell b off ∈ before:=by rw [hps];simpa using hp
   have h1:=hz b off hm
   have h2:b<W.heap.size:=hlt _ hm
   have h4:W.heap[b]? = some W.heap[b]:=Array.getElem?_eq_getElem h2
   have h3:=hk.heap b _ h4
   unfold World.frozen? at h1 ⊢
   dsimp only at h1 ⊢
   rw [h4] at h1
   rw [h3]
   exact h1
  ·intro ha
   have:=hn ha
   rw [hps] at this
   simpa using this
  ·intro p hp _
   rw [hps]
   simpa using hp
inductive SK where
 | b
 | i (k:IntKind)
 | s
def sksF (g:TypeId→Option (List SK)):List Field→Option (List SK)
 | []=>some []
 | f::fs=>match g f.type,sksF g fs with
  | some a,some r=>some (a++r)
  | _,_=>none
def sks (P:Program):Nat→TypeId→Option (List SK)
 | 0,_=>none
 | k+1,t=>match P.underlying t with
  | some .bool=>some [.b]
  | some (.int ik)=>some [.i ik]
  | some .string=>some [.s]
  | some (.struct fs)=>sksF (sks P k) fs.toList
  | some (.array n e)=>(sks P k e).map fun l=>(List.replicate n l).flatten
  | _=>none
def CellOK (M:Nat):SK→Value→Prop
 | .b,v=>∃b,v = .bool b
 | .i k,v=>∃z,v = .int k z∧(Lit.int k z).wf=true
 | .s,v=>∃s:ByteArray,v = .string s∧s.size≤M
def CellsOK (M:Nat):List SK→List Value→Prop
 | [],[]=>True
 | k::ks,v::vs=>CellOK M k v∧CellsOK M ks vs
 | _,_=>False
theorem Y1 {M:Nat}:∀{a b:List SK} {x y:List Value},CellsOK M a x→CellsOK M b y→CellsOK M (a++b) (x++y)
 | [],_,[],_,_,h=>h
 | _::_,_,_::_,_,⟨h1,h2⟩,h=>⟨h1,Y1 h2 h⟩
theorem Xd {M M':Nat} (hM:M≤M'):∀{a:List SK} {x:List Value},CellsOK M a x→CellsOK M' a x
 | [],[],_=>trivial
 | k::_,_::_,⟨h1,h2⟩=>⟨by
   cases k with
   | b=>exact h1
   | i k=>exact h1
   | s=>obtain ⟨s,hs,hl⟩:=h1;exact ⟨s,hs,Nat.le_trans hl hM⟩,Xd hM h2⟩
theorem bulk_mem:∀{l:List (DataW H)} {d:DataW H},d ∈ l→Rows.uptoBulk d≤Rows.uptoBulkAll l
 | c::l,d,h=>by
  rcases List.mem_cons.1 h with rfl|h
  ·simp only [Rows.uptoBulkAll];omega
  ·have:=bulk_mem h
   simp only [Rows.uptoBulkAll];omega
theorem sksF_ok {M:Nat} {g:TypeId→Option (List SK)}:∀(fs:List Field) (o total:Nat) (cs:List Value) (ks:List SK),contig P o fs=some total→cs.length=total→sksF g fs=some ks→
  (∀f ∈ fs,∀k,g f.type=some k→CellsOK M k ((cs.drop f.offset).take (P.cellsOf f.type)))→CellsOK M ks (cs.drop o)
 | [],o,total,cs,ks,h,h1,h2,_=>by
  simp only [contig,Option.some.injEq] at h
  simp only [sksF,Option.some.injEq] at h2
  rw [←h2,List.drop_eq_nil_of_le (by omega)];trivial
 | f::fs,o,total,cs,ks,h,h1,h2,hp=>by
  unfold contig at h
  split at h
  ·rename_i ho
   unfold sksF at h2
   split at h2
   ·rename_i a r ha hr
    obtain rfl:=Option.some.inj h2
    have ih:=sksF_ok fs (o+P.cellsOf f.type) total cs r h h1 hr fun g hg=>hp g (by simp [hg])
    have h3:=hp f (by simp) a ha
    rw [ho] at h3
    rw [←List.take_append_drop (P.cellsOf f.type) (cs.drop o),List.drop_drop]
    exact Y1 h3 ih
   ·cases h2
  ·cases h
theorem arr_cells {M c:Nat} {l:List SK}:∀(m:Nat) (cs:List Value),cs.length=m * c→(∀i,i<m→CellsOK M l ((cs.drop (i * c)).take c))→CellsOK M (List.replicate m l).flatten cs
 | 0,cs,h,_=>by
  have:cs=[]:=List.length_eq_zero_iff.1 (by omega)
  subst this;trivial
 | m+1,cs,h,hp=>by
  have h0:=hp 0 (by omega)
  rw [Nat.zero_mul,List.drop_zero] at h0
  have hl:cs.length=m * c+c:=by rw [h,Nat.succ_mul]
  have ih:=arr_cells (M:=M) (c:=c) (l:=l) m (cs.drop c) (by rw [List.length_drop];omega) fun i hi=>by
   have:=hp (i+1) (by omega)
   rw [List.drop_drop,show c+i * c=(i+1) * c by rw [Nat.succ_mul];omega]
   exact this
  rw [List.replicate_succ,List.flatten_cons,←List.take_append_drop c cs]
  exact Y1 h0 ih
theorem Xk:∀(n k:Nat) (t:TypeId) (w:World) (base:Nat) (sp:Nat→Bool) (hd:Bool) (cs:List Value) (x:DataW H×List MemPlace) (ks:List SK),plainT P k t=true→sks P k t=some ks→DataW.trod enc P w base sp hd n t cs=some x→CellsOK (Rows.uptoBulk x.1) ks cs
 | 0,_,_,_,_,_,_,_,_,_,_,_,h=>by simp [DataW.trod] at h
 | n+1,0,_,_,_,_,_,_,_,_,hp,_,_=>by simp [plainT] at hp
 | n+1,k+1,t,w,base,sp,hd,cs,x,ks,hp,hk,h=>by
  unfold plainT at hp
  unfold sks at hk
  split at hp
  ·rename_i hu
   rw [hu] at hk
   obtain rfl:=Option.some.inj hk
   obtain ⟨b,rfl,rfl⟩:=DataW.trod_bool hu h
   exact ⟨⟨b,rfl⟩,trivial⟩
  ·rename_i hu
   rw [hu] at hk
   obtain rfl:=Option.some.inj hk
   obtain ⟨z,rfl,rfl,hz⟩:=DataW.trod_int hu h
   exact ⟨⟨z,rfl,hz⟩,trivial⟩
  ·rename_i hu
   rw [hu] at hk
   obtain rfl:=Option.some.inj hk
   obtain ⟨s,rfl,rfl,hs⟩:=DataW.trod_string hu h
   refine ⟨⟨s,rfl,?_⟩,trivial⟩
   have hsz:s.data.toList.length=s.size:=by simp
   simp only [Rows.uptoBulk];omega
  ·rename_i fs hu
   rw [hu] at hk
   rw [Bool.and_eq_true,List.all_eq_true,beq_iff_eq] at hp
   simp only [DataW.trod,hu] at h
   split at h
   ·rename_i hl
    simp only [Option.map_eq_some_iff] at h
    obtain ⟨xs,hxs,rfl⟩:=h
    have:=sksF_ok (M:=Rows.uptoBulk (.agg (xs.map (·.1)))) (g:=sks P k) fs.toList 0 _ cs ks hp.2 hl hk fun f hf k' hk'=>by
     obtain ⟨i,hi,rfl⟩:=List.mem_iff_getElem.1 hf
     obtain ⟨y,hy1,hy2⟩:=Y6 hxs i _ (List.getElem?_eq_getElem hi)
     refine Xd ?_ (Xk n k _ w base sp hd _ y k' (hp.1 _ hf) hk' hy2)
     have hm:y.1 ∈ xs.map (·.1):=List.mem_map.2 ⟨y,List.mem_of_getElem? hy1,rfl⟩
     have:=bulk_mem hm
     simp only [Rows.uptoBulk];omega
    simpa using this
   ·cases h
  ·rename_i m e hu
   rw [hu] at hk
   rw [Bool.and_eq_true,beq_iff_eq] at hp
   simp only [DataW.trod,hu] at h
   split at h
   ·rename_i hl
    simp only [Option.map_eq_some_iff] at h hk
    obtain ⟨xs,hxs,rfl⟩:=h
    obtain ⟨l,hl2,rfl⟩:=hk
    refine arr_cells m cs (by rw [hl,hp.2]) fun i hi=>?_
    have hi':(List.range m)[i]? = some i:=by simp [hi]
    obtain ⟨y,hy1,hy2⟩:=Y6 hxs i _ hi'
    refine Xd ?_ (Xk n k _ w base sp hd _ y l hp.1 hl2 hy2)
    have hm:y.1 ∈ xs.map (·.1):=List.mem_map.2 ⟨y,List.mem_of_getElem? hy1,rfl⟩
    have:=bulk_mem hm
    simp only [Rows.uptoBulk];omega
   ·cases h
  ·cases hp
end
section
open Go.ChangeShapes Go.WideShapes Go.ChangeAt
theorem Kept.cell {W W':World} (h:Kept W W') {a:Addr} {v:Value} (hc:W.cell? a=some v):W'.cell? a=some v:=by
 unfold World.cell? at hc ⊢
 split at hc
 ·rename_i c T fz hb
  rw [h.heap _ _ hb]
  exact hc
 ·cases hc
theorem Kept.cells {W W':World} (h:Kept W W') {a:Addr} {n:Nat} {cs:List Value} (hc:W.cells? 0 a n=some cs):W'.cells? 0 a n=some cs:=by
 unfold World.cells? at hc ⊢
 rw [if_pos (Nat.zero_le _)] at hc ⊢
 exact WC (fun i _ x hx=>h.cell hx) hc
variable {H:Type} {enc:TypeId×Value→H} {P:Program}
end
section
open Go.ChangeShapes Go.WideShapes Go.ChangeAt
theorem own:ownKnob prog.godebug=none:=by kernel_rfl
theorem i64_in {n:Int} (h:(Lit.int .i64 n).wf=true) : -9223372036854775808≤n∧n<9223372036854775808:=by
 simp [Lit.wf,IntKind.min,IntKind.max,IntKind.bits,IntKind.signed] at h
 omega
theorem Yr {M:Nat} {k:IntKind} {ks:List SK} {cs:List Value} (h:CellsOK M (.i k::ks) cs):∃z cs',cs = .int k z::cs'∧(Lit.int k z).wf=true∧CellsOK M ks cs':=by
 obtain _|⟨v,cs⟩:=cs
 ·exact h.elim
 ·obtain ⟨⟨z,rfl,hz⟩,h⟩:=h
  exact ⟨z,cs,rfl,hz,h⟩
theorem WE {M:Nat} {ks:List SK} {cs:List Value} (h:CellsOK M (.s::ks) cs):∃(s:ByteArray) (cs':List Value),cs = .string s::cs'∧s.size≤M∧CellsOK M ks cs':=by
 obtain _|⟨v,cs⟩:=cs
 ·exact h.elim
 ·obtain ⟨⟨z,rfl,hz⟩,h⟩:=h
  exact ⟨z,cs,rfl,hz,h⟩
theorem cells_nil {M:Nat} {cs:List Value} (h:CellsOK M [] cs):cs=[]:=by
 cases cs
 ·rfl
 ·exact h.elim
section
variable {H:Type} {enc:TypeId×Value→H} {W:World} {base:Nat} {v:Value} {d:DataW H} {p:List MemPlace}
theorem aggS {t:TypeId} {fs:Array Field} (hu:prog.underlying t=some (.struct fs)) (hv:Value.okWide prog W .any base t v):∃cs,v = .agg cs:=
 let ⟨cs,h,_⟩:=okWide_struct hu hv
 ⟨cs,h⟩
theorem open_agg {t:TypeId} {ks:List SK} (hpl:plainT prog 5 t=true) (hsk:sks prog 5 t=some ks) (hag:∃cs,v = .agg cs) (h:DataW.Trod enc prog W 0 (fun _=>true) true t v d p) :
  ∃cs:List Value,v = .agg cs.toArray∧CellsOK (Rows.uptoBulk d) ks cs∧p=[]∧∀w' base' sp' hd',DataW.Trod enc prog w' base' sp' hd' t v d []:=by
 obtain ⟨cs,rfl⟩:=hag
 obtain ⟨n,hn⟩:=h
 have hc:=Xk n 5 _ W 0 _ _ _ _ _ hpl hsk hn
 obtain ⟨hp,hr⟩:=Xe n 5 _ W 0 _ _ _ _ hpl hn
 dsimp only at hp
 subst hp
 exact ⟨cs.toList,rfl,hc,rfl,fun w' base' sp' hd'=>⟨n,hr w' base' sp' hd'⟩⟩
theorem open_str {t:TypeId} (hu:prog.underlying t=some .string) (hv:Value.okWide prog W .any base t v) (h:DataW.Trod enc prog W 0 (fun _=>true) true t v d p) :
  ∃s:ByteArray,v = .string s∧s.size≤Rows.uptoBulk d∧p=[]∧∀w' base' sp' hd',DataW.Trod enc prog w' base' sp' hd' t v d []:=by
 obtain ⟨s,rfl⟩:=okWide_string hu hv
 obtain ⟨n,hn⟩:=h
 have hpl:plainT prog 5 t=true:=by unfold plainT;rw [hu]
 have hsk:sks prog 5 t=some [.s]:=by unfold sks;rw [hu]
 have hc:=Xk n 5 _ W 0 _ _ _ _ _ hpl hsk hn
 obtain ⟨hp,hr⟩:=Xe n 5 _ W 0 _ _ _ _ hpl hn
 dsimp only at hp
 subst hp
 obtain ⟨s',cs',h1,h2,_⟩:=WE hc
 injection h1 with h3 _
 injection h3 with h4
 exact ⟨s,rfl,by rw [h4];exact h2,rfl,fun w' base' sp' hd'=>⟨n,hr w' base' sp' hd'⟩⟩
end
end
section
variable {v:Value}
end
structure It where
 who:UInt8
 nu:UInt8
 tk:UInt8
 ch:UInt8
 tx:ByteArray
def itf (x:It):List Value:=[.int .u8 x.who.toNat,.int .u8 x.nu.toNat,.int .u8 x.tk.toNat,.int .u8 x.ch.toNat,.string x.tx]
def It.v (x:It):Value:=.agg #[.int .u8 x.who.toNat,.int .u8 x.nu.toNat,.int .u8 x.tk.toNat,.int .u8 x.ch.toNat,.string x.tx]
def nm0:ByteArray:=⟨#[49]⟩
def nm1:ByteArray:=⟨#[49,46,50]⟩
def nm2:ByteArray:=⟨#[51]⟩
def who3 (j:Nat):ByteArray:=if j=0 then nm0 else if j=1 then nm1 else nm2
def ito (x:It):Ou:=⟨1+(x.ch.toNat % 4:Nat),⟨#[116]⟩,x.tx.extract 0 (min x.tx.size 20),5⟩
def itn (x:It):Nm:=⟨18,who3 (x.who.toNat % 3),(x.nu.toNat % 4:Nat),(x.tk.toNat % 8:Nat),⟨#[]⟩⟩
def itl (x:It) (p:Nat):Lf:=⟨⟨who3 (x.who.toNat % 3),(x.nu.toNat % 4:Nat),(x.tk.toNat % 8:Nat),ito x⟩,(9+p:Nat),(p / 5:Nat)⟩
def stF (es:Al) (l:List It):Al:=l.foldl (fun es x=>insO (itn x) (oencS (ito x)) es) es
def ldF (l:List It):List Lf:=l.mapIdx fun p x=>itl x p
structure B1 (now:List It) where
 i:Nat
 q:Option Addr
 es:Al
 h1:i≤now.length∧i≤20
 h2:es=stF [] (now.take i)
 h3:es.length≤i
structure B2 (left:List It) where
 i:Nat
 h1:i≤left.length∧i≤20
section
open Go.ChangeShapes Go.WideShapes Go.ChangeAt

end
def kx:It:=⟨1,0,0,0,⟨#[120]⟩⟩
def ky:It:=⟨1,0,0,0,⟨#[121]⟩⟩
def kc:Cq:=⟨3,nm1,0,0,ito ky,0,ito kx,0⟩
def sameC (c:Cq) (y:En):Bool:=decide (c.who=y.who) && (decide (c.nu=y.nu) && (decide (c.newAt=y.tk) && decide (c.new=y.o)))
def Cq.v (c:Cq):Value:=.agg #[.int .i64 c.kind,.string c.who,.int .i64 c.nu,.int .i64 c.place,.int .i64 c.old.ch,.string c.old.tg,.string c.old.tx,.int .i64 c.old.us,.int .i64 c.oldAt,.int .i64 c.new.ch,.string c.new.tg,.string c.new.tx,.int .i64 c.new.us,.int .i64 c.newAt]
def eqq (a b:Cq):Bool:=(a.kind == b.kind) && ((a.who.toList == b.who.toList) && ((a.nu == b.nu) && ((a.place == b.place) && (((a.old.ch == b.old.ch) && ((a.old.tg.toList == b.old.tg.toList) && ((a.old.tx.toList == b.old.tx.toList) && ((a.old.us == b.old.us) && true)))) && ((a.oldAt == b.oldAt) && (((a.new.ch == b.new.ch) && ((a.new.tg.toList == b.new.tg.toList) && ((a.new.tx.toList == b.new.tx.toList) && ((a.new.us == b.new.us) && true)))) && ((a.newAt == b.newAt) && true)))))))
def difE (l:List Cq):List Cq:=l.filter fun c=>decide (c.kind≠1)
def cn (j:Int) (l:List Cq):Nat:=l.countP fun c=>decide (c.kind=j)
def cn0 (l:List Cq):Nat:=l.countP fun c=>decide (c.kind<1∨4<c.kind)
def cntC (l:List Cq):List Value:=[.int .i64 (cn0 l:Int),.int .i64 (cn 1 l:Int),.int .i64 (cn 2 l:Int),.int .i64 (cn 3 l:Int),.int .i64 (cn 4 l:Int)]
structure D1 (l:List Cq) where
 i:Nat
 o:Option Addr
 cap:Nat
 hi:i≤l.length
structure D2 (l:List Cq) where
 i:Nat
 hi:i≤l.length

def i8f (x:Int8):List Value:=[.int .i8 x.toInt]
def kq (c:Cq) (k:Int8) (p:Nat):Cq:={c with kind:=k.toInt,place:=p}
def kqs (c:Cq) (ks:List Int8):List Cq:=ks.mapIdx fun p k=>kq c k p
structure N1 (ks:List Int8) where
 i:Nat
 o:Option Addr
 cap:Nat
 o':Option Addr
 cap':Nat
 hi:i≤ks.length
section
open Go.ChangeShapes Go.WideShapes Go.ChangeAt
theorem plC:plainT prog 5 26=true:=by decide +kernel
theorem skC:sks prog 5 26=some [.i .i64,.s,.i .i64,.i .i64,.i .i64,.s,.s,.i .i64,.i .i64,.i .i64,.s,.s,.i .i64,.i .i64]:=by kernel_rfl
end
section
open Go.ChangeShapes Go.WideShapes Go.ChangeAt
def laidR : List (String × DataW Unit) := [("math/bits.deBruijn32tab", Rows.laid_math_bits_deBruijn32tab), ("math/bits.deBruijn64tab", Rows.laid_math_bits_deBruijn64tab), ("internal/strconv.uint64pow10", Rows.laid_internal_strconv_uint64pow10), ("unicode/utf8.acceptRanges", Rows.laid_unicode_utf8_acceptRanges), ("strconv.ErrRange", Rows.laid_strconv_ErrRange), ("strconv.ErrSyntax", Rows.laid_strconv_ErrSyntax), ("unicode/utf8.first", Rows.laid_unicode_utf8_first)]
theorem tP10:(prog.globals[3]?).map (·.type)=some 218:=by kernel_rfl
theorem plP10:plainT prog 5 218=true:=by decide +kernel
theorem rdP10 (w:World):DataW.trod (fun _=>()) prog w 0 (fun _=>true) false 8 218 (Lib.pow10Tab.map fun z=>Value.int .u64 z)=some (Rows.laid_internal_strconv_uint64pow10,[]):=by kernel_rfl
theorem star_err : "*" ++ "errors.errorString" = "*errors.errorString" := by decide
theorem row_err (u : TypeId) (h : prog.typeName? 3 u = some "*errors.errorString") : u = 242 :=
 typeName_ptr_named (nm := "errors.errorString") (by rw [star_err]; kernel_rfl) (by kernel_rfl) (by decide) u (by rw [star_err]; exact h)
theorem var_one {W:World} {g:Nat} {n:String} {v:Value} (hg:prog.globalNamed n=some g) (h:W.var? prog n=some #[v]):∃T fz,W.heap[g]? = some (.cells #[v] T fz):=by
 simp only [World.var?,hg,Option.bind_some] at h
 split at h
 ·rename_i cs t fr hb
  obtain rfl:=Option.some.inj h
  exact ⟨t,fr,hb⟩
 ·cases h
theorem tabsR {W:World} (h:laidMetH prog laidR W):(ErA.p fun b=>W.heap[b]?)∧P10.p fun b=>W.heap[b]?:=by
 rw [MakeChecks.laidMetH_plain _ _ _ (by kernel_rfl)] at h
 have h3:=h.tail.tail
 have h5:=h3.tail.tail
 have h6:=h5.tail
 refine ⟨?_,?_⟩
 ·obtain ⟨a1, s1, hv1, _⟩ := laid_sentinel h5 (show prog.globalNamed "strconv.ErrRange" = some 7 by kernel_rfl) (show (prog.globals[7]?).map (·.type) = some 84 by kernel_rfl) underlying84 row_err underlying242 underlying244 rfl rfl underlying9 (by kernel_rfl) (by kernel_rfl)
  obtain ⟨a2, s2, hv2, _⟩ := laid_sentinel h6 (show prog.globalNamed "strconv.ErrSyntax" = some 6 by kernel_rfl) (show (prog.globals[6]?).map (·.type) = some 84 by kernel_rfl) underlying84 row_err underlying242 underlying244 rfl rfl underlying9 (by kernel_rfl) (by kernel_rfl)
  obtain ⟨T1, f1, e1⟩ := var_one (show prog.globalNamed "strconv.ErrRange" = some 7 by kernel_rfl) hv1
  obtain ⟨T2, f2, e2⟩ := var_one (show prog.globalNamed "strconv.ErrSyntax" = some 6 by kernel_rfl) hv2
  exact ⟨⟨_,T2,f2,.inr ⟨_,_,rfl⟩,e2⟩,⟨_,T1,f1,.inr ⟨_,_,rfl⟩,e1⟩⟩
 ·obtain ⟨ps,⟨g1,t1,cs1,f1,p1,q1,hg1,ht1,hv1,hd1,_⟩,_⟩:=h3
  obtain rfl := Option.some.inj ((show prog.globalNamed "internal/strconv.uint64pow10" = some 3 by kernel_rfl).symm.trans hg1)
  obtain rfl:=Option.some.inj (tP10.symm.trans ht1)
  have hcs:cs1.toList=Lib.pow10Tab.map fun z=>Value.int .u64 z:=trod_inj (enc':=fun _=>()) _ _ _ _ W W _ _ _ _ _ _ _ _ _ _ plP10 hd1 (rdP10 W) rfl
  unfold World.var? at hv1
  rw [hg1] at hv1
  simp only [Option.bind_some] at hv1
  split at hv1
  ·rename_i cs t fr hb
   obtain rfl:=Option.some.inj hv1
   exact ⟨t,fr,by rw [←hcs];simpa using hb⟩
  ·cases hv1
theorem mxlR {W:World} (h:W.ShapedOpen prog):MxL.p fun b=>W.heap[b]?:=by
 obtain ⟨cs,hh,hs,hr⟩:=h.1 0 #[.int .i64 0] 3 (of_decide_eq_true (by kernel_rfl)) (by kernel_rfl)
 obtain ⟨ts,hts,_,hall⟩:=hr (by kernel_rfl)
 rw [show prog.cellTypes prog.depth 3=some [3] by kernel_rfl] at hts
 cases hts
 have hs:cs.size=1:=hs
 have h1:0<cs.size:=by omega
 obtain ⟨u,hu',hok⟩:=hall 0 cs[0] (by simp [h1])
 have:u=3:=by simpa using hu'.symm
 subst this
 have e:cs = #[cs[0]]:=by
  apply Array.ext
  ·simp [hs]
  ·intro i hi hj
   obtain rfl:i=0:=by simp at hj;omega
   rfl
 unfold Cell.ok at hok
 rw [underlying3] at hok
 cases hv:cs[0]<;>rw [hv] at hok<;>simp at hok
 case int k n=>
  rw [hv,hok.1] at e
  exact ⟨n,3,(0,0),by show W.heap[_]? = _;rw [hh,e]⟩
def bits (l:List Int):List Value:=l.map fun z=>Value.int .u8 z
def b32:List Int:=[0,1,28,2,29,14,24,3,30,22,20,15,25,17,4,8,31,27,13,23,21,19,16,7,26,12,18,6,11,5,10,9]
def b64:List Int:=[0,1,56,2,57,49,28,3,61,58,42,50,38,29,17,4,62,47,59,36,45,43,51,22,53,39,33,30,24,18,12,5,63,55,48,27,60,41,37,16,46,35,44,21,52,32,23,11,54,26,40,15,34,20,31,10,25,14,19,9,13,8,7,6]
noncomputable def laidWorldR (os:Os):World:=
 let N:=(World.settled prog os).heap.size
 let w0:=World.holding prog os ⟨#[.cells #[.string ⟨#[118,97,108,117,101,32,111,117,116,32,111,102,32,114,97,110,103,101]⟩] 244,.cells #[.string ⟨#[105,110,118,97,108,105,100,32,115,121,110,116,97,120]⟩] 244],#[],[]⟩
 let put (h:Array Obj) (g:Nat) (cs:Array Value):Array Obj:=h.modify g fun
  | .cells _ t frozen=>.cells cs t frozen
  | o=>o
 let h1:=put w0.heap 4 (bits b32).toArray
 let h2:=put h1 5 (bits b64).toArray
 let h3:=put h2 3 (Lib.pow10Tab.map fun z=>Value.int .u64 z).toArray
 let h4:=put h3 2 ((List.range 16).flatMap fun i=>[Value.int .u8 (Lib.accLo i),Value.int .u8 (Lib.accHi i)]).toArray
 let h5:=put h4 7 #[.iface 242 (.pointer (some ⟨N,0,none⟩))]
 let h6:=put h5 6 #[.iface 242 (.pointer (some ⟨N+1,0,none⟩))]
 let h7:=put h6 1 (Lib.firstTab.map fun z=>Value.int .u8 z).toArray
 {w0 with heap:=h7}
theorem open_cqw {H:Type} {enc:TypeId×Value→H} {W:World} {base:Nat} {v:Value} {d:DataW H} {p:List MemPlace} (hv:Value.okWide prog W .any base 26 v) (h:DataW.Trod enc prog W 0 (fun _=>true) true 26 v d p) :
  ∃c:Cq,v=cqa c∧CqW c∧p=[]∧∀w' base' sp' hd',DataW.Trod enc prog w' base' sp' hd' 26 v d []:=by
 obtain ⟨cs,rfl,h,hp,hr⟩:=open_agg plC skC (aggS underlying26 hv) h
 obtain ⟨z1,cs,rfl,_,h⟩:=Yr h
 obtain ⟨s2,cs,rfl,_,h⟩:=WE h
 obtain ⟨z3,cs,rfl,b3,h⟩:=Yr h
 obtain ⟨z4,cs,rfl,_,h⟩:=Yr h
 obtain ⟨z5,cs,rfl,_,h⟩:=Yr h
 obtain ⟨s6,cs,rfl,_,h⟩:=WE h
 obtain ⟨s7,cs,rfl,_,h⟩:=WE h
 obtain ⟨z8,cs,rfl,b8,h⟩:=Yr h
 obtain ⟨z9,cs,rfl,b9,h⟩:=Yr h
 obtain ⟨z10,cs,rfl,_,h⟩:=Yr h
 obtain ⟨s11,cs,rfl,_,h⟩:=WE h
 obtain ⟨s12,cs,rfl,_,h⟩:=WE h
 obtain ⟨z13,cs,rfl,b13,h⟩:=Yr h
 obtain ⟨z14,cs,rfl,b14,h⟩:=Yr h
 obtain rfl:=cells_nil h
 have i3:=i64_in b3;have i8:=i64_in b8;have i9:=i64_in b9;have i13:=i64_in b13;have i14:=i64_in b14
 exact ⟨⟨z1,s2,z3,z4,⟨z5,s6,s7,z8⟩,z9,⟨z10,s11,s12,z13⟩,z14⟩,rfl,⟨show z3≤_ by omega,show z8≤_ by omega,show z9≤_ by omega,show z13≤_ by omega,show z14≤_ by omega⟩,hp,hr⟩
end
end Go.Proofs.YtodkipbnefngkaaGreatDoor
