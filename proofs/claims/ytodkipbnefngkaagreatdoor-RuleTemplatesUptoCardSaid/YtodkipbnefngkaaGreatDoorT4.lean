/-
  strings.SplitSeq at the ends of lines.
  Package rule: Parse.
  Package rule: the tests of conditions.
  Package rule: what conditions say of a consequence.
  A byte as a text; decimal numerals.
  The statements' model of the language of rules: decimal numerals, subjects, what is possible.
  Package rule: Len, Holds, Decide.
  Equality of actions of rules: rules for it.
  The statements' first example of the language of rules holds.
  A part of a text between two bounds.
  The statements' model of the language of rules: templates.
  Rules for the literals of maps in regions that draw their order.
  The statements' model of the language of rules: shortened consequences, expanded templates.
  Regions that draw their order, by what holds after any part of them.
  The statements' model of the language of rules: expanded templates.
  The law RuleTemplates.
  From contracts to the statements' form: memory that was there stays; plain data read the same everywhere; the table of the kinds.
  Slices of plain data as arguments: the fact that they lie in memory, and that they read the same later.
  The settled world; arguments of plain types, opened.
  Contracts of the statements' own functions: names, out, build.
  The statements' arguments, opened: items, bytes.
  The contract of the statements' example, known.
  What the consequences of a ledger and a state hold; no program in sight.
  The contract of consequence.Equal.
  Contracts of consequence.Differences and consequence.Count.
  The statement ConsequenceErrors, walked.
  The statement ConsequenceCounts, walked.
  More of the statements' arguments, opened: a consequence, small integers.
  What the given cards of the laws about rules lay in memory, and an argument that is a consequence.
  Conditions: those that each theorem states.
-/
import Derived.Test.YtodkipbnefngkaaGreatDoorT3
import Derived.Shelf.Strings.Prefix
import Derived.Lib.ItoaNum
import Derived.Test.YtodkipbnefngkaaGreatDoorT2
import Derived.Test.YtodkipbnefngkaaGreatDoorRows
import Derived.Test.YtodkipbnefngkaaGreatDoorCards
import Derived.Test.YtodkipbnefngkaaGreatDoorTie
import Derived.ChangeSame
import Derived.ProofKit
import Derived.OpenShut
import Derived.MakeChecks
import Derived.Deep.DeepHandedRow
import Derived.Stop.LaidErr
import Derived.Deep.DeepWitnessRowRef
import Derived.Deep.DeepLaidRun
import Derived.Lib.LaidU8
import Derived.Lib.DecodeN
import Derived.Shelf.Vars
set_option maxRecDepth 10000
namespace Go.Proofs.YtodkipbnefngkaaGreatDoor
open Go.RowKit Go.Proofs.Tryz
def nlS:ByteArray:=⟨#[10]⟩
theorem lines_one:∀(l:List UInt8),spanF (fun x=>!(x == 10)) l=l.length→linesF l=[l]
 | [],_=>rfl
 | c::r,h=>by
  by_cases hc:c=10
  ·subst hc;simp [spanF] at h
  ·have e:spanF (fun x=>!(x == 10)) (c::r)=spanF (fun x=>!(x == 10)) r+1:=by simp [spanF,hc]
   rw [linesF,if_neg (by simpa using hc),lines_one r (by rw [e] at h;simpa using h)]
theorem lines_more:∀(l:List UInt8),spanF (fun x=>!(x == 10)) l<l.length→linesF l=l.take (spanF (fun x=>!(x == 10)) l)::linesF (l.drop (spanF (fun x=>!(x == 10)) l+1))
 | [],h=>by simp at h
 | c::r,h=>by
  by_cases hc:c=10
  ·subst hc
   have e:spanF (fun x=>!(x == 10)) ((10:UInt8)::r)=0:=by simp [spanF]
   rw [e,linesF];simp
  ·have e:spanF (fun x=>!(x == 10)) (c::r)=spanF (fun x=>!(x == 10)) r+1:=by simp [spanF,hc]
   rw [e] at h ⊢
   rw [linesF,if_neg (by simpa using hc),lines_more r (by simpa using h)]
   simp
theorem sIndex_ok (s:ByteArray) (c:UInt8):Enters 82∧Spec prog 82 #[.string s,.string ⟨#[c]⟩] [] [] (RetV (.int .i64 (Lib.indexByte s.data.toList c))):=by
 have n1:=index1_ok s c
 generalize Lib.indexByte s.data.toList c=z at *
 refine ZR [_,_] func82 ntmps82 fun G w hp=>?_
 repeat' (first|refine ZG ?_|refine ZF ?_|refine ZJ ?_|refine ZI ?_|refine ZL ?_|refine ZH ?_|refine ZM ?_|refine ZN (fun b=>?_)|refine ZO (fun b=>?_)|refine ZA ?_|refine ZB ?_|refine ZK ?_|refine ZD (n1) (fun _ _=>?_)|refine l_call0 (n1) (fun _ _=>?_)|(refine ZC (fun hc=>?_) (fun hc=>?_)<;>(try simp at hc))|(refine ZE (fun hc=>?_) (fun hc=>?_)<;>(try simp at hc)))
 exact ZQ () rfl trivial
abbrev spl (b1 b2 b3:Nat):List Value:=[pv0 b1,pv0 b2,pv0 b3]
abbrev SpR (b1 b2 b3:Nat) (L:List UInt8):List HP:=[Pt b1 (.cells #[.string nlS] 9),Pt b2 (.cells #[.string (ofL L)] 9),Pt b3 (.cells #[.int .i64 0] 3)]
theorem splitSeq_ok (L:List UInt8):Enters 44∧Spec prog 44 #[.string (ofL L),.string nlS] [] [] ⟨Nat×Nat×Nat,fun q=>.func (.func 94) #[] #[pv0 q.1,pv0 q.2.1,pv0 q.2.2],fun _=>True,fun _=>[],fun q=>SpR q.1 q.2.1 q.2.2 L⟩:=by
 have n1:Enters 68∧Spec prog 68 #[.string (ofL L),.string nlS,.int .i64 0] [] [] ⟨Nat×Nat×Nat,fun q=>.func (.func 94) #[] #[pv0 q.1,pv0 q.2.1,pv0 q.2.2],fun _=>True,fun _=>[],fun q=>SpR q.1 q.2.1 q.2.2 L⟩:=by
  refine ZR [_,_,_] func68 ntmps68 fun G w hp=>?_
  repeat' (first|refine ZG ?_|refine ZF ?_|refine ZJ ?_|refine ZI ?_|refine ZL ?_|refine ZH ?_|refine ZM ?_|refine ZN (fun b=>?_)|refine ZO (fun b=>?_)|refine ZA ?_|refine ZB ?_|refine ZK ?_|(refine ZC (fun hc=>?_) (fun hc=>?_)<;>(try simp at hc))|(refine ZE (fun hc=>?_) (fun hc=>?_)<;>(try simp at hc)))
  rename_i b1 b2
  exact ZQ (b2,b1,b) rfl trivial
 refine ZR [_,_] func44 ntmps44 fun G w hp=>?_
 repeat' (first|refine ZG ?_|refine ZF ?_|refine ZJ ?_|refine ZI ?_|refine ZL ?_|refine ZH ?_|refine ZM ?_|refine ZN (fun b=>?_)|refine ZO (fun b=>?_)|refine ZA ?_|refine ZB ?_|refine ZK ?_|refine ZD (n1) (fun _ _=>?_)|refine l_call0 (n1) (fun _ _=>?_)|(refine ZC (fun hc=>?_) (fun hc=>?_)<;>(try simp at hc))|(refine ZE (fun hc=>?_) (fun hc=>?_)<;>(try simp at hc)))
 rename_i q _
 exact ZQ q rfl trivial
set_option maxHeartbeats 4000000 in
theorem split_iter (b1 b2 b3:Nat) (L:List UInt8) (hL:L.length≤1000000):IterG 94 (spl b1 b2 b3) (fun l=>.string (ofL l)) (linesF L) [] (SpR b1 b2 b3 L):=by
 intro γ v Y FI I Ix g0 hy
 obtain ⟨XS,hXS⟩:∃XS,linesF L=XS:=⟨_,rfl⟩
 rw [hXS] at hy ⊢
 have sz1:(((nlS).size:Nat):Int)=1:=rfl
 generalize b1=c1,b2=c2,b3=c3 at *
 show Enters 94∧Spec prog 94 #[v,pv0 c1,pv0 c2,pv0 c3] _ _ _
 refine ZR [_,_,_,_] func94 ntmps94 fun G w hp=>?_
 repeat' (first|refine ZG ?_|refine ZF ?_|refine ZJ ?_|refine ZI ?_|refine ZL ?_|refine ZH ?_|refine ZM ?_|refine ZN (fun b=>?_)|refine ZO (fun b=>?_)|refine ZA ?_|refine ZB ?_|(refine ZC (fun hc=>?_) (fun hc=>?_)<;>(try simp at hc)<;>(try omega))|(refine ZE (fun hc=>?_) (fun hc=>?_)<;>(try simp at hc)<;>(try omega)))
 refine Yn (X:={q:List (List UInt8)×List UInt8×γ // q.1++linesF q.2.1=XS∧q.2.1.length≤1000000}) (fun _=>[(0,v),(1,pv0 c1),(2,pv0 c2),(3,pv0 c3)]) (fun q=>[Y,FI q.1.1 q.1.2.2]) (fun q=>I q.1.1 q.1.2.2::SpR c1 c2 c3 q.1.2.1) (fun q=>q.1.2.1.length) ⟨([],L,g0),hXS,hL⟩ ⟨rfl,rfl,rfl,rfl,trivial⟩ ?_
 rintro ⟨⟨pre,l,gz⟩,hp,hl⟩
 dsimp only at hp hl ⊢
 have n1:=sIndex_ok (ofL l) 10
 rw [YK,ixb_span] at n1
 have hm:=Z4 (fun x=>!(x == 10)) l
 have hone:=lines_one l
 have hmore:=lines_more l
 have hsz:=Yz l
 have hll:=YK l
 generalize spanF (fun x=>!(x == 10)) l=m at *
 by_cases c:m=l.length
 ·rw [if_pos c] at n1
  have e:=hone c
  rw [e] at hp
  have y1:=hy pre gz l (by rw [hp];exact List.prefix_rfl)
  repeat' (first|refine ZG ?_|refine ZF ?_|refine ZJ ?_|refine ZI ?_|refine ZL ?_|refine ZH ?_|refine ZM ?_|refine ZN (fun b=>?_)|refine ZO (fun b=>?_)|refine ZA ?_|refine ZB ?_|refine ZK ?_|refine ZD (n1) (fun _ _=>?_)|refine l_call0 (n1) (fun _ _=>?_)|refine Yl y1 (fun _ _=>?_)|(refine ZC (fun hc=>?_) (fun hc=>?_)<;>(try simp at hc)<;>(try omega))|(refine ZE (fun hc=>?_) (fun hc=>?_)<;>(try simp at hc)<;>(try omega)))
  rename_i b _
  obtain ⟨b,gy⟩:=b
  subst hp
  cases b with
  | true=>exact Y5 (none,gy) rfl (fun _ h=>by cases h)
  | false=>exact Y5 (some (pre++[l]),gy) rfl (fun _ h=>by cases h;exact List.prefix_rfl)
 ·rw [if_neg c] at n1
  have hlt:m<l.length:=by omega
  have e:=hmore hlt
  rw [e] at hp
  have hp2:pre++[l.take m]++linesF (l.drop (m+1))=XS:=by rw [←hp];simp
  have y1:=hy pre gz (l.take m) (by rw [←hp2];exact List.prefix_append _ _)
  have w1:=wrapi (z:=(m:Int)+0) (by omega) (by omega)
  have w2:=wrapi (z:=(m:Int)+1) (by omega) (by omega)
  repeat' (first|refine ZG ?_|refine ZF ?_|refine ZJ ?_|refine ZI ?_|refine ZL ?_|refine ZH ?_|refine ZM ?_|refine ZN (fun b=>?_)|refine ZO (fun b=>?_)|refine ZA ?_|refine ZB ?_|refine ZD (n1) (fun _ _=>?_)|refine l_call0 (n1) (fun _ _=>?_)|refine Yl y1 (fun _ _=>?_)|rw [sz1]|rw [w1]|rw [w2]|refine l_sTo (s:=ofL l) (u:=ofL (l.take m)) m (by omega) (by rw [YK,YK]) ?_|refine Z3 (s:=ofL l) (u:=ofL (l.drop (m+1))) (m+1) (by omega) (by rw [YK,YK]) ?_|(refine ZC (fun hc=>?_) (fun hc=>?_)<;>(try simp at hc)<;>(try omega))|(refine ZE (fun hc=>?_) (fun hc=>?_)<;>(try simp at hc)<;>(try omega)))
  all_goals rename_i b _
  all_goals obtain ⟨b,gy⟩:=b
  ·cases b with
   | true=>cases hc
   | false=>exact YF (YW (Z1 (some (pre++[l.take m]),gy) rfl (fun _ h=>by cases h;rw [←hp2];exact List.prefix_append _ _)))
  ·cases b with
   | false=>cases hc
   | true=>exact ZZ ⟨(pre++[l.take m],l.drop (m+1),gy),hp2,by show (l.drop (m+1)).length≤_;rw [List.length_drop];omega⟩ (by show (l.drop (m+1)).length<l.length;rw [List.length_drop];omega) ⟨rfl,rfl,rfl,rfl,trivial⟩
variable {n:Nat} {C:Cx} {Q:Exit→Act→World→Prop} {E E':List (Nat×Value)} {F F' F1 Fs F0:List Pf} {R R' R0 Rs N N' A:List HP} {k k':List Fr} {ops l:List Oper} {L L':List (Nat×Nat)} {Tl:List Nat} {i d:Nat} {t t2 ty0:TypeId} {x y z:Operand} {pos:String} {aft:Array Edge} {gd:Option (Nat×Bool)}
section
variable {b off:Nat} {ty:TypeId} {v:Value} {cs:Array Value}
theorem r_stI (nx:Wr n C ops k Q Tl Fs R L E F N) (ho:nth ops i=some ⟨none,.store t x y,ty0,pos,aft,gd⟩:=by rfl) (hw:wantL ops E ⟨none,.store t x y,ty0,pos,aft,gd⟩=some true:=by rfl)
  (hx:ev E x=some (.pointer (some ⟨b,off,none⟩)):=by rfl) (hy:ev E y=some v:=by rfl) (hs:Sel (Pt b (.cells cs ty (0,0))) R R0:=by (repeat (first|exact Sel.here|apply Sel.there));first|done|fail) (hv:stv t cs.toList off v=some cs.toList:=by rfl) :
  Wr n C ops k Q Tl Fs R ((i,4)::L) E F N:=
 Yk ho fun hp hr w st hz sb=>by
  simp only [Zn hw]
  refine ⟨⟨Unit,fun _=>undef,fun _=>True,fun _=>F,fun _=>N⟩,fun a G w1 hp' ha hsub hsat=>?_,fun _ _=>nx hp hr w st hz sb⟩
  obtain ⟨h1,h2,_,s1,_,hpt,_⟩:=hs.sep st.r
  have hb:w1.heap[b]? = some (.cells cs ty (0,0)):=hsat.stat hsub b _ (sb b _ (ZW _ _ _ _ (s1 _ _ hpt)))
  obtain ⟨w',g1,g2,g3,g4⟩:=stv_ok hb hv
  have hh:∀c,w'.heap[c]? = w1.heap[c]?:=fun c=>by
   by_cases hc:c=b
   ·rw [hc,g2,hb]
   ·exact g4 c hc
  unfold OpRes
  simp only [execOp,Instr.storeAt,ha.ev (x:=x) (by rw [ZP];exact hx),ha.ev (x:=y) (by rw [ZP];exact hy),Instr.sureAddr,Sem.run_bind,Sem.run_pure,Result.andThen,g1]
  obtain ⟨hp2,hr2,s⟩:=hsat
  exact ⟨(),trivial,trivial,hp2,hr2,fun c o e=>(hh c).trans (s.inp c o e),fun c o e=>(hh c).trans (s.inr c o e),fun c o e=>(hh c).trans (s.ing c o e),s.d1,s.d2,s.d3,s.sub,s.f,s.r,s.same.trans g3⟩
end
def RlsF (b:Nat) (l:List Ru):Pf:=⟨fun h=>∃(xs:List RI) (o:Option Addr) (cap:Nat),(Blk b (.cells #[.slice o xs.length cap] 95)).p h∧(Sl 102 rul o cap xs).p h∧RusP h l xs,
 fun _ _ s ⟨xs,o,cap,h1,h2,h3⟩=>⟨xs,o,cap,(Blk b _).m _ _ s h1,(Sl _ _ o cap xs).m _ _ s h2,Wh s l xs h3⟩⟩
abbrev PaP (r:Except (Int×Int×Int) (List Ru)):Post:=match r with
 | .ok l=>⟨Nat,fun b=>.tuple #[.pointer (some ⟨b,0,none⟩),.int .i64 0,.int .i64 0,.int .i64 0],fun _=>True,fun b=>[RlsF b l],fun _=>[]⟩
 | .error x=>⟨Unit,fun _=>.tuple #[.pointer none,.int .i64 x.1,.int .i64 x.2.1,.int .i64 x.2.2],fun _=>True,fun _=>[],fun _=>[]⟩
abbrev PG:=List Ru×List RI×Option Addr×Nat
def PaJ (_:ByteArray) (b2 b3 b4 b5 br:Nat) (pre:List (List UInt8)) (g:PG):HP:=fun h=>((∀rest,rowsF (pre++rest) 0 []=rowsF rest pre.length g.1)∧g.2.1.length=g.1.length∧g.1.length≤256)∧
 Sep ([Pt b2 (.cells #[.pointer (some ⟨br,0,none⟩)] 39),Pt b3 (.cells #[.int .i64 (pre.length:Nat)] 3),Pt b4 (.cells #[.int .i64 0] 3),Pt b5 (.cells #[.int .i64 0] 28)]++RlR br g.2.1 g.2.2.1 g.2.2.2) h
def PaX (s:ByteArray) (b2 b3 b4 b5:Nat) (_:List (List UInt8)) (_:PG):HP:=fun h=>∃x:Int×Int×Int,rowsF (linesF s.data.toList) 0 [] = .error x∧
 Sep [Pt b2 (.cells #[.pointer none] 39),Pt b3 (.cells #[.int .i64 x.1] 3),Pt b4 (.cells #[.int .i64 x.2.1] 3),Pt b5 (.cells #[.int .i64 x.2.2] 28)] h
set_option maxHeartbeats 4000000 in
theorem ruParse_ok (s:ByteArray) (hs:s.size≤1000000000):Enters 21∧Spec prog 21 #[.string s] [ErA,P10] [] (PaP (parF s)):=by
 have hsz:=lsz s
 by_cases hb:65536<s.size
 ·have e:parF s = .error (0,0,5):=if_pos hb
  rw [e]
  refine ZR [_] func21 ntmps21 fun G w hp=>?_
  repeat' (first|refine ZG ?_|refine ZF ?_|refine ZJ ?_|refine ZI ?_|refine ZL ?_|refine ZH ?_|refine ZM ?_|refine ZN (fun b=>?_)|refine ZO (fun b=>?_)|refine ZA ?_|refine ZB ?_|refine ZK ?_|(refine ZC (fun hc=>?_) (fun hc=>?_)<;>(try simp at hc)<;>(try omega))|(refine ZE (fun hc=>?_) (fun hc=>?_)<;>(try simp at hc)<;>(try omega)))
  exact ZQ () rfl trivial
 ·have e0:parF s=rowsF (linesF s.data.toList) 0 []:=if_neg hb
  rw [e0]
  obtain ⟨hl1,hl2⟩:=lines_sz s.data.toList
  have n0:=splitSeq_ok s.data.toList
  have es:ofL s.data.toList=s:=YO rfl
  rw [es] at n0
  have hit:=fun (a b c:Nat)=>split_iter a b c s.data.toList (by omega)
  obtain ⟨R,hR⟩:∃R,rowsF (linesF s.data.toList) 0 []=R:=⟨_,rfl⟩
  rw [hR]
  refine ⟨enters_of func21 (by kernel_rfl) rfl,spec_ofM (vs:=[_]) func21 rfl ntmps21 rfl fun G w hp=>?_⟩
  repeat' (first|refine ZG ?_|refine ZF ?_|refine ZJ ?_|refine ZI ?_|refine ZL ?_|refine ZH ?_|refine ZM ?_|refine ZN (fun b=>?_)|refine ZO (fun b=>?_)|refine ZA ?_|refine ZB ?_|refine ZD (n0) (fun _ _=>?_)|refine l_call0 (n0) (fun _ _=>?_)|(refine ZC (fun hc=>?_) (fun hc=>?_)<;>(try simp at hc)<;>(try omega))|(refine ZE (fun hc=>?_) (fun hc=>?_)<;>(try simp at hc)<;>(try omega)))
  rename_i b2 b3 b4 b5 q _
  obtain ⟨q1,q2,q3⟩:=q
  generalize b=br at *
  refine Z0 (Lx:=[]) (r:=Row 102 3 none 0 0 []) (fun h _=>Xw _ _ h) ?_
  refine k_add (f:=RusF [] []) (fun _=>trivial) ?_
  refine Z0 (Lx:=[Pt b2 (.cells #[.pointer (some ⟨br,0,none⟩)] 39),Pt b3 (.cells #[.int .i64 0] 3),Pt b4 (.cells #[.int .i64 0] 3),Pt b5 (.cells #[.int .i64 0] 28)]++RlR br [] none 0) (r:=PaJ s b2 b3 b4 b5 br [] ([],[],none,0)) (fun h hh=>⟨⟨fun rest=>rfl,rfl,by decide⟩,hh⟩) ?_
  refine k_rangeG (α:=List UInt8) (enc:=fun l=>.string (ofL l)) (xs:=linesF s.data.toList) (fun pre g=>RusF g.1 g.2.1) (PaJ s b2 b3 b4 b5 br) (PaX s b2 b3 b4 b5) ([],[],none,0) (hit q1 q2 q3) ?_ ?_ ?_
  ·intro lr l pre g e hpre G w0 hp0
   obtain ⟨acc,xs,o,cap⟩:=g
   dsimp only
   refine YZ (X:=Unit) (Lx:=fun _=>[Pt b2 (.cells #[.pointer (some ⟨br,0,none⟩)] 39),Pt b3 (.cells #[.int .i64 (pre.length:Nat)] 3),Pt b4 (.cells #[.int .i64 0] 3),Pt b5 (.cells #[.int .i64 0] 28)]++RlR br xs o cap) (p:=fun _=>(∀rest,rowsF (pre++rest) 0 []=rowsF rest pre.length acc)∧xs.length=acc.length∧acc.length≤256) (r:=PaJ s b2 b3 b4 b5 br pre (acc,xs,o,cap)) (.there .here) (fun h hh=>⟨(),hh.1,hh.2⟩) (fun _ hpu=>?_)
   obtain ⟨p1,p2,p3⟩:=hpu
   have hel:e.length≤s.data.toList.length:=hl2 e (hpre.subset (by simp))
   have hpl:pre.length+1≤s.data.toList.length+1:=by
    have:=hpre.length_le
    simp only [List.length_append,List.length_singleton] at this;omega
   have n1:=ruAdd_ok br (ofL e) (by rw [Yz];omega) acc xs o cap p2 p3
   rw [YK] at n1
   delta AdP at n1
   have w1:IntKind.i64.wrap ((pre.length:Int)+1)=(((pre++[e]).length:Nat):Int):=by
    rw [wrapi (by omega) (by omega)];simp
   obtain ⟨a1,a2⟩:=lineF_pl e acc.length
   have w2:=wrapi (z:=(lineF e acc.length).2.1+1) (by omega) (by omega)
   have hlen:=addF_len (s:=e) p3
   by_cases he:(lineF e acc.length).2.2=0
   ·have hst:=fun rest=>rows_step (rest:=rest) (i:=pre.length) he
    rw [he] at n1
    generalize (lineF e acc.length).2.1=a at *
    generalize addF e acc=acc2 at *
    repeat' (first|refine ZG ?_|refine ZF ?_|refine ZJ ?_|refine ZI ?_|refine ZL ?_|refine ZH ?_|refine ZM ?_|refine ZN (fun b=>?_)|refine ZO (fun b=>?_)|refine ZA ?_|refine ZB ?_|refine ZK ?_|refine Zd ?_|refine Zc ?_|refine Zr ?_|refine Zg ?_|refine Ze ?_|refine Zq (fun b=>?_)|refine Zs (fun b=>?_)|refine Zp ?_|refine Zf ?_|refine ZD (n1) (fun _ _=>?_)|refine l_call0 (n1) (fun _ _=>?_)|refine ZT (n1) (fun _ _=>?_)|refine k_beg ?_|rw [w1]|(refine ZC (fun hc=>?_) (fun hc=>?_)<;>(try simp at hc)<;>(try omega))|(refine ZU (fun hc=>?_) (fun hc=>?_)<;>(try simp at hc)<;>(try omega))|refine ZS 9 [] [(0,0),(1,0),(2,0),(3,0),(4,4),(5,4),(6,4)] [7] ?_|(refine ZE (fun hc=>?_) (fun hc=>?_)<;>(try simp at hc)<;>(try omega)))
    rename_i q hq
    obtain ⟨xs2,o2,cap2⟩:=q
    dsimp only at hq
    refine Z0 (Lx:=[Pt b2 (.cells #[.pointer (some ⟨br,0,none⟩)] 39),Pt b3 (.cells #[.int .i64 ((pre++[e]).length:Nat)] 3),Pt b4 (.cells #[.int .i64 0] 3),Pt b5 (.cells #[.int .i64 0] 28)]++RlR br xs2 o2 cap2) (r:=PaJ s b2 b3 b4 b5 br (pre++[e]) (acc2,xs2,o2,cap2)) (fun h hh=>⟨⟨fun rest=>(by rw [List.append_assoc,List.singleton_append,p1,hst,List.length_append];rfl),hq,hlen⟩,hh⟩) ?_
    exact k_rnG (acc2,xs2,o2,cap2)
   ·have hbad:=fun rest=>rows_bad (rest:=rest) (i:=pre.length) he
    obtain ⟨rest,hrest⟩:=hpre
    have hx:=p1 (e::rest)
    rw [hbad,show pre++e::rest=linesF s.data.toList by rw [←hrest];simp] at hx
    generalize (lineF e acc.length).2.1=a at *
    generalize (lineF e acc.length).2.2=er at *
    generalize addF e acc=acc2 at *
    have hne:¬er=0:=he
    repeat' (first|refine r_stI ?_|refine ZG ?_|refine ZF ?_|refine ZJ ?_|refine ZI ?_|refine ZL ?_|refine ZH ?_|refine ZM ?_|refine ZN (fun b=>?_)|refine ZO (fun b=>?_)|refine ZA ?_|refine ZB ?_|refine ZK ?_|refine Zd ?_|refine Zc ?_|refine Zr ?_|refine Zg ?_|refine Ze ?_|refine Zq (fun b=>?_)|refine Zs (fun b=>?_)|refine Zp ?_|refine Zf ?_|refine ZD (n1) (fun _ _=>?_)|refine l_call0 (n1) (fun _ _=>?_)|refine ZT (n1) (fun _ _=>?_)|refine k_beg ?_|rw [w1]|rw [w2]|(refine ZC (fun hc=>?_) (fun hc=>?_)<;>(try simp at hc)<;>(try omega))|(refine ZU (fun hc=>?_) (fun hc=>?_)<;>(try simp at hc)<;>(try omega))|refine ZS 9 [Pt b2 _,Pt b4 _] [(0,0),(1,0),(2,0),(3,0),(4,4),(5,4),(6,4)] [7] ?_|(refine ZE (fun hc=>?_) (fun hc=>?_)<;>(try simp at hc)<;>(try omega)))
    have e1:((pre.length:Int)+1)=(((pre++[e]).length:Nat):Int):=by simp
    rw [e1] at hx
    refine Z0 (Lx:=[Pt b2 (.cells #[.pointer none] 39),Pt b3 (.cells #[.int .i64 ((pre++[e]).length:Nat)] 3),Pt b4 (.cells #[.int .i64 (a+1)] 3),Pt b5 (.cells #[.int .i64 er] 28)]) (r:=PaX s b2 b3 b4 b5 (pre++[e]) (acc,xs,o,cap)) (fun h hh=>⟨_,hx,hh⟩) ?_
    exact k_rrG (acc,xs,o,cap)
  ·intro D g
   obtain ⟨acc,xs,o,cap⟩:=g
   dsimp only
   refine YZ (X:=Unit) (Lx:=fun _=>[Pt b2 (.cells #[.pointer (some ⟨br,0,none⟩)] 39),Pt b3 (.cells #[.int .i64 ((linesF s.data.toList).length:Nat)] 3),Pt b4 (.cells #[.int .i64 0] 3),Pt b5 (.cells #[.int .i64 0] 28)]++RlR br xs o cap) (p:=fun _=>(∀rest,rowsF (linesF s.data.toList++rest) 0 []=rowsF rest (linesF s.data.toList).length acc)∧xs.length=acc.length∧acc.length≤256) (r:=PaJ s b2 b3 b4 b5 br (linesF s.data.toList) (acc,xs,o,cap)) .here (fun h hh=>⟨(),hh.1,hh.2⟩) (fun _ hpu=>?_)
   obtain ⟨p1,p2,p3⟩:=hpu
   have hRa:=p1 []
   rw [List.append_nil,hR] at hRa
   obtain rfl:R = .ok acc:=hRa
   refine k_frz (f:=rul) xs ?_ rfl rfl
   refine k_fz (b:=br) ?_
   refine Z6 (F1:=[Blk br (.cells #[.slice o xs.length cap] 95),Sl 102 rul o cap xs,RusF acc xs]) (f:=RlsF br acc) (fun hp hF=>⟨xs,o,cap,hF _ (.head _),hF _ (.tail _ (.head _)),hF _ (.tail _ (.tail _ (.head _)))⟩) ?_
   repeat' (first|refine ZG ?_|refine ZF ?_|refine ZJ ?_|refine ZI ?_|refine ZL ?_|refine ZH ?_|refine ZM ?_|refine ZN (fun b=>?_)|refine ZO (fun b=>?_)|refine ZA ?_|refine ZB ?_|refine ZK ?_|refine k_beg ?_|(refine ZC (fun hc=>?_) (fun hc=>?_)<;>(try simp at hc)<;>(try omega))|(refine ZE (fun hc=>?_) (fun hc=>?_)<;>(try simp at hc)<;>(try omega)))
   exact k_retM br rfl trivial
  ·intro D pre g hpre
   refine w_open (X:=Int×Int×Int) (Lx:=fun x=>[Pt b2 (.cells #[.pointer none] 39),Pt b3 (.cells #[.int .i64 x.1] 3),Pt b4 (.cells #[.int .i64 x.2.1] 3),Pt b5 (.cells #[.int .i64 x.2.2] 28)]) (p:=fun x=>rowsF (linesF s.data.toList) 0 [] = .error x) (r:=PaX s b2 b3 b4 b5 pre g) .here (fun h hh=>hh) (fun x hx=>?_)
   obtain rfl:R = .error x:=by rw [←hR,hx]
   exact w_retM () rfl trivial
end Go.Proofs.YtodkipbnefngkaaGreatDoor
set_option maxRecDepth 10000
namespace Go.Proofs
open Go.Shelf
def Tryz.lays99_ren:Go.Shelf.Ren:=⟨fun|99=>55|206=>85|n=>n,fun|9=>9|4=>4|3=>3|n=>n,fun|n=>n⟩
theorem Tryz.lays99:Go.Proofs.Lays.n99 Tryz.prog Tryz.lays99_ren:={
 mixed:=by kernel_rfl
 f99:=Tryz.func55.trans (congrArg some (by kernel_rfl))
 f206:=Tryz.func85.trans (congrArg some (by kernel_rfl))
 t3:=Tryz.underlying3
 a3:=Tryz.isAgg3
 z3:=Tryz.sizeOf3
 v3:=Tryz.zeroValue3
 t4:=Tryz.underlying4
 a4:=Tryz.isAgg4
 z4:=Tryz.sizeOf4
 v4:=Tryz.zeroValue4
 t9:=Tryz.underlying9
 a9:=Tryz.isAgg9
 z9:=Tryz.sizeOf9
 v9:=Tryz.zeroValue9}
end Go.Proofs
namespace Go.Proofs.YtodkipbnefngkaaGreatDoor
open Go.Proofs.Tryz
open Go.RowKit
variable {n:Nat} {C:Cx} {Q:Exit→Act→World→Prop} {E E':List (Nat×Value)} {F F' F1 Fs F0:List Pf} {R R' R0 Rs N N' A:List HP} {k k':List Fr} {ops l:List Oper} {L L':List (Nat×Nat)} {Tl:List Nat} {i d:Nat} {t t2 ty0:TypeId} {x y z:Operand} {pos:String} {aft:Array Edge} {gd:Option (Nat×Bool)}
section
theorem r_callV {v:Value} {args:Array Operand} {tys:Array TypeId} {vs:List Value} {post:Post} (spec:SpecV v vs F1 A post)
  (nx:∀x,post.pure x→Wr n C ops k Q Tl Fs R L ((d,post.val x)::E) (post.F x++F) (post.R x++N')) (ho:nth ops i=some ⟨some d,.call ⟨.value x,args,tys⟩,ty0,pos,aft,gd⟩:=by rfl)
  (hw:wantL ops E ⟨some d,.call ⟨.value x,args,tys⟩,ty0,pos,aft,gd⟩=some true:=by rfl) (hx:ev E x=some v:=by rfl) (hargs:evs (ev E) args.toList some=some vs:=by rfl)
  (sel:Sels A N N':=by (repeat (first|exact Sels.nil|exact Sel.here|apply Sel.there|apply Sels.cons));first|done|fail)
  (hF:EntF F F1:=by (repeat (first|exact trivial|exact Sel.here|apply Sel.there|apply EntF.cons));first|done|fail):Wr n C ops k Q Tl Fs R ((i,4)::L) E F N:=
 Yk ho fun hp hr w st hz sb=>by
  simp only [Zn hw]
  refine ⟨⟨post.X,post.val,post.pure,fun x=>post.F x++F,fun x=>post.R x++N'⟩,fun a G w hp' ha hsub hsat=>?_,fun x hx=>nx x hx hp hr w st hz sb⟩
  obtain ⟨G',hp2,h1,h2⟩:=Xs hsat sel hF.all
  have h3:=spec G' w hp2 h1
  obtain ⟨us,_,e2,e3⟩:=XQ _ _ _ hargs
  obtain rfl:=Option.some.inj e2
  have e1:=e3 a.eval fun x _ u hu=>ha.ev (by rw [ZP];exact hu)
  have e4:args.map a.eval=us.toArray:=by rw [←Array.toList_inj];simpa using e1
  have e5:(args.map fun x=>a.eval x)=us.toArray:=e4
  have e0:=ha.ev (x:=x) (by rw [ZP];exact hx)
  unfold CallsV at h3
  split at h3
  ·rename_i fn fs cs
   have h4:=h3.mono (R':=fun v w'=>∃x,v=post.val x∧post.pure x∧Sat G w hp' (post.F x++F) (post.R x++N') w') (by
    rintro v w' ⟨x,rfl,hx,hs⟩
    exact ⟨x,rfl,hx,h2 _ _ _ hs⟩)
   unfold OpRes at h4 ⊢
   have er:(execOp a.eval ⟨some d,.call ⟨.value x,args,tys⟩,ty0,pos,aft,gd⟩).run prog w=(invoke (.fn fn cs) (fs++us.toArray)).run prog w:=by
    simp only [execOp,resolve,e0,Deferred.ofValue,Sem.run_bind,Sem.run_pure,Result.andThen]
    rw [e5]
   rw [er]
   exact h4
  ·exact h3.elim
end
theorem sPrefix_ok (s p:ByteArray):Enters 55∧Spec prog 55 #[.string s,.string p] [] [] (RetV (.bool (Lib.hasPrefix s.data.toList p.data.toList))):=by
 refine ⟨enters_of func55 (by kernel_rfl) rfl,fun G w hp hs=>?_⟩
 refine (Any.strings_HasPrefix Tryz.lays99 s p w).mono ?_
 rintro e w' ⟨rfl,rfl⟩
 exact ⟨(),rfl,trivial,hs⟩
def MxL:Pf:=⟨fun h=>∃m T fz,h 0=some (.cells #[.int .i64 m] T fz),fun _ _ s ⟨m,T,fz,h1⟩=>⟨m,T,fz,s _ _ h1⟩⟩
theorem sContains_ok (s u:ByteArray) (hs:s.size≤1000000):Enters 53∧Spec prog 53 #[.string s,.string u] [MxL] [] (RetV (.bool (Lib.contains s.data.toList u.data.toList))):=by
 refine ⟨enters_of func53 (by kernel_rfl) rfl,fun G w hp hs0=>?_⟩
 obtain ⟨hp',hr,st⟩:=hs0
 obtain ⟨m,T,fz,h1⟩:=st.f MxL (by simp)
 refine (Any.strings_Contains Tryz.lays144 s u m w (by omega) (cell_of (st.inp _ _ h1))).mono ?_
 rintro e w' ⟨rfl,rfl⟩
 exact ⟨(),rfl,trivial,(show Sat G _ hp [MxL] [] _ from ⟨hp',hr,st⟩).facts fun _ _ x hx=>by cases hx⟩
theorem ruWithin_ok (s a:ByteArray) (hs:s.size≤1000000) (ha:a.size≤1000000):Enters 52∧Spec prog 52 #[.string s,.string a] [] [] (RetV (.bool (lwith s a))):=by
 have n1:=valid_ok s (by omega)
 have n2:=valid_ok a (by omega)
 have e:(a++(⟨#[46]⟩:ByteArray)).data.toList=a.data.toList++[46]:=WC _ _
 have n3:=sPrefix_ok s (a++⟨#[46]⟩)
 rw [e] at n3
 obtain ⟨R,hR⟩:∃R,lwith s a=R:=⟨_,rfl⟩
 rw [hR]
 unfold lwith isE at hR
 generalize lvalid s.data.toList=v1 at *
 generalize lvalid a.data.toList=v2 at *
 generalize Lib.hasPrefix s.data.toList (a.data.toList++[46])=v3 at *
 cases v1
 ·obtain rfl:R=false:=by rw [←hR];rfl
  refine ZR [_,_] func52 ntmps52 fun G w hp=>?_
  repeat' (first|refine ZG ?_|refine ZF ?_|refine ZJ ?_|refine ZI ?_|refine ZL ?_|refine ZH ?_|refine ZM ?_|refine ZN (fun b=>?_)|refine ZO (fun b=>?_)|refine ZA ?_|refine ZB ?_|refine ZK ?_|refine ZD (n1) (fun _ _=>?_)|refine l_call0 (n1) (fun _ _=>?_)|refine ZD (n2) (fun _ _=>?_)|refine l_call0 (n2) (fun _ _=>?_)|(refine ZC (fun hc=>?_) (fun hc=>?_)<;>(try simp at hc)<;>(try omega))|(refine ZE (fun hc=>?_) (fun hc=>?_)<;>(try simp at hc)<;>(try omega)))
  all_goals exact ZQ () rfl trivial
 cases v2
 ·obtain rfl:R=false:=by rw [←hR];rfl
  refine ZR [_,_] func52 ntmps52 fun G w hp=>?_
  repeat' (first|refine ZG ?_|refine ZF ?_|refine ZJ ?_|refine ZI ?_|refine ZL ?_|refine ZH ?_|refine ZM ?_|refine ZN (fun b=>?_)|refine ZO (fun b=>?_)|refine ZA ?_|refine ZB ?_|refine ZK ?_|refine ZD (n1) (fun _ _=>?_)|refine l_call0 (n1) (fun _ _=>?_)|refine ZD (n2) (fun _ _=>?_)|refine l_call0 (n2) (fun _ _=>?_)|(refine ZC (fun hc=>?_) (fun hc=>?_)<;>(try simp at hc)<;>(try omega))|(refine ZE (fun hc=>?_) (fun hc=>?_)<;>(try simp at hc)<;>(try omega)))
  all_goals exact ZQ () rfl trivial
 by_cases h1:s=a
 ·have b1:=beqT h1
  obtain rfl:R=true:=by rw [←hR,b1];rfl
  refine ZR [_,_] func52 ntmps52 fun G w hp=>?_
  repeat' (first|rw [b1]|refine ZG ?_|refine ZF ?_|refine ZJ ?_|refine ZI ?_|refine ZL ?_|refine ZH ?_|refine ZM ?_|refine ZN (fun b=>?_)|refine ZO (fun b=>?_)|refine ZA ?_|refine ZB ?_|refine ZK ?_|refine ZD (n1) (fun _ _=>?_)|refine l_call0 (n1) (fun _ _=>?_)|refine ZD (n2) (fun _ _=>?_)|refine l_call0 (n2) (fun _ _=>?_)|refine ZD (n3) (fun _ _=>?_)|refine l_call0 (n3) (fun _ _=>?_)|refine Yb ?_|(refine ZC (fun hc=>?_) (fun hc=>?_)<;>(try simp at hc)<;>(try omega))|(refine ZE (fun hc=>?_) (fun hc=>?_)<;>(try simp at hc)<;>(try omega)))
  all_goals exact ZQ () rfl trivial
 have b1:=beqF h1
 by_cases h2:a=⟨#[]⟩
 ·have b2:=beqT h2
  obtain rfl:R=true:=by rw [←hR,b1,b2];rfl
  refine ZR [_,_] func52 ntmps52 fun G w hp=>?_
  repeat' (first|rw [b2]|rw [b1]|refine ZG ?_|refine ZF ?_|refine ZJ ?_|refine ZI ?_|refine ZL ?_|refine ZH ?_|refine ZM ?_|refine ZN (fun b=>?_)|refine ZO (fun b=>?_)|refine ZA ?_|refine ZB ?_|refine ZK ?_|refine ZD (n1) (fun _ _=>?_)|refine l_call0 (n1) (fun _ _=>?_)|refine ZD (n2) (fun _ _=>?_)|refine l_call0 (n2) (fun _ _=>?_)|refine ZD (n3) (fun _ _=>?_)|refine l_call0 (n3) (fun _ _=>?_)|refine Yb ?_|(refine ZC (fun hc=>?_) (fun hc=>?_)<;>(try simp at hc)<;>(try omega))|(refine ZE (fun hc=>?_) (fun hc=>?_)<;>(try simp at hc)<;>(try omega)))
  all_goals exact ZQ () rfl trivial
 ·have b2:=beqF h2
  obtain rfl:R=v3:=by rw [←hR,b1,b2];cases v3<;>rfl
  refine ZR [_,_] func52 ntmps52 fun G w hp=>?_
  repeat' (first|rw [b2]|rw [b1]|refine ZG ?_|refine ZF ?_|refine ZJ ?_|refine ZI ?_|refine ZL ?_|refine ZH ?_|refine ZM ?_|refine ZN (fun b=>?_)|refine ZO (fun b=>?_)|refine ZA ?_|refine ZB ?_|refine ZK ?_|refine ZD (n1) (fun _ _=>?_)|refine l_call0 (n1) (fun _ _=>?_)|refine ZD (n2) (fun _ _=>?_)|refine l_call0 (n2) (fun _ _=>?_)|refine ZD (n3) (fun _ _=>?_)|refine l_call0 (n3) (fun _ _=>?_)|refine Yb ?_|(refine ZC (fun hc=>?_) (fun hc=>?_)<;>(try simp at hc)<;>(try omega))|(refine ZE (fun hc=>?_) (fun hc=>?_)<;>(try simp at hc)<;>(try omega)))
  all_goals exact ZQ () rfl trivial
section
variable {c:Cq}
theorem kind1_ok (c:Cq) (b:Nat) (k:Int):Enters 123∧Spec prog 123 #[cqa c,pv0 b] [Blk b (.cells #[.int .i64 k] 3)] [] (RetV (.bool (c.kind == k))):=by
 refine ZR [_,_] func123 ntmps123 fun G w hp=>?_
 repeat' (first|refine ZG ?_|refine ZF ?_|refine ZJ ?_|refine ZI ?_|refine ZL ?_|refine ZH ?_|refine ZM ?_|refine ZN (fun b=>?_)|refine ZO (fun b=>?_)|refine ZA ?_|refine ZB ?_|refine ZK ?_|(refine ZC (fun hc=>?_) (fun hc=>?_)<;>(try simp at hc))|(refine ZE (fun hc=>?_) (fun hc=>?_)<;>(try simp at hc)))
 exact ZQ () rfl trivial
theorem channel1_ok (c:Cq) (b:Nat) (k:Int):Enters 125∧Spec prog 125 #[cqa c,pv0 b] [Blk b (.cells #[.int .i64 k] 3)] [] (RetV (.bool ((subO c).ch == k))):=by
 have n1:=XW c
 refine ZR [_,_] func125 ntmps125 fun G w hp=>?_
 repeat' (first|refine ZG ?_|refine ZF ?_|refine ZJ ?_|refine ZI ?_|refine ZL ?_|refine ZH ?_|refine ZM ?_|refine ZN (fun b=>?_)|refine ZO (fun b=>?_)|refine ZA ?_|refine ZB ?_|refine ZK ?_|refine ZD (n1) (fun _ _=>?_)|refine l_call0 (n1) (fun _ _=>?_)|(refine ZC (fun hc=>?_) (fun hc=>?_)<;>(try simp at hc))|(refine ZE (fun hc=>?_) (fun hc=>?_)<;>(try simp at hc)))
 exact ZQ () rfl trivial
theorem by1_ok (c:Cq) (hc:CqS c) (b:Nat) (a:ByteArray) (ha:a.size≤1000000):Enters 140∧Spec prog 140 #[cqa c,pv0 b] [Blk b (.cells #[.string a] 22)] [] (RetV (.bool (lwith c.who a))):=by
 have n1:=ruWithin_ok c.who a (by have:=hc.wh;omega) ha
 refine ZR [_,_] func140 ntmps140 fun G w hp=>?_
 repeat' (first|refine ZG ?_|refine ZF ?_|refine ZJ ?_|refine ZI ?_|refine ZL ?_|refine ZH ?_|refine ZM ?_|refine ZN (fun b=>?_)|refine ZO (fun b=>?_)|refine ZA ?_|refine ZB ?_|refine ZK ?_|refine ZD (n1) (fun _ _=>?_)|refine l_call0 (n1) (fun _ _=>?_)|(refine ZC (fun hc=>?_) (fun hc=>?_)<;>(try simp at hc))|(refine ZE (fun hc=>?_) (fun hc=>?_)<;>(try simp at hc)))
 exact ZQ () rfl trivial
theorem fldT_ok (c:Cq) (f:Nat) (hf:f<3):SpecV (fdT f) [cqa c] [] [] (RetV (.string (fldT f c))):=by
 have n1:=XW c
 match f,hf with
 | 0,_=>
  refine Zl (f:=126) ?_
  refine ZR [_] func126 ntmps126 fun G w hp=>?_
  repeat' (first|refine ZG ?_|refine ZF ?_|refine ZJ ?_|refine ZI ?_|refine ZL ?_|refine ZH ?_|refine ZM ?_|refine ZN (fun b=>?_)|refine ZO (fun b=>?_)|refine ZA ?_|refine ZB ?_|refine ZK ?_|refine ZD (n1) (fun _ _=>?_)|refine l_call0 (n1) (fun _ _=>?_)|(refine ZC (fun hc=>?_) (fun hc=>?_)<;>(try simp at hc))|(refine ZE (fun hc=>?_) (fun hc=>?_)<;>(try simp at hc)))
  exact ZQ () rfl trivial
 | 1,_=>
  refine Zl (f:=127) ?_
  refine ZR [_] func127 ntmps127 fun G w hp=>?_
  repeat' (first|refine ZG ?_|refine ZF ?_|refine ZJ ?_|refine ZI ?_|refine ZL ?_|refine ZH ?_|refine ZM ?_|refine ZN (fun b=>?_)|refine ZO (fun b=>?_)|refine ZA ?_|refine ZB ?_|refine ZK ?_|(refine ZC (fun hc=>?_) (fun hc=>?_)<;>(try simp at hc))|(refine ZE (fun hc=>?_) (fun hc=>?_)<;>(try simp at hc)))
  exact ZQ () rfl trivial
 | 2,_=>
  refine Zl (f:=128) ?_
  refine ZR [_] func128 ntmps128 fun G w hp=>?_
  repeat' (first|refine ZG ?_|refine ZF ?_|refine ZJ ?_|refine ZI ?_|refine ZL ?_|refine ZH ?_|refine ZM ?_|refine ZN (fun b=>?_)|refine ZO (fun b=>?_)|refine ZA ?_|refine ZB ?_|refine ZK ?_|(refine ZC (fun hc=>?_) (fun hc=>?_)<;>(try simp at hc))|(refine ZE (fun hc=>?_) (fun hc=>?_)<;>(try simp at hc)))
  exact ZQ () rfl trivial
theorem fldN_ok (c:Cq) (f:Nat) (hf:f<4):SpecV (fdN f) [cqa c] [] [] (RetV (.int .i64 (fldN f c))):=by
 have n1:=XW c
 match f,hf with
 | 0,_=>
  refine Zl (f:=131) ?_
  refine ZR [_] func131 ntmps131 fun G w hp=>?_
  repeat' (first|refine ZG ?_|refine ZF ?_|refine ZJ ?_|refine ZI ?_|refine ZL ?_|refine ZH ?_|refine ZM ?_|refine ZN (fun b=>?_)|refine ZO (fun b=>?_)|refine ZA ?_|refine ZB ?_|refine ZK ?_|refine ZD (n1) (fun _ _=>?_)|refine l_call0 (n1) (fun _ _=>?_)|(refine ZC (fun hc=>?_) (fun hc=>?_)<;>(try simp at hc))|(refine ZE (fun hc=>?_) (fun hc=>?_)<;>(try simp at hc)))
  exact ZQ () rfl trivial
 | 1,_=>
  refine Zl (f:=132) ?_
  refine ZR [_] func132 ntmps132 fun G w hp=>?_
  repeat' (first|refine ZG ?_|refine ZF ?_|refine ZJ ?_|refine ZI ?_|refine ZL ?_|refine ZH ?_|refine ZM ?_|refine ZN (fun b=>?_)|refine ZO (fun b=>?_)|refine ZA ?_|refine ZB ?_|refine ZK ?_|(refine ZC (fun hc=>?_) (fun hc=>?_)<;>(try simp at hc))|(refine ZE (fun hc=>?_) (fun hc=>?_)<;>(try simp at hc)))
  exact ZQ () rfl trivial
 | 2,_=>
  refine Zl (f:=133) ?_
  refine ZR [_] func133 ntmps133 fun G w hp=>?_
  repeat' (first|refine ZG ?_|refine ZF ?_|refine ZJ ?_|refine ZI ?_|refine ZL ?_|refine ZH ?_|refine ZM ?_|refine ZN (fun b=>?_)|refine ZO (fun b=>?_)|refine ZA ?_|refine ZB ?_|refine ZK ?_|refine ZD (n1) (fun _ _=>?_)|refine l_call0 (n1) (fun _ _=>?_)|(refine ZC (fun hc=>?_) (fun hc=>?_)<;>(try simp at hc))|(refine ZE (fun hc=>?_) (fun hc=>?_)<;>(try simp at hc)))
  exact ZQ () rfl trivial
 | 3,_=>
  refine Zl (f:=134) ?_
  refine ZR [_] func134 ntmps134 fun G w hp=>?_
  repeat' (first|refine ZG ?_|refine ZF ?_|refine ZJ ?_|refine ZI ?_|refine ZL ?_|refine ZH ?_|refine ZM ?_|refine ZN (fun b=>?_)|refine ZO (fun b=>?_)|refine ZA ?_|refine ZB ?_|refine ZK ?_|refine ZD (n1) (fun _ _=>?_)|refine l_call0 (n1) (fun _ _=>?_)|(refine ZC (fun hc=>?_) (fun hc=>?_)<;>(try simp at hc))|(refine ZE (fun hc=>?_) (fun hc=>?_)<;>(try simp at hc)))
  exact ZQ () rfl trivial
theorem cmpT_ok (k:Nat) (hk:k<3) (s u:ByteArray) (hs:s.size≤1000000):SpecV (cmT k) [.string s,.string u] [MxL] [] (RetV (.bool (cmpB k s u))):=by
 match k,hk with
 | 0,_=>
  refine Zl (f:=129) ?_
  refine ZR [_,_] func129 ntmps129 fun G w hp=>?_
  repeat' (first|refine ZG ?_|refine ZF ?_|refine ZJ ?_|refine ZI ?_|refine ZL ?_|refine ZH ?_|refine ZM ?_|refine ZN (fun b=>?_)|refine ZO (fun b=>?_)|refine ZA ?_|refine ZB ?_|refine ZK ?_|(refine ZC (fun hc=>?_) (fun hc=>?_)<;>(try simp at hc))|(refine ZE (fun hc=>?_) (fun hc=>?_)<;>(try simp at hc)))
  exact ZQ () rfl trivial
 | 1,_=>exact Zl (f:=53) (sContains_ok s u hs)
 | 2,_=>exact Zl (f:=55) ((sPrefix_ok s u).imp_right fun h G w hp hs=>h G w hp (hs.facts fun _ _ x hx=>by cases hx))
theorem cmpN_ok (k:Nat) (hk:k<3) (n m:Int):SpecV (cmN k) [.int .i64 n,.int .i64 m] [] [] (RetV (.bool (cmpZ k n m))):=by
 match k,hk with
 | 0,_=>
  refine Zl (f:=135) ?_
  refine ZR [_,_] func135 ntmps135 fun G w hp=>?_
  repeat' (first|refine ZG ?_|refine ZF ?_|refine ZJ ?_|refine ZI ?_|refine ZL ?_|refine ZH ?_|refine ZM ?_|refine ZN (fun b=>?_)|refine ZO (fun b=>?_)|refine ZA ?_|refine ZB ?_|refine ZK ?_|(refine ZC (fun hc=>?_) (fun hc=>?_)<;>(try simp at hc))|(refine ZE (fun hc=>?_) (fun hc=>?_)<;>(try simp at hc)))
  exact ZQ () rfl trivial
 | 1,_=>
  refine Zl (f:=136) ?_
  refine ZR [_,_] func136 ntmps136 fun G w hp=>?_
  repeat' (first|refine ZG ?_|refine ZF ?_|refine ZJ ?_|refine ZI ?_|refine ZL ?_|refine ZH ?_|refine ZM ?_|refine ZN (fun b=>?_)|refine ZO (fun b=>?_)|refine ZA ?_|refine ZB ?_|refine ZK ?_|(refine ZC (fun hc=>?_) (fun hc=>?_)<;>(try simp at hc))|(refine ZE (fun hc=>?_) (fun hc=>?_)<;>(try simp at hc)))
  exact ZQ () rfl trivial
 | 2,_=>
  refine Zl (f:=137) ?_
  refine ZR [_,_] func137 ntmps137 fun G w hp=>?_
  repeat' (first|refine ZG ?_|refine ZF ?_|refine ZJ ?_|refine ZI ?_|refine ZL ?_|refine ZH ?_|refine ZM ?_|refine ZN (fun b=>?_)|refine ZO (fun b=>?_)|refine ZA ?_|refine ZB ?_|refine ZK ?_|(refine ZC (fun hc=>?_) (fun hc=>?_)<;>(try simp at hc))|(refine ZE (fun hc=>?_) (fun hc=>?_)<;>(try simp at hc)))
  exact ZQ () rfl trivial
theorem text5_ok (c:Cq) (hc:CqS c) (f k:Nat) (hf:f<3) (hk:k<3) (b1 b2 b3:Nat) (s:ByteArray):Enters 130∧Spec prog 130 #[cqa c,pv0 b1,pv0 b2,pv0 b3]
  [Blk b1 (.cells #[cmT k] 116),Blk b2 (.cells #[fdT f] 187),Blk b3 (.cells #[.string s] 9),MxL] [] (RetV (.bool (cmpB k (fldT f c) s))):=by
 have n1:=fldT_ok c f hf
 have n2:=cmpT_ok k hk (fldT f c) s (by have:=hc.fld f;omega)
 obtain ⟨v1,e1⟩:∃v,cmT k=v:=⟨_,rfl⟩
 obtain ⟨v2,e2⟩:∃v,fdT f=v:=⟨_,rfl⟩
 rw [e1] at n2 ⊢
 rw [e2] at n1 ⊢
 refine ZR [_,_,_,_] func130 ntmps130 fun G w hp=>?_
 repeat' (first|refine ZG ?_|refine ZF ?_|refine ZJ ?_|refine ZI ?_|refine ZL ?_|refine ZH ?_|refine ZM ?_|refine ZN (fun b=>?_)|refine ZO (fun b=>?_)|refine ZA ?_|refine ZB ?_|refine ZK ?_|refine Zd ?_|refine Zc ?_|refine Zr ?_|refine Zg ?_|refine Ze ?_|refine Zq (fun b=>?_)|refine Zs (fun b=>?_)|refine Zp ?_|refine Zf ?_|refine r_callV n1 (fun _ _=>?_)|refine r_callV n2 (fun _ _=>?_)|(refine ZC (fun hc=>?_) (fun hc=>?_)<;>(try simp at hc))|(refine ZU (fun hc=>?_) (fun hc=>?_)<;>(try simp at hc))|refine ZS 1 [] [(0,0),(1,0),(2,0),(4,0),(3,4),(5,4),(6,0)] [] ?_|(refine ZE (fun hc=>?_) (fun hc=>?_)<;>(try simp at hc)))
 exact ZQ () rfl trivial
theorem number8_ok (c:Cq) (f k:Nat) (hf:f<4) (hk:k<3) (b1 b2 b3:Nat) (m:Int):Enters 139∧Spec prog 139 #[cqa c,pv0 b1,pv0 b2,pv0 b3]
  [Blk b1 (.cells #[cmN k] 37),Blk b2 (.cells #[fdN f] 191),Blk b3 (.cells #[.int .i64 m] 3)] [] (RetV (.bool (cmpZ k (fldN f c) m))):=by
 have n1:=fldN_ok c f hf
 have n2:=cmpN_ok k hk (fldN f c) m
 obtain ⟨v1,e1⟩:∃v,cmN k=v:=⟨_,rfl⟩
 obtain ⟨v2,e2⟩:∃v,fdN f=v:=⟨_,rfl⟩
 rw [e1] at n2 ⊢
 rw [e2] at n1 ⊢
 refine ZR [_,_,_,_] func139 ntmps139 fun G w hp=>?_
 repeat' (first|refine ZG ?_|refine ZF ?_|refine ZJ ?_|refine ZI ?_|refine ZL ?_|refine ZH ?_|refine ZM ?_|refine ZN (fun b=>?_)|refine ZO (fun b=>?_)|refine ZA ?_|refine ZB ?_|refine ZK ?_|refine Zd ?_|refine Zc ?_|refine Zr ?_|refine Zg ?_|refine Ze ?_|refine Zq (fun b=>?_)|refine Zs (fun b=>?_)|refine Zp ?_|refine Zf ?_|refine r_callV n1 (fun _ _=>?_)|refine r_callV n2 (fun _ _=>?_)|(refine ZC (fun hc=>?_) (fun hc=>?_)<;>(try simp at hc))|(refine ZU (fun hc=>?_) (fun hc=>?_)<;>(try simp at hc))|refine ZS 1 [] [(0,0),(1,0),(2,0),(4,0),(3,4),(5,4),(6,0)] [] ?_|(refine ZE (fun hc=>?_) (fun hc=>?_)<;>(try simp at hc)))
 exact ZQ () rfl trivial
end
end Go.Proofs.YtodkipbnefngkaaGreatDoor
namespace Go.Proofs.YtodkipbnefngkaaGreatDoor
open Go.RowKit Go.Proofs.Tryz
theorem sat_fact {G:H} {w0 w:World} {hp0:H} {F:List Pf} {R:List HP} {X:Type} {f:Pf} {Fx:X→List Pf} {p:X→Prop} (hs:Sat G w0 hp0 (f::F) R w) (h:∀hp,f.p hp→∃x,p x∧∀g ∈ Fx x,g.p hp):∃x,p x∧Sat G w0 hp0 (Fx x++F) R w:=by
 obtain ⟨hp,hr,st⟩:=hs
 obtain ⟨x,hpx,hfx⟩:=h hp (st.f f (.head _))
 refine ⟨x,hpx,hp,hr,st.inp,st.inr,st.ing,st.d1,st.d2,st.d3,st.sub,fun g hg=>?_,st.r,st.same⟩
 rcases List.mem_append.1 hg with h|h
 ·exact hfx g h
 ·exact st.f g (.tail _ h)
theorem YB {v:Value} {name:String} {vs:List Value} {F:List Pf} {R:List HP} {post:Post} {X:Type} {f:Pf} {Fx:X→List Pf} {p:X→Prop} (h:∀hp,f.p hp→∃x,p x∧∀g ∈ Fx x,g.p hp)
  (s:∀x,p x→SpecI v name vs (Fx x++F) R post):SpecI v name vs (f::F) R post:=fun G w hp hs=>by
 obtain ⟨x,hx,hs⟩:=sat_fact hs h
 exact s x hx G w hp hs
theorem specMore {P:Program} {f:FuncId} {args:Array Value} {F F1:List Pf} {R:List HP} {post:Post} (s:Spec P f args F R post):Spec P f args (F++F1) R post:=fun G w hp hs=>s G w hp (hs.facts fun _ h x hx=>h x (List.mem_append_left _ hx))
theorem test_holds (wd:ByteArray) (fv:Value) (c:Cq) {F:List Pf} {x:Bool} (spec:SpecV fv [cqa c] F [] (RetV (.bool x))):Enters 199∧Spec prog 199 #[.agg #[.string wd,fv],cqa c] F [] (RetV (.bool x)):=by
 refine ZR [_,_] func199 ntmps199 fun G w hp=>?_
 repeat' (first|refine ZG ?_|refine ZF ?_|refine ZJ ?_|refine ZI ?_|refine ZL ?_|refine ZH ?_|refine ZM ?_|refine ZN (fun b=>?_)|refine ZO (fun b=>?_)|refine ZA ?_|refine ZB ?_|refine ZK ?_|refine Yl spec (fun _ _=>?_) (hF:=ZV _)|(refine ZC (fun hc=>?_) (fun hc=>?_)<;>(try simp at hc))|(refine ZE (fun hc=>?_) (fun hc=>?_)<;>(try simp at hc)))
 exact ZQ () rfl trivial
abbrev HoI (c : Cq) (d : Cnd) : Prop := ∀ v, SpecI v "replevin/rule.holds" [cqa c] [CdF d v, MxL] [] (RetV (.bool (holF c d)))
theorem tst_ho {c : Cq} {wd : ByteArray} {f : FuncId} {cs : Array Value} {F : List Pf} {x : Bool} (spec : Enters f ∧ Spec prog f ([cqa c].toArray ++ cs) F [] (RetV (.bool x))) : SpecI (tsv wd f cs) "replevin/rule.holds" [cqa c] F [] (RetV (.bool x)) :=
 WK (f:=199) (by intro w;kernel_rfl) (test_holds wd _ c (Zl spec))
theorem not_holds (c:Cq) (d:Cnd) (u:Value) (ih:HoI c d):Enters 203∧Spec prog 203 #[.agg #[u],cqa c] [CdF d u,MxL] [] (RetV (.bool (!holF c d))):=by
 have n1:=ih u
 refine ZR [_,_] func203 ntmps203 fun G w hp=>?_
 repeat' (first|refine ZG ?_|refine ZF ?_|refine ZJ ?_|refine ZI ?_|refine ZL ?_|refine ZH ?_|refine ZM ?_|refine ZN (fun b=>?_)|refine ZO (fun b=>?_)|refine ZA ?_|refine ZB ?_|refine ZK ?_|refine l_inv n1 (fun _ _=>?_)|(refine ZC (fun hc=>?_) (fun hc=>?_)<;>(try simp at hc))|(refine ZE (fun hc=>?_) (fun hc=>?_)<;>(try simp at hc)))
 exact ZQ () rfl trivial
set_option maxHeartbeats 4000000 in
theorem any_holds (c:Cq) (l:List Cnd) (hbd:l.length≤1000000) (ih:∀d ∈ l,HoI c d) (o:Option Addr) (cap:Nat) (vs:List IV) (hl:vs.length=l.length):Enters 201∧Spec prog 201 #[.agg #[.slice o vs.length cap],cqa c] [Sl 100 ivl o cap vs,CdsF l (vs.map ivOf),MxL] [] (RetV (.bool (anyH c l))):=by
 obtain ⟨R,hR⟩:∃R,anyH c l=R:=⟨_,rfl⟩
 rw [hR]
 refine ZR [_,_] func201 ntmps201 fun G w hp=>?_
 repeat' (first|refine ZG ?_|refine ZF ?_|refine ZJ ?_|refine ZI ?_|refine ZL ?_|refine ZH ?_|refine ZM ?_|refine ZN (fun b=>?_)|refine ZO (fun b=>?_)|refine ZA ?_|refine ZB ?_|(refine ZC (fun hc=>?_) (fun hc=>?_)<;>(try simp at hc))|(refine ZE (fun hc=>?_) (fun hc=>?_)<;>(try simp at hc)))
 rename_i b2
 refine Yn (X:={j:Nat // j≤vs.length∧anyH c (l.drop j)=R}) (fun j=>[(3,pv0 b),(8,.slice o vs.length cap),(9,.int .i64 (vs.length:Int)),(10,.int .i64 (j.1:Int))]) (fun _=>[Sl 100 ivl o cap vs,CdsF l (vs.map ivOf),MxL]) (fun _=>[Pt b (.cells (cqf c).toArray 26)]) (fun j=>vs.length - j.1) ⟨0,Nat.zero_le _,hR⟩ ⟨rfl,rfl,rfl,rfl,trivial⟩ ?_
 rintro ⟨j,hj,hRj⟩
 dsimp only at hj hRj ⊢
 by_cases hlt:j<vs.length
 ·have hxj:=List.getElem?_eq_getElem hlt
  have hltc:j<l.length:=by omega
  have hcj:=List.getElem?_eq_getElem hltc
  rw [List.drop_eq_getElem_cons hltc] at hRj
  have ihd:=ih _ (List.getElem_mem hltc)
  generalize vs[j]=x at *
  generalize l[j]=d at *
  rw [anyH] at hRj
  obtain ⟨T,u⟩:=x
  have n1:=ihd (ivOf (T,u))
  refine Z6 (F1:=[CdsF l (vs.map ivOf)]) (f:=CdF d (ivOf (T,u))) (fun hp hF=>Xo (hF _ (.head _)) hcj (by rw [List.getElem?_map,hxj];rfl)) ?_
  have w1:=wrapi (z:=(j:Int)+1) (by omega) (by omega)
  cases hh:holF c d with
  | true=>
   rw [hh] at n1 hRj
   obtain rfl:R=true:=hRj.symm
   repeat' (first|refine ZG ?_|refine ZF ?_|refine ZJ ?_|refine ZI ?_|refine ZL ?_|refine ZH ?_|refine ZM ?_|refine ZN (fun b=>?_)|refine ZO (fun b=>?_)|refine ZA ?_|refine ZB ?_|refine Zz (es:=vs) (f:=ivl) j _ hxj (fun b off=>?_)|refine Zy ?_|refine l_inv n1 (fun _ _=>?_)|rw [w1]|(refine ZC (fun hc=>?_) (fun hc=>?_)<;>(try simp at hc)<;>(try omega))|(refine ZE (fun hc=>?_) (fun hc=>?_)<;>(try simp at hc)<;>(try omega)))
   exact YF (YW (Z1 () rfl trivial))
  | false=>
   rw [hh] at n1 hRj
   repeat' (first|refine ZG ?_|refine ZF ?_|refine ZJ ?_|refine ZI ?_|refine ZL ?_|refine ZH ?_|refine ZM ?_|refine ZN (fun b=>?_)|refine ZO (fun b=>?_)|refine ZA ?_|refine ZB ?_|refine Zz (es:=vs) (f:=ivl) j _ hxj (fun b off=>?_)|refine Zy ?_|refine l_inv n1 (fun _ _=>?_)|rw [w1]|(refine ZC (fun hc=>?_) (fun hc=>?_)<;>(try simp at hc)<;>(try omega))|(refine ZE (fun hc=>?_) (fun hc=>?_)<;>(try simp at hc)<;>(try omega)))
   exact ZZ ⟨j+1,by show j+1≤vs.length;omega,hRj⟩ (by show vs.length - (j+1)<vs.length - j;omega) ⟨rfl,rfl,rfl,rfl,trivial⟩
 ·rw [List.drop_eq_nil_of_le (by omega)] at hRj
  obtain rfl:R=false:=hRj.symm
  repeat' (first|refine ZG ?_|refine ZF ?_|refine ZJ ?_|refine ZI ?_|refine ZL ?_|refine ZH ?_|refine ZM ?_|refine ZN (fun b=>?_)|refine ZO (fun b=>?_)|refine ZA ?_|refine ZB ?_|refine ZK ?_|(refine ZC (fun hc=>?_) (fun hc=>?_)<;>(try simp at hc)<;>(try omega))|(refine ZE (fun hc=>?_) (fun hc=>?_)<;>(try simp at hc)<;>(try omega)))
  exact ZQ () rfl trivial
set_option maxHeartbeats 4000000 in
theorem all_holds (c:Cq) (l:List Cnd) (hbd:l.length≤1000000) (ih:∀d ∈ l,HoI c d) (o:Option Addr) (cap:Nat) (vs:List IV) (hl:vs.length=l.length):Enters 206∧Spec prog 206 #[.agg #[.slice o vs.length cap],cqa c] [Sl 100 ivl o cap vs,CdsF l (vs.map ivOf),MxL] [] (RetV (.bool (allH c l))):=by
 obtain ⟨R,hR⟩:∃R,allH c l=R:=⟨_,rfl⟩
 rw [hR]
 refine ZR [_,_] func206 ntmps206 fun G w hp=>?_
 repeat' (first|refine ZG ?_|refine ZF ?_|refine ZJ ?_|refine ZI ?_|refine ZL ?_|refine ZH ?_|refine ZM ?_|refine ZN (fun b=>?_)|refine ZO (fun b=>?_)|refine ZA ?_|refine ZB ?_|(refine ZC (fun hc=>?_) (fun hc=>?_)<;>(try simp at hc))|(refine ZE (fun hc=>?_) (fun hc=>?_)<;>(try simp at hc)))
 rename_i b2
 refine Yn (X:={j:Nat // j≤vs.length∧allH c (l.drop j)=R}) (fun j=>[(3,pv0 b),(8,.slice o vs.length cap),(9,.int .i64 (vs.length:Int)),(10,.int .i64 (j.1:Int))]) (fun _=>[Sl 100 ivl o cap vs,CdsF l (vs.map ivOf),MxL]) (fun _=>[Pt b (.cells (cqf c).toArray 26)]) (fun j=>vs.length - j.1) ⟨0,Nat.zero_le _,hR⟩ ⟨rfl,rfl,rfl,rfl,trivial⟩ ?_
 rintro ⟨j,hj,hRj⟩
 dsimp only at hj hRj ⊢
 by_cases hlt:j<vs.length
 ·have hxj:=List.getElem?_eq_getElem hlt
  have hltc:j<l.length:=by omega
  have hcj:=List.getElem?_eq_getElem hltc
  rw [List.drop_eq_getElem_cons hltc] at hRj
  have ihd:=ih _ (List.getElem_mem hltc)
  generalize vs[j]=x at *
  generalize l[j]=d at *
  rw [allH] at hRj
  obtain ⟨T,u⟩:=x
  have n1:=ihd (ivOf (T,u))
  refine Z6 (F1:=[CdsF l (vs.map ivOf)]) (f:=CdF d (ivOf (T,u))) (fun hp hF=>Xo (hF _ (.head _)) hcj (by rw [List.getElem?_map,hxj];rfl)) ?_
  have w1:=wrapi (z:=(j:Int)+1) (by omega) (by omega)
  cases hh:holF c d with
  | false=>
   rw [hh] at n1 hRj
   obtain rfl:R=false:=hRj.symm
   repeat' (first|refine ZG ?_|refine ZF ?_|refine ZJ ?_|refine ZI ?_|refine ZL ?_|refine ZH ?_|refine ZM ?_|refine ZN (fun b=>?_)|refine ZO (fun b=>?_)|refine ZA ?_|refine ZB ?_|refine Zz (es:=vs) (f:=ivl) j _ hxj (fun b off=>?_)|refine Zy ?_|refine l_inv n1 (fun _ _=>?_)|rw [w1]|(refine ZC (fun hc=>?_) (fun hc=>?_)<;>(try simp at hc)<;>(try omega))|(refine ZE (fun hc=>?_) (fun hc=>?_)<;>(try simp at hc)<;>(try omega)))
   exact YF (YW (Z1 () rfl trivial))
  | true=>
   rw [hh] at n1 hRj
   repeat' (first|refine ZG ?_|refine ZF ?_|refine ZJ ?_|refine ZI ?_|refine ZL ?_|refine ZH ?_|refine ZM ?_|refine ZN (fun b=>?_)|refine ZO (fun b=>?_)|refine ZA ?_|refine ZB ?_|refine Zz (es:=vs) (f:=ivl) j _ hxj (fun b off=>?_)|refine Zy ?_|refine l_inv n1 (fun _ _=>?_)|rw [w1]|(refine ZC (fun hc=>?_) (fun hc=>?_)<;>(try simp at hc)<;>(try omega))|(refine ZE (fun hc=>?_) (fun hc=>?_)<;>(try simp at hc)<;>(try omega)))
   exact ZZ ⟨j+1,by show j+1≤vs.length;omega,hRj⟩ (by show vs.length - (j+1)<vs.length - j;omega) ⟨rfl,rfl,rfl,rfl,trivial⟩
 ·rw [List.drop_eq_nil_of_le (by omega)] at hRj
  obtain rfl:R=true:=hRj.symm
  repeat' (first|refine ZG ?_|refine ZF ?_|refine ZJ ?_|refine ZI ?_|refine ZL ?_|refine ZH ?_|refine ZM ?_|refine ZN (fun b=>?_)|refine ZO (fun b=>?_)|refine ZA ?_|refine ZB ?_|refine ZK ?_|(refine ZC (fun hc=>?_) (fun hc=>?_)<;>(try simp at hc)<;>(try omega))|(refine ZE (fun hc=>?_) (fun hc=>?_)<;>(try simp at hc)<;>(try omega)))
  exact ZQ () rfl trivial
mutual
theorem Wc (c:Cq) (hc:CqS c) {M:Nat} (hM:M≤100000):∀d:Cnd,WfC d→SzC M d→lv d≤1000000→HoI c d
 | .any l,hw,hz,hv,v=>by
  rw [WfC] at hw;rw [SzC] at hz;rw [lv] at hv
  have hll:=XV l
  refine YB (X:=Option Addr×Nat×List IV) (Fx:=fun q=>[Sl 100 ivl q.1 q.2.1 q.2.2,CdsF l (q.2.2.map ivOf)]) (p:=fun q=>v = .iface 211 (.agg #[.slice q.1 q.2.2.length q.2.1])∧q.2.2.length=l.length) (fun h hh=>?_) (fun q hq=>?_)
  ·have hh:CdP h (.any l) v:=hh
   rw [CdP] at hh
   obtain ⟨o,cap,vs,h1,h2,h3⟩:=hh
   exact ⟨(o,cap,vs),⟨h1,by have:=Xh h3;simpa using this⟩,fun g hg=>by
    simp only [List.mem_cons,List.not_mem_nil,or_false] at hg
    rcases hg with rfl|rfl
    ·exact h2
    ·exact h3⟩
  ·obtain ⟨rfl,hl⟩:=hq
   rw [holF]
   exact WK (f:=201) (by intro w;kernel_rfl) (any_holds c l (by omega) (WB c hc hM l hw hz (by omega)) _ _ _ hl)
 | .all l,hw,hz,hv,v=>by
  rw [WfC] at hw;rw [SzC] at hz;rw [lv] at hv
  have hll:=XV l
  refine YB (X:=Option Addr×Nat×List IV) (Fx:=fun q=>[Sl 100 ivl q.1 q.2.1 q.2.2,CdsF l (q.2.2.map ivOf)]) (p:=fun q=>v = .iface 225 (.agg #[.slice q.1 q.2.2.length q.2.1])∧q.2.2.length=l.length) (fun h hh=>?_) (fun q hq=>?_)
  ·have hh:CdP h (.all l) v:=hh
   rw [CdP] at hh
   obtain ⟨o,cap,vs,h1,h2,h3⟩:=hh
   exact ⟨(o,cap,vs),⟨h1,by have:=Xh h3;simpa using this⟩,fun g hg=>by
    simp only [List.mem_cons,List.not_mem_nil,or_false] at hg
    rcases hg with rfl|rfl
    ·exact h2
    ·exact h3⟩
  ·obtain ⟨rfl,hl⟩:=hq
   rw [holF]
   exact WK (f:=206) (by intro w;kernel_rfl) (all_holds c l (by omega) (WB c hc hM l hw hz (by omega)) _ _ _ hl)
 | .nt d,hw,hz,hv,v=>by
  rw [WfC] at hw;rw [SzC] at hz;rw [lv] at hv
  refine YB (X:=Value) (Fx:=fun u=>[CdF d u]) (p:=fun u=>v = .iface 223 (.agg #[u])) (fun h hh=>?_) (fun u hq=>?_)
  ·have hh:CdP h (.nt d) v:=hh
   rw [CdP] at hh
   obtain ⟨u,h1,h2⟩:=hh
   exact ⟨u,h1,fun g hg=>by rcases List.mem_singleton.1 hg with rfl;exact h2⟩
  ·subst hq
   rw [holF]
   exact WK (f:=203) (by intro w;kernel_rfl) (not_holds c d u (Wc c hc hM d hw hz (by omega)))
 | .nul,hw,_,_,_=>by rw [WfC] at hw;exact absurd hw id
 | .kd wd k,_,_,_,v=>by
  refine YB (X:=Nat) (Fx:=fun b=>[Blk b (.cells #[.int .i64 k] 3)]) (p:=fun b=>v=tsv wd 123 #[pv0 b]) (fun h hh=>?_) (fun b hq=>?_)
  ·have hh:CdP h (.kd wd k) v:=hh
   rw [CdP] at hh
   obtain ⟨b,h1,h2⟩:=hh
   exact ⟨b,h1,fun g hg=>by rcases List.mem_singleton.1 hg with rfl;exact h2⟩
  ·subst hq
   rw [holF]
   exact tst_ho ((kind1_ok c b k).imp_right fun h=>specMore h)
 | .ch wd k,_,_,_,v=>by
  refine YB (X:=Nat) (Fx:=fun b=>[Blk b (.cells #[.int .i64 k] 3)]) (p:=fun b=>v=tsv wd 125 #[pv0 b]) (fun h hh=>?_) (fun b hq=>?_)
  ·have hh:CdP h (.ch wd k) v:=hh
   rw [CdP] at hh
   obtain ⟨b,h1,h2⟩:=hh
   exact ⟨b,h1,fun g hg=>by rcases List.mem_singleton.1 hg with rfl;exact h2⟩
  ·subst hq
   rw [holF]
   exact tst_ho ((channel1_ok c b k).imp_right fun h=>specMore h)
 | .tx wd f k s,hw,hz,_,v=>by
  rw [WfC] at hw;rw [SzC] at hz
  refine YB (X:=Nat×Nat×Nat) (Fx:=fun q=>[Blk q.1 (.cells #[cmT k] 116),Blk q.2.1 (.cells #[fdT f] 187),Blk q.2.2 (.cells #[.string s] 9)]) (p:=fun q=>v=tsv wd 130 #[pv0 q.1,pv0 q.2.1,pv0 q.2.2]) (fun h hh=>?_) (fun q hq=>?_)
  ·have hh:CdP h (.tx wd f k s) v:=hh
   rw [CdP] at hh
   obtain ⟨b1,b2,b3,h1,h2,h3,h4⟩:=hh
   exact ⟨(b1,b2,b3),h1,fun g hg=>by
    simp only [List.mem_cons,List.not_mem_nil,or_false] at hg
    rcases hg with rfl|rfl|rfl
    ·exact h2
    ·exact h3
    ·exact h4⟩
  ·subst hq
   rw [holF]
   exact tst_ho (text5_ok c hc f k hw.1 hw.2 _ _ _ s)
 | .nm wd f k n,hw,_,_,v=>by
  rw [WfC] at hw
  refine YB (X:=Nat×Nat×Nat) (Fx:=fun q=>[Blk q.1 (.cells #[cmN k] 37),Blk q.2.1 (.cells #[fdN f] 191),Blk q.2.2 (.cells #[.int .i64 n] 3)]) (p:=fun q=>v=tsv wd 139 #[pv0 q.1,pv0 q.2.1,pv0 q.2.2]) (fun h hh=>?_) (fun q hq=>?_)
  ·have hh:CdP h (.nm wd f k n) v:=hh
   rw [CdP] at hh
   obtain ⟨b1,b2,b3,h1,h2,h3,h4⟩:=hh
   exact ⟨(b1,b2,b3),h1,fun g hg=>by
    simp only [List.mem_cons,List.not_mem_nil,or_false] at hg
    rcases hg with rfl|rfl|rfl
    ·exact h2
    ·exact h3
    ·exact h4⟩
  ·subst hq
   rw [holF]
   exact tst_ho ((number8_ok c f k hw.1 hw.2 _ _ _ n).imp_right fun h=>specMore h)
 | .by_ wd s,_,hz,_,v=>by
  rw [SzC] at hz
  refine YB (X:=Nat) (Fx:=fun b=>[Blk b (.cells #[.string s] 22)]) (p:=fun b=>v=tsv wd 140 #[pv0 b]) (fun h hh=>?_) (fun b hq=>?_)
  ·have hh:CdP h (.by_ wd s) v:=hh
   rw [CdP] at hh
   obtain ⟨b,h1,h2⟩:=hh
   exact ⟨b,h1,fun g hg=>by rcases List.mem_singleton.1 hg with rfl;exact h2⟩
  ·subst hq
   rw [holF]
   exact tst_ho ((by1_ok c hc b s (by omega)).imp_right fun h=>specMore h)
theorem WB (c:Cq) (hc:CqS c) {M:Nat} (hM:M≤100000):∀l:List Cnd,WfCs l→SzCs M l→lvs l≤1000000→∀d ∈ l,HoI c d
 | [],_,_,_=>fun d hd=>by cases hd
 | x::l,hw,hz,hv=>fun d hd=>by
  rw [WfCs] at hw;rw [SzCs] at hz;rw [lvs] at hv
  rcases List.mem_cons.1 hd with hd|hd
  ·exact hd ▸ Wc c hc hM x hw.1 hz.1 (by omega)
  ·exact WB c hc hM l hw.2 hz.2 (by omega) d hd
end
theorem run_b2s1 {w:World} {b:Nat} {z:Int} {cs:Array Value} {T:TypeId} {fz:Nat×Nat} (hb:w.heap[b]? = some (.cells cs T fz)) (hcs:cs.toList=[.int .u8 z]) :
  (Conv.bytesToString (.slice (some ⟨b,0,none⟩) 1 1)).run prog w = .ok (.string ⟨#[UInt8.ofNat z.toNat]⟩) w:=by
 rw [run_bytesToString (ns:=[z])]
 ·rfl
 ·unfold loadCells
  have hl:cs.size=1:=by rw [←Array.length_toList,hcs];rfl
  rw [YA hb 0 1 0 #[] (by omega)]
  simp [hcs]
variable {n:Nat} {C:Cx} {Q:Exit→Act→World→Prop} {E E':List (Nat×Value)} {F F' F1 Fs F0:List Pf} {R R' R0 Rs N N' A:List HP} {k k':List Fr} {ops l:List Oper} {L L':List (Nat×Nat)} {Tl:List Nat} {i d:Nat} {t t2 ty0:TypeId} {x y:Operand} {pos:String} {aft:Array Edge} {gd:Option (Nat×Bool)}
section
variable {b:Nat} {td:TypeId}
theorem l_b2s1 {T:Nat} {z:Int} {cs:Array Value} {ty:TypeId} {fzn:Nat×Nat} {rs tr rd:TRow} (nx:Wl n C ops.toArray k Q l ((d,.string ⟨#[UInt8.ofNat z.toNat]⟩)::E) F R)
  (hw:wantL ops E ⟨some d,.convert t td x,ty0,pos,aft,gd⟩=some true:=by rfl) (hn:Nat.blt d n=true:=by rfl) (hx:ev E x=some (.slice (some ⟨b,0,none⟩) 1 1):=by rfl)
  (hs:Sel (Pt b (.cells cs ty fzn)) R R0:=by (repeat (first|exact Sel.here|apply Sel.there));first|done|fail) (hcs:cs.toList=[.int .u8 z]:=by rfl)
  (hts:lookT tab t=some rs:=by rfl) (hrs:rs.k = .slice T:=by rfl) (hT:lookT tab T=some tr:=by rfl) (hTk:tr.k = .int .u8:=by rfl) (htd:lookT tab td=some rd:=by rfl) (hrd:rd.k = .str:=by rfl) :
  Wl n C ops.toArray k Q (⟨some d,.convert t td x,ty0,pos,aft,gd⟩::l) E F R:=
 Z5 (fun t ht=>by cases ht;exact Nat.le_of_ble_eq_true hn) (fun c hc=>by cases hc) hw fun a w ha hsat=>by
  have hr1:=run_b2s1 (hsat.pt hs) hcs
  unfold OpRes
  simp only [execOp,ha.ev (x:=x) (by rw [ZP];exact hx),convert,run_und hts hrs,Yx htd hrd,run_undI hT hTk,Sem.run_bind,Result.andThen,Sem.run_pure,hr1]
  exact fun a' ha'=>nx a' w ha' hsat
end
theorem itoa_lt {u:Nat} (h:u<10):Lib.itoa (u:Int)=[UInt8.ofNat (48+u)]:=by
 unfold Lib.itoa;rw [if_neg (by omega),Int.toNat_natCast,Lib.decDigits,dif_pos h]
theorem itoa_ge {u:Nat} (h:¬u<10):Lib.itoa (u:Int)=Lib.itoa ((u / 10:Nat):Int)++[UInt8.ofNat (48+u % 10)]:=by
 unfold Lib.itoa;rw [if_neg (by omega),if_neg (by omega),Int.toNat_natCast,Int.toNat_natCast,Lib.decDigits,dif_neg h]
theorem itoa_neg {u:Nat} (h:u≠0):Lib.itoa (-(u:Int))=45::Lib.itoa (u:Int):=by
 unfold Lib.itoa;rw [if_pos (by omega),if_neg (by omega),Int.toNat_natCast,Int.natAbs_neg,Int.natAbs_natCast]
theorem dec_len2:∀(k n:Nat),n<10 ^ k→(Lib.decDigits n).length≤k+1
 | 0,n,h=>by rw [Lib.decDigits,dif_pos (by omega)];simp
 | k+1,n,h=>by
  rw [Lib.decDigits]
  split
  ·simp
  ·have:=dec_len2 k (n / 10) (by rw [Nat.pow_succ] at h;omega)
   simp only [List.length_append,List.length_cons,List.length_nil]
   omega
theorem itoa_len (n:Int) (h0 : -9223372036854775808≤n) (h1:n≤9223372036854775807):(Lib.itoa n).length≤22:=by
 unfold Lib.itoa
 split
 ·have:=dec_len2 20 n.natAbs (by omega)
  simp;omega
 ·have:=dec_len2 20 n.toNat (by omega)
  omega
theorem dig_q:∀d<10,UInt8.ofNat (IntKind.u8.wrap (48+((d:Nat):Int))).toNat=UInt8.ofNat (48+d):=by decide
set_option maxHeartbeats 4000000 in
theorem digP_ok:∀(m u:Nat),u<m→(u:Int)≤9223372036854775807→
  Enters 43∧Spec prog 43 #[.int .i64 (u:Int)] [] [] (RetV (.string (ofL (Lib.itoa (u:Int)))))
 | 0,_,h,_=>absurd h (by omega)
 | m+1,u,hm,h1=>by
  have q1:(u:Int).tdiv 10=((u / 10:Nat):Int):=rfl
  have q2:(u:Int).tmod 10=((u % 10:Nat):Int):=rfl
  have w1:IntKind.i64.wrap ((u / 10:Nat):Int)=((u / 10:Nat):Int):=wrapi (by omega) (by omega)
  by_cases c2:u<10
  ·have w2:IntKind.i64.wrap (48+(u:Int))=48+(u:Int):=wrapi (by omega) (by omega)
   refine ZR [_] func43 ntmps43 fun G w hp=>?_
   repeat' (first|refine r_b2s1 (fun b=>?_)|refine ZG ?_|refine ZF ?_|refine ZJ ?_|refine ZI ?_|refine ZL ?_|refine ZH ?_|refine ZM ?_|refine ZN (fun b=>?_)|refine ZO (fun b=>?_)|refine ZA ?_|refine ZB ?_|refine ZK ?_|refine l_b2s1 ?_|rw [w2]|(refine ZC (fun hc=>?_) (fun hc=>?_)<;>(try simp at hc)<;>(try omega))|(refine ZE (fun hc=>?_) (fun hc=>?_)<;>(try simp at hc)<;>(try omega)))
   all_goals refine ZQ () ?_ trivial
   all_goals show Value.string _=Value.string _
   all_goals congr 1
   ·rw [dig_q u c2,itoa_lt c2]
  ·have ih:=digP_ok m (u / 10) (by omega) (by omega)
   have ih2:=digP_ok m (u % 10) (by omega) (by omega)
   have hl:=itoa_len ((u / 10:Nat):Int) (by omega) (by omega)
   have hl2:=itoa_len ((u % 10:Nat):Int) (by omega) (by omega)
   refine ZR [_] func43 ntmps43 fun G w hp=>?_
   repeat' (first|refine ZG ?_|refine ZF ?_|refine ZJ ?_|refine ZI ?_|refine ZL ?_|refine ZH ?_|refine ZM ?_|refine ZN (fun b=>?_)|refine ZO (fun b=>?_)|refine ZA ?_|refine ZB ?_|refine ZK ?_|refine ZD (ih) (fun _ _=>?_)|refine l_call0 (ih) (fun _ _=>?_)|refine ZD (ih2) (fun _ _=>?_)|refine l_call0 (ih2) (fun _ _=>?_)|rw [q1]|rw [q2]|rw [w1]|refine Yb ?_|refine Ya ?_|(refine ZC (fun hc=>?_) (fun hc=>?_)<;>(try simp at hc)<;>(try omega))|(refine ZE (fun hc=>?_) (fun hc=>?_)<;>(try simp at hc)<;>(try omega)))
   all_goals refine ZQ () ?_ trivial
   all_goals show Value.string _=Value.string _
   all_goals congr 1
   ·rw [itoa_ge c2,itoa_lt (u:=u % 10) (by omega)]
    apply ByteArray.ext;simp [ByteArray.data_append]
set_option maxHeartbeats 4000000 in
theorem Wa (n:Int) (h0 : -9223372036854775807≤n) (h1:n≤9223372036854775807) :
  Enters 43∧Spec prog 43 #[.int .i64 n] [] [] (RetV (.string (ofL (Lib.itoa n)))):=by
 by_cases c1:n<0
 ·obtain ⟨u,rfl⟩:∃u:Nat,n = -(u:Int):=⟨n.natAbs,by omega⟩
  have ih:=digP_ok (u+1) u (by omega) (by omega)
  have w2:IntKind.i64.wrap (0 - -(u:Int))=(u:Int):=by rw [wrapi (by omega) (by omega)];omega
  have hl:=itoa_len (u:Int) (by omega) (by omega)
  refine ZR [_] func43 ntmps43 fun G w hp=>?_
  repeat' (first|refine ZG ?_|refine ZF ?_|refine ZJ ?_|refine ZI ?_|refine ZL ?_|refine ZH ?_|refine ZM ?_|refine ZN (fun b=>?_)|refine ZO (fun b=>?_)|refine ZA ?_|refine ZB ?_|refine ZK ?_|refine ZD (ih) (fun _ _=>?_)|refine l_call0 (ih) (fun _ _=>?_)|rw [w2]|refine Yb ?_|refine Ya ?_|(refine ZC (fun hc=>?_) (fun hc=>?_)<;>(try simp at hc)<;>(try omega))|(refine ZE (fun hc=>?_) (fun hc=>?_)<;>(try simp at hc)<;>(try omega)))
  all_goals refine ZQ () ?_ trivial
  all_goals show Value.string _=Value.string _
  all_goals congr 1
  ·rw [itoa_neg (by omega)]
   apply ByteArray.ext;simp [ByteArray.data_append]
 ·obtain ⟨u,rfl⟩:∃u:Nat,n=(u:Int):=⟨n.toNat,by omega⟩
  exact digP_ok (u+1) u (by omega) (by omega)
theorem subjectM_ok (c:Cq):Enters 42∧Spec prog 42 #[cqa c] [] [] (RetV (.tuple #[(subO c).v,.int .i64 (subT c)])):=by
 by_cases h:c.kind=4
 ·have e1:subO c=c.new:=if_pos h
  have e2:subT c=c.newAt:=if_pos h
  rw [e1,e2]
  refine ZR [_] func42 ntmps42 fun G w hp=>?_
  repeat' (first|refine ZG ?_|refine ZF ?_|refine ZJ ?_|refine ZI ?_|refine ZL ?_|refine ZH ?_|refine ZM ?_|refine ZN (fun b=>?_)|refine ZO (fun b=>?_)|refine ZA ?_|refine ZB ?_|refine ZK ?_|refine Zd ?_|refine Zc ?_|refine Zr ?_|refine Zg ?_|refine Ze ?_|refine Zq (fun b=>?_)|refine Zs (fun b=>?_)|refine Zp ?_|refine Zf ?_|(refine ZC (fun hc=>?_) (fun hc=>?_)<;>(try simp at hc)<;>(try omega))|(refine ZU (fun hc=>?_) (fun hc=>?_)<;>(try simp at hc)<;>(try omega))|refine ZS 2 [Pt _ (.cells _ 24 _)] [(0,0),(1,0),(2,0),(3,0),(4,4),(5,0)] [] ?_|refine ZS 3 [Pt _ (.cells _ 24 _)] [(0,0),(1,0),(2,0),(3,0),(4,4),(5,0)] [] ?_|(refine ZE (fun hc=>?_) (fun hc=>?_)<;>(try simp at hc)<;>(try omega)))
  exact ZQ () rfl trivial
 ·have e1:subO c=c.old:=if_neg h
  have e2:subT c=c.oldAt:=if_neg h
  rw [e1,e2]
  refine ZR [_] func42 ntmps42 fun G w hp=>?_
  repeat' (first|refine ZG ?_|refine ZF ?_|refine ZJ ?_|refine ZI ?_|refine ZL ?_|refine ZH ?_|refine ZM ?_|refine ZN (fun b=>?_)|refine ZO (fun b=>?_)|refine ZA ?_|refine ZB ?_|refine ZK ?_|refine Zd ?_|refine Zc ?_|refine Zr ?_|refine Zg ?_|refine Ze ?_|refine Zq (fun b=>?_)|refine Zs (fun b=>?_)|refine Zp ?_|refine Zf ?_|(refine ZC (fun hc=>?_) (fun hc=>?_)<;>(try simp at hc)<;>(try omega))|(refine ZU (fun hc=>?_) (fun hc=>?_)<;>(try simp at hc)<;>(try omega))|refine ZS 2 [Pt _ (.cells _ 24 _)] [(0,0),(1,0),(2,0),(3,0),(4,4),(5,0)] [] ?_|refine ZS 3 [Pt _ (.cells _ 24 _)] [(0,0),(1,0),(2,0),(3,0),(4,4),(5,0)] [] ?_|(refine ZE (fun hc=>?_) (fun hc=>?_)<;>(try simp at hc)<;>(try omega)))
  exact ZQ () rfl trivial
theorem pos_iff (a k:Int):posF a k=true↔((a=1∨a=2)∧(k=2∨k=3))∨(a=3∧(k=3∨k=4))∨(a=4∧k=4)∨(a=5∧(k=2∨k=3∨k=4)):=by
 unfold posF
 split
 ·rw [decide_eq_true_iff];omega
 split
 ·rw [decide_eq_true_iff];omega
 split
 ·rw [decide_eq_true_iff];omega
 split
 ·rw [decide_eq_true_iff];omega
 ·constructor
  ·intro h;cases h
  ·omega
set_option maxHeartbeats 4000000 in
theorem possibleM_ok (a k:Int):Enters 20∧Spec prog 20 #[.int .i64 a,.int .i64 k] [] [] (RetV (.bool (posF a k))):=by
 have hpz:=pos_iff a k
 refine ZR [_,_] func20 ntmps20 fun G w hp=>?_
 repeat' (first|refine ZG ?_|refine ZF ?_|refine ZJ ?_|refine ZI ?_|refine ZL ?_|refine ZH ?_|refine ZM ?_|refine ZN (fun b=>?_)|refine ZO (fun b=>?_)|refine ZA ?_|refine ZB ?_|refine ZK ?_|(refine ZC (fun hc=>?_) (fun hc=>?_)<;>(try simp at hc)<;>(try omega))|(refine ZE (fun hc=>?_) (fun hc=>?_)<;>(try simp at hc)<;>(try omega)))
 all_goals refine ZQ () ?_ trivial
 all_goals show Value.bool _=Value.bool _
 all_goals congr 1
 all_goals rw [Bool.eq_iff_iff,hpz]
 all_goals first|(simp;omega)|omega
set_option maxHeartbeats 4000000 in
theorem Wm (a k:Int):Enters 19∧Spec prog 19 #[.int .i64 a,.int .i64 k] [] [] (RetV (.bool (posF a k))):=by
 have hpz:=pos_iff a k
 refine ZR [_,_] func19 ntmps19 fun G w hp=>?_
 repeat' (first|refine ZG ?_|refine ZF ?_|refine ZJ ?_|refine ZI ?_|refine ZL ?_|refine ZH ?_|refine ZM ?_|refine ZN (fun b=>?_)|refine ZO (fun b=>?_)|refine ZA ?_|refine ZB ?_|refine ZK ?_|(refine ZC (fun hc=>?_) (fun hc=>?_)<;>(try simp at hc)<;>(try omega))|(refine ZE (fun hc=>?_) (fun hc=>?_)<;>(try simp at hc)<;>(try omega)))
 all_goals refine ZQ () ?_ trivial
 all_goals show Value.bool _=Value.bool _
 all_goals congr 1
 all_goals rw [Bool.eq_iff_iff,hpz]
 all_goals first|(simp;omega)|omega
theorem line_holds (c:Cq) (hc:CqS c) {M:Nat} (hM:M≤100000) (x:Ru) (hx:RuOK M x) (i:Option IV):Enters 46∧Spec prog 46 #[ruV i x.a,cqa c] [OcF x.c i,MxL] [] (RetV (.bool (condH c x))):=by
 obtain ⟨xc,xa⟩:=x
 cases xc with
 | none=>
  cases i with
  | none=>
   refine ZR [_,_] func46 ntmps46 fun G w hp=>?_
   repeat' (first|refine l_eqI underlying100 (.inl ⟨rfl,rfl⟩) ?_|refine ZG ?_|refine ZF ?_|refine ZJ ?_|refine ZI ?_|refine ZL ?_|refine ZH ?_|refine ZM ?_|refine ZN (fun b=>?_)|refine ZO (fun b=>?_)|refine ZA ?_|refine ZB ?_|refine ZK ?_|(refine ZC (fun hc=>?_) (fun hc=>?_)<;>(try simp at hc)<;>(try omega))|(refine ZE (fun hc=>?_) (fun hc=>?_)<;>(try simp at hc)<;>(try omega)))
   exact ZQ () rfl trivial
  | some iv=>
   refine ⟨enters_of func46 (by kernel_rfl) rfl,fun G w hp hs=>?_⟩
   obtain ⟨hp',hr,st⟩:=hs
   exact absurd (st.f _ (.head _)) id
 | some d=>
  cases i with
  | none=>
   refine ⟨enters_of func46 (by kernel_rfl) rfl,fun G w hp hs=>?_⟩
   obtain ⟨hp',hr,st⟩:=hs
   exact absurd (st.f _ (.head _)) id
  | some iv=>
   obtain ⟨hw,hz,hv⟩:=hx.c d rfl
   have n1:=Wc c hc hM d hw hz (by omega) (ivOf iv)
   have e:condH c ⟨some d,xa⟩=holF c d:=rfl
   rw [e]
   obtain ⟨R,hR⟩:∃R,holF c d=R:=⟨_,rfl⟩
   rw [hR] at n1 ⊢
   obtain ⟨T,u⟩:=iv
   refine ZR [_,_] func46 ntmps46 fun G w hp=>?_
   refine Z6 (F1:=[OcF (some d) (some (T,u))]) (f:=CdF d (ivOf (T,u))) (fun hp hF=>hF _ (.head _)) ?_
   repeat' (first|refine l_eqI underlying100 (.inr ⟨⟨_,_,rfl⟩,rfl⟩) ?_|refine ZG ?_|refine ZF ?_|refine ZJ ?_|refine ZI ?_|refine ZL ?_|refine ZH ?_|refine ZM ?_|refine ZN (fun b=>?_)|refine ZO (fun b=>?_)|refine ZA ?_|refine ZB ?_|refine ZK ?_|refine l_inv n1 (fun _ _=>?_)|(refine ZC (fun hc=>?_) (fun hc=>?_)<;>(try simp at hc)<;>(try omega))|(refine ZE (fun hc=>?_) (fun hc=>?_)<;>(try simp at hc)<;>(try omega)))
   exact ZQ () rfl trivial
theorem rls_open {b:Nat} {l:List Ru} (h:H) (hh:(RlsF b l).p h):∃q:List RI×Option Addr×Nat,q.1.length=l.length∧∀g ∈ [Blk b (.cells #[.slice q.2.1 q.1.length q.2.2] 95),Sl 102 rul q.2.1 q.2.2 q.1,RusF l q.1],g.p h:=by
 obtain ⟨xs,o,cap,h1,h2,h3⟩:=hh
 refine ⟨(xs,o,cap),rusP_len h3,fun g hg=>?_⟩
 simp only [List.mem_cons,List.not_mem_nil,or_false] at hg
 rcases hg with rfl|rfl|rfl
 ·exact h1
 ·exact h2
 ·exact h3
theorem ruLen_ok (b:Nat) (l:List Ru):Enters 23∧Spec prog 23 #[pv0 b] [RlsF b l] [] (RetV (.int .i64 (l.length:Nat))):=by
 refine ZR [_] func23 ntmps23 fun G w hp=>?_
 refine X8 (X:=List RI×Option Addr×Nat) (f:=RlsF b l) .here rls_open (fun q hq=>?_)
 obtain ⟨xs,o,cap⟩:=q
 dsimp only at hq ⊢
 rw [←hq]
 repeat' (first|refine ZG ?_|refine ZF ?_|refine ZJ ?_|refine ZI ?_|refine ZL ?_|refine ZH ?_|refine ZM ?_|refine ZN (fun b=>?_)|refine ZO (fun b=>?_)|refine ZA ?_|refine ZB ?_|refine ZK ?_|(refine ZC (fun hc=>?_) (fun hc=>?_)<;>(try simp at hc)<;>(try omega))|(refine ZE (fun hc=>?_) (fun hc=>?_)<;>(try simp at hc)<;>(try omega)))
 exact ZQ () rfl trivial
def hoV (l:List Ru) (i:Int) (c:Cq):Value:=match (if 0≤i then l[i.toNat]? else none) with
 | some x=>.tuple #[.bool (condH c x),.int .i64 0]
 | none=>.tuple #[.bool false,.int .i64 2]
abbrev DeV (r:Ac×Int):Value:=.tuple #[acV r.1,.int .i64 r.2]
set_option maxHeartbeats 4000000 in
theorem Xn (bp:Nat) (l:List Ru) (c:Cq) (hc:CqI c) (hs:CqS c) {M:Nat} (hM:M≤70000) (hl:∀x ∈ l,RuOK M x) (hn:l.length≤256):Enters 22∧Spec prog 22 #[pv0 bp,cqa c] [RlsF bp l,P10,MxL] [] (RetV (DeV (decideF l c))):=by
 have n1:=ruLen_ok bp l
 have m1:=Wm 5 c.kind
 obtain ⟨V,hV⟩:∃V,DeV (decideF l c)=V:=⟨_,rfl⟩
 rw [hV]
 cases hp:posF 5 c.kind with
 | false=>
  rw [hp] at m1
  unfold decideF at hV
  rw [if_pos hp] at hV
  subst hV
  refine ZR [_,_] func22 ntmps22 fun G w hp=>?_
  repeat' (first|refine ZG ?_|refine ZF ?_|refine ZJ ?_|refine ZI ?_|refine ZL ?_|refine ZH ?_|refine ZM ?_|refine ZN (fun b=>?_)|refine ZO (fun b=>?_)|refine ZA ?_|refine ZB ?_|refine ZK ?_|refine ZD (m1) (fun _ _=>?_)|refine l_call0 (m1) (fun _ _=>?_)|(refine ZC (fun hc=>?_) (fun hc=>?_)<;>(try simp at hc)<;>(try omega))|(refine ZE (fun hc=>?_) (fun hc=>?_)<;>(try simp at hc)<;>(try omega)))
  all_goals exact ZQ () rfl trivial
 | true=>
  rw [hp] at m1
  unfold decideF at hV
  rw [if_neg (by rw [hp];decide)] at hV
  refine ZR [_,_] func22 ntmps22 fun G w hp=>?_
  refine X8 (X:=List RI×Option Addr×Nat) (f:=RlsF bp l) .here rls_open (fun q hq=>?_)
  obtain ⟨xs,o,cap⟩:=q
  dsimp only at hq ⊢
  repeat' (first|refine ZG ?_|refine ZF ?_|refine ZJ ?_|refine ZI ?_|refine ZL ?_|refine ZH ?_|refine ZM ?_|refine ZN (fun b=>?_)|refine ZO (fun b=>?_)|refine ZA ?_|refine ZB ?_|refine ZD (m1) (fun _ _=>?_)|refine l_call0 (m1) (fun _ _=>?_)|refine ZD (n1) (fun _ _=>?_)|refine l_call0 (n1) (fun _ _=>?_)|(refine ZC (fun hc=>?_) (fun hc=>?_)<;>(try simp at hc)<;>(try omega))|(refine ZE (fun hc=>?_) (fun hc=>?_)<;>(try simp at hc)<;>(try omega)))
  rename_i b3 _ _ _ _
  generalize b=b4 at *
  refine Yn (X:={j:Nat // j≤l.length∧DeV (decF c (l.drop j) j)=V}) (fun j=>[(0,pv0 bp),(3,pv0 b3),(4,pv0 b4),(16,.int .i64 (l.length:Int)),(17,.int .i64 (j.1:Int))]) (fun _=>[Blk bp (.cells #[.slice o xs.length cap] 95),Sl 102 rul o cap xs,RusF l xs,P10,MxL]) (fun _=>[Pt b3 (.cells (cqf c).toArray 26),Pt b4 (.cells #[.int .i64 0,.string ⟨#[]⟩] 43)]) (fun j=>l.length - j.1) ⟨0,Nat.zero_le _,hV⟩ ⟨rfl,rfl,rfl,rfl,rfl,trivial⟩ ?_
  rintro ⟨j,hj,hR⟩
  dsimp only at hj hR ⊢
  by_cases hlt:j<l.length
  ·have hxj:=List.getElem?_eq_getElem hlt
   rw [List.drop_eq_getElem_cons hlt] at hR
   have hx:=hl _ (List.getElem_mem hlt)
   generalize l[j]=x at *
   rw [decF] at hR
   have hyj:=List.getElem?_eq_getElem (show j<xs.length by omega)
   generalize xs[j]=y at *
   obtain ⟨iv,a⟩:=y
   have w1:=wrapi (z:=(j:Int)+1) (by omega) (by omega)
   refine X8 (X:=Unit) (Fx:=fun _=>[OcF x.c iv]) (p:=fun _=>x.a=a) (f:=RusF l xs) (.there (.there .here)) (fun h hh=>?_) (fun _ ha=>?_)
   ·obtain ⟨g1,g2⟩:=rusP_get (show RusP h l xs from hh) hxj hyj
    exact ⟨(),g2,fun g hg=>by rcases List.mem_singleton.1 hg with rfl;exact g1⟩
   subst ha
   have m2:=Wm x.a.k c.kind
   have m3:=line_holds c hs (show M≤100000 by omega) x hx iv
   have m4:=ruSize_ok x.a.t c (by have:=hx.t;omega) hc (by have:=exp_sz hx.t hs hc;have:(M+1) * (M+5000)≤70001 * 75000:=Nat.mul_le_mul (by omega) (by omega);omega)
   cases hpo:posF x.a.k c.kind with
   | false=>
    rw [if_pos (.inl hpo)] at hR
    rw [hpo] at m2
    rcases iv with _|⟨T,u⟩
    ·repeat' (first|refine ZG ?_|refine ZF ?_|refine ZJ ?_|refine ZI ?_|refine ZL ?_|refine ZH ?_|refine ZM ?_|refine ZN (fun b=>?_)|refine ZO (fun b=>?_)|refine ZA ?_|refine ZB ?_|refine ZD (m2) (fun _ _=>?_)|refine l_call0 (m2) (fun _ _=>?_)|refine ZD (m3) (fun _ _=>?_)|refine l_call0 (m3) (fun _ _=>?_)|refine ZD (m4) (fun _ _=>?_)|refine l_call0 (m4) (fun _ _=>?_)|refine Zz (es:=xs) (f:=rul) j _ hyj (fun b off=>?_)|refine Zy ?_|rw [w1]|(refine ZC (fun hc=>?_) (fun hc=>?_)<;>(try simp at hc)<;>(try omega))|(refine ZE (fun hc=>?_) (fun hc=>?_)<;>(try simp at hc)<;>(try omega)))
     all_goals exact ZZ ⟨j+1,by show j+1≤l.length;omega,hR⟩ (by show l.length - (j+1)<l.length - j;omega) ⟨rfl,rfl,rfl,rfl,rfl,trivial⟩
    ·repeat' (first|refine ZG ?_|refine ZF ?_|refine ZJ ?_|refine ZI ?_|refine ZL ?_|refine ZH ?_|refine ZM ?_|refine ZN (fun b=>?_)|refine ZO (fun b=>?_)|refine ZA ?_|refine ZB ?_|refine ZD (m2) (fun _ _=>?_)|refine l_call0 (m2) (fun _ _=>?_)|refine ZD (m3) (fun _ _=>?_)|refine l_call0 (m3) (fun _ _=>?_)|refine ZD (m4) (fun _ _=>?_)|refine l_call0 (m4) (fun _ _=>?_)|refine Zz (es:=xs) (f:=rul) j _ hyj (fun b off=>?_)|refine Zy ?_|rw [w1]|(refine ZC (fun hc=>?_) (fun hc=>?_)<;>(try simp at hc)<;>(try omega))|(refine ZE (fun hc=>?_) (fun hc=>?_)<;>(try simp at hc)<;>(try omega)))
     all_goals exact ZZ ⟨j+1,by show j+1≤l.length;omega,hR⟩ (by show l.length - (j+1)<l.length - j;omega) ⟨rfl,rfl,rfl,rfl,rfl,trivial⟩
   | true=>
    rw [hpo] at m2
    cases hh:condH c x with
    | false=>
     rw [if_pos (.inr hh)] at hR
     rw [hh] at m3
     rcases iv with _|⟨T,u⟩
     ·repeat' (first|refine ZG ?_|refine ZF ?_|refine ZJ ?_|refine ZI ?_|refine ZL ?_|refine ZH ?_|refine ZM ?_|refine ZN (fun b=>?_)|refine ZO (fun b=>?_)|refine ZA ?_|refine ZB ?_|refine ZD (m2) (fun _ _=>?_)|refine l_call0 (m2) (fun _ _=>?_)|refine ZD (m3) (fun _ _=>?_)|refine l_call0 (m3) (fun _ _=>?_)|refine ZD (m4) (fun _ _=>?_)|refine l_call0 (m4) (fun _ _=>?_)|refine Zz (es:=xs) (f:=rul) j _ hyj (fun b off=>?_)|refine Zy ?_|rw [w1]|(refine ZC (fun hc=>?_) (fun hc=>?_)<;>(try simp at hc)<;>(try omega))|(refine ZE (fun hc=>?_) (fun hc=>?_)<;>(try simp at hc)<;>(try omega)))
      all_goals exact ZZ ⟨j+1,by show j+1≤l.length;omega,hR⟩ (by show l.length - (j+1)<l.length - j;omega) ⟨rfl,rfl,rfl,rfl,rfl,trivial⟩
     ·repeat' (first|refine ZG ?_|refine ZF ?_|refine ZJ ?_|refine ZI ?_|refine ZL ?_|refine ZH ?_|refine ZM ?_|refine ZN (fun b=>?_)|refine ZO (fun b=>?_)|refine ZA ?_|refine ZB ?_|refine ZD (m2) (fun _ _=>?_)|refine l_call0 (m2) (fun _ _=>?_)|refine ZD (m3) (fun _ _=>?_)|refine l_call0 (m3) (fun _ _=>?_)|refine ZD (m4) (fun _ _=>?_)|refine l_call0 (m4) (fun _ _=>?_)|refine Zz (es:=xs) (f:=rul) j _ hyj (fun b off=>?_)|refine Zy ?_|rw [w1]|(refine ZC (fun hc=>?_) (fun hc=>?_)<;>(try simp at hc)<;>(try omega))|(refine ZE (fun hc=>?_) (fun hc=>?_)<;>(try simp at hc)<;>(try omega)))
      all_goals exact ZZ ⟨j+1,by show j+1≤l.length;omega,hR⟩ (by show l.length - (j+1)<l.length - j;omega) ⟨rfl,rfl,rfl,rfl,rfl,trivial⟩
    | true=>
     rw [if_neg (fun h=>h.elim (fun h=>by rw [hpo] at h;cases h) (fun h=>by rw [hh] at h;cases h))] at hR
     rw [hh] at m3
     by_cases hk:x.a.k=2
     ·rw [if_neg (fun h=>h hk)] at hR
      by_cases hz:4096<(expF x.a.t c).size
      ·rw [if_pos hz] at hR
       subst hR
       rcases iv with _|⟨T,u⟩
       ·repeat' (first|refine ZG ?_|refine ZF ?_|refine ZJ ?_|refine ZI ?_|refine ZL ?_|refine ZH ?_|refine ZM ?_|refine ZN (fun b=>?_)|refine ZO (fun b=>?_)|refine ZA ?_|refine ZB ?_|refine ZK ?_|refine ZD (m2) (fun _ _=>?_)|refine l_call0 (m2) (fun _ _=>?_)|refine ZD (m3) (fun _ _=>?_)|refine l_call0 (m3) (fun _ _=>?_)|refine ZD (m4) (fun _ _=>?_)|refine l_call0 (m4) (fun _ _=>?_)|refine Zz (es:=xs) (f:=rul) j _ hyj (fun b off=>?_)|refine Zy ?_|rw [w1]|(refine ZC (fun hc=>?_) (fun hc=>?_)<;>(try simp at hc)<;>(try omega))|(refine ZE (fun hc=>?_) (fun hc=>?_)<;>(try simp at hc)<;>(try omega)))
        all_goals exact ZQ () rfl trivial
       ·repeat' (first|refine ZG ?_|refine ZF ?_|refine ZJ ?_|refine ZI ?_|refine ZL ?_|refine ZH ?_|refine ZM ?_|refine ZN (fun b=>?_)|refine ZO (fun b=>?_)|refine ZA ?_|refine ZB ?_|refine ZK ?_|refine ZD (m2) (fun _ _=>?_)|refine l_call0 (m2) (fun _ _=>?_)|refine ZD (m3) (fun _ _=>?_)|refine l_call0 (m3) (fun _ _=>?_)|refine ZD (m4) (fun _ _=>?_)|refine l_call0 (m4) (fun _ _=>?_)|refine Zz (es:=xs) (f:=rul) j _ hyj (fun b off=>?_)|refine Zy ?_|rw [w1]|(refine ZC (fun hc=>?_) (fun hc=>?_)<;>(try simp at hc)<;>(try omega))|(refine ZE (fun hc=>?_) (fun hc=>?_)<;>(try simp at hc)<;>(try omega)))
        all_goals exact ZQ () rfl trivial
      ·rw [if_neg hz] at hR
       have m5:=Wp x.a.t c (by have:=hx.t;omega) hc (by omega)
       rw [hx.a.2.2.1 hk] at m5
       have hR':DeV (⟨2,expF x.a.t c⟩,(j:Int))=V:=hR
       subst hR'
       rcases iv with _|⟨T,u⟩
       ·repeat' (first|refine ZG ?_|refine ZF ?_|refine ZJ ?_|refine ZI ?_|refine ZL ?_|refine ZH ?_|refine ZM ?_|refine ZN (fun b=>?_)|refine ZO (fun b=>?_)|refine ZA ?_|refine ZB ?_|refine ZD (m2) (fun _ _=>?_)|refine l_call0 (m2) (fun _ _=>?_)|refine ZD (m3) (fun _ _=>?_)|refine l_call0 (m3) (fun _ _=>?_)|refine ZD (m4) (fun _ _=>?_)|refine l_call0 (m4) (fun _ _=>?_)|refine ZD (m5) (fun _ _=>?_)|refine l_call0 (m5) (fun _ _=>?_)|refine Zz (es:=xs) (f:=rul) j _ hyj (fun b off=>?_)|refine Zy ?_|rw [w1]|(refine ZC (fun hc=>?_) (fun hc=>?_)<;>(try simp at hc)<;>(try omega))|(refine ZE (fun hc=>?_) (fun hc=>?_)<;>(try simp at hc)<;>(try omega)))
        all_goals exact YF (YW (Z1 () rfl trivial))
       ·repeat' (first|refine ZG ?_|refine ZF ?_|refine ZJ ?_|refine ZI ?_|refine ZL ?_|refine ZH ?_|refine ZM ?_|refine ZN (fun b=>?_)|refine ZO (fun b=>?_)|refine ZA ?_|refine ZB ?_|refine ZD (m2) (fun _ _=>?_)|refine l_call0 (m2) (fun _ _=>?_)|refine ZD (m3) (fun _ _=>?_)|refine l_call0 (m3) (fun _ _=>?_)|refine ZD (m4) (fun _ _=>?_)|refine l_call0 (m4) (fun _ _=>?_)|refine ZD (m5) (fun _ _=>?_)|refine l_call0 (m5) (fun _ _=>?_)|refine Zz (es:=xs) (f:=rul) j _ hyj (fun b off=>?_)|refine Zy ?_|rw [w1]|(refine ZC (fun hc=>?_) (fun hc=>?_)<;>(try simp at hc)<;>(try omega))|(refine ZE (fun hc=>?_) (fun hc=>?_)<;>(try simp at hc)<;>(try omega)))
        all_goals exact YF (YW (Z1 () rfl trivial))
     ·rw [if_pos hk] at hR
      subst hR
      rcases iv with _|⟨T,u⟩
      ·repeat' (first|refine ZG ?_|refine ZF ?_|refine ZJ ?_|refine ZI ?_|refine ZL ?_|refine ZH ?_|refine ZM ?_|refine ZN (fun b=>?_)|refine ZO (fun b=>?_)|refine ZA ?_|refine ZB ?_|refine ZD (m2) (fun _ _=>?_)|refine l_call0 (m2) (fun _ _=>?_)|refine ZD (m3) (fun _ _=>?_)|refine l_call0 (m3) (fun _ _=>?_)|refine ZD (m4) (fun _ _=>?_)|refine l_call0 (m4) (fun _ _=>?_)|refine Zz (es:=xs) (f:=rul) j _ hyj (fun b off=>?_)|refine Zy ?_|rw [w1]|(refine ZC (fun hc=>?_) (fun hc=>?_)<;>(try simp at hc)<;>(try omega))|(refine ZE (fun hc=>?_) (fun hc=>?_)<;>(try simp at hc)<;>(try omega)))
       all_goals exact YF (YW (Z1 () rfl trivial))
      ·repeat' (first|refine ZG ?_|refine ZF ?_|refine ZJ ?_|refine ZI ?_|refine ZL ?_|refine ZH ?_|refine ZM ?_|refine ZN (fun b=>?_)|refine ZO (fun b=>?_)|refine ZA ?_|refine ZB ?_|refine ZD (m2) (fun _ _=>?_)|refine l_call0 (m2) (fun _ _=>?_)|refine ZD (m3) (fun _ _=>?_)|refine l_call0 (m3) (fun _ _=>?_)|refine ZD (m4) (fun _ _=>?_)|refine l_call0 (m4) (fun _ _=>?_)|refine Zz (es:=xs) (f:=rul) j _ hyj (fun b off=>?_)|refine Zy ?_|rw [w1]|(refine ZC (fun hc=>?_) (fun hc=>?_)<;>(try simp at hc)<;>(try omega))|(refine ZE (fun hc=>?_) (fun hc=>?_)<;>(try simp at hc)<;>(try omega)))
       all_goals exact YF (YW (Z1 () rfl trivial))
  ·rw [List.drop_eq_nil_of_le (by omega)] at hR
   subst hR
   repeat' (first|refine ZG ?_|refine ZF ?_|refine ZJ ?_|refine ZI ?_|refine ZL ?_|refine ZH ?_|refine ZM ?_|refine ZN (fun b=>?_)|refine ZO (fun b=>?_)|refine ZA ?_|refine ZB ?_|refine ZK ?_|(refine ZC (fun hc=>?_) (fun hc=>?_)<;>(try simp at hc)<;>(try omega))|(refine ZE (fun hc=>?_) (fun hc=>?_)<;>(try simp at hc)<;>(try omega)))
   exact ZQ () rfl trivial
def eqA:List Nat:=[43]
theorem eqA_ok:eqA.all chkE=true:=by decide +kernel
section
variable {xs ys:Array Value}
theorem l_seqA {b:Bool} (nx:Wl n C ops.toArray k Q l ((d,.bool b)::E) F R) (hw:wantL ops E ⟨some d,.binOp .eql t x y t2,ty0,pos,aft,gd⟩=some true:=by rfl) (hn:Nat.blt d n=true:=by rfl)
  (hx:ev E x=some (.agg xs):=by rfl) (hy:ev E y=some (.agg ys):=by rfl) (hm:memN eqA t=true:=by rfl) (he:eqC eqA 20 t (.agg xs) (.agg ys)=some b:=by rfl):Wl n C ops.toArray k Q (⟨some d,.binOp .eql t x y t2,ty0,pos,aft,gd⟩::l) E F R:=
 l_q (fun a w ha=>by
  have hc:=List.all_eq_true.1 eqA_ok t (memN_mem hm)
  simp only [chkE,Bool.and_eq_true,beq_iff_eq] at hc
  have h1:=eqC_ok eqA_ok 20 10000 t _ _ b w (by omega) he
  simp only [execOp,ha.ev (x:=x) (by rw [ZP];exact hx),ha.ev (x:=y) (by rw [ZP];exact hy),Sem.run_bind,run_eqGuard_agg w .eql t x y xs ys hc.2,Result.andThen,run_eql_struct,h1,Sem.run_pure]) nx (by intro c h;cases h) hw hn
end
theorem kc_i:CqI kc1∧CqI kc2∧CqI kc3:=by refine ⟨?_,?_,?_⟩<;>constructor<;>decide
theorem kc_s:CqS kc1∧CqS kc2∧CqS kc3:=by refine ⟨?_,?_,?_⟩<;>constructor<;>decide
set_option maxHeartbeats 4000000 in
theorem known51_ok:Enters 17∧Spec prog 17 #[] [ErA,P10,MxL] [] (RetV (.bool true)):=by
 have n1:=ruParse_ok knS (by decide)
 rw [kn_par] at n1
 obtain ⟨h1,h2⟩:=par_ok kn_par
 have hz:knS.size≤70000:=by decide
 have d1:=fun b=>Xn b knL kc1 kc_i.1 kc_s.1 hz h2 h1
 have d2:=fun b=>Xn b knL kc2 kc_i.2.1 kc_s.2.1 hz h2 h1
 have d3:=fun b=>Xn b knL kc3 kc_i.2.2 kc_s.2.2 hz h2 h1
 rw [kn_1] at d1;rw [kn_2] at d2;rw [kn_3] at d3
 have l1:=fun b=>ruLen_ok b knL
 rw [show knL.length=3 from rfl] at l1
 generalize knL=l at *
 have bX:(knX.toList == (⟨#[80,108,101,97,115,101,32,105,103,110,111,114,101,32,116,104,101,32,109,97,105,108,32,116,111,32,97,64,98,46]⟩:ByteArray).toList)=true:=beqT rfl
 refine ZR [] func17 ntmps17 fun G w hp=>?_
 repeat' (first|rw [bX]|refine ZG ?_|refine ZF ?_|refine ZJ ?_|refine ZI ?_|refine ZL ?_|refine ZH ?_|refine ZM ?_|refine ZN (fun b=>?_)|refine ZO (fun b=>?_)|refine ZA ?_|refine ZB ?_|refine ZK ?_|refine ZD (n1) (fun _ _=>?_)|refine l_call0 (n1) (fun _ _=>?_)|refine ZD (l1 _) (fun _ _=>?_)|refine l_call0 (l1 _) (fun _ _=>?_)|refine ZD (d1 _) (fun _ _=>?_)|refine l_call0 (d1 _) (fun _ _=>?_)|refine ZD (d2 _) (fun _ _=>?_)|refine l_call0 (d2 _) (fun _ _=>?_)|refine ZD (d3 _) (fun _ _=>?_)|refine l_call0 (d3 _) (fun _ _=>?_)|refine l_seqA ?_|(refine ZC (fun hc=>?_) (fun hc=>?_)<;>(try simp at hc)<;>(try omega))|(refine ZE (fun hc=>?_) (fun hc=>?_)<;>(try simp at hc)<;>(try omega)))
 all_goals exact ZQ () rfl trivial
theorem ext_mid {s u:ByteArray} {lo hi:Nat} (h:(s.data.toList.take hi).drop lo=u.data.toList):s.extract lo hi=u:=YO (by
 rw [←h]
 simp only [ByteArray.data_extract,Array.toList_extract]
 rw [List.extract_eq_take_drop,List.drop_take])
variable {z:Operand}
section
variable {y2:Operand}
theorem run_smid {s:ByteArray} {z1 z2:Int} {rs:TRow} {w:World} (lo hi:Nat) (hlo:lo≤hi) (hle:hi≤s.size) (hts:lookT tab t=some rs) (hrs:rs.k = .str) (h1:z1=(lo:Int)) (h2:z2=(hi:Int)):(Instr.sliceAt t (.string s) (some (.int .i64 z1)) (some (.int .i64 z2)) none).run prog w = .ok (.string (s.extract lo hi)) w:=by
 subst h1 h2
 have hu:=Yx (w:=w) hts hrs
 have hb:(Instr.sliceBound (.int .i64 (hi:Int)) s.size .sliceAlen).run prog w = .ok hi w:=by
  simp only [Instr.sliceBound,asIntOf,Sem.run_bind,Sem.run_pure,Result.andThen]
  rw [if_pos ⟨by omega,by omega⟩]
  simp
 have hc:(Instr.sliceBound (.int .i64 (lo:Int)) hi .sliceB).run prog w = .ok lo w:=by
  simp only [Instr.sliceBound,asIntOf,Sem.run_bind,Sem.run_pure,Result.andThen]
  rw [if_pos ⟨by omega,by omega⟩]
  simp
 simp [Instr.sliceAt,Instr.slice,Instr.sliceBounds,Sem.run_bind,hu,Result.andThen,hb,hc]
theorem XG {s u:ByteArray} {z1 z2:Int} {rs:TRow} (lo hi:Nat) (hlo:lo≤hi) (hle:hi≤s.size) (hu:(s.data.toList.take hi).drop lo=u.data.toList) (nx:Wl n C ops.toArray k Q l ((d,.string u)::E) F R)
  (hw:wantL ops E ⟨some d,.slice t x (some y) (some y2) none,ty0,pos,aft,gd⟩=some true:=by rfl) (hn:Nat.blt d n=true:=by rfl) (hx:ev E x=some (.string s):=by rfl) (hy:ev E y=some (.int .i64 z1):=by rfl) (hy2:ev E y2=some (.int .i64 z2):=by rfl)
  (hts:lookT tab t=some rs:=by rfl) (hrs:rs.k = .str:=by rfl) (h1:z1=(lo:Int):=by first|rfl|omega) (h2:z2=(hi:Int):=by first|rfl|omega):Wl n C ops.toArray k Q (⟨some d,.slice t x (some y) (some y2) none,ty0,pos,aft,gd⟩::l) E F R:=
 l_q (fun a w ha=>by
  simp only [execOp,Option.map_some,Option.map_none,ha.ev (x:=x) (by rw [ZP];exact hx),ha.ev (x:=y) (by rw [ZP];exact hy),ha.ev (x:=y2) (by rw [ZP];exact hy2),Sem.run_bind,run_smid (w:=w) lo hi hlo hle hts hrs h1 h2,Result.andThen,Sem.run_pure,ext_mid hu]) nx (by intro c h;cases h) hw hn
end
theorem blk_sl {α:Type} {b:Nat} {cs:Array Value} {T U:Nat} {f:α→List Value} {es:List α} {cap:Nat} {h:H} (hb:(Blk b (.cells cs U)).p h) (e:cs.toList=es.flatMap f) (hc:es.length≤cap):(Sl T f (some ⟨b,0,none⟩) cap es).p h:=
 ⟨hc,.inr ⟨b,cs,(U,0,0),[],[],rfl,hb,by rw [e];simp⟩⟩
def tmZ (o:Option Nat):Value:=match o with
 | none=>.int .i64 (-1)
 | some i=>.int .i64 (i:Int)
abbrev skl (s:ByteArray):List Value:=[.string s]
def fldP (r:List UInt8) (j:Nat):Nat:=(wFlds.take j).foldl (fun n w=>if (w.data.toList++[125]).isPrefixOf r then w.size+1 else n) 0
theorem fldP_end (r:List UInt8):fldP r 7=fldAt r:=rfl
theorem fldP_step {r:List UInt8} {j:Nat} {w:ByteArray} (h:wFlds[j]? = some w):fldP r (j+1)=if (w.data.toList++[125]).isPrefixOf r then w.size+1 else fldP r j:=by
 unfold fldP
 obtain ⟨hlt,he⟩:=List.getElem?_eq_some_iff.1 h
 rw [List.take_succ_eq_append_getElem hlt,List.foldl_append,he]
 rfl
theorem fld_pre3 {s w:ByteArray} {i:Nat}:(w.data.toList++[125]).isPrefixOf (s.data.toList.drop (i+1))=true↔i+w.size+2≤s.size∧(s.extract (i+1) (i+1+w.size)).toList=w.toList∧s.data.toList[i+1+w.size]? = some 125:=by
 have hw:w.data.toList.length=w.size:=lsz w
 have hs:s.data.toList.length=s.size:=lsz s
 rw [List.isPrefixOf_iff_prefix,Yo]
 have e1:(s.extract (i+1) (i+1+w.size)).data.toList=(s.data.toList.drop (i+1)).take w.size:=by
  rw [ByteArray.data_extract,Array.toList_extract,List.extract_eq_take_drop];congr 1;omega
 constructor
 ·rintro ⟨t,ht⟩
  have hl:=congrArg List.length ht
  simp only [List.length_append,List.length_drop,List.length_singleton] at hl
  refine ⟨by omega,?_,?_⟩
  ·apply YO;rw [e1,←ht,List.append_assoc,List.take_append_of_le_length (by omega),←hw,List.take_length]
  ·rw [←List.getElem?_drop,←ht,List.append_assoc,List.getElem?_append_right (by omega),hw];simp
 ·rintro ⟨h1,h2,h3⟩
  have h2:(s.extract (i+1) (i+1+w.size)).data.toList=w.data.toList:=by rw [h2]
  rw [e1] at h2
  rw [←List.getElem?_drop] at h3
  refine ⟨(s.data.toList.drop (i+1)).drop (w.size+1),?_⟩
  obtain ⟨h4,h5⟩:=List.getElem?_eq_some_iff.1 h3
  have h6:=List.drop_eq_getElem_cons h4
  rw [h5] at h6
  rw [List.append_assoc,List.singleton_append,←h6,←h2,List.take_append_drop]
set_option maxHeartbeats 4000000 in
theorem templateM_ok (s:ByteArray) (hs:s.size≤1000000):Enters 16∧Spec prog 16 #[.string s] [] [] (RetV (tmZ (tmF s.data.toList 0 0))):=by
 have hsz:=lsz s
 obtain ⟨V,hV⟩:∃V,tmZ (tmF s.data.toList 0 0)=V:=⟨_,rfl⟩
 rw [hV]
 refine ZR [_] func16 ntmps16 fun G w hp=>?_
 repeat' (first|refine ZG ?_|refine ZF ?_|refine ZJ ?_|refine ZI ?_|refine ZL ?_|refine ZH ?_|refine ZM ?_|refine ZN (fun b=>?_)|refine ZO (fun b=>?_)|refine ZA ?_|refine ZB ?_|(refine ZC (fun hc=>?_) (fun hc=>?_)<;>(try simp at hc))|(refine ZE (fun hc=>?_) (fun hc=>?_)<;>(try simp at hc)))
 refine Yn (X:={i:Nat // i≤s.size∧tmZ (tmF (s.data.toList.drop i) 0 i)=V}) (fun i=>[(0,.string s),(3,.int .i64 (i.1:Int))]) (fun _=>[]) (fun _=>[]) (fun i=>s.size - i.1) ⟨0,Nat.zero_le _,hV⟩ ⟨rfl,rfl,trivial⟩ ?_
 rintro ⟨i,hi,hR⟩
 dsimp only at hi hR ⊢
 by_cases hlt:i<s.data.toList.length
 ·have hcc:=List.getElem?_eq_getElem hlt
  have hdr:=List.drop_eq_getElem_cons hlt
  generalize hce:s.data.toList[i]=c at *
  have hlt2:i<s.size:=by omega
  rw [hdr] at hR
  have w1:=wrapi (z:=(i:Int)+1) (by omega) (by omega)
  have w2:=wrapi (z:=(i:Int)+1+1) (by omega) (by omega)
  have hd2:(s.data.toList.drop (i+1)).drop 1=s.data.toList.drop (i+2):=by rw [List.drop_drop]
  have two:∀(p:s.size ≥ i+2),tmZ (tmF (s.data.toList.drop (i+1)) 1 (i+1))=V→tmZ (tmF (s.data.toList.drop (i+2)) 0 (i+2))=V:=fun _ h=>by rw [YJ,hd2] at h;exact h
  by_cases c1:c=125
  ·have k1:(c.toNat:Int)=125:=by rw [c1];rfl
   rw [tmF,if_pos c1] at hR
   by_cases hlt3:i+1<s.data.toList.length
   ·have hcd:=List.getElem?_eq_getElem hlt3
    have hhd:(s.data.toList.drop (i+1)).head? = some s.data.toList[i+1]:=by rw [List.head?_drop];exact hcd
    generalize hde:s.data.toList[i+1]=d at *
    have hlt4:i+1<s.size:=by omega
    rw [hhd] at hR
    by_cases d1:d=125
    ·have k2:(d.toNat:Int)=125:=by rw [d1];rfl
     rw [if_pos (by rw [d1])] at hR
     repeat' (first|refine Zh (s:=s) (i+1) d hcd ?_|refine Zh (s:=s) i c hcc ?_|refine ZG ?_|refine ZF ?_|refine ZJ ?_|refine ZI ?_|refine ZL ?_|refine ZH ?_|refine ZM ?_|refine ZN (fun b=>?_)|refine ZO (fun b=>?_)|refine ZA ?_|refine ZB ?_|rw [w1]|rw [w2]|(refine ZC (fun hc=>?_) (fun hc=>?_)<;>(try simp at hc)<;>(try omega))|(refine ZE (fun hc=>?_) (fun hc=>?_)<;>(try simp at hc)<;>(try omega)))
     all_goals exact ZZ ⟨i+2,by show i+2≤s.size;omega,two (by omega) hR⟩ (by show s.size - (i+2)<s.size - i;omega) ⟨rfl,rfl,trivial⟩
    ·have k2:¬(d.toNat:Int)=125:=fun h=>d1 ((u8i (k:=125) (by decide)).2 h)
     rw [if_neg (by simpa using d1)] at hR
     subst hR
     repeat' (first|refine Zh (s:=s) (i+1) d hcd ?_|refine Zh (s:=s) i c hcc ?_|refine ZG ?_|refine ZF ?_|refine ZJ ?_|refine ZI ?_|refine ZL ?_|refine ZH ?_|refine ZM ?_|refine ZN (fun b=>?_)|refine ZO (fun b=>?_)|refine ZA ?_|refine ZB ?_|rw [w1]|rw [w2]|(refine ZC (fun hc=>?_) (fun hc=>?_)<;>(try simp at hc)<;>(try omega))|(refine ZE (fun hc=>?_) (fun hc=>?_)<;>(try simp at hc)<;>(try omega)))
     all_goals exact YF (YW (Z1 () rfl trivial))
   ·have hd:s.data.toList.drop (i+1)=[]:=List.drop_eq_nil_of_le (by omega)
    have hlt4:¬i+1<s.size:=by omega
    rw [hd] at hR
    rw [if_neg (by simp)] at hR
    subst hR
    repeat' (first|refine Zh (s:=s) i c hcc ?_|refine ZG ?_|refine ZF ?_|refine ZJ ?_|refine ZI ?_|refine ZL ?_|refine ZH ?_|refine ZM ?_|refine ZN (fun b=>?_)|refine ZO (fun b=>?_)|refine ZA ?_|refine ZB ?_|rw [w1]|(refine ZC (fun hc=>?_) (fun hc=>?_)<;>(try simp at hc)<;>(try omega))|(refine ZE (fun hc=>?_) (fun hc=>?_)<;>(try simp at hc)<;>(try omega)))
    all_goals exact YF (YW (Z1 () rfl trivial))
  have k1:¬(c.toNat:Int)=125:=fun h=>c1 ((u8i (k:=125) (by decide)).2 h)
  rw [tmF,if_neg c1] at hR
  by_cases c2:c=123
  ·have k3:(c.toNat:Int)=123:=by rw [c2];rfl
   rw [if_pos c2] at hR
   by_cases hx:(s.data.toList.drop (i+1)).head? = some 123
   ·rw [if_pos hx] at hR
    have hcd:s.data.toList[i+1]? = some 123:=by rw [←hx,List.head?_drop]
    have hlt4:i+1<s.size:=by
     have:=(List.getElem?_eq_some_iff.1 hcd).1;omega
    repeat' (first|refine Zh (s:=s) (i+1) 123 hcd ?_|refine Zh (s:=s) i c hcc ?_|refine ZG ?_|refine ZF ?_|refine ZJ ?_|refine ZI ?_|refine ZL ?_|refine ZH ?_|refine ZM ?_|refine ZN (fun b=>?_)|refine ZO (fun b=>?_)|refine ZA ?_|refine ZB ?_|rw [w1]|rw [w2]|(refine ZC (fun hc=>?_) (fun hc=>?_)<;>(try simp at hc)<;>(try omega))|(refine ZE (fun hc=>?_) (fun hc=>?_)<;>(try simp at hc)<;>(try omega)))
    all_goals exact ZZ ⟨i+2,by show i+2≤s.size;omega,two (by omega) hR⟩ (by show s.size - (i+2)<s.size - i;omega) ⟨rfl,rfl,trivial⟩
   ·rw [if_neg hx] at hR
    have hd1:∀d:UInt8,s.data.toList[i+1]? = some d→¬(d.toNat:Int)=123:=fun d hd h=>hx (by
     rw [List.head?_drop,hd,(u8i (k:=123) (by decide)).2 h];rfl)
    by_cases hlt3:i+1<s.data.toList.length
    ·have hcd:=List.getElem?_eq_getElem hlt3
     have k4:=hd1 _ hcd
     generalize hde:s.data.toList[i+1]=d at *
     have hlt4:i+1<s.size:=by omega
     repeat' (first|refine Zh (s:=s) (i+1) d hcd ?_|refine Zh (s:=s) i c hcc ?_|refine ZG ?_|refine ZF ?_|refine ZJ ?_|refine ZI ?_|refine ZL ?_|refine ZH ?_|refine ZM ?_|refine ZN (fun b=>?_)|refine ZO (fun b=>?_)|refine ZA ?_|refine ZB ?_|rw [w1]|rw [w2]|(refine ZC (fun hc=>?_) (fun hc=>?_)<;>(try simp at hc)<;>(try omega))|(refine ZE (fun hc=>?_) (fun hc=>?_)<;>(try simp at hc)<;>(try omega)))
     rename_i b
     refine k_fz (b:=b) (o:=.cells (wFlds.map Value.string).toArray 9) ?_
     refine Z6 (F1:=[Blk b (.cells (wFlds.map Value.string).toArray 9)]) (f:=Sl 9 skl (some ⟨b,0,none⟩) 7 wFlds) (fun hp hF=>blk_sl (hF _ (.head _)) rfl (by decide)) ?_
     refine Yn (X:={q:Nat×Nat // q.1≤7∧q.2=fldP (s.data.toList.drop (i+1)) q.1}) (fun q=>[(0,.string s),(3,.int .i64 (i:Int)),(4,.int .i64 (q.1.2:Int)),(50,.slice (some ⟨b,0,none⟩) 7 7),(51,.int .i64 7),(52,.int .i64 (q.1.1:Int))]) (fun _=>[Sl 9 skl (some ⟨b,0,none⟩) 7 wFlds]) (fun _=>[]) (fun q=>7 - q.1.1) ⟨(0,0),Nat.zero_le _,rfl⟩ ⟨rfl,rfl,rfl,rfl,rfl,rfl,trivial⟩ ?_
     rintro ⟨⟨j,m⟩,hj,hm⟩
     dsimp only at hj hm ⊢
     have fin:tmZ (if m=0 then some i else tmF ((s.data.toList.drop (i+1)).drop m) 0 (i+1+m))=V∧m≤s.size - i - 1∨j<7:=by
      by_cases hj7:j<7
      ·exact .inr hj7
      ·obtain rfl:j=7:=by omega
       rw [fldP_end] at hm
       subst hm
       have hfe:=WZ (s.data.toList.drop (i+1))
       refine .inl ⟨?_,?_⟩
       ·rw [←hR]
        cases fldAt (s.data.toList.drop (i+1)) with
        | zero=>rfl
        | succ k=>
         rw [if_neg (by omega)]
         show tmZ _=tmZ (tmF _ (k+1) (i+1))
         rw [YJ _ (k+1)]
       ·rw [hfe]
        split
        ·rename_i h;have:=h.1;rw [List.length_drop] at this;omega
        ·omega
     by_cases hj7:j<7
     ·have hw:=List.getElem?_eq_getElem (l:=wFlds) hj7
      have hwz:wFlds[j].size≤6:=(by decide:∀w ∈ wFlds,w.size≤6) _ (List.getElem_mem hj7)
      generalize wFlds[j]=w at *
      have hst:=fldP_step (r:=s.data.toList.drop (i+1)) hw
      have hp3:=fld_pre3 (s:=s) (w:=w) (i:=i)
      have w3:=wrapi (z:=(i:Int)+(w.size:Int)) (by omega) (by omega)
      have w4:=wrapi (z:=(i:Int)+(w.size:Int)+2) (by omega) (by omega)
      have w5:=wrapi (z:=(i:Int)+1+(w.size:Int)) (by omega) (by omega)
      have w6:=wrapi (z:=(j:Int)+1) (by omega) (by omega)
      have w7:=wrapi (z:=(w.size:Int)+1) (by omega) (by omega)
      have hu:(s.data.toList.take (i+1+w.size)).drop (i+1)=(s.extract (i+1) (i+1+w.size)).data.toList:=by
       rw [ByteArray.data_extract,Array.toList_extract,List.extract_eq_take_drop,List.drop_take]
      by_cases q1:i+w.size+2≤s.size
      ·have q1':¬(s.size:Int)<(i:Int)+(w.size:Int)+2:=by omega
       have hlt7:i+1+w.size<s.data.toList.length:=by omega
       have hcd7:=List.getElem?_eq_getElem hlt7
       generalize s.data.toList[i+1+w.size]=d7 at *
       generalize hue:s.extract (i+1) (i+1+w.size)=u at *
       by_cases q2:u=w
       ·have b2:=beqT q2
        by_cases q3:d7=125
        ·have k7:(d7.toNat:Int)=125:=by rw [q3];rfl
         rw [if_pos (hp3.2 ⟨q1,by rw [q2],by rw [hcd7,q3]⟩)] at hst
         repeat' (first|rw [b2]|refine Zh (s:=s) (i+1+w.size) d7 hcd7 ?_|refine XG (s:=s) (u:=u) (i+1) (i+1+w.size) (by omega) (by omega) hu ?_|refine Zy ?_|refine Zz (es:=wFlds) (f:=skl) j _ hw (fun b off=>?_)|refine ZG ?_|refine ZF ?_|refine ZJ ?_|refine ZI ?_|refine ZL ?_|refine ZH ?_|refine ZM ?_|refine ZN (fun b=>?_)|refine ZO (fun b=>?_)|refine ZA ?_|refine ZB ?_|rw [w1]|rw [w3]|rw [w4]|rw [w5]|rw [w6]|rw [w7]|(refine ZC (fun hc=>?_) (fun hc=>?_)<;>(try simp at hc)<;>(try omega))|(refine ZE (fun hc=>?_) (fun hc=>?_)<;>(try simp at hc)<;>(try omega)))
         all_goals exact ZZ ⟨(j+1,w.size+1),by show j+1≤7;omega,hst.symm⟩ (by show 7 - (j+1)<7 - j;omega) ⟨rfl,rfl,rfl,rfl,rfl,rfl,trivial⟩
        ·have k7:¬(d7.toNat:Int)=125:=fun h=>q3 ((u8i (k:=125) (by decide)).2 h)
         rw [if_neg (fun h=>q3 (Option.some.inj (hcd7.symm.trans (hp3.1 h).2.2)))] at hst
         repeat' (first|rw [b2]|refine Zh (s:=s) (i+1+w.size) d7 hcd7 ?_|refine XG (s:=s) (u:=u) (i+1) (i+1+w.size) (by omega) (by omega) hu ?_|refine Zy ?_|refine Zz (es:=wFlds) (f:=skl) j _ hw (fun b off=>?_)|refine ZG ?_|refine ZF ?_|refine ZJ ?_|refine ZI ?_|refine ZL ?_|refine ZH ?_|refine ZM ?_|refine ZN (fun b=>?_)|refine ZO (fun b=>?_)|refine ZA ?_|refine ZB ?_|rw [w1]|rw [w3]|rw [w4]|rw [w5]|rw [w6]|rw [w7]|(refine ZC (fun hc=>?_) (fun hc=>?_)<;>(try simp at hc)<;>(try omega))|(refine ZE (fun hc=>?_) (fun hc=>?_)<;>(try simp at hc)<;>(try omega)))
         all_goals exact ZZ ⟨(j+1,m),by show j+1≤7;omega,by rw [hst];exact hm⟩ (by show 7 - (j+1)<7 - j;omega) ⟨rfl,rfl,rfl,rfl,rfl,rfl,trivial⟩
       ·have b2:=beqF q2
        rw [if_neg (fun h=>q2 (Yo.1 (hp3.1 h).2.1))] at hst
        repeat' (first|rw [b2]|refine XG (s:=s) (u:=u) (i+1) (i+1+w.size) (by omega) (by omega) hu ?_|refine Zy ?_|refine Zz (es:=wFlds) (f:=skl) j _ hw (fun b off=>?_)|refine ZG ?_|refine ZF ?_|refine ZJ ?_|refine ZI ?_|refine ZL ?_|refine ZH ?_|refine ZM ?_|refine ZN (fun b=>?_)|refine ZO (fun b=>?_)|refine ZA ?_|refine ZB ?_|rw [w1]|rw [w3]|rw [w4]|rw [w5]|rw [w6]|rw [w7]|(refine ZC (fun hc=>?_) (fun hc=>?_)<;>(try simp at hc)<;>(try omega))|(refine ZE (fun hc=>?_) (fun hc=>?_)<;>(try simp at hc)<;>(try omega)))
        all_goals exact ZZ ⟨(j+1,m),by show j+1≤7;omega,by rw [hst];exact hm⟩ (by show 7 - (j+1)<7 - j;omega) ⟨rfl,rfl,rfl,rfl,rfl,rfl,trivial⟩
      ·rw [if_neg (fun h=>q1 (hp3.1 h).1)] at hst
       repeat' (first|refine Zy ?_|refine Zz (es:=wFlds) (f:=skl) j _ hw (fun b off=>?_)|refine ZG ?_|refine ZF ?_|refine ZJ ?_|refine ZI ?_|refine ZL ?_|refine ZH ?_|refine ZM ?_|refine ZN (fun b=>?_)|refine ZO (fun b=>?_)|refine ZA ?_|refine ZB ?_|rw [w1]|rw [w3]|rw [w4]|rw [w5]|rw [w6]|rw [w7]|(refine ZC (fun hc=>?_) (fun hc=>?_)<;>(try simp at hc)<;>(try omega))|(refine ZE (fun hc=>?_) (fun hc=>?_)<;>(try simp at hc)<;>(try omega)))
       all_goals exact ZZ ⟨(j+1,m),by show j+1≤7;omega,by rw [hst];exact hm⟩ (by show 7 - (j+1)<7 - j;omega) ⟨rfl,rfl,rfl,rfl,rfl,rfl,trivial⟩
     ·obtain ⟨f1,f2⟩:=fin.resolve_right hj7
      obtain rfl:j=7:=by omega
      by_cases hm0:m=0
      ·subst hm0
       rw [if_pos rfl] at f1
       subst f1
       repeat' (first|refine ZG ?_|refine ZF ?_|refine ZJ ?_|refine ZI ?_|refine ZL ?_|refine ZH ?_|refine ZM ?_|refine ZN (fun b=>?_)|refine ZO (fun b=>?_)|refine ZA ?_|refine ZB ?_|refine ZK ?_|(refine ZC (fun hc=>?_) (fun hc=>?_)<;>(try simp at hc)<;>(try omega))|(refine ZE (fun hc=>?_) (fun hc=>?_)<;>(try simp at hc)<;>(try omega)))
       all_goals exact YF (YW (Z1 () rfl trivial))
      ·rw [if_neg hm0,List.drop_drop] at f1
       have w8:=wrapi (z:=(i:Int)+(m:Int)) (by omega) (by omega)
       have w9:=wrapi (z:=(i:Int)+(m:Int)+1) (by omega) (by omega)
       repeat' (first|refine ZG ?_|refine ZF ?_|refine ZJ ?_|refine ZI ?_|refine ZL ?_|refine ZH ?_|refine ZM ?_|refine ZN (fun b=>?_)|refine ZO (fun b=>?_)|refine ZA ?_|refine ZB ?_|refine ZK ?_|rw [w8]|rw [w9]|(refine ZC (fun hc=>?_) (fun hc=>?_)<;>(try simp at hc)<;>(try omega))|(refine ZE (fun hc=>?_) (fun hc=>?_)<;>(try simp at hc)<;>(try omega)))
       all_goals exact ZZ ⟨i+m+1,by show i+m+1≤s.size;omega,by rw [←f1,show i+m+1=i+1+m by omega]⟩ (by show s.size - (i+m+1)<s.size - i;omega) ⟨rfl,rfl,trivial⟩
    ·have hd:s.data.toList.drop (i+1)=[]:=List.drop_eq_nil_of_le (by omega)
     have hlt4:¬i+1<s.size:=by omega
     repeat' (first|refine Zh (s:=s) i c hcc ?_|refine ZG ?_|refine ZF ?_|refine ZJ ?_|refine ZI ?_|refine ZL ?_|refine ZH ?_|refine ZM ?_|refine ZN (fun b=>?_)|refine ZO (fun b=>?_)|refine ZA ?_|refine ZB ?_|rw [w1]|rw [w2]|(refine ZC (fun hc=>?_) (fun hc=>?_)<;>(try simp at hc)<;>(try omega))|(refine ZE (fun hc=>?_) (fun hc=>?_)<;>(try simp at hc)<;>(try omega)))
     rename_i b
     refine k_fz (b:=b) (o:=.cells (wFlds.map Value.string).toArray 9) ?_
     refine Z6 (F1:=[Blk b (.cells (wFlds.map Value.string).toArray 9)]) (f:=Sl 9 skl (some ⟨b,0,none⟩) 7 wFlds) (fun hp hF=>blk_sl (hF _ (.head _)) rfl (by decide)) ?_
     refine Yn (X:={q:Nat×Nat // q.1≤7∧q.2=fldP (s.data.toList.drop (i+1)) q.1}) (fun q=>[(0,.string s),(3,.int .i64 (i:Int)),(4,.int .i64 (q.1.2:Int)),(50,.slice (some ⟨b,0,none⟩) 7 7),(51,.int .i64 7),(52,.int .i64 (q.1.1:Int))]) (fun _=>[Sl 9 skl (some ⟨b,0,none⟩) 7 wFlds]) (fun _=>[]) (fun q=>7 - q.1.1) ⟨(0,0),Nat.zero_le _,rfl⟩ ⟨rfl,rfl,rfl,rfl,rfl,rfl,trivial⟩ ?_
     rintro ⟨⟨j,m⟩,hj,hm⟩
     dsimp only at hj hm ⊢
     have fin:tmZ (if m=0 then some i else tmF ((s.data.toList.drop (i+1)).drop m) 0 (i+1+m))=V∧m≤s.size - i - 1∨j<7:=by
      by_cases hj7:j<7
      ·exact .inr hj7
      ·obtain rfl:j=7:=by omega
       rw [fldP_end] at hm
       subst hm
       have hfe:=WZ (s.data.toList.drop (i+1))
       refine .inl ⟨?_,?_⟩
       ·rw [←hR]
        cases fldAt (s.data.toList.drop (i+1)) with
        | zero=>rfl
        | succ k=>
         rw [if_neg (by omega)]
         show tmZ _=tmZ (tmF _ (k+1) (i+1))
         rw [YJ _ (k+1)]
       ·rw [hfe]
        split
        ·rename_i h;have:=h.1;rw [List.length_drop] at this;omega
        ·omega
     by_cases hj7:j<7
     ·have hw:=List.getElem?_eq_getElem (l:=wFlds) hj7
      have hwz:wFlds[j].size≤6:=(by decide:∀w ∈ wFlds,w.size≤6) _ (List.getElem_mem hj7)
      generalize wFlds[j]=w at *
      have hst:=fldP_step (r:=s.data.toList.drop (i+1)) hw
      have hp3:=fld_pre3 (s:=s) (w:=w) (i:=i)
      have w3:=wrapi (z:=(i:Int)+(w.size:Int)) (by omega) (by omega)
      have w4:=wrapi (z:=(i:Int)+(w.size:Int)+2) (by omega) (by omega)
      have w5:=wrapi (z:=(i:Int)+1+(w.size:Int)) (by omega) (by omega)
      have w6:=wrapi (z:=(j:Int)+1) (by omega) (by omega)
      have w7:=wrapi (z:=(w.size:Int)+1) (by omega) (by omega)
      have hu:(s.data.toList.take (i+1+w.size)).drop (i+1)=(s.extract (i+1) (i+1+w.size)).data.toList:=by
       rw [ByteArray.data_extract,Array.toList_extract,List.extract_eq_take_drop,List.drop_take]
      by_cases q1:i+w.size+2≤s.size
      ·have q1':¬(s.size:Int)<(i:Int)+(w.size:Int)+2:=by omega
       have hlt7:i+1+w.size<s.data.toList.length:=by omega
       have hcd7:=List.getElem?_eq_getElem hlt7
       generalize s.data.toList[i+1+w.size]=d7 at *
       generalize hue:s.extract (i+1) (i+1+w.size)=u at *
       by_cases q2:u=w
       ·have b2:=beqT q2
        by_cases q3:d7=125
        ·have k7:(d7.toNat:Int)=125:=by rw [q3];rfl
         rw [if_pos (hp3.2 ⟨q1,by rw [q2],by rw [hcd7,q3]⟩)] at hst
         repeat' (first|rw [b2]|refine Zh (s:=s) (i+1+w.size) d7 hcd7 ?_|refine XG (s:=s) (u:=u) (i+1) (i+1+w.size) (by omega) (by omega) hu ?_|refine Zy ?_|refine Zz (es:=wFlds) (f:=skl) j _ hw (fun b off=>?_)|refine ZG ?_|refine ZF ?_|refine ZJ ?_|refine ZI ?_|refine ZL ?_|refine ZH ?_|refine ZM ?_|refine ZN (fun b=>?_)|refine ZO (fun b=>?_)|refine ZA ?_|refine ZB ?_|rw [w1]|rw [w3]|rw [w4]|rw [w5]|rw [w6]|rw [w7]|(refine ZC (fun hc=>?_) (fun hc=>?_)<;>(try simp at hc)<;>(try omega))|(refine ZE (fun hc=>?_) (fun hc=>?_)<;>(try simp at hc)<;>(try omega)))
         all_goals exact ZZ ⟨(j+1,w.size+1),by show j+1≤7;omega,hst.symm⟩ (by show 7 - (j+1)<7 - j;omega) ⟨rfl,rfl,rfl,rfl,rfl,rfl,trivial⟩
        ·have k7:¬(d7.toNat:Int)=125:=fun h=>q3 ((u8i (k:=125) (by decide)).2 h)
         rw [if_neg (fun h=>q3 (Option.some.inj (hcd7.symm.trans (hp3.1 h).2.2)))] at hst
         repeat' (first|rw [b2]|refine Zh (s:=s) (i+1+w.size) d7 hcd7 ?_|refine XG (s:=s) (u:=u) (i+1) (i+1+w.size) (by omega) (by omega) hu ?_|refine Zy ?_|refine Zz (es:=wFlds) (f:=skl) j _ hw (fun b off=>?_)|refine ZG ?_|refine ZF ?_|refine ZJ ?_|refine ZI ?_|refine ZL ?_|refine ZH ?_|refine ZM ?_|refine ZN (fun b=>?_)|refine ZO (fun b=>?_)|refine ZA ?_|refine ZB ?_|rw [w1]|rw [w3]|rw [w4]|rw [w5]|rw [w6]|rw [w7]|(refine ZC (fun hc=>?_) (fun hc=>?_)<;>(try simp at hc)<;>(try omega))|(refine ZE (fun hc=>?_) (fun hc=>?_)<;>(try simp at hc)<;>(try omega)))
         all_goals exact ZZ ⟨(j+1,m),by show j+1≤7;omega,by rw [hst];exact hm⟩ (by show 7 - (j+1)<7 - j;omega) ⟨rfl,rfl,rfl,rfl,rfl,rfl,trivial⟩
       ·have b2:=beqF q2
        rw [if_neg (fun h=>q2 (Yo.1 (hp3.1 h).2.1))] at hst
        repeat' (first|rw [b2]|refine XG (s:=s) (u:=u) (i+1) (i+1+w.size) (by omega) (by omega) hu ?_|refine Zy ?_|refine Zz (es:=wFlds) (f:=skl) j _ hw (fun b off=>?_)|refine ZG ?_|refine ZF ?_|refine ZJ ?_|refine ZI ?_|refine ZL ?_|refine ZH ?_|refine ZM ?_|refine ZN (fun b=>?_)|refine ZO (fun b=>?_)|refine ZA ?_|refine ZB ?_|rw [w1]|rw [w3]|rw [w4]|rw [w5]|rw [w6]|rw [w7]|(refine ZC (fun hc=>?_) (fun hc=>?_)<;>(try simp at hc)<;>(try omega))|(refine ZE (fun hc=>?_) (fun hc=>?_)<;>(try simp at hc)<;>(try omega)))
        all_goals exact ZZ ⟨(j+1,m),by show j+1≤7;omega,by rw [hst];exact hm⟩ (by show 7 - (j+1)<7 - j;omega) ⟨rfl,rfl,rfl,rfl,rfl,rfl,trivial⟩
      ·rw [if_neg (fun h=>q1 (hp3.1 h).1)] at hst
       repeat' (first|refine Zy ?_|refine Zz (es:=wFlds) (f:=skl) j _ hw (fun b off=>?_)|refine ZG ?_|refine ZF ?_|refine ZJ ?_|refine ZI ?_|refine ZL ?_|refine ZH ?_|refine ZM ?_|refine ZN (fun b=>?_)|refine ZO (fun b=>?_)|refine ZA ?_|refine ZB ?_|rw [w1]|rw [w3]|rw [w4]|rw [w5]|rw [w6]|rw [w7]|(refine ZC (fun hc=>?_) (fun hc=>?_)<;>(try simp at hc)<;>(try omega))|(refine ZE (fun hc=>?_) (fun hc=>?_)<;>(try simp at hc)<;>(try omega)))
       all_goals exact ZZ ⟨(j+1,m),by show j+1≤7;omega,by rw [hst];exact hm⟩ (by show 7 - (j+1)<7 - j;omega) ⟨rfl,rfl,rfl,rfl,rfl,rfl,trivial⟩
     ·obtain ⟨f1,f2⟩:=fin.resolve_right hj7
      obtain rfl:j=7:=by omega
      by_cases hm0:m=0
      ·subst hm0
       rw [if_pos rfl] at f1
       subst f1
       repeat' (first|refine ZG ?_|refine ZF ?_|refine ZJ ?_|refine ZI ?_|refine ZL ?_|refine ZH ?_|refine ZM ?_|refine ZN (fun b=>?_)|refine ZO (fun b=>?_)|refine ZA ?_|refine ZB ?_|refine ZK ?_|(refine ZC (fun hc=>?_) (fun hc=>?_)<;>(try simp at hc)<;>(try omega))|(refine ZE (fun hc=>?_) (fun hc=>?_)<;>(try simp at hc)<;>(try omega)))
       all_goals exact YF (YW (Z1 () rfl trivial))
      ·rw [if_neg hm0,List.drop_drop] at f1
       have w8:=wrapi (z:=(i:Int)+(m:Int)) (by omega) (by omega)
       have w9:=wrapi (z:=(i:Int)+(m:Int)+1) (by omega) (by omega)
       repeat' (first|refine ZG ?_|refine ZF ?_|refine ZJ ?_|refine ZI ?_|refine ZL ?_|refine ZH ?_|refine ZM ?_|refine ZN (fun b=>?_)|refine ZO (fun b=>?_)|refine ZA ?_|refine ZB ?_|refine ZK ?_|rw [w8]|rw [w9]|(refine ZC (fun hc=>?_) (fun hc=>?_)<;>(try simp at hc)<;>(try omega))|(refine ZE (fun hc=>?_) (fun hc=>?_)<;>(try simp at hc)<;>(try omega)))
       all_goals exact ZZ ⟨i+m+1,by show i+m+1≤s.size;omega,by rw [←f1,show i+m+1=i+1+m by omega]⟩ (by show s.size - (i+m+1)<s.size - i;omega) ⟨rfl,rfl,trivial⟩
  ·have k3:¬(c.toNat:Int)=123:=fun h=>c2 ((u8i (k:=123) (by decide)).2 h)
   rw [if_neg c2] at hR
   repeat' (first|refine Zh (s:=s) i c hcc ?_|refine ZG ?_|refine ZF ?_|refine ZJ ?_|refine ZI ?_|refine ZL ?_|refine ZH ?_|refine ZM ?_|refine ZN (fun b=>?_)|refine ZO (fun b=>?_)|refine ZA ?_|refine ZB ?_|rw [w1]|(refine ZC (fun hc=>?_) (fun hc=>?_)<;>(try simp at hc)<;>(try omega))|(refine ZE (fun hc=>?_) (fun hc=>?_)<;>(try simp at hc)<;>(try omega)))
   all_goals exact ZZ ⟨i+1,by show i+1≤s.size;omega,hR⟩ (by show s.size - (i+1)<s.size - i;omega) ⟨rfl,rfl,trivial⟩
 ·have hd:s.data.toList.drop i=[]:=List.drop_eq_nil_of_le (by omega)
  rw [hd] at hR
  have hlt2:¬i<s.size:=by omega
  subst hR
  repeat' (first|refine ZG ?_|refine ZF ?_|refine ZJ ?_|refine ZI ?_|refine ZL ?_|refine ZH ?_|refine ZM ?_|refine ZN (fun b=>?_)|refine ZO (fun b=>?_)|refine ZA ?_|refine ZB ?_|refine ZK ?_|(refine ZC (fun hc=>?_) (fun hc=>?_)<;>(try simp at hc)<;>(try omega))|(refine ZE (fun hc=>?_) (fun hc=>?_)<;>(try simp at hc)<;>(try omega)))
  exact ZQ () rfl trivial
section
variable {n:Nat} {C:Cx} {Q:Exit→Act→World→Prop} {E E':List (Nat×Value)} {F F' F1 Fs F0:List Pf} {R R' R0 Rs N N' A:List HP} {k k':List Fr} {ops l:List Oper} {L L':List (Nat×Nat)} {Tl:List Nat} {i d:Nat} {t ty0:TypeId} {x y z:Operand} {pos:String} {aft:Array Edge} {gd:Option (Nat×Bool)} {α β:Type} [DecidableEq α] {K:α→Value} {V:β→Value}
end
def clmp (a:Int):Int:=if a < -1099511627776 then -1099511627776 else a
theorem clmp_ge (a:Int) : -1099511627776≤clmp a:=by unfold clmp;split<;>omega
theorem clmp_le {a:Int} (h:a≤9223372036854775807):clmp a≤9223372036854775807:=by unfold clmp;split<;>omega
def shO (o:Ou):Ou:=⟨clmp o.ch,cutS o.tg 80,cutS o.tx 3000,clmp o.us⟩
def shF (c:Cq):Cq:=⟨c.kind,cutS c.who 80,clmp c.nu,c.place,shO c.old,clmp c.oldAt,shO c.new,clmp c.newAt⟩
theorem shF_s (c:Cq):CqS (shF c):=by
 constructor
 ·exact Nat.le_trans (Yp _ _) (by omega)
 ·exact Nat.le_trans (Yp _ _) (by omega)
 ·exact Nat.le_trans (Yp _ _) (by omega)
 ·exact Nat.le_trans (Yp _ _) (by omega)
 ·exact Nat.le_trans (Yp _ _) (by omega)
structure CqW (c:Cq):Prop where
 nu:c.nu≤9223372036854775807
 ou:c.old.us≤9223372036854775807
 oa:c.oldAt≤9223372036854775807
 eu:c.new.us≤9223372036854775807
 ea:c.newAt≤9223372036854775807
structure CqJ (c:Cq):Prop where
 i:CqI c
 n0 : -1099511627776≤c.nu
 u0 : -1099511627776≤(subO c).us
 t0 : -1099511627776≤subT c
theorem shF_j {c:Cq} (h:CqW c):CqJ (shF c):=by
 have e:∀k:Prop,∀_:Decidable k,∀a b:Int,(if k then clmp a else clmp b)=clmp (if k then a else b):=fun k _ a b=>by split<;>rfl
 have u1:(subO (shF c)).us=clmp (subO c).us:=by
  unfold subO
  show (if c.kind=4 then shO c.new else shO c.old).us=clmp (if c.kind=4 then c.new else c.old).us
  split<;>rfl
 have t1:subT (shF c)=clmp (subT c):=e _ _ _ _
 have n1:(shF c).nu=clmp c.nu:=rfl
 have u2:(subO c).us≤9223372036854775807:=by
  unfold subO;split
  ·exact h.eu
  ·exact h.ou
 have t2:subT c≤9223372036854775807:=by
  unfold subT;split
  ·exact h.ea
  ·exact h.oa
 have a1:=clmp_ge c.nu;have a2:=clmp_ge (subO c).us;have a3:=clmp_ge (subT c)
 exact ⟨⟨by omega,by rw [n1];exact clmp_le h.nu,by omega,by rw [u1];exact clmp_le u2,by omega,by rw [t1];exact clmp_le t2⟩,by omega,by omega,by omega⟩
def shP (j:Nat) (c:Cq):Cq:=match j with
 | 0=>c
 | 1=>{c with old:=shO c.old}
 | _=>{c with old:=shO c.old,new:=shO c.new}
set_option maxHeartbeats 4000000 in
theorem shortM_ok (c:Cq):Enters 13∧Spec prog 13 #[cqa c] [] [] (RetV (cqa (shF c))):=by
 refine ZR [_] func13 ntmps13 fun G w hp=>?_
 repeat' (first|refine ZG ?_|refine ZF ?_|refine ZJ ?_|refine ZI ?_|refine ZL ?_|refine ZH ?_|refine ZM ?_|refine ZN (fun b=>?_)|refine ZO (fun b=>?_)|refine ZA ?_|refine ZB ?_|(refine ZC (fun hc=>?_) (fun hc=>?_)<;>(try simp at hc))|(refine ZE (fun hc=>?_) (fun hc=>?_)<;>(try simp at hc)))
 rename_i b1 b2
 refine k_fz (b:=b) (o:=.cells #[.pointer (some ⟨b1,4,none⟩),.pointer (some ⟨b1,9,none⟩)] 75) ?_
 refine Z6 (F1:=[Blk b (.cells #[.pointer (some ⟨b1,4,none⟩),.pointer (some ⟨b1,9,none⟩)] 75)]) (f:=Sl 75 (fun v:Value=>[v]) (some ⟨b,0,none⟩) 2 [.pointer (some ⟨b1,4,none⟩),.pointer (some ⟨b1,9,none⟩)]) (fun hp hF=>blk_sl (hF _ (.head _)) rfl (Nat.le_refl 2)) ?_
 refine Yn (X:={j:Nat // j≤2}) (fun j=>[(1,pv0 b1),(2,pv0 b2),(7,.slice (some ⟨b,0,none⟩) 2 2),(8,.int .i64 2),(9,.int .i64 (j.1:Int))]) (fun _=>[Sl 75 (fun v:Value=>[v]) (some ⟨b,0,none⟩) 2 [.pointer (some ⟨b1,4,none⟩),.pointer (some ⟨b1,9,none⟩)]]) (fun j=>[Pt b2 (.cells (cqf cq0).toArray 26),Pt b1 (.cells (cqf (shP j.1 c)).toArray 26)]) (fun j=>2 - j.1) ⟨0,by omega⟩ ⟨rfl,rfl,rfl,rfl,rfl,trivial⟩ ?_
 rintro ⟨j,hj⟩
 dsimp only
 by_cases h0:j=0
 ·subst h0
  repeat' (first|refine ZG ?_|refine ZF ?_|refine ZJ ?_|refine ZI ?_|refine ZL ?_|refine ZH ?_|refine ZM ?_|refine ZN (fun b=>?_)|refine ZO (fun b=>?_)|refine ZA ?_|refine ZB ?_|refine Zd ?_|refine Zc ?_|refine Zr ?_|refine Zg ?_|refine Ze ?_|refine Zq (fun b=>?_)|refine Zs (fun b=>?_)|refine Zp ?_|refine Zf ?_|refine Zz (es:=[Value.pointer (some ⟨b1,4,none⟩),.pointer (some ⟨b1,9,none⟩)]) (f:=fun v:Value=>[v]) 0 _ rfl (fun b off=>?_)|refine Zy ?_|refine r_cutS 80 ?_|refine r_cutS 3000 ?_|refine r_up ?_|(refine ZC (fun hc=>?_) (fun hc=>?_)<;>(try simp at hc)<;>(try omega))|(refine ZU (fun hc=>?_) (fun hc=>?_)<;>(try simp at hc)<;>(try omega))|refine ZS 4 [Pt b1 _] [(0,0),(1,0),(2,0),(3,0),(4,0),(6,0),(7,0),(8,0),(13,0),(14,0),(15,0),(17,0),(18,0),(19,0),(5,3),(9,3),(10,0),(11,0),(12,0),(16,3),(20,3),(21,0),(22,0),(23,0),(24,0),(25,0),(26,4),(27,0),(28,0)] [29] ?_|refine ZS 5 [Pt b1 _] [(0,0),(1,0),(2,0),(3,0),(4,0),(7,0),(8,0),(9,0),(5,3),(6,0),(10,3),(11,0),(12,0),(13,0),(14,4),(15,0),(16,0)] [17] ?_|(refine ZE (fun hc=>?_) (fun hc=>?_)<;>(try simp at hc)<;>(try omega)))
  exact ZZ ⟨1,by omega⟩ (by show 2 - 1<2 - 0;omega) ⟨rfl,rfl,rfl,rfl,rfl,trivial⟩
 by_cases h1:j=1
 ·subst h1
  repeat' (first|refine ZG ?_|refine ZF ?_|refine ZJ ?_|refine ZI ?_|refine ZL ?_|refine ZH ?_|refine ZM ?_|refine ZN (fun b=>?_)|refine ZO (fun b=>?_)|refine ZA ?_|refine ZB ?_|refine Zd ?_|refine Zc ?_|refine Zr ?_|refine Zg ?_|refine Ze ?_|refine Zq (fun b=>?_)|refine Zs (fun b=>?_)|refine Zp ?_|refine Zf ?_|refine Zz (es:=[Value.pointer (some ⟨b1,4,none⟩),.pointer (some ⟨b1,9,none⟩)]) (f:=fun v:Value=>[v]) 1 _ rfl (fun b off=>?_)|refine Zy ?_|refine r_cutS 80 ?_|refine r_cutS 3000 ?_|refine r_up ?_|(refine ZC (fun hc=>?_) (fun hc=>?_)<;>(try simp at hc)<;>(try omega))|(refine ZU (fun hc=>?_) (fun hc=>?_)<;>(try simp at hc)<;>(try omega))|refine ZS 4 [Pt b1 _] [(0,0),(1,0),(2,0),(3,0),(4,0),(6,0),(7,0),(8,0),(13,0),(14,0),(15,0),(17,0),(18,0),(19,0),(5,3),(9,3),(10,0),(11,0),(12,0),(16,3),(20,3),(21,0),(22,0),(23,0),(24,0),(25,0),(26,4),(27,0),(28,0)] [29] ?_|refine ZS 5 [Pt b1 _] [(0,0),(1,0),(2,0),(3,0),(4,0),(7,0),(8,0),(9,0),(5,3),(6,0),(10,3),(11,0),(12,0),(13,0),(14,4),(15,0),(16,0)] [17] ?_|(refine ZE (fun hc=>?_) (fun hc=>?_)<;>(try simp at hc)<;>(try omega)))
  exact ZZ ⟨2,by omega⟩ (by show 2 - 2<2 - 1;omega) ⟨rfl,rfl,rfl,rfl,rfl,trivial⟩
 ·obtain rfl:j=2:=by omega
  repeat' (first|refine ZG ?_|refine ZF ?_|refine ZJ ?_|refine ZI ?_|refine ZL ?_|refine ZH ?_|refine ZM ?_|refine ZN (fun b=>?_)|refine ZO (fun b=>?_)|refine ZA ?_|refine ZB ?_|refine ZK ?_|refine l_cutS 80 ?_|(refine ZC (fun hc=>?_) (fun hc=>?_)<;>(try simp at hc)<;>(try omega))|(refine ZE (fun hc=>?_) (fun hc=>?_)<;>(try simp at hc)<;>(try omega)))
  exact ZQ () rfl trivial
def upd1 (D:Nat→Bool) (i:Nat):Nat→Bool:=fun j=>if j=i then true else D j
def Qx (T:Act→World→Prop) (Q:Exit→Act→World→Prop):Exit→Act→World→Prop
 | .normal,a,w=>T a w
 | e,a,w=>Q e a w
theorem one_step {F:Fence} {n:Nat} {P:Program} {ops:Array Oper} {Q:Exit→Act→World→Prop} {T:Act→World→Prop} {i:Nat} {o:Oper} {a:Act} {w:World} (ho:ops[i]? = some o) (h:wpListIn F n P ops (Qx T Q) [o] a w) :
  wpOpIn F n P ops Q i (fun a' w'=>T a' w'∧∃(a0:Act) (v:Value),a0.tmps=a.tmps∧a'=a0.put o.dst v) a w:=by
 unfold wpListIn at h
 unfold wpOpIn
 simp only [ho]
 split
 ·rename_i hw
  rw [if_pos hw] at h
  unfold Oper.wpIn at *
  refine ⟨h.1,?_⟩
  have hh:=h.2
  generalize (o.semAt F.round a.eval).run P w=r at *
  cases r with
  | ok x w'=>
   cases x<;>simp only [Oper.uponIn] at hh ⊢<;>
    first
     | exact ⟨hh,a,_,rfl,rfl⟩
     | (rename_i d;exact ⟨hh,{a with defers:=d::a.defers},undef,rfl,rfl⟩)
     | exact ⟨hh.1,CallsIn.mono hh.2 (fun e w'' he=>by cases e<;>first|exact ⟨he,a,_,rfl,rfl⟩|exact he)⟩
     | exact ⟨hh.1,RowsIn.mono hh.2 (fun _ _ he=>⟨he,a,_,rfl,rfl⟩)⟩
     | exact ⟨hh.1,RoundIn.mono hh.2 (fun e w'' he=>by cases e<;>first|exact ⟨he,a,_,rfl,rfl⟩|exact he)⟩
  | halt x w'=>cases x<;>simp only [Oper.uponIn] at hh ⊢<;>exact hh
 ·rename_i hw
  rw [if_neg hw] at h
  exact ⟨h.1,h.2,a,_,rfl,rfl⟩
def depB (o:Oper) (i:Nat):Bool:=o.after.any fun e=>Region.binds .any e && e.on == i
def ClD (l:List Oper) (D:Nat→Bool):Prop:=∀j o,nth l j=some o→D j=true→∀i,depB o i=true→D i=true
theorem wpAny_J {P:Program} {r:Option Nat} {ops:Array Oper} {Q:Exit→Act→World→Prop} (hdag:∀(x:Nat) (o:Oper),ops[x]? = some o→∀i,depB o i=true→i<x) {J:(Nat→Bool)→Act→World→Prop}
  (hs:∀D a w i o,ops[i]? = some o→D i=false→(∀j,depB o j=true→D j=true)→J D a w→wpOpIn (fz r) 0 P ops Q i (J (upd1 D i)) a w)
  (he:∀a w,J (fun i=>decide (i<ops.size)) a w→Q .normal a w) :
  ∀(m:Nat) (listed:Array Bool) (a:Act) (w:World),listed.size=ops.size→listed.toList.count false=m→J (fun i=>listed.getD i false) a w→wpAnyIn (fz r) 0 P .any ops Q m listed a w:=by
 have dep:∀(o:Oper) (listed:Array Bool),(∀e ∈ o.after,Region.binds .any e=true→listed.getD e.on false=true)↔∀j,depB o j=true→listed.getD j false=true:=fun o listed=>by
  constructor
  ·intro h j hj
   obtain ⟨e,he,hb⟩:=Array.any_eq_true'.1 hj
   simp only [Bool.and_eq_true,beq_iff_eq] at hb
   rw [←hb.2];exact h e he hb.1
  ·intro h e he hb
   exact h _ (Array.any_eq_true'.2 ⟨e,he,by simp [hb]⟩)
 have full:∀(listed:Array Bool),listed.size=ops.size→Region.ready .any ops listed=[]→∀x,x<ops.size→listed.getD x false=true:=by
  intro listed hsz hr x
  induction x using Nat.strongRecOn with
  | _ x ih=>
   intro hx
   by_cases hd:listed.getD x false=true
   ·exact hd
   ·exfalso
    have hx':x<listed.size:=by omega
    have ho:ops[x]? = some ops[x]:=by simp [hx]
    have:x ∈ Region.ready .any ops listed:=mem_ready.2 ⟨by simpa [Array.getD,hx'] using hd,_,ho,(dep _ listed).2 fun j hj=>ih j (hdag x _ ho j hj) (by have:=hdag x _ ho j hj;omega)⟩
    rw [hr] at this;cases this
 intro m
 induction m with
 | zero=>
  intro listed a w hsz hc hJ
  have hall:∀x,x<ops.size→listed.getD x false=true:=fun x hx=>by
   have hx':x<listed.size:=by omega
   have h1:=List.count_eq_zero.1 hc
   by_cases hd:listed.getD x false=true
   ·exact hd
   ·exfalso;apply h1
    have:listed[x]=false:=by simpa [Array.getD,hx'] using hd
    rw [←this];exact Array.getElem_mem_toList hx'
  have e:(fun i=>listed.getD i false)=fun i=>decide (i<ops.size):=by
   funext i
   by_cases hi:i<ops.size
   ·rw [hall i hi];simp [hi]
   ·have:¬i<listed.size:=by omega
    simp [Array.getD,this,hi]
  rw [e] at hJ
  refine ⟨List.eq_nil_iff_forall_not_mem.2 fun i hi=>?_,he a w hJ⟩
  obtain ⟨h1,o,h2,_⟩:=mem_ready.1 hi
  have hi':=(Array.getElem?_eq_some_iff.1 h2).1
  have h3:=hall i hi'
  have hx':i<listed.size:=by omega
  simp [Array.getD,hx'] at h1 h3
  rw [h1] at h3;cases h3
 | succ m ih=>
  intro listed a w hsz hc hJ
  refine ⟨fun hr=>?_,fun i hi=>?_⟩
  ·exfalso
   have h1:false ∈ listed.toList:=List.count_pos_iff.1 (by omega)
   obtain ⟨x,hx,hx2⟩:=List.getElem_of_mem h1
   have hx':x<listed.size:=by simpa using hx
   have h3:=full listed hsz hr x (by omega)
   simp [Array.getD,hx'] at h3
   simp at hx2
   rw [hx2] at h3;cases h3
  ·obtain ⟨h1,o,h2,h3⟩:=mem_ready.1 hi
   have hi':=(Array.getElem?_eq_some_iff.1 h2).1
   have hx':i<listed.size:=by omega
   have hf:listed[i]=false:=by simpa [Array.getD,hx'] using h1
   have e:(fun j=>(listed.setIfInBounds i true).getD j false)=upd1 (fun j=>listed.getD j false) i:=by
    funext j
    unfold upd1
    by_cases hj:j=i
    ·subst hj;simp [Array.getD,hx']
    ·rw [if_neg hj]
     by_cases hjs:j<listed.size
     ·simp [Array.getD,hjs,Array.getElem_setIfInBounds,Ne.symm hj]
     ·simp [Array.getD,hjs]
   refine wpOpIn_mono (fun a' w' h'=>ih _ a' w' (by simpa using hsz) ?_ (by rw [e];exact h')) (hs _ a w i o h2 (by simp [Array.getD,hx',hf]) ((dep o listed).1 h3) hJ)
   have hcs:(listed.toList.set i true).count false=listed.toList.count false - 1:=by
    have hl:i<listed.toList.length:=by simpa using hx'
    have:=List.count_set (l:=listed.toList) (i:=i) (a:=true) (b:=false) hl
    simpa [hf] using this
   rw [Array.toList_setIfInBounds,hcs,hc];rfl
def chkJ (l:List Oper) (sk:List (Nat×Nat)) (last:Nat):Bool:=
 ((List.range l.length).all fun i=>match nth l i with
  | none=>true
  | some o=>(match o.dst with
   | none=>true
   | some d=>sk.any fun x=>x.1 == i && x.2 == d) && o.after.all fun e=>!Region.binds .any e || decide (e.on<i)) &&
 (sk.all fun x=>sk.all fun y=>!(x.2 == y.2) || x.1 == y.1) && (sk.all fun x=>match nth l x.1 with
  | some o=>o.dst == some x.2
  | none=>false) && ((List.range l.length).all fun i=>i == last || (match nth l last with
  | some o=>depB o i
  | none=>false)) && decide (last<l.length)
section
def TJ {γ:Type} (n:Nat) (C:Cx) (F:List Pf) (sk:List (Nat×Nat)) (val:γ→Nat→Value) (RJ:(Nat→Bool)→γ→List HP) (pj:(Nat→Bool)→γ→Prop) (Rr:List HP) (D:Nat→Bool) (i:Nat) (g:γ):Act→World→Prop:=fun a w=>
 ∃g',pj (upd1 D i) g'∧(∀j,D j=true→val g' j=val g j)∧(∀x ∈ sk,x.1=i→a.tmps[x.2]? = some (val g' i))∧a.tmps.size=n∧a.defers=C.ds∧Sat C.G C.w0 C.hp0 F (RJ (upd1 D i) g'++Rr) w
theorem k_J {γ:Type} {sk:List (Nat×Nat)} {val:γ→Nat→Value} {RJ:(Nat→Bool)→γ→List HP} {pj:(Nat→Bool)→γ→Prop} {Rr Rx:List HP} {D:Nat→Bool} {i:Nat} {g:γ} {Qr:Exit→Act→World→Prop} (g':γ) (hp:pj (upd1 D i) g') (hv:∀j,D j=true→val g' j=val g j)
  (hs:∀x ∈ sk,x.1=i→look E x.2=some (val g' i)) (hF:EntF F' F) (hR:Sels (RJ (upd1 D i) g'++Rr) R Rx):Wk n C [] (Qx (TJ n C F sk val RJ pj Rr D i g) Qr) E F' R:=fun a w ha hsat=>
 ⟨g',hp,hv,fun x hx hi=>ha.slots _ _ (hs x hx hi),ha.size,ha.defers,by
  obtain ⟨hp',hr,t⟩:=(hsat.sels hR)
  obtain ⟨h1,h2,d,s1,s2,hA,_⟩:=YM t.r
  exact ⟨hp',h1,t.inp,t.inr.sub s1,t.ing,(t.d1.symm.sub s1).symm,t.d2,t.d3.sub s1,t.sub,hF.all hp' t.f,hA,t.same⟩⟩
theorem entE_look:∀{X:List (Nat×Value)},EntE E X→∀t v,look X t=some v→look E t=some v
 | [],_,t,v,h=>by cases h
 | (d,u)::X,⟨h1,h2⟩,t,v,h=>by
  rw [YS] at h
  by_cases hdt:d=t
  ·subst hdt
   rw [YI] at h
   rw [h1];exact h
  ·rw [YL _ _ hdt] at h
   exact entE_look h2 t v h
theorem k_regJ {γ:Type} (id:Nat) (sk:List (Nat×Nat)) (last:Nat) (val:γ→Nat→Value) (RJ:(Nat→Bool)→γ→List HP) (pj:(Nat→Bool)→γ→Prop) (g0:γ) (E0:List (Nat×Value)) (Rr:List HP)
  (h:nf 1000 k = .c (.region id l.toArray true)::k') (hchk:chkJ l sk last=true) (hE:∀x ∈ sk,x.1≠last→look E x.2=none) (hE0:EntE E E0) (hE1:∀x ∈ sk,look E0 x.2=none)
  (h0:pj (fun _=>false) g0) (hR0:Sels (RJ (fun _=>false) g0) R Rr)
  (step:∀i o,nth l i=some o→∀D g,ClD l D→D i=false→(∀j,depB o j=true→D j=true)→pj D g→
   ∃Ei:List (Nat×Value),(∀x ∈ Ei,∃j,(j,x.1) ∈ sk∧D j=true∧x.2=val g j)∧∀Qr,Wl n C l.toArray [] (Qx (TJ n C F sk val RJ pj Rr D i g) Qr) [o] (Ei++E) F (RJ D g++Rr))
  (fin:∀g,pj (fun i=>decide (i<l.length)) g→Wk n C k' Q ((sk.map fun x=>(x.2,val g x.1))++E0) F (RJ (fun i=>decide (i<l.length)) g++Rr)):Wk n C k Q E F R:=fun a w ha hsat=>YP 1000 k (by
 rw [h]
 unfold chkJ at hchk
 simp only [Bool.and_eq_true,List.all_eq_true,List.mem_range,decide_eq_true_eq] at hchk
 obtain ⟨⟨⟨⟨c1,c2⟩,c3⟩,c4⟩,c5⟩:=hchk
 have hn:∀i,l.toArray[i]? = nth l i:=fun i=>by rw [YN];simp
 have hlt:∀i o,nth l i=some o→i<l.length:=fun i o ho=>by rw [YN] at ho;exact (List.getElem?_eq_some_iff.1 ho).1
 have hdst:∀i o,nth l i=some o→∀d,o.dst=some d→(i,d) ∈ sk:=fun i o ho d hd=>by
  have:=c1 i (hlt i o ho)
  rw [ho] at this
  dsimp only at this
  rw [hd] at this
  simp only [Bool.and_eq_true,List.any_eq_true,beq_iff_eq] at this
  obtain ⟨⟨x,hx,e1,e2⟩,_⟩:=this
  rw [←e1,←e2];exact hx
 have hdag:∀(x:Nat) (o:Oper),l.toArray[x]? = some o→∀i,depB o i=true→i<x:=fun x o ho i hi=>by
  rw [hn] at ho
  have:=c1 x (hlt x o ho)
  rw [ho] at this
  dsimp only at this
  simp only [Bool.and_eq_true] at this
  obtain ⟨e,he,hb⟩:=Array.any_eq_true'.1 hi
  simp only [Bool.and_eq_true,beq_iff_eq] at hb
  have h2:=Array.all_eq_true_iff_forall_mem.1 this.2 e he
  simp only [hb.1,Bool.not_true,Bool.false_or,decide_eq_true_eq] at h2
  omega
 have hinj:∀x ∈ sk,∀y ∈ sk,x.2=y.2→x.1=y.1:=fun x hx y hy e=>by
  have:=c2 x hx y hy
  simp only [Bool.or_eq_true,Bool.not_eq_true',beq_eq_false_iff_ne,ne_eq,beq_iff_eq] at this
  rcases this with h|h
  ·exact absurd e h
  ·exact h
 let J:(Nat→Bool)→Act→World→Prop:=fun D a w=>∃g,pj D g∧ClD l D∧a.tmps.size=n∧a.defers=C.ds∧(∀t v,look E0 t=some v→a.tmps[t]? = some v)∧(D last=false→∀t v,look E t=some v→a.tmps[t]? = some v)∧(∀x ∈ sk,D x.1=true→a.tmps[x.2]? = some (val g x.1))∧Sat C.G C.w0 C.hp0 F (RJ D g++Rr) w
 have hd:Ext w {w with drawn:=w.drawn+1}:=(Below.refl _ w).drew
 refine wpIn_region_any mixed_ok ?_
 refine wpAny_J (J:=J) hdag ?_ ?_ _ _ a _ (by simp) ?_ ?_
 ·-- a step
  rintro D a w i o ho hDi hdep ⟨g,hpj,hcl,hsz,hdf,hs0,hsE,hsk,hst⟩
  rw [hn] at ho
  have hil:=hlt i o ho
  have hlast:D last=false:=by
   by_cases hi:i=last
   ·rw [←hi];exact hDi
   ·cases hL:D last with
    | false=>rfl
    | true=>
     have h4:=c4 i hil
     cases hol:nth l last with
     | none=>rw [hol] at h4;simp [hi] at h4
     | some ol=>
      rw [hol] at h4
      simp only [Bool.or_eq_true,beq_iff_eq] at h4
      have:=hcl last ol hol hL i (h4.resolve_left hi)
      rw [hDi] at this;cases this
  obtain ⟨Ei,hEi,hwl⟩:=step i o ho D g hcl hDi hdep hpj
  have hag:Agree n C.ds (look (Ei++E)) a:=⟨hsz,hdf,fun t v hv=>by
   have:∀(X:List (Nat×Value)),(∀x ∈ X,∃j,(j,x.1) ∈ sk∧D j=true∧x.2=val g j)→look (X++E) t=some v→a.tmps[t]? = some v:=by
    intro X
    induction X with
    | nil=>intro _ h;exact hsE hlast t v h
    | cons x X ih=>
     intro hX h
     obtain ⟨d,u⟩:=x
     rw [List.cons_append,YS] at h
     by_cases hdt:d=t
     ·subst hdt
      rw [YI] at h
      obtain ⟨j,e1,e2,e3⟩:=hX (d,u) (.head _)
      have:=hsk (j,d) e1 e2
      rw [this,←e3];exact h
     ·rw [YL _ _ hdt] at h
      exact ih (fun y hy=>hX y (.tail _ hy)) h
   exact this Ei hEi hv⟩
  have h1:=one_step (by rw [hn];exact ho) (hwl (after C.r k' Q) a w hag hst)
  refine wpOpIn_mono ?_ h1
  rintro a' w' ⟨⟨g',t1,t2,t3,t4,t5,t6⟩,a0,v,e1,rfl⟩
  have keep:∀t,o.dst≠some t→(a0.put o.dst v).tmps[t]? = a.tmps[t]?:=fun t ht=>by
   cases hd:o.dst with
   | none=>simp [Act.put,e1]
   | some d=>
    have:d≠t:=fun e=>ht (by rw [hd,e])
    simp only [Act.put]
    rw [Array.getElem?_setIfInBounds_ne this,e1]
  refine ⟨g',t1,?_,t4,t5,fun t v ht=>?_,fun hL t v ht=>?_,fun x hx hD=>?_,t6⟩
  ·intro j oj hj hDj q hq
   unfold upd1 at hDj ⊢
   by_cases hqi:q=i
   ·rw [if_pos hqi]
   ·rw [if_neg hqi]
    by_cases hji:j=i
    ·subst hji
     rw [hj] at ho
     obtain rfl:=Option.some.inj ho
     exact hdep q hq
    ·rw [if_neg hji] at hDj
     exact hcl j oj hj hDj q hq
  ·rw [keep t fun hd=>by have:=hE1 _ (hdst i o ho t hd);rw [ht] at this;cases this]
   exact hs0 t v ht
  ·have hil:i≠last:=fun e=>by unfold upd1 at hL;rw [if_pos e.symm] at hL;cases hL
   rw [keep t fun hd=>by have:=hE _ (hdst i o ho t hd) hil;rw [ht] at this;cases this]
   exact hsE hlast t v ht
  ·by_cases hxi:x.1=i
   ·rw [hxi];exact t3 x hx hxi
   ·unfold upd1 at hD
    rw [if_neg hxi] at hD
    rw [keep x.2 fun hd=>hxi (hinj x hx _ (hdst i o ho _ hd) rfl),t2 _ hD]
    exact hsk x hx hD
 ·-- the end
  rintro a w ⟨g,hpj,_,hsz,hdf,hs0,_,hsk,hst⟩
  have e:(fun i=>decide (i<l.toArray.size))=fun i=>decide (i<l.length):=by simp
  rw [e] at hpj hsk hst
  refine fin g hpj a w ⟨hsz,hdf,fun t v hv=>?_⟩ hst
  have:∀(X:List (Nat×Nat)),(∀x ∈ X,x ∈ sk)→look ((X.map fun x=>(x.2,val g x.1))++E0) t=some v→a.tmps[t]? = some v:=by
   intro X
   induction X with
   | nil=>intro _ h;exact hs0 t v h
   | cons x X ih=>
    intro hX h
    rw [List.map_cons,List.cons_append,YS] at h
    by_cases hdt:x.2=t
    ·rw [hdt,YI] at h
     have hx:=hX x (.head _)
     have h3:=c3 x hx
     have hl:x.1<l.length:=by
      cases hq:nth l x.1 with
      | none=>rw [hq] at h3;cases h3
      | some oq=>exact hlt _ _ hq
     have:=hsk x hx (by simpa using hl)
     rw [←hdt,this];exact h
    ·rw [YL _ _ hdt] at h
     exact ih (fun y hy=>hX y (.tail _ hy)) h
  exact this sk (fun x hx=>hx) hv
 ·simp
 ·refine ⟨g0,?_,fun j o _ hD=>?_,ha.size,ha.defers,fun t v ht=>?_,fun _=>ha.slots,fun x _ hD=>?_,?_⟩
  ·have e:(fun i=>(Array.replicate l.toArray.size false).getD i false)=fun _=>false:=by
    funext i;simp [Array.getD]
   rw [e];exact h0
  ·simp [Array.getD] at hD
  ·exact ha.slots t v (entE_look hE0 t v ht)
  ·simp [Array.getD] at hD
  ·have e:(fun i=>(Array.replicate l.toArray.size false).getD i false)=fun _=>false:=by
    funext i;simp [Array.getD]
   rw [e];exact (hsat.sels hR0).ext hd)
end
section
variable {n:Nat} {C:Cx} {Q:Exit→Act→World→Prop} {E E':List (Nat×Value)} {F F' F1 Fs F0:List Pf} {R R' R0 Rs N N' A:List HP} {k k':List Fr} {ops l:List Oper} {i d:Nat} {t ty0:TypeId} {x y z:Operand} {pos:String} {aft:Array Edge} {gd:Option (Nat×Bool)} {α β:Type} [DecidableEq α] {K:α→Value} {V:β→Value}
theorem l_mgetS {kt et r:Nat} {rs te:TRow} {m:List (α×β)} {zv:Value} (hk:KeyOK kt K) (a:α) (o:Option β) (ho:mget a m=o) (nx:Wl n C ops.toArray k Q l ((d,(o.map V).getD zv)::E) F R) (hw:wantL ops E ⟨some d,.lookup t x y false,ty0,pos,aft,gd⟩=some true:=by rfl) (hn:Nat.blt d n=true:=by rfl)
  (hx:ev E x=some (.map (some r)):=by rfl) (hy:ev E y=some (K a):=by rfl) (hts:lookT tab t=some rs:=by rfl) (hrs:rs.k = .map kt et:=by rfl) (hte:lookT tab et=some te:=by rfl) (hzv:zval te=some zv:=by rfl)
  (hs:Sel (Mp K V r m) R R0:=by (repeat (first|exact Sel.here|apply Sel.there));first|done|fail):Wl n C ops.toArray k Q (⟨some d,.lookup t x y false,ty0,pos,aft,gd⟩::l) E F R:=by
 rw [←ho] at nx
 exact l_mget hk a nx hw hn hx hy hts hrs hte hzv hs
end
abbrev mapJ (b:Bool) (g:Nat×List (ByteArray×ByteArray)):HP:=cond b (Mp skv skv g.1 g.2) (fun _=>True)
def kvX (c:Cq):List (Nat×ByteArray×ByteArray):=[(4,(⟨#[116,97,114,103,101,116]⟩:ByteArray),(subO c).tg),(8,(⟨#[117,115,101,114]⟩:ByteArray),(ofL (Lib.itoa (subO c).us))),(11,(⟨#[116,105,99,107]⟩:ByteArray),(ofL (Lib.itoa (subT c)))),(14,(⟨#[98,121]⟩:ByteArray),c.who),(18,(⟨#[110,117,109,98,101,114]⟩:ByteArray),(ofL (Lib.itoa c.nu))),(22,(⟨#[111,108,100]⟩:ByteArray),c.old.tx),(26,(⟨#[110,101,119]⟩:ByteArray),c.new.tx)]
def pjX (c:Cq) (D:Nat→Bool) (g:Nat×List (ByteArray×ByteArray)):Prop:=∀x ∈ kvX c,D x.1=true→mget x.2.1 g.2=some x.2.2
def skX:List (Nat×Nat):=[(0,63),(1,64),(2,65),(3,66),(5,67),(6,68),(7,69),(9,70),(10,71),(12,72),(13,73),(15,74),(16,75),(17,76),(19,77),(20,78),(21,79),(23,80),(24,81),(25,82),(27,83),(28,84),(29,85),(30,86),(31,87),(32,88),(33,89),(34,90),(35,7)]
def vlX (c:Cq) (s:ByteArray) (b3 b5:Nat) (acc wd vv:ByteArray) (i m:Nat) (g:Nat×List (ByteArray×ByteArray)):List Value:=[Value.string acc,Value.map (some g.1),Value.pointer (some ⟨b5,1,none⟩),Value.string (subO c).tg,undef,Value.pointer (some ⟨b5,3,none⟩),Value.int .i64 (subO c).us,Value.string (ofL (Lib.itoa (subO c).us)),undef,Value.int .i64 (subT c),Value.string (ofL (Lib.itoa (subT c))),undef,Value.pointer (some ⟨b3,1,none⟩),Value.string c.who,undef,Value.pointer (some ⟨b3,2,none⟩),Value.int .i64 c.nu,Value.string (ofL (Lib.itoa c.nu)),undef,Value.pointer (some ⟨b3,4,none⟩),Value.pointer (some ⟨b3,6,none⟩),Value.string c.old.tx,undef,Value.pointer (some ⟨b3,9,none⟩),Value.pointer (some ⟨b3,11,none⟩),Value.string c.new.tx,undef,Value.map (some g.1),Value.string s,Value.int .i64 (i:Int),Value.int .i64 ((i:Int)+1),Value.int .i64 ((i+1+m:Nat):Int),Value.string wd,Value.string vv,Value.string (acc++vv),Value.string (acc++vv)]
theorem Z2 {c:Cq} {x:Nat×ByteArray×ByteArray} (h:x ∈ kvX c):x.1=4∨x.1=8∨x.1=11∨x.1=14∨x.1=18∨x.1=22∨x.1=26:=by
 simp only [kvX,List.mem_cons,List.not_mem_nil,or_false] at h
 rcases h with rfl|rfl|rfl|rfl|rfl|rfl|rfl<;>simp
theorem kv_inj {c:Cq} {x y:Nat×ByteArray×ByteArray} (hx:x ∈ kvX c) (hy:y ∈ kvX c) (h:x.1=y.1):x=y:=by
 simp only [kvX,List.mem_cons,List.not_mem_nil,or_false] at hx hy
 rcases hx with rfl|rfl|rfl|rfl|rfl|rfl|rfl<;>rcases hy with rfl|rfl|rfl|rfl|rfl|rfl|rfl<;>first|rfl|(simp at h)
def kvK:List (Nat×ByteArray):=[(4,(⟨#[116,97,114,103,101,116]⟩:ByteArray)),(8,(⟨#[117,115,101,114]⟩:ByteArray)),(11,(⟨#[116,105,99,107]⟩:ByteArray)),(14,(⟨#[98,121]⟩:ByteArray)),(18,(⟨#[110,117,109,98,101,114]⟩:ByteArray)),(22,(⟨#[111,108,100]⟩:ByteArray)),(26,(⟨#[110,101,119]⟩:ByteArray))]
theorem kv_keys {c:Cq} {x y:Nat×ByteArray×ByteArray} (hx:x ∈ kvX c) (hy:y ∈ kvX c) (h:x.1≠y.1):x.2.1≠y.2.1:=by
 have e:(kvX c).map (fun x=>(x.1,x.2.1))=kvK:=rfl
 have hx2:(x.1,x.2.1) ∈ kvK:=by rw [←e];exact List.mem_map_of_mem hx
 have hy2:(y.1,y.2.1) ∈ kvK:=by rw [←e];exact List.mem_map_of_mem hy
 exact (by decide:∀a ∈ kvK,∀b ∈ kvK,a.1≠b.1→a.2≠b.2) _ hx2 _ hy2 h
theorem kv_get {c:Cq} {D:Nat→Bool} {g:Nat×List (ByteArray×ByteArray)} {wd:ByteArray} (hp:pjX c D g) (hD:∀x ∈ kvX c,D x.1=true) (hi:idx wd wFlds<7):mget wd g.2=some (valF wd c):=by
 have hm:wd ∈ wFlds:=YV.1 hi
 simp only [wFlds,List.mem_cons,List.not_mem_nil,or_false] at hm
 have go:∀x ∈ kvX c,mget x.2.1 g.2=some x.2.2:=fun x hx=>hp x hx (hD x hx)
 simp only [kvX,List.forall_mem_cons] at go
 obtain ⟨g0,g1,g2,g3,g4,g5,g6,_⟩:=go
 rcases hm with rfl|rfl|rfl|rfl|rfl|rfl|rfl
 ·exact g0
 ·exact g1
 ·exact g2
 ·exact g3
 ·exact g4
 ·exact g5
 ·exact g6
theorem vlX_eq {c:Cq} {s:ByteArray} {b3 b5:Nat} {acc wd vv:ByteArray} {i m:Nat} {g g2:Nat×List (ByteArray×ByteArray)} {q:Nat} (h1:q≠1) (h27:q≠27):((vlX c s b3 b5 acc wd vv i m g2)[q]?).getD undef=((vlX c s b3 b5 acc wd vv i m g)[q]?).getD undef:=by
 have e:vlX c s b3 b5 acc wd vv i m g2=((vlX c s b3 b5 acc wd vv i m g).set 1 (.map (some g2.1))).set 27 (.map (some g2.1)):=rfl
 rw [e,List.getElem?_set_ne (Ne.symm h27),List.getElem?_set_ne (Ne.symm h1)]
theorem noD {b:Bool} (h:b=true→False):b=false:=by cases b<;>first|rfl|exact (h rfl).elim
theorem all_none {sk:List (Nat×Nat)} {E:List (Nat×Value)} (h:(sk.all fun x=>(look E x.2).isNone)=true):∀x ∈ sk,look E x.2=none:=fun x hx=>by
 have:=List.all_eq_true.1 h x hx
 simpa using this
theorem all_none2 {sk:List (Nat×Nat)} {last:Nat} {E:List (Nat×Value)} (h:(sk.all fun x=>x.1 == last || (look E x.2).isNone)=true):∀x ∈ sk,x.1≠last→look E x.2=none:=fun x hx hl=>by
 have:=List.all_eq_true.1 h x hx
 simpa [hl] using this
theorem selsA:∀A:List HP,Sels A A []
 | []=>.nil
 | _::A=>.cons .here (selsA A)
theorem selsB (x:HP):∀A:List HP,Sels A (x::A) [x]
 | []=>.nil
 | _::A=>.cons (.there .here) (selsB x A)
set_option maxHeartbeats 16000000 in
theorem expandM_ok (s:ByteArray) (hs:s.size≤100000) (c:Cq) (hcj:CqJ c) (hq:CqS c) (h:tmF s.data.toList 0 0=none):Enters 18∧Spec prog 18 #[.string s,cqa c] [] [] (RetV (.string (ofL (exF c s.data.toList 0)))):=by
 have hsz:=lsz s
 have n1:=subjectM_ok c
 have d1:=Wa (subO c).us (by have:=hcj.u0;omega) hcj.i.u1
 have d2:=Wa (subT c) (by have:=hcj.t0;omega) hcj.i.t1
 have d3:=Wa c.nu (by have:=hcj.n0;omega) hcj.i.n1
 obtain ⟨V,hV⟩:∃V,ofL (exF c s.data.toList 0)=V:=⟨_,rfl⟩
 have hVz:V.size≤20000000000:=by
  have e1:V=expF s c:=by rw [←hV];exact YO (by rw [YK,(tpl_tm s c).2 h])
  rw [e1]
  exact Nat.le_trans (exp_sz hs hq hcj.i) (by decide)
 rw [hV]
 refine ZR [_,_] func18 ntmps18 fun G w hp=>?_
 repeat' (first|refine ZG ?_|refine ZF ?_|refine ZJ ?_|refine ZI ?_|refine ZL ?_|refine ZH ?_|refine ZM ?_|refine ZN (fun b=>?_)|refine ZO (fun b=>?_)|refine ZA ?_|refine ZB ?_|refine ZD (n1) (fun _ _=>?_)|refine l_call0 (n1) (fun _ _=>?_)|(refine ZC (fun hc=>?_) (fun hc=>?_)<;>(try simp at hc))|(refine ZE (fun hc=>?_) (fun hc=>?_)<;>(try simp at hc)))
 rename_i b3 _ _
 generalize b=b5 at *
 have cat:∀(a:ByteArray) (p q:List UInt8),a++ofL (p++q)=(a++ofL p)++ofL q:=fun a p q=>YO (by rw [WC,WC,WC,YK,YK,YK,List.append_assoc])
 refine Yn (X:={q:Nat×ByteArray // q.1≤s.size∧tmF (s.data.toList.drop q.1) 0 q.1=none∧q.2++ofL (exF c (s.data.toList.drop q.1) 0)=V}) (fun q=>[(0,.string s),(3,pv0 b3),(5,pv0 b5),(6,.int .i64 (subT c)),(7,.string q.1.2),(8,.int .i64 (q.1.1:Int))]) (fun _=>[]) (fun _=>[Pt b3 (.cells (cqf c).toArray 26),Pt b5 (.cells (ouf (subO c)).toArray 24)]) (fun q=>s.size - q.1.1) ⟨(0,ofL []),Nat.zero_le _,h,by rw [←hV];exact YO (by rw [WC,YK,YK];rfl)⟩ ⟨rfl,rfl,rfl,rfl,rfl,rfl,trivial⟩ ?_
 rintro ⟨⟨i,acc⟩,hi,hT,hR⟩
 dsimp only at hi hT hR ⊢
 have haz:acc.size≤20000000000:=by
  have:=congrArg ByteArray.size hR
  rw [Yf] at this;omega
 by_cases hlt:i<s.data.toList.length
 ·have hcc:=List.getElem?_eq_getElem hlt
  have hdr:=List.drop_eq_getElem_cons hlt
  generalize hce:s.data.toList[i]=a at *
  have hlt2:i<s.size:=by omega
  rw [hdr] at hT hR
  have w1:=wrapi (z:=(i:Int)+1) (by omega) (by omega)
  have w2:=wrapi (z:=(i:Int)+1+1) (by omega) (by omega)
  have hd2:(s.data.toList.drop (i+1)).drop 1=s.data.toList.drop (i+2):=by rw [List.drop_drop]
  have hu1:(s.data.toList.take (i+1)).drop i=(ofL [a]).data.toList:=by
   rw [YK,List.drop_take,hdr];simp
  by_cases hb:isBr a=true
  ·have kb:(a.toNat:Int)=123∨(a.toNat:Int)=125:=by
    have:a=123∨a=125:=by simpa [isBr] using hb
    rcases this with rfl|rfl<;>decide
   rw [exF,if_pos hb] at hR
   by_cases hx:(s.data.toList.drop (i+1)).head? = some a
   ·rw [if_pos hx,Xc,hd2] at hR
    have hcd:s.data.toList[i+1]? = some a:=by rw [←hx,List.head?_drop]
    have hlt4:i+1<s.size:=by have:=(List.getElem?_eq_some_iff.1 hcd).1;omega
    have hT2:tmF (s.data.toList.drop (i+2)) 0 (i+2)=none:=by
     rw [←hd2]
     have:a=123∨a=125:=by simpa [isBr] using hb
     rcases this with rfl|rfl
     ·rw [tmF,if_neg (by decide),if_pos rfl,if_pos hx,YJ] at hT;exact hT
     ·rw [tmF,if_pos rfl,if_pos hx,YJ] at hT;exact hT
    repeat' (first|refine Yj (s:=s) i a hcc ?_|refine Yj (s:=s) (i+1) a hcd ?_|refine Zh (s:=s) i a hcc ?_|refine ZG ?_|refine ZF ?_|refine ZJ ?_|refine ZI ?_|refine ZL ?_|refine ZH ?_|refine ZM ?_|refine ZN (fun b=>?_)|refine ZO (fun b=>?_)|refine ZA ?_|refine ZB ?_|refine Zd ?_|refine Zc ?_|refine Zr ?_|refine Zg ?_|refine Ze ?_|refine Zq (fun b=>?_)|refine Zs (fun b=>?_)|refine Zp ?_|refine Zf ?_|refine XG (s:=s) (u:=ofL [a]) i (i+1) (by omega) (by omega) hu1 ?_|refine Yb ?_|refine Yb ?_ (h:=by rw [Yz];simp;omega)|rw [w1]|rw [w2]|(refine ZC (fun hc=>?_) (fun hc=>?_)<;>(try simp at hc)<;>(try omega))|(refine ZU (fun hc=>?_) (fun hc=>?_)<;>(try simp at hc)<;>(try omega))|refine ZS 8 [] [(0,0),(1,0),(2,0),(3,0),(4,0),(5,0),(6,0),(7,0)] [] ?_|(refine ZE (fun hc=>?_) (fun hc=>?_)<;>(try simp at hc)<;>(try omega)))
    all_goals exact ZZ ⟨(i+2,acc++ofL [a]),by show i+2≤s.size;omega,hT2,by rw [←cat];exact hR⟩ (by show s.size - (i+2)<s.size - i;omega) ⟨rfl,rfl,rfl,rfl,rfl,rfl,trivial⟩
   ·have ha:a=123:=by
     have:a=123∨a=125:=by simpa [isBr] using hb
     rcases this with rfl|rfl
     ·rfl
     ·rw [tmF,if_pos rfl,if_neg hx] at hT;cases hT
    subst ha
    rw [if_neg hx] at hR
    rw [tmF,if_neg (by decide),if_pos rfl,if_neg hx] at hT
    have hfe:=WZ (s.data.toList.drop (i+1))
    have hfd:spanF (fun x=>!(x == 125)) (s.data.toList.drop (i+1))<(s.data.toList.drop (i+1)).length∧idx (ofL ((s.data.toList.drop (i+1)).take (spanF (fun x=>!(x == 125)) (s.data.toList.drop (i+1))))) wFlds<7:=by
     by_cases hq:spanF (fun x=>!(x == 125)) (s.data.toList.drop (i+1))<(s.data.toList.drop (i+1)).length∧idx (ofL ((s.data.toList.drop (i+1)).take (spanF (fun x=>!(x == 125)) (s.data.toList.drop (i+1))))) wFlds<7
     ·exact hq
     ·rw [if_neg hq] at hfe;rw [hfe] at hT;cases hT
    rw [if_pos hfd] at hfe
    rw [hfe] at hT
    have hT:tmF (s.data.toList.drop (i+1)) (spanF (fun x=>!(x == 125)) (s.data.toList.drop (i+1))+1) (i+1)=none:=hT
    rw [YJ,List.drop_drop] at hT
    rw [Xc,List.drop_drop] at hR
    have st1:=XO (fun x=>!(x == 125)) (s.data.toList.drop (i+1))
    have st2:=X4 (fun x=>!(x == 125)) (s.data.toList.drop (i+1)) hfd.1
    obtain ⟨f1,f2⟩:=hfd
    generalize spanF (fun x=>!(x == 125)) (s.data.toList.drop (i+1))=m at *
    rw [List.length_drop] at f1
    have hat:∀k,i+1≤k→k≤i+1+m→∃d,s.data.toList[k]? = some d∧((d.toNat:Int)=125↔k=i+1+m):=fun k k1 k2=>by
     have hk:k<s.data.toList.length:=by omega
     refine ⟨_,List.getElem?_eq_getElem hk,?_⟩
     rw [show ∀c:UInt8,((c.toNat:Int)=125)↔c=125 from fun c=>(u8i (k:=125) (by decide)).symm]
     by_cases he:k=i+1+m
     ·subst he
      rw [List.getElem_drop] at st2
      have:s.data.toList[i+1+m]=125:=by simpa using st2
      exact ⟨fun _=>rfl,fun _=>this⟩
     ·have hm:s.data.toList[k] ∈ (s.data.toList.drop (i+1)).take m:=by
       rw [List.mem_iff_getElem]
       exact ⟨k - (i+1),by rw [List.length_take,List.length_drop];omega,by rw [List.getElem_take,List.getElem_drop];congr 1;omega⟩
      have:=st1 _ hm
      exact ⟨fun h=>by rw [h] at this;exact absurd this (by decide),fun h=>absurd h he⟩
    have hd3:∀d:UInt8,s.data.toList[i+1]? = some d→¬(d.toNat:Int)=123:=fun d hd h=>hx (by
     rw [List.head?_drop,hd,(u8i (k:=123) (by decide)).2 h];rfl)
    obtain ⟨d,hcd,_⟩:=hat (i+1) (by omega) (by omega)
    have hd4:=hd3 d hcd
    have hne:¬(d.toNat:Int)=((123:UInt8).toNat:Int):=hd4
    repeat' (first|refine Yj (s:=s) i 123 hcc ?_|refine Yj (s:=s) (i+1) d hcd ?_|refine Zh (s:=s) i 123 hcc ?_|refine ZG ?_|refine ZF ?_|refine ZJ ?_|refine ZI ?_|refine ZL ?_|refine ZH ?_|refine ZM ?_|refine ZN (fun b=>?_)|refine ZO (fun b=>?_)|refine ZA ?_|refine ZB ?_|refine Zd ?_|refine Zc ?_|refine Zr ?_|refine Zg ?_|refine Ze ?_|refine Zq (fun b=>?_)|refine Zs (fun b=>?_)|refine Zp ?_|refine Zf ?_|rw [w1]|rw [w2]|(refine ZC (fun hc=>?_) (fun hc=>?_)<;>(try simp at hc)<;>(try omega))|(refine ZU (fun hc=>?_) (fun hc=>?_)<;>(try simp at hc)<;>(try omega))|refine ZS 8 [] [(0,0),(1,0),(2,0),(3,0),(4,0),(5,0),(6,0),(7,0)] [] ?_|(refine ZE (fun hc=>?_) (fun hc=>?_)<;>(try simp at hc)<;>(try omega)))
    refine Yn (X:={k:Nat // i+1≤k∧k≤i+1+m}) (fun k=>[(0,.string s),(3,pv0 b3),(5,pv0 b5),(6,.int .i64 (subT c)),(7,.string acc),(8,.int .i64 (i:Int)),(9,.int .i64 (k.1:Int))]) (fun _=>[]) (fun _=>[Pt b3 (.cells (cqf c).toArray 26),Pt b5 (.cells (ouf (subO c)).toArray 24)]) (fun k=>s.size - k.1) ⟨i+1,by omega,by omega⟩ ⟨rfl,rfl,rfl,rfl,rfl,rfl,rfl,trivial⟩ ?_
    rintro ⟨k,hk1,hk2⟩
    dsimp only at hk1 hk2 ⊢
    obtain ⟨e,hke,hkd⟩:=hat k hk1 hk2
    by_cases hk:k=i+1+m
    ·have ke:=hkd.2 hk
     subst hk
     have hu2:(s.data.toList.take (i+1+m)).drop (i+1)=(ofL ((s.data.toList.drop (i+1)).take m)).data.toList:=by
      rw [YK,List.drop_take,Nat.add_sub_cancel_left]
     have w3:=wrapi (z:=((i+1+m:Nat):Int)+1) (by omega) (by omega)
     generalize hwd:ofL ((s.data.toList.drop (i+1)).take m)=wd at *
     generalize hvv:valF wd c=vv at *
     have hR2:(acc++vv)++ofL (exF c (s.data.toList.drop (i+1+(m+1))) 0)=V:=by
      rw [←hR,cat]
     have hvz:vv.size≤5000:=by rw [←hvv];exact hq.val hcj.i wd
     repeat' (first|refine Zh (s:=s) (i+1+m) e hke ?_|refine ZG ?_|refine ZF ?_|refine ZJ ?_|refine ZI ?_|refine ZL ?_|refine ZH ?_|refine ZM ?_|refine ZN (fun b=>?_)|refine ZO (fun b=>?_)|refine ZA ?_|refine ZB ?_|refine ZK ?_|refine Zd ?_|refine Zc ?_|refine Zr ?_|refine Zg ?_|refine Ze ?_|refine Zq (fun b=>?_)|refine Zs (fun b=>?_)|refine Zp ?_|refine Zf ?_|(refine ZC (fun hc=>?_) (fun hc=>?_)<;>(try simp at hc)<;>(try omega))|(refine ZU (fun hc=>?_) (fun hc=>?_)<;>(try simp at hc)<;>(try omega))|refine ZS 8 [] [(0,0),(1,0),(2,0),(3,0),(4,0),(5,0),(6,0),(7,0)] [] ?_|(refine ZE (fun hc=>?_) (fun hc=>?_)<;>(try simp at hc)<;>(try omega)))
     refine Z0 (Lx:=[]) (r:=mapJ false (0,[])) (fun h _=>trivial) ?_
     have pjm:∀(j:Nat) (D:Nat→Bool) (g:Nat×List (ByteArray×ByteArray)),(∀x ∈ kvX c,x.1≠j)→pjX c D g→pjX c (upd1 D j) g:=fun j D g h hp x hx hD=>hp x hx (by unfold upd1 at hD;rwa [if_neg (h x hx)] at hD)
     have pji:∀(j:Nat) (key v:ByteArray) (D:Nat→Bool) (g:Nat×List (ByteArray×ByteArray)),(j,key,v) ∈ kvX c→pjX c D g→pjX c (upd1 D j) (g.1,mset key v g.2):=fun j key v D g h1 hp x hx hD=>by
      show mget x.2.1 (mset key v g.2)=_
      rw [mget_set]
      by_cases hj:x.1=j
      ·rw [kv_inj hx h1 hj,if_pos rfl]
      ·rw [if_neg (kv_keys h1 hx (fun e=>hj e.symm))]
       exact hp x hx (by unfold upd1 at hD;rwa [if_neg hj] at hD)
     refine k_regJ (γ:=Nat×List (ByteArray×ByteArray)) 14 skX 35 (fun g j=>((vlX c s b3 b5 acc wd vv i m g)[j]?).getD undef) (fun D g=>[mapJ (D 1) g]) (pjX c) (0,[]) [(0,.string s),(3,pv0 b3),(5,pv0 b5),(6,.int .i64 (subT c)),(8,.int .i64 (i:Int)),(9,.int .i64 ((i+1+m:Nat):Int))] _ rfl (by decide +kernel) (all_none2 rfl) ⟨rfl,rfl,rfl,rfl,rfl,rfl,trivial⟩ (all_none rfl) (fun x _ hD=>by cases hD) (.cons .here .nil) ?_ ?_
     ·intro j o ho D g hcl hDi hdep hpj
      match j,ho,hDi,hdep with
      | 0,ho,hDi,hdep=>
       obtain rfl:=Option.some.inj ho
       refine ⟨[],(fun x hx=>by cases hx),fun Qr=>?_⟩
       refine ZG ?_
       refine ZF ?_
       exact k_J g (pjm 0 D g (fun x hx=>by have:=Z2 hx;omega) hpj) (fun _ _=>rfl) (fun x hx h=>by rw [(by decide:∀x ∈ skX,x.1=0→x.2=63) x hx h];rfl) (by first|exact ZV _|exact Za _ _) (selsA _)
      | 1,ho,hDi,hdep=>
       obtain rfl:=Option.some.inj ho
       refine ⟨[],(fun x hx=>by cases hx),fun Qr=>?_⟩
       refine XD ZY skv (fun r=>?_)
       refine ZF ?_
       have hno:∀q,q=4∨q=8∨q=11∨q=14∨q=18∨q=22∨q=26∨q=27→D q=false:=fun q hq=>by
        rcases hq with rfl|rfl|rfl|rfl|rfl|rfl|rfl|rfl
        ·exact noD fun hh=>by have:=hcl 4 _ rfl hh 1 (by decide +kernel);rw [hDi] at this;cases this
        ·exact noD fun hh=>by have:=hcl 8 _ rfl hh 1 (by decide +kernel);rw [hDi] at this;cases this
        ·exact noD fun hh=>by have:=hcl 11 _ rfl hh 1 (by decide +kernel);rw [hDi] at this;cases this
        ·exact noD fun hh=>by have:=hcl 14 _ rfl hh 1 (by decide +kernel);rw [hDi] at this;cases this
        ·exact noD fun hh=>by have:=hcl 18 _ rfl hh 1 (by decide +kernel);rw [hDi] at this;cases this
        ·exact noD fun hh=>by have:=hcl 22 _ rfl hh 1 (by decide +kernel);rw [hDi] at this;cases this
        ·exact noD fun hh=>by have:=hcl 26 _ rfl hh 1 (by decide +kernel);rw [hDi] at this;cases this
        ·exact noD fun hh=>by have:=hcl 27 _ rfl hh 1 (by decide +kernel);rw [hDi] at this;cases this
       exact k_J (r,[]) (fun x hx hD=>by
        exfalso
        have h1:=Z2 hx
        unfold upd1 at hD;rw [if_neg (by omega),hno x.1 (by omega)] at hD;cases hD) (fun q hq=>vlX_eq (fun e=>by rw [e,hDi] at hq;cases hq) (fun e=>by rw [e,hno 27 (by omega)] at hq;cases hq)) (fun x hx h=>by rw [(by decide:∀x ∈ skX,x.1=1→x.2=64) x hx h];rfl) (ZV _) (.cons .here (selsB _ _))
      | 2,ho,hDi,hdep=>
       obtain rfl:=Option.some.inj ho
       refine ⟨[],(fun x hx=>by cases hx),fun Qr=>?_⟩
       refine ZG ?_
       refine ZF ?_
       exact k_J g (pjm 2 D g (fun x hx=>by have:=Z2 hx;omega) hpj) (fun _ _=>rfl) (fun x hx h=>by rw [(by decide:∀x ∈ skX,x.1=2→x.2=65) x hx h];rfl) (by first|exact ZV _|exact Za _ _) (selsA _)
      | 3,ho,hDi,hdep=>
       obtain rfl:=Option.some.inj ho
       refine ⟨[(65,Value.pointer (some ⟨b5,1,none⟩))],(fun x hx=>by
        simp only [List.mem_cons,List.not_mem_nil,or_false] at hx
        rcases hx with rfl
        ·exact ⟨2,(show (2,65) ∈ skX by decide),hdep 2 (by decide +kernel),rfl⟩),fun Qr=>?_⟩
       refine ZL ?_
       refine ZF ?_
       exact k_J g (pjm 3 D g (fun x hx=>by have:=Z2 hx;omega) hpj) (fun _ _=>rfl) (fun x hx h=>by rw [(by decide:∀x ∈ skX,x.1=3→x.2=66) x hx h];rfl) (by first|exact ZV _|exact Za _ _) (selsA _)
      | 4,ho,hDi,hdep=>
       obtain rfl:=Option.some.inj ho
       refine ⟨[(64,Value.map (some g.1)),(66,Value.string (subO c).tg)],(fun x hx=>by
        simp only [List.mem_cons,List.not_mem_nil,or_false] at hx
        rcases hx with rfl|rfl
        ·exact ⟨1,(show (1,64) ∈ skX by decide),hdep 1 (by decide +kernel),rfl⟩
        ·exact ⟨3,(show (3,66) ∈ skX by decide),hdep 3 (by decide +kernel),rfl⟩),fun Qr=>?_⟩
       have hD1:D 1=true:=hdep 1 (by decide +kernel)
       show Wl _ _ _ _ _ _ _ _ ([mapJ (D 1) g]++_)
       rw [hD1]
       refine Z9 (V:=skv) ZY (⟨#[116,97,114,103,101,116]⟩:ByteArray) (subO c).tg ?_
       refine ZF ?_
       exact k_J (g.1,mset (⟨#[116,97,114,103,101,116]⟩:ByteArray) (subO c).tg g.2) (pji 4 _ _ D g (.head _) hpj) (fun q _=>rfl) (fun x hx h=>absurd h ((by decide:∀x ∈ skX,x.1≠4) x hx)) (ZV _) (by show Sels ([mapJ (D 1) _]++_) _ _;rw [hD1];exact .cons .here (selsA _))
      | 5,ho,hDi,hdep=>
       obtain rfl:=Option.some.inj ho
       refine ⟨[],(fun x hx=>by cases hx),fun Qr=>?_⟩
       refine ZG ?_
       refine ZF ?_
       exact k_J g (pjm 5 D g (fun x hx=>by have:=Z2 hx;omega) hpj) (fun _ _=>rfl) (fun x hx h=>by rw [(by decide:∀x ∈ skX,x.1=5→x.2=67) x hx h];rfl) (by first|exact ZV _|exact Za _ _) (selsA _)
      | 6,ho,hDi,hdep=>
       obtain rfl:=Option.some.inj ho
       refine ⟨[(67,Value.pointer (some ⟨b5,3,none⟩))],(fun x hx=>by
        simp only [List.mem_cons,List.not_mem_nil,or_false] at hx
        rcases hx with rfl
        ·exact ⟨5,(show (5,67) ∈ skX by decide),hdep 5 (by decide +kernel),rfl⟩),fun Qr=>?_⟩
       refine ZL ?_
       refine ZF ?_
       exact k_J g (pjm 6 D g (fun x hx=>by have:=Z2 hx;omega) hpj) (fun _ _=>rfl) (fun x hx h=>by rw [(by decide:∀x ∈ skX,x.1=6→x.2=68) x hx h];rfl) (by first|exact ZV _|exact Za _ _) (selsA _)
      | 7,ho,hDi,hdep=>
       obtain rfl:=Option.some.inj ho
       refine ⟨[(68,Value.int .i64 (subO c).us)],(fun x hx=>by
        simp only [List.mem_cons,List.not_mem_nil,or_false] at hx
        rcases hx with rfl
        ·exact ⟨6,(show (6,68) ∈ skX by decide),hdep 6 (by decide +kernel),rfl⟩),fun Qr=>?_⟩
       refine ZD d1 (fun _ _=>?_)
       refine ZF ?_
       exact k_J g (pjm 7 D g (fun x hx=>by have:=Z2 hx;omega) hpj) (fun _ _=>rfl) (fun x hx h=>by rw [(by decide:∀x ∈ skX,x.1=7→x.2=69) x hx h];rfl) (by first|exact ZV _|exact Za _ _) (selsA _)
      | 8,ho,hDi,hdep=>
       obtain rfl:=Option.some.inj ho
       refine ⟨[(64,Value.map (some g.1)),(69,Value.string (ofL (Lib.itoa (subO c).us)))],(fun x hx=>by
        simp only [List.mem_cons,List.not_mem_nil,or_false] at hx
        rcases hx with rfl|rfl
        ·exact ⟨1,(show (1,64) ∈ skX by decide),hdep 1 (by decide +kernel),rfl⟩
        ·exact ⟨7,(show (7,69) ∈ skX by decide),hdep 7 (by decide +kernel),rfl⟩),fun Qr=>?_⟩
       have hD1:D 1=true:=hdep 1 (by decide +kernel)
       show Wl _ _ _ _ _ _ _ _ ([mapJ (D 1) g]++_)
       rw [hD1]
       refine Z9 (V:=skv) ZY (⟨#[117,115,101,114]⟩:ByteArray) (ofL (Lib.itoa (subO c).us)) ?_
       refine ZF ?_
       exact k_J (g.1,mset (⟨#[117,115,101,114]⟩:ByteArray) (ofL (Lib.itoa (subO c).us)) g.2) (pji 8 _ _ D g (.tail _ (.head _)) hpj) (fun q _=>rfl) (fun x hx h=>absurd h ((by decide:∀x ∈ skX,x.1≠8) x hx)) (ZV _) (by show Sels ([mapJ (D 1) _]++_) _ _;rw [hD1];exact .cons .here (selsA _))
      | 9,ho,hDi,hdep=>
       obtain rfl:=Option.some.inj ho
       refine ⟨[],(fun x hx=>by cases hx),fun Qr=>?_⟩
       refine ZG ?_
       refine ZF ?_
       exact k_J g (pjm 9 D g (fun x hx=>by have:=Z2 hx;omega) hpj) (fun _ _=>rfl) (fun x hx h=>by rw [(by decide:∀x ∈ skX,x.1=9→x.2=70) x hx h];rfl) (by first|exact ZV _|exact Za _ _) (selsA _)
      | 10,ho,hDi,hdep=>
       obtain rfl:=Option.some.inj ho
       refine ⟨[(70,Value.int .i64 (subT c))],(fun x hx=>by
        simp only [List.mem_cons,List.not_mem_nil,or_false] at hx
        rcases hx with rfl
        ·exact ⟨9,(show (9,70) ∈ skX by decide),hdep 9 (by decide +kernel),rfl⟩),fun Qr=>?_⟩
       refine ZD d2 (fun _ _=>?_)
       refine ZF ?_
       exact k_J g (pjm 10 D g (fun x hx=>by have:=Z2 hx;omega) hpj) (fun _ _=>rfl) (fun x hx h=>by rw [(by decide:∀x ∈ skX,x.1=10→x.2=71) x hx h];rfl) (by first|exact ZV _|exact Za _ _) (selsA _)
      | 11,ho,hDi,hdep=>
       obtain rfl:=Option.some.inj ho
       refine ⟨[(64,Value.map (some g.1)),(71,Value.string (ofL (Lib.itoa (subT c))))],(fun x hx=>by
        simp only [List.mem_cons,List.not_mem_nil,or_false] at hx
        rcases hx with rfl|rfl
        ·exact ⟨1,(show (1,64) ∈ skX by decide),hdep 1 (by decide +kernel),rfl⟩
        ·exact ⟨10,(show (10,71) ∈ skX by decide),hdep 10 (by decide +kernel),rfl⟩),fun Qr=>?_⟩
       have hD1:D 1=true:=hdep 1 (by decide +kernel)
       show Wl _ _ _ _ _ _ _ _ ([mapJ (D 1) g]++_)
       rw [hD1]
       refine Z9 (V:=skv) ZY (⟨#[116,105,99,107]⟩:ByteArray) (ofL (Lib.itoa (subT c))) ?_
       refine ZF ?_
       exact k_J (g.1,mset (⟨#[116,105,99,107]⟩:ByteArray) (ofL (Lib.itoa (subT c))) g.2) (pji 11 _ _ D g (.tail _ (.tail _ (.head _))) hpj) (fun q _=>rfl) (fun x hx h=>absurd h ((by decide:∀x ∈ skX,x.1≠11) x hx)) (ZV _) (by show Sels ([mapJ (D 1) _]++_) _ _;rw [hD1];exact .cons .here (selsA _))
      | 12,ho,hDi,hdep=>
       obtain rfl:=Option.some.inj ho
       refine ⟨[],(fun x hx=>by cases hx),fun Qr=>?_⟩
       refine ZG ?_
       refine ZF ?_
       exact k_J g (pjm 12 D g (fun x hx=>by have:=Z2 hx;omega) hpj) (fun _ _=>rfl) (fun x hx h=>by rw [(by decide:∀x ∈ skX,x.1=12→x.2=72) x hx h];rfl) (by first|exact ZV _|exact Za _ _) (selsA _)
      | 13,ho,hDi,hdep=>
       obtain rfl:=Option.some.inj ho
       refine ⟨[(72,Value.pointer (some ⟨b3,1,none⟩))],(fun x hx=>by
        simp only [List.mem_cons,List.not_mem_nil,or_false] at hx
        rcases hx with rfl
        ·exact ⟨12,(show (12,72) ∈ skX by decide),hdep 12 (by decide +kernel),rfl⟩),fun Qr=>?_⟩
       refine ZL ?_
       refine ZF ?_
       exact k_J g (pjm 13 D g (fun x hx=>by have:=Z2 hx;omega) hpj) (fun _ _=>rfl) (fun x hx h=>by rw [(by decide:∀x ∈ skX,x.1=13→x.2=73) x hx h];rfl) (by first|exact ZV _|exact Za _ _) (selsA _)
      | 14,ho,hDi,hdep=>
       obtain rfl:=Option.some.inj ho
       refine ⟨[(64,Value.map (some g.1)),(73,Value.string c.who)],(fun x hx=>by
        simp only [List.mem_cons,List.not_mem_nil,or_false] at hx
        rcases hx with rfl|rfl
        ·exact ⟨1,(show (1,64) ∈ skX by decide),hdep 1 (by decide +kernel),rfl⟩
        ·exact ⟨13,(show (13,73) ∈ skX by decide),hdep 13 (by decide +kernel),rfl⟩),fun Qr=>?_⟩
       have hD1:D 1=true:=hdep 1 (by decide +kernel)
       show Wl _ _ _ _ _ _ _ _ ([mapJ (D 1) g]++_)
       rw [hD1]
       refine Z9 (V:=skv) ZY (⟨#[98,121]⟩:ByteArray) c.who ?_
       refine ZF ?_
       exact k_J (g.1,mset (⟨#[98,121]⟩:ByteArray) c.who g.2) (pji 14 _ _ D g (.tail _ (.tail _ (.tail _ (.head _)))) hpj) (fun q _=>rfl) (fun x hx h=>absurd h ((by decide:∀x ∈ skX,x.1≠14) x hx)) (ZV _) (by show Sels ([mapJ (D 1) _]++_) _ _;rw [hD1];exact .cons .here (selsA _))
      | 15,ho,hDi,hdep=>
       obtain rfl:=Option.some.inj ho
       refine ⟨[],(fun x hx=>by cases hx),fun Qr=>?_⟩
       refine ZG ?_
       refine ZF ?_
       exact k_J g (pjm 15 D g (fun x hx=>by have:=Z2 hx;omega) hpj) (fun _ _=>rfl) (fun x hx h=>by rw [(by decide:∀x ∈ skX,x.1=15→x.2=74) x hx h];rfl) (by first|exact ZV _|exact Za _ _) (selsA _)
      | 16,ho,hDi,hdep=>
       obtain rfl:=Option.some.inj ho
       refine ⟨[(74,Value.pointer (some ⟨b3,2,none⟩))],(fun x hx=>by
        simp only [List.mem_cons,List.not_mem_nil,or_false] at hx
        rcases hx with rfl
        ·exact ⟨15,(show (15,74) ∈ skX by decide),hdep 15 (by decide +kernel),rfl⟩),fun Qr=>?_⟩
       refine ZL ?_
       refine ZF ?_
       exact k_J g (pjm 16 D g (fun x hx=>by have:=Z2 hx;omega) hpj) (fun _ _=>rfl) (fun x hx h=>by rw [(by decide:∀x ∈ skX,x.1=16→x.2=75) x hx h];rfl) (by first|exact ZV _|exact Za _ _) (selsA _)
      | 17,ho,hDi,hdep=>
       obtain rfl:=Option.some.inj ho
       refine ⟨[(75,Value.int .i64 c.nu)],(fun x hx=>by
        simp only [List.mem_cons,List.not_mem_nil,or_false] at hx
        rcases hx with rfl
        ·exact ⟨16,(show (16,75) ∈ skX by decide),hdep 16 (by decide +kernel),rfl⟩),fun Qr=>?_⟩
       refine ZD d3 (fun _ _=>?_)
       refine ZF ?_
       exact k_J g (pjm 17 D g (fun x hx=>by have:=Z2 hx;omega) hpj) (fun _ _=>rfl) (fun x hx h=>by rw [(by decide:∀x ∈ skX,x.1=17→x.2=76) x hx h];rfl) (by first|exact ZV _|exact Za _ _) (selsA _)
      | 18,ho,hDi,hdep=>
       obtain rfl:=Option.some.inj ho
       refine ⟨[(64,Value.map (some g.1)),(76,Value.string (ofL (Lib.itoa c.nu)))],(fun x hx=>by
        simp only [List.mem_cons,List.not_mem_nil,or_false] at hx
        rcases hx with rfl|rfl
        ·exact ⟨1,(show (1,64) ∈ skX by decide),hdep 1 (by decide +kernel),rfl⟩
        ·exact ⟨17,(show (17,76) ∈ skX by decide),hdep 17 (by decide +kernel),rfl⟩),fun Qr=>?_⟩
       have hD1:D 1=true:=hdep 1 (by decide +kernel)
       show Wl _ _ _ _ _ _ _ _ ([mapJ (D 1) g]++_)
       rw [hD1]
       refine Z9 (V:=skv) ZY (⟨#[110,117,109,98,101,114]⟩:ByteArray) (ofL (Lib.itoa c.nu)) ?_
       refine ZF ?_
       exact k_J (g.1,mset (⟨#[110,117,109,98,101,114]⟩:ByteArray) (ofL (Lib.itoa c.nu)) g.2) (pji 18 _ _ D g (.tail _ (.tail _ (.tail _ (.tail _ (.head _))))) hpj) (fun q _=>rfl) (fun x hx h=>absurd h ((by decide:∀x ∈ skX,x.1≠18) x hx)) (ZV _) (by show Sels ([mapJ (D 1) _]++_) _ _;rw [hD1];exact .cons .here (selsA _))
      | 19,ho,hDi,hdep=>
       obtain rfl:=Option.some.inj ho
       refine ⟨[],(fun x hx=>by cases hx),fun Qr=>?_⟩
       refine ZG ?_
       refine ZF ?_
       exact k_J g (pjm 19 D g (fun x hx=>by have:=Z2 hx;omega) hpj) (fun _ _=>rfl) (fun x hx h=>by rw [(by decide:∀x ∈ skX,x.1=19→x.2=77) x hx h];rfl) (by first|exact ZV _|exact Za _ _) (selsA _)
      | 20,ho,hDi,hdep=>
       obtain rfl:=Option.some.inj ho
       refine ⟨[(77,Value.pointer (some ⟨b3,4,none⟩))],(fun x hx=>by
        simp only [List.mem_cons,List.not_mem_nil,or_false] at hx
        rcases hx with rfl
        ·exact ⟨19,(show (19,77) ∈ skX by decide),hdep 19 (by decide +kernel),rfl⟩),fun Qr=>?_⟩
       refine ZG ?_
       refine ZF ?_
       exact k_J g (pjm 20 D g (fun x hx=>by have:=Z2 hx;omega) hpj) (fun _ _=>rfl) (fun x hx h=>by rw [(by decide:∀x ∈ skX,x.1=20→x.2=78) x hx h];rfl) (by first|exact ZV _|exact Za _ _) (selsA _)
      | 21,ho,hDi,hdep=>
       obtain rfl:=Option.some.inj ho
       refine ⟨[(78,Value.pointer (some ⟨b3,6,none⟩))],(fun x hx=>by
        simp only [List.mem_cons,List.not_mem_nil,or_false] at hx
        rcases hx with rfl
        ·exact ⟨20,(show (20,78) ∈ skX by decide),hdep 20 (by decide +kernel),rfl⟩),fun Qr=>?_⟩
       refine ZL ?_
       refine ZF ?_
       exact k_J g (pjm 21 D g (fun x hx=>by have:=Z2 hx;omega) hpj) (fun _ _=>rfl) (fun x hx h=>by rw [(by decide:∀x ∈ skX,x.1=21→x.2=79) x hx h];rfl) (by first|exact ZV _|exact Za _ _) (selsA _)
      | 22,ho,hDi,hdep=>
       obtain rfl:=Option.some.inj ho
       refine ⟨[(64,Value.map (some g.1)),(79,Value.string c.old.tx)],(fun x hx=>by
        simp only [List.mem_cons,List.not_mem_nil,or_false] at hx
        rcases hx with rfl|rfl
        ·exact ⟨1,(show (1,64) ∈ skX by decide),hdep 1 (by decide +kernel),rfl⟩
        ·exact ⟨21,(show (21,79) ∈ skX by decide),hdep 21 (by decide +kernel),rfl⟩),fun Qr=>?_⟩
       have hD1:D 1=true:=hdep 1 (by decide +kernel)
       show Wl _ _ _ _ _ _ _ _ ([mapJ (D 1) g]++_)
       rw [hD1]
       refine Z9 (V:=skv) ZY (⟨#[111,108,100]⟩:ByteArray) c.old.tx ?_
       refine ZF ?_
       exact k_J (g.1,mset (⟨#[111,108,100]⟩:ByteArray) c.old.tx g.2) (pji 22 _ _ D g (.tail _ (.tail _ (.tail _ (.tail _ (.tail _ (.head _)))))) hpj) (fun q _=>rfl) (fun x hx h=>absurd h ((by decide:∀x ∈ skX,x.1≠22) x hx)) (ZV _) (by show Sels ([mapJ (D 1) _]++_) _ _;rw [hD1];exact .cons .here (selsA _))
      | 23,ho,hDi,hdep=>
       obtain rfl:=Option.some.inj ho
       refine ⟨[],(fun x hx=>by cases hx),fun Qr=>?_⟩
       refine ZG ?_
       refine ZF ?_
       exact k_J g (pjm 23 D g (fun x hx=>by have:=Z2 hx;omega) hpj) (fun _ _=>rfl) (fun x hx h=>by rw [(by decide:∀x ∈ skX,x.1=23→x.2=80) x hx h];rfl) (by first|exact ZV _|exact Za _ _) (selsA _)
      | 24,ho,hDi,hdep=>
       obtain rfl:=Option.some.inj ho
       refine ⟨[(80,Value.pointer (some ⟨b3,9,none⟩))],(fun x hx=>by
        simp only [List.mem_cons,List.not_mem_nil,or_false] at hx
        rcases hx with rfl
        ·exact ⟨23,(show (23,80) ∈ skX by decide),hdep 23 (by decide +kernel),rfl⟩),fun Qr=>?_⟩
       refine ZG ?_
       refine ZF ?_
       exact k_J g (pjm 24 D g (fun x hx=>by have:=Z2 hx;omega) hpj) (fun _ _=>rfl) (fun x hx h=>by rw [(by decide:∀x ∈ skX,x.1=24→x.2=81) x hx h];rfl) (by first|exact ZV _|exact Za _ _) (selsA _)
      | 25,ho,hDi,hdep=>
       obtain rfl:=Option.some.inj ho
       refine ⟨[(81,Value.pointer (some ⟨b3,11,none⟩))],(fun x hx=>by
        simp only [List.mem_cons,List.not_mem_nil,or_false] at hx
        rcases hx with rfl
        ·exact ⟨24,(show (24,81) ∈ skX by decide),hdep 24 (by decide +kernel),rfl⟩),fun Qr=>?_⟩
       refine ZL ?_
       refine ZF ?_
       exact k_J g (pjm 25 D g (fun x hx=>by have:=Z2 hx;omega) hpj) (fun _ _=>rfl) (fun x hx h=>by rw [(by decide:∀x ∈ skX,x.1=25→x.2=82) x hx h];rfl) (by first|exact ZV _|exact Za _ _) (selsA _)
      | 26,ho,hDi,hdep=>
       obtain rfl:=Option.some.inj ho
       refine ⟨[(64,Value.map (some g.1)),(82,Value.string c.new.tx)],(fun x hx=>by
        simp only [List.mem_cons,List.not_mem_nil,or_false] at hx
        rcases hx with rfl|rfl
        ·exact ⟨1,(show (1,64) ∈ skX by decide),hdep 1 (by decide +kernel),rfl⟩
        ·exact ⟨25,(show (25,82) ∈ skX by decide),hdep 25 (by decide +kernel),rfl⟩),fun Qr=>?_⟩
       have hD1:D 1=true:=hdep 1 (by decide +kernel)
       show Wl _ _ _ _ _ _ _ _ ([mapJ (D 1) g]++_)
       rw [hD1]
       refine Z9 (V:=skv) ZY (⟨#[110,101,119]⟩:ByteArray) c.new.tx ?_
       refine ZF ?_
       exact k_J (g.1,mset (⟨#[110,101,119]⟩:ByteArray) c.new.tx g.2) (pji 26 _ _ D g (.tail _ (.tail _ (.tail _ (.tail _ (.tail _ (.tail _ (.head _))))))) hpj) (fun q _=>rfl) (fun x hx h=>absurd h ((by decide:∀x ∈ skX,x.1≠26) x hx)) (ZV _) (by show Sels ([mapJ (D 1) _]++_) _ _;rw [hD1];exact .cons .here (selsA _))
      | 27,ho,hDi,hdep=>
       obtain rfl:=Option.some.inj ho
       refine ⟨[(64,Value.map (some g.1))],(fun x hx=>by
        simp only [List.mem_cons,List.not_mem_nil,or_false] at hx
        rcases hx with rfl
        ·exact ⟨1,(show (1,64) ∈ skX by decide),hdep 1 (by decide +kernel),rfl⟩),fun Qr=>?_⟩
       refine ZG ?_
       refine ZF ?_
       exact k_J g (pjm 27 D g (fun x hx=>by have:=Z2 hx;omega) hpj) (fun _ _=>rfl) (fun x hx h=>by rw [(by decide:∀x ∈ skX,x.1=27→x.2=83) x hx h];rfl) (by first|exact ZV _|exact Za _ _) (selsA _)
      | 28,ho,hDi,hdep=>
       obtain rfl:=Option.some.inj ho
       refine ⟨[],(fun x hx=>by cases hx),fun Qr=>?_⟩
       refine ZG ?_
       refine ZF ?_
       exact k_J g (pjm 28 D g (fun x hx=>by have:=Z2 hx;omega) hpj) (fun _ _=>rfl) (fun x hx h=>by rw [(by decide:∀x ∈ skX,x.1=28→x.2=84) x hx h];rfl) (by first|exact ZV _|exact Za _ _) (selsA _)
      | 29,ho,hDi,hdep=>
       obtain rfl:=Option.some.inj ho
       refine ⟨[],(fun x hx=>by cases hx),fun Qr=>?_⟩
       refine ZG ?_
       refine ZF ?_
       exact k_J g (pjm 29 D g (fun x hx=>by have:=Z2 hx;omega) hpj) (fun _ _=>rfl) (fun x hx h=>by rw [(by decide:∀x ∈ skX,x.1=29→x.2=85) x hx h];rfl) (by first|exact ZV _|exact Za _ _) (selsA _)
      | 30,ho,hDi,hdep=>
       obtain rfl:=Option.some.inj ho
       refine ⟨[(85,Value.int .i64 (i:Int))],(fun x hx=>by
        simp only [List.mem_cons,List.not_mem_nil,or_false] at hx
        rcases hx with rfl
        ·exact ⟨29,(show (29,85) ∈ skX by decide),hdep 29 (by decide +kernel),rfl⟩),fun Qr=>?_⟩
       refine ZG ?_
       rw [w1]
       refine ZF ?_
       exact k_J g (pjm 30 D g (fun x hx=>by have:=Z2 hx;omega) hpj) (fun _ _=>rfl) (fun x hx h=>by rw [(by decide:∀x ∈ skX,x.1=30→x.2=86) x hx h];rfl) (by first|exact ZV _|exact Za _ _) (selsA _)
      | 31,ho,hDi,hdep=>
       obtain rfl:=Option.some.inj ho
       refine ⟨[],(fun x hx=>by cases hx),fun Qr=>?_⟩
       refine ZG ?_
       refine ZF ?_
       exact k_J g (pjm 31 D g (fun x hx=>by have:=Z2 hx;omega) hpj) (fun _ _=>rfl) (fun x hx h=>by rw [(by decide:∀x ∈ skX,x.1=31→x.2=87) x hx h];rfl) (by first|exact ZV _|exact Za _ _) (selsA _)
      | 32,ho,hDi,hdep=>
       obtain rfl:=Option.some.inj ho
       refine ⟨[(84,Value.string s),(86,Value.int .i64 ((i:Int)+1)),(87,Value.int .i64 ((i+1+m:Nat):Int))],(fun x hx=>by
        simp only [List.mem_cons,List.not_mem_nil,or_false] at hx
        rcases hx with rfl|rfl|rfl
        ·exact ⟨28,(show (28,84) ∈ skX by decide),hdep 28 (by decide +kernel),rfl⟩
        ·exact ⟨30,(show (30,86) ∈ skX by decide),hdep 30 (by decide +kernel),rfl⟩
        ·exact ⟨31,(show (31,87) ∈ skX by decide),hdep 31 (by decide +kernel),rfl⟩),fun Qr=>?_⟩
       refine XG (s:=s) (u:=wd) (i+1) (i+1+m) (by omega) (by omega) hu2 ?_
       refine ZF ?_
       exact k_J g (pjm 32 D g (fun x hx=>by have:=Z2 hx;omega) hpj) (fun _ _=>rfl) (fun x hx h=>by rw [(by decide:∀x ∈ skX,x.1=32→x.2=88) x hx h];rfl) (by first|exact ZV _|exact Za _ _) (selsA _)
      | 33,ho,hDi,hdep=>
       obtain rfl:=Option.some.inj ho
       refine ⟨[(83,Value.map (some g.1)),(88,Value.string wd)],(fun x hx=>by
        simp only [List.mem_cons,List.not_mem_nil,or_false] at hx
        rcases hx with rfl|rfl
        ·exact ⟨27,(show (27,83) ∈ skX by decide),hdep 27 (by decide +kernel),rfl⟩
        ·exact ⟨32,(show (32,88) ∈ skX by decide),hdep 32 (by decide +kernel),rfl⟩),fun Qr=>?_⟩
       have h27:=hcl 27 _ rfl (hdep 27 (by decide +kernel))
       have hD1:D 1=true:=h27 1 (by decide +kernel)
       show Wl _ _ _ _ _ _ _ _ ([mapJ (D 1) g]++_)
       rw [hD1]
       have hmg:mget wd g.2=some vv:=by
        rw [kv_get hpj (fun x hx=>by rcases Z2 hx with e|e|e|e|e|e|e<;>rw [e]<;>exact h27 _ (by decide +kernel)) f2,hvv]
       refine l_mgetS ZY wd (some vv) hmg ?_
       refine ZF ?_
       exact k_J g (pjm 33 D g (fun x hx=>by have:=Z2 hx;omega) hpj) (fun _ _=>rfl) (fun x hx h=>by rw [(by decide:∀x ∈ skX,x.1=33→x.2=89) x hx h];rfl) (by first|exact ZV _|exact Za _ _) (by show Sels ([mapJ (D 1) _]++_) _ _;rw [hD1];exact selsA _)
      | 34,ho,hDi,hdep=>
       obtain rfl:=Option.some.inj ho
       refine ⟨[(63,Value.string acc),(89,Value.string vv)],(fun x hx=>by
        simp only [List.mem_cons,List.not_mem_nil,or_false] at hx
        rcases hx with rfl|rfl
        ·exact ⟨0,(show (0,63) ∈ skX by decide),hdep 0 (by decide +kernel),rfl⟩
        ·exact ⟨33,(show (33,89) ∈ skX by decide),hdep 33 (by decide +kernel),rfl⟩),fun Qr=>?_⟩
       refine Yb ?_ (h:=by omega)
       refine ZF ?_
       exact k_J g (pjm 34 D g (fun x hx=>by have:=Z2 hx;omega) hpj) (fun _ _=>rfl) (fun x hx h=>by rw [(by decide:∀x ∈ skX,x.1=34→x.2=90) x hx h];rfl) (by first|exact ZV _|exact Za _ _) (selsA _)
      | 35,ho,hDi,hdep=>
       obtain rfl:=Option.some.inj ho
       refine ⟨[(90,Value.string (acc++vv))],(fun x hx=>by
        simp only [List.mem_cons,List.not_mem_nil,or_false] at hx
        rcases hx with rfl
        ·exact ⟨34,(show (34,90) ∈ skX by decide),hdep 34 (by decide +kernel),rfl⟩),fun Qr=>?_⟩
       refine ZG ?_
       refine ZF ?_
       exact k_J g (pjm 35 D g (fun x hx=>by have:=Z2 hx;omega) hpj) (fun _ _=>rfl) (fun x hx h=>by rw [(by decide:∀x ∈ skX,x.1=35→x.2=7) x hx h];rfl) (by first|exact ZV _|exact Za _ _) (selsA _)
     ·intro g hpj
      dsimp only
      refine k_drop (E':=[(0,.string s),(3,pv0 b3),(5,pv0 b5),(6,.int .i64 (subT c)),(7,.string (acc++vv)),(8,.int .i64 (i:Int)),(9,.int .i64 ((i+1+m:Nat):Int))]) ⟨rfl,rfl,rfl,rfl,rfl,rfl,rfl,trivial⟩ (ZV _) (selsA _) ?_
      repeat' (first|refine ZG ?_|refine ZF ?_|refine ZJ ?_|refine ZI ?_|refine ZL ?_|refine ZH ?_|refine ZM ?_|refine ZN (fun b=>?_)|refine ZO (fun b=>?_)|refine ZA ?_|refine ZB ?_|refine ZK ?_|refine Zd ?_|refine Zc ?_|refine Zr ?_|refine Zg ?_|refine Ze ?_|refine Zq (fun b=>?_)|refine Zs (fun b=>?_)|refine Zp ?_|refine Zf ?_|rw [w3]|(refine ZC (fun hc=>?_) (fun hc=>?_)<;>(try simp at hc)<;>(try omega))|(refine ZU (fun hc=>?_) (fun hc=>?_)<;>(try simp at hc)<;>(try omega))|refine ZS 8 [] [(0,0),(1,0),(2,0),(3,0),(4,0),(5,0),(6,0),(7,0)] [] ?_|(refine ZE (fun hc=>?_) (fun hc=>?_)<;>(try simp at hc)<;>(try omega)))
      all_goals exact ZZ ⟨(i+1+m+1,acc++vv),by show i+1+m+1≤s.size;omega,by show tmF (s.data.toList.drop (i+1+m+1)) 0 (i+1+m+1)=none;exact hT,hR2⟩ (by show s.size - (i+1+m+1)<s.size - i;omega) ⟨rfl,rfl,rfl,rfl,rfl,rfl,trivial⟩
    ·have ke:¬(e.toNat:Int)=125:=fun h=>hk (hkd.1 h)
     have w3:=wrapi (z:=(k:Int)+1) (by omega) (by omega)
     repeat' (first|refine Zh (s:=s) k e hke ?_|refine ZG ?_|refine ZF ?_|refine ZJ ?_|refine ZI ?_|refine ZL ?_|refine ZH ?_|refine ZM ?_|refine ZN (fun b=>?_)|refine ZO (fun b=>?_)|refine ZA ?_|refine ZB ?_|refine Zd ?_|refine Zc ?_|refine Zr ?_|refine Zg ?_|refine Ze ?_|refine Zq (fun b=>?_)|refine Zs (fun b=>?_)|refine Zp ?_|refine Zf ?_|rw [w3]|(refine ZC (fun hc=>?_) (fun hc=>?_)<;>(try simp at hc)<;>(try omega))|(refine ZU (fun hc=>?_) (fun hc=>?_)<;>(try simp at hc)<;>(try omega))|refine ZS 8 [] [(0,0),(1,0),(2,0),(3,0),(4,0),(5,0),(6,0),(7,0)] [] ?_|(refine ZE (fun hc=>?_) (fun hc=>?_)<;>(try simp at hc)<;>(try omega)))
     all_goals exact ZZ ⟨k+1,by omega,by omega⟩ (by show s.size - (k+1)<s.size - k;omega) ⟨rfl,rfl,rfl,rfl,rfl,rfl,rfl,trivial⟩
  ·have hb2:a≠123∧a≠125:=by simpa [isBr,not_or] using hb
   have k1:¬(a.toNat:Int)=123:=fun h=>hb2.1 ((u8i (k:=123) (by decide)).2 h)
   have k2:¬(a.toNat:Int)=125:=fun h=>hb2.2 ((u8i (k:=125) (by decide)).2 h)
   rw [exF,if_neg hb] at hR
   rw [tmF,if_neg hb2.2,if_neg hb2.1] at hT
   repeat' (first|refine Zh (s:=s) i a hcc ?_|refine ZG ?_|refine ZF ?_|refine ZJ ?_|refine ZI ?_|refine ZL ?_|refine ZH ?_|refine ZM ?_|refine ZN (fun b=>?_)|refine ZO (fun b=>?_)|refine ZA ?_|refine ZB ?_|refine XG (s:=s) (u:=ofL [a]) i (i+1) (by omega) (by omega) hu1 ?_|refine Yb ?_|refine Yb ?_ (h:=by rw [Yz];simp;omega)|rw [w1]|(refine ZC (fun hc=>?_) (fun hc=>?_)<;>(try simp at hc)<;>(try omega))|(refine ZE (fun hc=>?_) (fun hc=>?_)<;>(try simp at hc)<;>(try omega)))
   all_goals exact ZZ ⟨(i+1,acc++ofL [a]),by show i+1≤s.size;omega,hT,by rw [←cat];exact hR⟩ (by show s.size - (i+1)<s.size - i;omega) ⟨rfl,rfl,rfl,rfl,rfl,rfl,trivial⟩
 ·have hd:s.data.toList.drop i=[]:=List.drop_eq_nil_of_le (by omega)
  have hlt2:¬i<s.size:=by omega
  rw [hd] at hR
  have hR:acc++ofL []=V:=hR
  have e1:acc++ofL []=acc:=YO (by rw [WC,YK,List.append_nil])
  rw [e1] at hR
  subst hR
  repeat' (first|refine ZG ?_|refine ZF ?_|refine ZJ ?_|refine ZI ?_|refine ZL ?_|refine ZH ?_|refine ZM ?_|refine ZN (fun b=>?_)|refine ZO (fun b=>?_)|refine ZA ?_|refine ZB ?_|refine ZK ?_|(refine ZC (fun hc=>?_) (fun hc=>?_)<;>(try simp at hc)<;>(try omega))|(refine ZE (fun hc=>?_) (fun hc=>?_)<;>(try simp at hc)<;>(try omega)))
  exact ZQ () rfl trivial
set_option maxHeartbeats 8000000 in
theorem Wt (s:ByteArray) (c:Cq) (hw:CqW c):Enters 3∧Spec prog 3 #[.string s,cqa c] [ErA,P10,MxL] [] (RetV (.bool true)):=by
 have n0:=shortM_ok c
 have hj:=shF_j hw
 have hq:=shF_s c
 generalize shF c=e at *
 have hcz:=Yp s 300
 generalize hu:cutS s 300=u at *
 have hexp:=exp_sz (M:=300) hcz hq hj.i
 have n1:=ruCheck_ok u (by omega)
 have n2:=Wp u e (by omega) hj.i (by omega)
 have n3:=templateM_ok u (by omega)
 have n4:=known51_ok
 obtain ⟨t1,t2⟩:=tpl_tm u e
 rw [t1] at n1 n2
 cases ht:tmF u.data.toList 0 0 with
 | none=>
  rw [ht] at n1 n2 n3
  have n5:=expandM_ok u (by omega) e hj hq ht
  have e5:ofL (exF e u.data.toList 0)=expF u e:=YO (by rw [YK,t2 ht])
  rw [e5] at n5
  generalize expF u e=X at *
  have bX:(X.toList == X.toList)=true:=beqT rfl
  have n1:Enters 14∧Spec prog 14 #[.string u] [P10] [] (RetV (.tuple #[.int .i64 0,.int .i64 0])):=n1
  have n2:Enters 15∧Spec prog 15 #[.string u,cqa e] [P10] [] (RetV (.tuple #[.string X,.int .i64 0])):=n2
  have n3:Enters 16∧Spec prog 16 #[.string u] [] [] (RetV (.int .i64 (-1))):=n3
  refine ZR [_,_] func3 ntmps3 fun G w hp=>?_
  repeat' (first|rw [hu]|rw [bX]|refine ZG ?_|refine ZF ?_|refine ZJ ?_|refine ZI ?_|refine ZL ?_|refine ZH ?_|refine ZM ?_|refine ZN (fun b=>?_)|refine ZO (fun b=>?_)|refine ZA ?_|refine ZB ?_|refine ZK ?_|refine Zd ?_|refine Zc ?_|refine Zr ?_|refine Zg ?_|refine Ze ?_|refine Zq (fun b=>?_)|refine Zs (fun b=>?_)|refine Zp ?_|refine Zf ?_|refine ZD (n0) (fun _ _=>?_)|refine l_call0 (n0) (fun _ _=>?_)|refine ZT (n0) (fun _ _=>?_)|refine ZD (n1) (fun _ _=>?_)|refine l_call0 (n1) (fun _ _=>?_)|refine ZT (n1) (fun _ _=>?_)|refine ZD (n2) (fun _ _=>?_)|refine l_call0 (n2) (fun _ _=>?_)|refine ZT (n2) (fun _ _=>?_)|refine ZD (n3) (fun _ _=>?_)|refine l_call0 (n3) (fun _ _=>?_)|refine ZT (n3) (fun _ _=>?_)|refine ZD (n4) (fun _ _=>?_)|refine l_call0 (n4) (fun _ _=>?_)|refine ZT (n4) (fun _ _=>?_)|refine ZD (n5) (fun _ _=>?_)|refine l_call0 (n5) (fun _ _=>?_)|refine ZT (n5) (fun _ _=>?_)|refine r_cutS 300 ?_|(refine ZC (fun hc=>?_) (fun hc=>?_)<;>(try simp at hc)<;>(try omega))|(refine ZU (fun hc=>?_) (fun hc=>?_)<;>(try simp at hc)<;>(try omega))|refine ZS 1 [] [(0,0),(1,0),(2,0),(3,0),(4,0),(5,0),(6,4),(7,0)] [8] ?_|(refine ZE (fun hc=>?_) (fun hc=>?_)<;>(try simp at hc)<;>(try omega)))
  all_goals exact ZQ () rfl trivial
 | some k=>
  have hk:=tplV_ge u k (by rw [t1,ht])
  rw [ht] at n1 n2 n3
  rw [hk] at n1
  have hk0:(0:Int)≤(k:Int):=by omega
  have n1:Enters 14∧Spec prog 14 #[.string u] [P10] [] (RetV (.tuple #[.int .i64 (k:Int),.int .i64 3])):=n1
  have n2:Enters 15∧Spec prog 15 #[.string u,cqa e] [P10] [] (RetV (.tuple #[.string ⟨#[]⟩,.int .i64 3])):=n2
  have n3:Enters 16∧Spec prog 16 #[.string u] [] [] (RetV (.int .i64 (k:Int))):=n3
  refine ZR [_,_] func3 ntmps3 fun G w hp=>?_
  repeat' (first|rw [hu]|refine ZG ?_|refine ZF ?_|refine ZJ ?_|refine ZI ?_|refine ZL ?_|refine ZH ?_|refine ZM ?_|refine ZN (fun b=>?_)|refine ZO (fun b=>?_)|refine ZA ?_|refine ZB ?_|refine ZK ?_|refine Zd ?_|refine Zc ?_|refine Zr ?_|refine Zg ?_|refine Ze ?_|refine Zq (fun b=>?_)|refine Zs (fun b=>?_)|refine Zp ?_|refine Zf ?_|refine ZD (n0) (fun _ _=>?_)|refine l_call0 (n0) (fun _ _=>?_)|refine ZT (n0) (fun _ _=>?_)|refine ZD (n1) (fun _ _=>?_)|refine l_call0 (n1) (fun _ _=>?_)|refine ZT (n1) (fun _ _=>?_)|refine ZD (n2) (fun _ _=>?_)|refine l_call0 (n2) (fun _ _=>?_)|refine ZT (n2) (fun _ _=>?_)|refine ZD (n3) (fun _ _=>?_)|refine l_call0 (n3) (fun _ _=>?_)|refine ZT (n3) (fun _ _=>?_)|refine ZD (n4) (fun _ _=>?_)|refine l_call0 (n4) (fun _ _=>?_)|refine ZT (n4) (fun _ _=>?_)|refine r_cutS 300 ?_|(refine ZC (fun hc=>?_) (fun hc=>?_)<;>(try simp at hc)<;>(try omega))|(refine ZU (fun hc=>?_) (fun hc=>?_)<;>(try simp at hc)<;>(try omega))|refine ZS 1 [] [(0,0),(1,0),(2,0),(3,0),(4,0),(5,0),(6,4),(7,0)] [8] ?_|(refine ZE (fun hc=>?_) (fun hc=>?_)<;>(try simp at hc)<;>(try omega)))
  all_goals exact ZQ () rfl trivial
section
open Go.ChangeShapes Go.WideShapes Go.ChangeAt
structure Kept (W W':World):Prop where
 os:W'.os=W.os
 output:W'.output=W.output
 heap:∀(b:Nat) (o:Obj),W.heap[b]? = some o→W'.heap[b]? = some o
theorem Kept.but {W W':World} (h:Kept W W') (may:MemPlace→Prop):W.keptBut W' may:=by
 refine ⟨h.os,h.output,fun i hi=>?_⟩
 have h1:W.heap[i]? = some W.heap[i]:=Array.getElem?_eq_getElem hi
 have h2:=h.heap i _ h1
 rw [h1,h2]
 split
 ·rename_i c t fr c' t' fr' e1 e2
  rw [e1] at e2
  injection e2 with e2
  injection e2 with a1 a2 a3
  subst a1 a2 a3
  exact ⟨rfl,rfl,rfl,fun _ _=>rfl⟩
 ·rename_i es clock es' clock' e1 e2
  rw [e1] at e2
  injection e2 with e2
  injection e2 with a1 a2
  subst a1 a2
  exact .inr ⟨rfl,rfl⟩
 ·rfl
theorem calls_law {f:FuncId} {args:Array Value} {F:List Pf} {v:Value} (h:Spec prog f args F [] (RetV v)) (W:World) (hF:∀x ∈ F,x.p fun b=>W.heap[b]?) :
  Calls prog f args W fun e W'=>e = .returned v∧Kept W W':=by
 have hs:Sat emp W (fun b=>W.heap[b]?) F [] W:=⟨fun b=>W.heap[b]?,emp,fun _ _ e=>e,(fun _ _ e=>by cases e),(fun _ _ e=>by cases e),fun _=>.inr rfl,fun _=>.inr rfl,fun _=>.inr rfl,Sub.refl _,hF,trivial,Same.refl _⟩
 refine (h _ _ _ hs).mono ?_
 rintro e W' ⟨_,rfl,_,hp',hr,st⟩
 exact ⟨rfl,st.same.os,st.same.output,fun b o hb=>st.inp b o (st.sub b o hb)⟩
def contig (P:Program):Nat→List Field→Option Nat
 | o,[]=>some o
 | o,f::fs=>if f.offset=o then contig P (o+P.cellsOf f.type) fs else none
def plainT (P:Program):Nat→TypeId→Bool
 | 0,_=>false
 | k+1,t=>match P.underlying t with
  | some .bool=>true
  | some (.int _)=>true
  | some .string=>true
  | some (.struct fs)=>(fs.toList.all fun f=>plainT P k f.type) && (contig P 0 fs.toList == some (P.cellsOf t))
  | some (.array n e)=>plainT P k e && (P.cellsOf t == n * P.cellsOf e)
  | _=>false
variable {H:Type} {enc:TypeId×Value→H} {P:Program}
theorem X0 {α β:Type} {f g:α→Option β}:∀{l:List α} {r:List β},(∀a ∈ l,∀x,f a=some x→g a=some x)→l.mapM f=some r→l.mapM g=some r
 | [],r,_,h=>h
 | a::l,r,hfg,h=>by
  rw [List.mapM_cons] at h ⊢
  simp only [Option.bind_eq_bind,Option.bind_eq_some_iff,Option.pure_def,Option.some.injEq] at h ⊢
  obtain ⟨x,hx,xs,hxs,rfl⟩:=h
  exact ⟨x,hfg a (by simp) x hx,xs,X0 (fun b hb=>hfg b (by simp [hb])) hxs,rfl⟩
theorem mapM_all {α β:Type} {f:α→Option β} {p:β→Prop}:∀{l:List α} {r:List β},(∀a ∈ l,∀x,f a=some x→p x)→l.mapM f=some r→∀x ∈ r,p x
 | [],r,_,h=>by simp at h;subst h;simp
 | a::l,r,hfg,h=>by
  rw [List.mapM_cons] at h
  simp only [Option.bind_eq_bind,Option.bind_eq_some_iff,Option.pure_def,Option.some.injEq] at h
  obtain ⟨x,hx,xs,hxs,rfl⟩:=h
  intro y hy
  rcases List.mem_cons.1 hy with rfl|hy
  ·exact hfg a (by simp) y hx
  ·exact mapM_all (fun b hb=>hfg b (by simp [hb])) hxs y hy
theorem XI {β γ:Type} {f:β→List γ}:∀{l:List β},(∀x ∈ l,f x=[])→l.flatMap f=[]
 | [],_=>rfl
 | a::l,h=>by rw [List.flatMap_cons,h a (by simp),XI (fun x hx=>h x (by simp [hx]))];rfl
theorem XP:∀(n k:Nat) (t:TypeId) (w:World) (base:Nat) (sp:Nat→Bool) (hd:Bool) (cs:List Value) (x:DataW H×List MemPlace),plainT P k t=true→DataW.trod enc P w base sp hd n t cs=some x→
  x.2=[]∧∀w' base' sp' hd',DataW.trod enc P w' base' sp' hd' n t cs=some x
 | 0,_,_,_,_,_,_,_,_,_,h=>by simp [DataW.trod] at h
 | n+1,0,_,_,_,_,_,_,_,hp,_=>by simp [plainT] at hp
 | n+1,k+1,t,w,base,sp,hd,cs,x,hp,h=>by
  unfold plainT at hp
  split at hp
  ·rename_i hu
   obtain ⟨b,rfl,rfl⟩:=DataW.trod_bool hu h
   exact ⟨rfl,fun _ _ _ _=>by simp [DataW.trod,hu]⟩
  ·rename_i hu
   obtain ⟨z,rfl,rfl,hz⟩:=DataW.trod_int hu h
   exact ⟨rfl,fun _ _ _ _=>by simp [DataW.trod,hu,hz]⟩
  ·rename_i hu
   obtain ⟨s,rfl,rfl,hs⟩:=DataW.trod_string hu h
   exact ⟨rfl,fun _ _ _ _=>by simp [DataW.trod,hu,hs]⟩
  ·rename_i fs hu
   rw [Bool.and_eq_true,List.all_eq_true] at hp
   simp only [DataW.trod,hu] at h ⊢
   split at h
   ·rename_i hl
    simp only [Option.map_eq_some_iff] at h
    obtain ⟨xs,hxs,rfl⟩:=h
    have ih:∀f ∈ fs.toList,∀y,DataW.trod enc P w base sp hd n f.type ((cs.drop f.offset).take (P.cellsOf f.type))=some y→y.2=[]∧∀w' base' sp' hd',DataW.trod enc P w' base' sp' hd' n f.type ((cs.drop f.offset).take (P.cellsOf f.type))=some y:=fun f hf y hy=>
     XP n k f.type w base sp hd _ y (hp.1 f hf) hy
    refine ⟨XI (mapM_all (fun f hf y hy=>(ih f hf y hy).1) hxs),fun w' base' sp' hd'=>?_⟩
    rw [if_pos hl,X0 (fun f hf y hy=>(ih f hf y hy).2 w' base' sp' hd') hxs]
    rfl
   ·cases h
  ·rename_i m e hu
   rw [Bool.and_eq_true] at hp
   simp only [DataW.trod,hu] at h ⊢
   split at h
   ·rename_i hl
    simp only [Option.map_eq_some_iff] at h
    obtain ⟨xs,hxs,rfl⟩:=h
    have ih:∀i ∈ List.range m,∀y,DataW.trod enc P w base sp hd n e ((cs.drop (i * P.cellsOf e)).take (P.cellsOf e))=some y→y.2=[]∧∀w' base' sp' hd',DataW.trod enc P w' base' sp' hd' n e ((cs.drop (i * P.cellsOf e)).take (P.cellsOf e))=some y:=fun i _ y hy=>
     XP n k e w base sp hd _ y hp.1 hy
    refine ⟨XI (mapM_all (fun i hi y hy=>(ih i hi y hy).1) hxs),fun w' base' sp' hd'=>?_⟩
    rw [if_pos hl,X0 (fun i hi y hy=>(ih i hi y hy).2 w' base' sp' hd') hxs]
    rfl
   ·cases h
  ·cases hp
theorem Yu {α β:Type} {f:α→Option β}:∀{l:List α} {r:List β},l.mapM f=some r→∀(i:Nat) (a:α),l[i]? = some a→∃b,r[i]? = some b∧f a=some b
 | [],r,_,i,a,hi=>by simp at hi
 | c::l,r,h,i,a,hi=>by
  rw [List.mapM_cons] at h
  simp only [Option.bind_eq_bind,Option.bind_eq_some_iff,Option.pure_def,Option.some.injEq] at h
  obtain ⟨x,hx,xs,hxs,rfl⟩:=h
  cases i with
  | zero=>simp at hi;subst hi;exact ⟨x,by simp,hx⟩
  | succ i=>simpa using Yu hxs i a (by simpa using hi)
theorem cover:∀(fs:List Field) (o total:Nat) (cs cs':List Value),contig P o fs=some total→cs.length=total→cs'.length=total→
  (∀f ∈ fs,(cs.drop f.offset).take (P.cellsOf f.type)=(cs'.drop f.offset).take (P.cellsOf f.type))→cs.drop o=cs'.drop o
 | [],o,total,cs,cs',h,h1,h2,_=>by
  simp only [contig,Option.some.injEq] at h
  rw [List.drop_eq_nil_of_le (by omega),List.drop_eq_nil_of_le (by omega)]
 | f::fs,o,total,cs,cs',h,h1,h2,hp=>by
  unfold contig at h
  split at h
  ·rename_i ho
   have ih:=cover fs (o+P.cellsOf f.type) total cs cs' h h1 h2 fun g hg=>hp g (by simp [hg])
   have h3:=hp f (by simp)
   rw [ho] at h3
   rw [←List.take_append_drop (P.cellsOf f.type) (cs.drop o),←List.take_append_drop (P.cellsOf f.type) (cs'.drop o),List.drop_drop,List.drop_drop,h3,ih]
  ·cases h
theorem trod_inj {H':Type} {enc':TypeId×Value→H'}:∀(n n' k:Nat) (t:TypeId) (w w':World) (base base':Nat) (sp sp':Nat→Bool) (hd hd':Bool) (cs cs':List Value) (x x':DataW H×List MemPlace),plainT P k t=true→
  DataW.trod enc P w base sp hd n t cs=some x→DataW.trod enc P w' base' sp' hd' n' t cs'=some x'→x.1=x'.1→cs=cs'
 | 0,_,_,_,_,_,_,_,_,_,_,_,_,_,_,_,_,h,_,_=>by simp [DataW.trod] at h
 | _+1,0,_,_,_,_,_,_,_,_,_,_,_,_,_,_,_,_,h,_=>by simp [DataW.trod] at h
 | n+1,n'+1,0,_,_,_,_,_,_,_,_,_,_,_,_,_,hp,_,_,_=>by simp [plainT] at hp
 | n+1,n'+1,k+1,t,w,w',base,base',sp,sp',hd,hd',cs,cs',x,x',hp,h,h',he=>by
  unfold plainT at hp
  split at hp
  ·rename_i hu
   obtain ⟨b,rfl,rfl⟩:=DataW.trod_bool hu h
   obtain ⟨b',rfl,rfl⟩:=DataW.trod_bool hu h'
   simp at he;subst he;rfl
  ·rename_i hu
   obtain ⟨z,rfl,rfl,hz⟩:=DataW.trod_int hu h
   obtain ⟨z',rfl,rfl,hz'⟩:=DataW.trod_int hu h'
   simp at he;subst he;rfl
  ·rename_i hu
   obtain ⟨s,rfl,rfl,hs⟩:=DataW.trod_string hu h
   obtain ⟨s',rfl,rfl,hs'⟩:=DataW.trod_string hu h'
   simp at he
   rw [YO (by rw [he]:s.data.toList=s'.data.toList)]
  ·rename_i fs hu
   rw [Bool.and_eq_true,List.all_eq_true,beq_iff_eq] at hp
   simp only [DataW.trod,hu] at h h'
   split at h
   ·rename_i hl
    split at h'
    ·rename_i hl'
     simp only [Option.map_eq_some_iff] at h h'
     obtain ⟨xs,hxs,rfl⟩:=h
     obtain ⟨xs',hxs',rfl⟩:=h'
     simp only [DataW.agg.injEq] at he
     have:=cover fs.toList 0 _ cs cs' hp.2 hl hl' fun f hf=>by
      obtain ⟨i,hi,rfl⟩:=List.mem_iff_getElem.1 hf
      have hi':=List.getElem?_eq_getElem hi
      obtain ⟨y,hy1,hy2⟩:=Yu hxs i _ hi'
      obtain ⟨y',hy1',hy2'⟩:=Yu hxs' i _ hi'
      have hyy:y.1=y'.1:=by
       have h1:(xs.map (·.1))[i]? = some y.1:=by simp [hy1]
       have h2:(xs'.map (·.1))[i]? = some y'.1:=by simp [hy1']
       rw [he] at h1
       exact Option.some.inj (h1.symm.trans h2)
      exact trod_inj (enc':=enc') n n' k _ w w' base base' sp sp' hd hd' _ _ y y' (hp.1 _ hf) hy2 hy2' hyy
     simpa using this
    ·cases h'
   ·cases h
  ·rename_i m e hu
   rw [Bool.and_eq_true,beq_iff_eq] at hp
   simp only [DataW.trod,hu] at h h'
   split at h
   ·rename_i hl
    split at h'
    ·rename_i hl'
     simp only [Option.map_eq_some_iff] at h h'
     obtain ⟨xs,hxs,rfl⟩:=h
     obtain ⟨xs',hxs',rfl⟩:=h'
     simp only [DataW.agg.injEq] at he
     have hpart:∀i,i<m→(cs.drop (i * P.cellsOf e)).take (P.cellsOf e)=(cs'.drop (i * P.cellsOf e)).take (P.cellsOf e):=fun i hi=>by
      have hi':(List.range m)[i]? = some i:=by simp [hi]
      obtain ⟨y,hy1,hy2⟩:=Yu hxs i _ hi'
      obtain ⟨y',hy1',hy2'⟩:=Yu hxs' i _ hi'
      have hyy:y.1=y'.1:=by
       have h1:(xs.map (·.1))[i]? = some y.1:=by simp [hy1]
       have h2:(xs'.map (·.1))[i]? = some y'.1:=by simp [hy1']
       rw [he] at h1
       exact Option.some.inj (h1.symm.trans h2)
      exact trod_inj (enc':=enc') n n' k _ w w' base base' sp sp' hd hd' _ _ y y' hp.1 hy2 hy2' hyy
     apply List.ext_getElem?
     intro j
     by_cases hj:j<m * P.cellsOf e
     ·have hc:0<P.cellsOf e:=Nat.pos_of_ne_zero fun h0=>by rw [h0] at hj;simp at hj
      have h1:=congrArg (fun l=>l[j % P.cellsOf e]?) (hpart (j / P.cellsOf e) (Nat.div_lt_of_lt_mul (by rw [Nat.mul_comm];exact hj)))
      simp only [List.getElem?_take,List.getElem?_drop,if_pos (Nat.mod_lt j hc)] at h1
      rw [show j / P.cellsOf e * P.cellsOf e+j % P.cellsOf e=j by rw [Nat.mul_comm];exact Nat.div_add_mod j _] at h1
      exact h1
     ·rw [List.getElem?_eq_none (by omega),List.getElem?_eq_none (by omega)]
    ·cases h'
   ·cases h
  ·cases hp
theorem post_kept {f:Func} {s:ChangeSpec} {apart fresh handsOn again:Bool} {W W':World} {args:Array Value} {v:Value} {ds gs:List (DataW H)} {before pa pv:List MemPlace}
  (hW:DataW.Whole enc P f.params.toList s.vars apart W args.toList ds gs before)
  (hres:∀(b:Nat) (sp:Nat→Bool) (hd:Bool),DataW.TrodAll enc P W' b sp hd f.resultTypes.toList (v.resultList f.resultTypes.size) (s.fn H (ds++gs)).results [])
  (hargs:∀sp:Nat→Bool,(∀b<W.heap.size,sp b=true)→DataW.TrodAll enc P W' 0 sp true f.params.toList args.toList (s.fn H (ds++gs)).args pa)
  (hvars:∀sp:Nat→Bool,(∀b<W.heap.size,sp b=true)→DataW.TrodVars enc P W' sp s.vars (s.fn H (ds++gs)).vars pv)
  (hps:before=pa++pv) (hk:Kept W W')
  (hok:∀(j:Nat) (t:TypeId) (r:Value),f.resultTypes[j]? = some t→(v.resultList f.resultTypes.size)[j]? = some r→Value.okWide P W' .any 0 t r) :
  s.post enc P f apart fresh handsOn again W args v W':=by
 have hlt:=hW.lt
 refine ⟨ds,gs,before,[],pa,pv,hW,hres _ _ _,hargs _ (fun b hb=>by simpa using hb),hvars _ (fun b hb=>by simpa using hb),World.keptBut_mono (fun p hp=>⟨hp,?_⟩) (hk.but (· ∈ before)),fun _=>?_⟩
 ·rw [hps,List.mem_append] at hp
  exact Or.inr hp
 ·obtain ⟨_,_,_,_,_,hz,hn⟩:=hW
  refine ⟨hok,_,_,([]++pa)++pv,⟨[]++pa,pv,trodAll_append (hargs _ (fun _ _=>rfl)) (hres _ _ _),hvars _ (fun _ _=>rfl),rfl,?_,?_⟩,?_⟩
  ·intro b off hp
   have hm:MemPlace.cell b off ∈ before:=by rw [hps];simpa using hp
   have h1:=hz b off hm
   have h2:b<W.heap.size:=hlt _ hm
   have h4:W.heap[b]? = some W.heap[b]:=Array.getElem?_eq_getElem h2
   have h3:=hk.heap b _ h4
   unfold World.frozen? at h1 ⊢
   dsimp only at h1 ⊢
   rw [h4] at h1
   rw [h3]
   exact h1
  ·intro ha
   have:=hn ha
   rw [hps] at this
   simpa using this
  ·intro p hp _
   rw [hps]
   simpa using hp
inductive SK where
 | b
 | i (k:IntKind)
 | s
def sksF (g:TypeId→Option (List SK)):List Field→Option (List SK)
 | []=>some []
 | f::fs=>match g f.type,sksF g fs with
  | some a,some r=>some (a++r)
  | _,_=>none
def sks (P:Program):Nat→TypeId→Option (List SK)
 | 0,_=>none
 | k+1,t=>match P.underlying t with
  | some .bool=>some [.b]
  | some (.int ik)=>some [.i ik]
  | some .string=>some [.s]
  | some (.struct fs)=>sksF (sks P k) fs.toList
  | some (.array n e)=>(sks P k e).map fun l=>(List.replicate n l).flatten
  | _=>none
def CellOK (M:Nat):SK→Value→Prop
 | .b,v=>∃b,v = .bool b
 | .i k,v=>∃z,v = .int k z∧(Lit.int k z).wf=true
 | .s,v=>∃s:ByteArray,v = .string s∧s.size≤M
def CellsOK (M:Nat):List SK→List Value→Prop
 | [],[]=>True
 | k::ks,v::vs=>CellOK M k v∧CellsOK M ks vs
 | _,_=>False
theorem Y1 {M:Nat}:∀{a b:List SK} {x y:List Value},CellsOK M a x→CellsOK M b y→CellsOK M (a++b) (x++y)
 | [],_,[],_,_,h=>h
 | _::_,_,_::_,_,⟨h1,h2⟩,h=>⟨h1,Y1 h2 h⟩
theorem XM {M M':Nat} (hM:M≤M'):∀{a:List SK} {x:List Value},CellsOK M a x→CellsOK M' a x
 | [],[],_=>trivial
 | k::_,_::_,⟨h1,h2⟩=>⟨by
   cases k with
   | b=>exact h1
   | i k=>exact h1
   | s=>obtain ⟨s,hs,hl⟩:=h1;exact ⟨s,hs,Nat.le_trans hl hM⟩,XM hM h2⟩
theorem bulk_mem:∀{l:List (DataW H)} {d:DataW H},d ∈ l→Rows.uptoBulk d≤Rows.uptoBulkAll l
 | c::l,d,h=>by
  rcases List.mem_cons.1 h with rfl|h
  ·simp only [Rows.uptoBulkAll];omega
  ·have:=bulk_mem h
   simp only [Rows.uptoBulkAll];omega
theorem sksF_ok {M:Nat} {g:TypeId→Option (List SK)}:∀(fs:List Field) (o total:Nat) (cs:List Value) (ks:List SK),contig P o fs=some total→cs.length=total→sksF g fs=some ks→
  (∀f ∈ fs,∀k,g f.type=some k→CellsOK M k ((cs.drop f.offset).take (P.cellsOf f.type)))→CellsOK M ks (cs.drop o)
 | [],o,total,cs,ks,h,h1,h2,_=>by
  simp only [contig,Option.some.injEq] at h
  simp only [sksF,Option.some.injEq] at h2
  rw [←h2,List.drop_eq_nil_of_le (by omega)];trivial
 | f::fs,o,total,cs,ks,h,h1,h2,hp=>by
  unfold contig at h
  split at h
  ·rename_i ho
   unfold sksF at h2
   split at h2
   ·rename_i a r ha hr
    obtain rfl:=Option.some.inj h2
    have ih:=sksF_ok fs (o+P.cellsOf f.type) total cs r h h1 hr fun g hg=>hp g (by simp [hg])
    have h3:=hp f (by simp) a ha
    rw [ho] at h3
    rw [←List.take_append_drop (P.cellsOf f.type) (cs.drop o),List.drop_drop]
    exact Y1 h3 ih
   ·cases h2
  ·cases h
theorem arr_cells {M c:Nat} {l:List SK}:∀(m:Nat) (cs:List Value),cs.length=m * c→(∀i,i<m→CellsOK M l ((cs.drop (i * c)).take c))→CellsOK M (List.replicate m l).flatten cs
 | 0,cs,h,_=>by
  have:cs=[]:=List.length_eq_zero_iff.1 (by omega)
  subst this;trivial
 | m+1,cs,h,hp=>by
  have h0:=hp 0 (by omega)
  rw [Nat.zero_mul,List.drop_zero] at h0
  have hl:cs.length=m * c+c:=by rw [h,Nat.succ_mul]
  have ih:=arr_cells (M:=M) (c:=c) (l:=l) m (cs.drop c) (by rw [List.length_drop];omega) fun i hi=>by
   have:=hp (i+1) (by omega)
   rw [List.drop_drop,show c+i * c=(i+1) * c by rw [Nat.succ_mul];omega]
   exact this
  rw [List.replicate_succ,List.flatten_cons,←List.take_append_drop c cs]
  exact Y1 h0 ih
theorem XH:∀(n k:Nat) (t:TypeId) (w:World) (base:Nat) (sp:Nat→Bool) (hd:Bool) (cs:List Value) (x:DataW H×List MemPlace) (ks:List SK),plainT P k t=true→sks P k t=some ks→DataW.trod enc P w base sp hd n t cs=some x→CellsOK (Rows.uptoBulk x.1) ks cs
 | 0,_,_,_,_,_,_,_,_,_,_,_,h=>by simp [DataW.trod] at h
 | n+1,0,_,_,_,_,_,_,_,_,hp,_,_=>by simp [plainT] at hp
 | n+1,k+1,t,w,base,sp,hd,cs,x,ks,hp,hk,h=>by
  unfold plainT at hp
  unfold sks at hk
  split at hp
  ·rename_i hu
   rw [hu] at hk
   obtain rfl:=Option.some.inj hk
   obtain ⟨b,rfl,rfl⟩:=DataW.trod_bool hu h
   exact ⟨⟨b,rfl⟩,trivial⟩
  ·rename_i hu
   rw [hu] at hk
   obtain rfl:=Option.some.inj hk
   obtain ⟨z,rfl,rfl,hz⟩:=DataW.trod_int hu h
   exact ⟨⟨z,rfl,hz⟩,trivial⟩
  ·rename_i hu
   rw [hu] at hk
   obtain rfl:=Option.some.inj hk
   obtain ⟨s,rfl,rfl,hs⟩:=DataW.trod_string hu h
   refine ⟨⟨s,rfl,?_⟩,trivial⟩
   have hsz:s.data.toList.length=s.size:=by simp
   simp only [Rows.uptoBulk];omega
  ·rename_i fs hu
   rw [hu] at hk
   rw [Bool.and_eq_true,List.all_eq_true,beq_iff_eq] at hp
   simp only [DataW.trod,hu] at h
   split at h
   ·rename_i hl
    simp only [Option.map_eq_some_iff] at h
    obtain ⟨xs,hxs,rfl⟩:=h
    have:=sksF_ok (M:=Rows.uptoBulk (.agg (xs.map (·.1)))) (g:=sks P k) fs.toList 0 _ cs ks hp.2 hl hk fun f hf k' hk'=>by
     obtain ⟨i,hi,rfl⟩:=List.mem_iff_getElem.1 hf
     obtain ⟨y,hy1,hy2⟩:=Yu hxs i _ (List.getElem?_eq_getElem hi)
     refine XM ?_ (XH n k _ w base sp hd _ y k' (hp.1 _ hf) hk' hy2)
     have hm:y.1 ∈ xs.map (·.1):=List.mem_map.2 ⟨y,List.mem_of_getElem? hy1,rfl⟩
     have:=bulk_mem hm
     simp only [Rows.uptoBulk];omega
    simpa using this
   ·cases h
  ·rename_i m e hu
   rw [hu] at hk
   rw [Bool.and_eq_true,beq_iff_eq] at hp
   simp only [DataW.trod,hu] at h
   split at h
   ·rename_i hl
    simp only [Option.map_eq_some_iff] at h hk
    obtain ⟨xs,hxs,rfl⟩:=h
    obtain ⟨l,hl2,rfl⟩:=hk
    refine arr_cells m cs (by rw [hl,hp.2]) fun i hi=>?_
    have hi':(List.range m)[i]? = some i:=by simp [hi]
    obtain ⟨y,hy1,hy2⟩:=Yu hxs i _ hi'
    refine XM ?_ (XH n k _ w base sp hd _ y l hp.1 hl2 hy2)
    have hm:y.1 ∈ xs.map (·.1):=List.mem_map.2 ⟨y,List.mem_of_getElem? hy1,rfl⟩
    have:=bulk_mem hm
    simp only [Rows.uptoBulk];omega
   ·cases h
  ·cases hp
end
section
open Go.ChangeShapes Go.WideShapes Go.ChangeAt
theorem Kept.cell {W W':World} (h:Kept W W') {a:Addr} {v:Value} (hc:W.cell? a=some v):W'.cell? a=some v:=by
 unfold World.cell? at hc ⊢
 split at hc
 ·rename_i c T fz hb
  rw [h.heap _ _ hb]
  exact hc
 ·cases hc
theorem Kept.cells {W W':World} (h:Kept W W') {a:Addr} {n:Nat} {cs:List Value} (hc:W.cells? 0 a n=some cs):W'.cells? 0 a n=some cs:=by
 unfold World.cells? at hc ⊢
 rw [if_pos (Nat.zero_le _)] at hc ⊢
 exact X0 (fun i _ x hx=>h.cell hx) hc
variable {H:Type} {enc:TypeId×Value→H} {P:Program}
end
section
open Go.ChangeShapes Go.WideShapes Go.ChangeAt
theorem own:ownKnob prog.godebug=none:=by kernel_rfl
theorem i64_in {n:Int} (h:(Lit.int .i64 n).wf=true) : -9223372036854775808≤n∧n<9223372036854775808:=by
 simp [Lit.wf,IntKind.min,IntKind.max,IntKind.bits,IntKind.signed] at h
 omega
theorem Ym {M:Nat} {k:IntKind} {ks:List SK} {cs:List Value} (h:CellsOK M (.i k::ks) cs):∃z cs',cs = .int k z::cs'∧(Lit.int k z).wf=true∧CellsOK M ks cs':=by
 obtain _|⟨v,cs⟩:=cs
 ·exact h.elim
 ·obtain ⟨⟨z,rfl,hz⟩,h⟩:=h
  exact ⟨z,cs,rfl,hz,h⟩
theorem Xu {M:Nat} {ks:List SK} {cs:List Value} (h:CellsOK M (.s::ks) cs):∃(s:ByteArray) (cs':List Value),cs = .string s::cs'∧s.size≤M∧CellsOK M ks cs':=by
 obtain _|⟨v,cs⟩:=cs
 ·exact h.elim
 ·obtain ⟨⟨z,rfl,hz⟩,h⟩:=h
  exact ⟨z,cs,rfl,hz,h⟩
theorem cells_nil {M:Nat} {cs:List Value} (h:CellsOK M [] cs):cs=[]:=by
 cases cs
 ·rfl
 ·exact h.elim
section
variable {H:Type} {enc:TypeId×Value→H} {W:World} {base:Nat} {v:Value} {d:DataW H} {p:List MemPlace}
theorem aggS {t:TypeId} {fs:Array Field} (hu:prog.underlying t=some (.struct fs)) (hv:Value.okWide prog W .any base t v):∃cs,v = .agg cs:=
 let ⟨cs,h,_⟩:=okWide_struct hu hv
 ⟨cs,h⟩
theorem open_agg {t:TypeId} {ks:List SK} (hpl:plainT prog 5 t=true) (hsk:sks prog 5 t=some ks) (hag:∃cs,v = .agg cs) (h:DataW.Trod enc prog W 0 (fun _=>true) true t v d p) :
  ∃cs:List Value,v = .agg cs.toArray∧CellsOK (Rows.uptoBulk d) ks cs∧p=[]∧∀w' base' sp' hd',DataW.Trod enc prog w' base' sp' hd' t v d []:=by
 obtain ⟨cs,rfl⟩:=hag
 obtain ⟨n,hn⟩:=h
 have hc:=XH n 5 _ W 0 _ _ _ _ _ hpl hsk hn
 obtain ⟨hp,hr⟩:=XP n 5 _ W 0 _ _ _ _ hpl hn
 dsimp only at hp
 subst hp
 exact ⟨cs.toList,rfl,hc,rfl,fun w' base' sp' hd'=>⟨n,hr w' base' sp' hd'⟩⟩
theorem open_str {t:TypeId} (hu:prog.underlying t=some .string) (hv:Value.okWide prog W .any base t v) (h:DataW.Trod enc prog W 0 (fun _=>true) true t v d p) :
  ∃s:ByteArray,v = .string s∧s.size≤Rows.uptoBulk d∧p=[]∧∀w' base' sp' hd',DataW.Trod enc prog w' base' sp' hd' t v d []:=by
 obtain ⟨s,rfl⟩:=okWide_string hu hv
 obtain ⟨n,hn⟩:=h
 have hpl:plainT prog 5 t=true:=by unfold plainT;rw [hu]
 have hsk:sks prog 5 t=some [.s]:=by unfold sks;rw [hu]
 have hc:=XH n 5 _ W 0 _ _ _ _ _ hpl hsk hn
 obtain ⟨hp,hr⟩:=XP n 5 _ W 0 _ _ _ _ hpl hn
 dsimp only at hp
 subst hp
 obtain ⟨s',cs',h1,h2,_⟩:=Xu hc
 injection h1 with h3 _
 injection h3 with h4
 exact ⟨s,rfl,by rw [h4];exact h2,rfl,fun w' base' sp' hd'=>⟨n,hr w' base' sp' hd'⟩⟩
end
end
section
variable {v:Value}
end
structure It where
 who:UInt8
 nu:UInt8
 tk:UInt8
 ch:UInt8
 tx:ByteArray
def itf (x:It):List Value:=[.int .u8 x.who.toNat,.int .u8 x.nu.toNat,.int .u8 x.tk.toNat,.int .u8 x.ch.toNat,.string x.tx]
def It.v (x:It):Value:=.agg #[.int .u8 x.who.toNat,.int .u8 x.nu.toNat,.int .u8 x.tk.toNat,.int .u8 x.ch.toNat,.string x.tx]
def nm0:ByteArray:=⟨#[49]⟩
def nm1:ByteArray:=⟨#[49,46,50]⟩
def nm2:ByteArray:=⟨#[51]⟩
def who3 (j:Nat):ByteArray:=if j=0 then nm0 else if j=1 then nm1 else nm2
def ito (x:It):Ou:=⟨1+(x.ch.toNat % 4:Nat),⟨#[116]⟩,x.tx.extract 0 (min x.tx.size 20),5⟩
def itn (x:It):Nm:=⟨18,who3 (x.who.toNat % 3),(x.nu.toNat % 4:Nat),(x.tk.toNat % 8:Nat),⟨#[]⟩⟩
def itl (x:It) (p:Nat):Lf:=⟨⟨who3 (x.who.toNat % 3),(x.nu.toNat % 4:Nat),(x.tk.toNat % 8:Nat),ito x⟩,(9+p:Nat),(p / 5:Nat)⟩
def stF (es:Al) (l:List It):Al:=l.foldl (fun es x=>insO (itn x) (oencS (ito x)) es) es
def ldF (l:List It):List Lf:=l.mapIdx fun p x=>itl x p
structure B1 (now:List It) where
 i:Nat
 q:Option Addr
 es:Al
 h1:i≤now.length∧i≤20
 h2:es=stF [] (now.take i)
 h3:es.length≤i
structure B2 (left:List It) where
 i:Nat
 h1:i≤left.length∧i≤20
section
open Go.ChangeShapes Go.WideShapes Go.ChangeAt

end
def kx:It:=⟨1,0,0,0,⟨#[120]⟩⟩
def ky:It:=⟨1,0,0,0,⟨#[121]⟩⟩
def kc:Cq:=⟨3,nm1,0,0,ito ky,0,ito kx,0⟩
def sameC (c:Cq) (y:En):Bool:=decide (c.who=y.who) && (decide (c.nu=y.nu) && (decide (c.newAt=y.tk) && decide (c.new=y.o)))
def Cq.v (c:Cq):Value:=.agg #[.int .i64 c.kind,.string c.who,.int .i64 c.nu,.int .i64 c.place,.int .i64 c.old.ch,.string c.old.tg,.string c.old.tx,.int .i64 c.old.us,.int .i64 c.oldAt,.int .i64 c.new.ch,.string c.new.tg,.string c.new.tx,.int .i64 c.new.us,.int .i64 c.newAt]
def eqq (a b:Cq):Bool:=(a.kind == b.kind) && ((a.who.toList == b.who.toList) && ((a.nu == b.nu) && ((a.place == b.place) && (((a.old.ch == b.old.ch) && ((a.old.tg.toList == b.old.tg.toList) && ((a.old.tx.toList == b.old.tx.toList) && ((a.old.us == b.old.us) && true)))) && ((a.oldAt == b.oldAt) && (((a.new.ch == b.new.ch) && ((a.new.tg.toList == b.new.tg.toList) && ((a.new.tx.toList == b.new.tx.toList) && ((a.new.us == b.new.us) && true)))) && ((a.newAt == b.newAt) && true)))))))
def difE (l:List Cq):List Cq:=l.filter fun c=>decide (c.kind≠1)
def cn (j:Int) (l:List Cq):Nat:=l.countP fun c=>decide (c.kind=j)
def cn0 (l:List Cq):Nat:=l.countP fun c=>decide (c.kind<1∨4<c.kind)
def cntC (l:List Cq):List Value:=[.int .i64 (cn0 l:Int),.int .i64 (cn 1 l:Int),.int .i64 (cn 2 l:Int),.int .i64 (cn 3 l:Int),.int .i64 (cn 4 l:Int)]
structure D1 (l:List Cq) where
 i:Nat
 o:Option Addr
 cap:Nat
 hi:i≤l.length
structure D2 (l:List Cq) where
 i:Nat
 hi:i≤l.length

def i8f (x:Int8):List Value:=[.int .i8 x.toInt]
def kq (c:Cq) (k:Int8) (p:Nat):Cq:={c with kind:=k.toInt,place:=p}
def kqs (c:Cq) (ks:List Int8):List Cq:=ks.mapIdx fun p k=>kq c k p
structure N1 (ks:List Int8) where
 i:Nat
 o:Option Addr
 cap:Nat
 o':Option Addr
 cap':Nat
 hi:i≤ks.length
section
open Go.ChangeShapes Go.WideShapes Go.ChangeAt
theorem plC:plainT prog 5 26=true:=by decide +kernel
theorem skC:sks prog 5 26=some [.i .i64,.s,.i .i64,.i .i64,.i .i64,.s,.s,.i .i64,.i .i64,.i .i64,.s,.s,.i .i64,.i .i64]:=by kernel_rfl
end
section
open Go.ChangeShapes Go.WideShapes Go.ChangeAt
def laidR : List (String × DataW Unit) := [("math/bits.deBruijn32tab", Rows.laid_math_bits_deBruijn32tab), ("math/bits.deBruijn64tab", Rows.laid_math_bits_deBruijn64tab), ("internal/strconv.uint64pow10", Rows.laid_internal_strconv_uint64pow10), ("unicode/utf8.acceptRanges", Rows.laid_unicode_utf8_acceptRanges), ("strconv.ErrRange", Rows.laid_strconv_ErrRange), ("strconv.ErrSyntax", Rows.laid_strconv_ErrSyntax), ("unicode/utf8.first", Rows.laid_unicode_utf8_first)]
theorem tP10:(prog.globals[3]?).map (·.type)=some 218:=by kernel_rfl
theorem plP10:plainT prog 5 218=true:=by decide +kernel
theorem rdP10 (w:World):DataW.trod (fun _=>()) prog w 0 (fun _=>true) false 8 218 (Lib.pow10Tab.map fun z=>Value.int .u64 z)=some (Rows.laid_internal_strconv_uint64pow10,[]):=by kernel_rfl
theorem star_err : "*" ++ "errors.errorString" = "*errors.errorString" := by decide
theorem row_err (u : TypeId) (h : prog.typeName? 3 u = some "*errors.errorString") : u = 242 :=
 typeName_ptr_named (nm := "errors.errorString") (by rw [star_err]; kernel_rfl) (by kernel_rfl) (by decide) u (by rw [star_err]; exact h)
theorem var_one {W:World} {g:Nat} {n:String} {v:Value} (hg:prog.globalNamed n=some g) (h:W.var? prog n=some #[v]):∃T fz,W.heap[g]? = some (.cells #[v] T fz):=by
 simp only [World.var?,hg,Option.bind_some] at h
 split at h
 ·rename_i cs t fr hb
  obtain rfl:=Option.some.inj h
  exact ⟨t,fr,hb⟩
 ·cases h
theorem tabsR {W:World} (h:laidMetH prog laidR W):(ErA.p fun b=>W.heap[b]?)∧P10.p fun b=>W.heap[b]?:=by
 rw [MakeChecks.laidMetH_plain _ _ _ (by kernel_rfl)] at h
 have h3:=h.tail.tail
 have h5:=h3.tail.tail
 have h6:=h5.tail
 refine ⟨?_,?_⟩
 ·obtain ⟨a1, s1, hv1, _⟩ := laid_sentinel h5 (show prog.globalNamed "strconv.ErrRange" = some 7 by kernel_rfl) (show (prog.globals[7]?).map (·.type) = some 84 by kernel_rfl) underlying84 row_err underlying242 underlying244 rfl rfl underlying9 (by kernel_rfl) (by kernel_rfl)
  obtain ⟨a2, s2, hv2, _⟩ := laid_sentinel h6 (show prog.globalNamed "strconv.ErrSyntax" = some 6 by kernel_rfl) (show (prog.globals[6]?).map (·.type) = some 84 by kernel_rfl) underlying84 row_err underlying242 underlying244 rfl rfl underlying9 (by kernel_rfl) (by kernel_rfl)
  obtain ⟨T1, f1, e1⟩ := var_one (show prog.globalNamed "strconv.ErrRange" = some 7 by kernel_rfl) hv1
  obtain ⟨T2, f2, e2⟩ := var_one (show prog.globalNamed "strconv.ErrSyntax" = some 6 by kernel_rfl) hv2
  exact ⟨⟨_,T2,f2,.inr ⟨_,_,rfl⟩,e2⟩,⟨_,T1,f1,.inr ⟨_,_,rfl⟩,e1⟩⟩
 ·obtain ⟨ps,⟨g1,t1,cs1,f1,p1,q1,hg1,ht1,hv1,hd1,_⟩,_⟩:=h3
  obtain rfl := Option.some.inj ((show prog.globalNamed "internal/strconv.uint64pow10" = some 3 by kernel_rfl).symm.trans hg1)
  obtain rfl:=Option.some.inj (tP10.symm.trans ht1)
  have hcs:cs1.toList=Lib.pow10Tab.map fun z=>Value.int .u64 z:=trod_inj (enc':=fun _=>()) _ _ _ _ W W _ _ _ _ _ _ _ _ _ _ plP10 hd1 (rdP10 W) rfl
  unfold World.var? at hv1
  rw [hg1] at hv1
  simp only [Option.bind_some] at hv1
  split at hv1
  ·rename_i cs t fr hb
   obtain rfl:=Option.some.inj hv1
   exact ⟨t,fr,by rw [←hcs];simpa using hb⟩
  ·cases hv1
theorem mxlR {W:World} (h:W.ShapedOpen prog):MxL.p fun b=>W.heap[b]?:=by
 obtain ⟨cs,hh,hs,hr⟩:=h.1 0 #[.int .i64 0] 3 (of_decide_eq_true (by kernel_rfl)) (by kernel_rfl)
 obtain ⟨ts,hts,_,hall⟩:=hr (by kernel_rfl)
 rw [show prog.cellTypes prog.depth 3=some [3] by kernel_rfl] at hts
 cases hts
 have hs:cs.size=1:=hs
 have h1:0<cs.size:=by omega
 obtain ⟨u,hu',hok⟩:=hall 0 cs[0] (by simp [h1])
 have:u=3:=by simpa using hu'.symm
 subst this
 have e:cs = #[cs[0]]:=by
  apply Array.ext
  ·simp [hs]
  ·intro i hi hj
   obtain rfl:i=0:=by simp at hj;omega
   rfl
 unfold Cell.ok at hok
 rw [underlying3] at hok
 cases hv:cs[0]<;>rw [hv] at hok<;>simp at hok
 case int k n=>
  rw [hv,hok.1] at e
  exact ⟨n,3,(0,0),by show W.heap[_]? = _;rw [hh,e]⟩
def bits (l:List Int):List Value:=l.map fun z=>Value.int .u8 z
def b32:List Int:=[0,1,28,2,29,14,24,3,30,22,20,15,25,17,4,8,31,27,13,23,21,19,16,7,26,12,18,6,11,5,10,9]
def b64:List Int:=[0,1,56,2,57,49,28,3,61,58,42,50,38,29,17,4,62,47,59,36,45,43,51,22,53,39,33,30,24,18,12,5,63,55,48,27,60,41,37,16,46,35,44,21,52,32,23,11,54,26,40,15,34,20,31,10,25,14,19,9,13,8,7,6]
noncomputable def laidWorldR (os:Os):World:=
 let N:=(World.settled prog os).heap.size
 let w0:=World.holding prog os ⟨#[.cells #[.string ⟨#[118,97,108,117,101,32,111,117,116,32,111,102,32,114,97,110,103,101]⟩] 244,.cells #[.string ⟨#[105,110,118,97,108,105,100,32,115,121,110,116,97,120]⟩] 244],#[],[]⟩
 let put (h:Array Obj) (g:Nat) (cs:Array Value):Array Obj:=h.modify g fun
  | .cells _ t frozen=>.cells cs t frozen
  | o=>o
 let h1:=put w0.heap 4 (bits b32).toArray
 let h2:=put h1 5 (bits b64).toArray
 let h3:=put h2 3 (Lib.pow10Tab.map fun z=>Value.int .u64 z).toArray
 let h4:=put h3 2 ((List.range 16).flatMap fun i=>[Value.int .u8 (Lib.accLo i),Value.int .u8 (Lib.accHi i)]).toArray
 let h5:=put h4 7 #[.iface 242 (.pointer (some ⟨N,0,none⟩))]
 let h6:=put h5 6 #[.iface 242 (.pointer (some ⟨N+1,0,none⟩))]
 let h7:=put h6 1 (Lib.firstTab.map fun z=>Value.int .u8 z).toArray
 {w0 with heap:=h7}
theorem open_cqw {H:Type} {enc:TypeId×Value→H} {W:World} {base:Nat} {v:Value} {d:DataW H} {p:List MemPlace} (hv:Value.okWide prog W .any base 26 v) (h:DataW.Trod enc prog W 0 (fun _=>true) true 26 v d p) :
  ∃c:Cq,v=cqa c∧CqW c∧p=[]∧∀w' base' sp' hd',DataW.Trod enc prog w' base' sp' hd' 26 v d []:=by
 obtain ⟨cs,rfl,h,hp,hr⟩:=open_agg plC skC (aggS underlying26 hv) h
 obtain ⟨z1,cs,rfl,_,h⟩:=Ym h
 obtain ⟨s2,cs,rfl,_,h⟩:=Xu h
 obtain ⟨z3,cs,rfl,b3,h⟩:=Ym h
 obtain ⟨z4,cs,rfl,_,h⟩:=Ym h
 obtain ⟨z5,cs,rfl,_,h⟩:=Ym h
 obtain ⟨s6,cs,rfl,_,h⟩:=Xu h
 obtain ⟨s7,cs,rfl,_,h⟩:=Xu h
 obtain ⟨z8,cs,rfl,b8,h⟩:=Ym h
 obtain ⟨z9,cs,rfl,b9,h⟩:=Ym h
 obtain ⟨z10,cs,rfl,_,h⟩:=Ym h
 obtain ⟨s11,cs,rfl,_,h⟩:=Xu h
 obtain ⟨s12,cs,rfl,_,h⟩:=Xu h
 obtain ⟨z13,cs,rfl,b13,h⟩:=Ym h
 obtain ⟨z14,cs,rfl,b14,h⟩:=Ym h
 obtain rfl:=cells_nil h
 have i3:=i64_in b3;have i8:=i64_in b8;have i9:=i64_in b9;have i13:=i64_in b13;have i14:=i64_in b14
 exact ⟨⟨z1,s2,z3,z4,⟨z5,s6,s7,z8⟩,z9,⟨z10,s11,s12,z13⟩,z14⟩,rfl,⟨show z3≤_ by omega,show z8≤_ by omega,show z9≤_ by omega,show z13≤_ by omega,show z14≤_ by omega⟩,hp,hr⟩
end
end Go.Proofs.YtodkipbnefngkaaGreatDoor
