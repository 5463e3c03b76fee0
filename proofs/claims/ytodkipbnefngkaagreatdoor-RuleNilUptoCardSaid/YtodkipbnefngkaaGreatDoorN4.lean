/-
  strings.SplitSeq at the ends of lines.
  Package rule: Parse.
  Package rule: the tests of conditions.
  Package rule: what conditions say of a consequence.
  A byte as a text; decimal numerals.
  The statements' model of the language of rules: decimal numerals, subjects, what is possible.
  Package rule: Len, Holds, Decide.
  Equality of actions of rules: rules for it.
  The statements' first example of the language of rules holds.
  Package rule: the canonical text of conditions.
  Package rule: the canonical text of rules.
  Package rule: Text, Equal.
  A part of a text between two bounds.
  The statements' model of the language of rules: templates.
  Rules for the literals of maps in regions that draw their order.
  The statements' model of the language of rules: shortened consequences, expanded templates.
  The law RuleNil.
  From contracts to the statements' form: memory that was there stays; plain data read the same everywhere; the table of the kinds.
  Slices of plain data as arguments: the fact that they lie in memory, and that they read the same later.
  The settled world; arguments of plain types, opened.
  Contracts of the statements' own functions: names, out, build.
  The statements' arguments, opened: items, bytes.
  The contract of the statements' example, known.
  What the consequences of a ledger and a state hold; no program in sight.
  The contract of consequence.Equal.
  Contracts of consequence.Differences and consequence.Count.
  The statement ConsequenceErrors, walked.
  The statement ConsequenceCounts, walked.
  More of the statements' arguments, opened: a consequence, small integers.
  What the given cards of the laws about rules lay in memory, and an argument that is a consequence.
  Conditions: those that each theorem states.
-/
import Derived.Test.YtodkipbnefngkaaGreatDoorN3
import Derived.Shelf.Strings.Prefix
import Derived.Lib.ItoaNum
import Derived.Test.YtodkipbnefngkaaGreatDoorN2
import Derived.Test.YtodkipbnefngkaaGreatDoorRows
import Derived.Test.YtodkipbnefngkaaGreatDoorCards
import Derived.Test.YtodkipbnefngkaaGreatDoorTie
import Derived.ChangeSame
import Derived.ProofKit
import Derived.OpenShut
import Derived.MakeChecks
import Derived.Deep.DeepHandedRow
import Derived.Stop.LaidErr
import Derived.Deep.DeepWitnessRowRef
import Derived.Deep.DeepLaidRun
import Derived.Lib.LaidU8
import Derived.Lib.DecodeN
import Derived.Shelf.Vars
set_option maxRecDepth 10000
namespace Go.Proofs.YtodkipbnefngkaaGreatDoor
open Go.RowKit Go.Proofs.Tryz
def nlS:ByteArray:=⟨#[10]⟩
theorem lines_one:∀(l:List UInt8),spanF (fun x=>!(x == 10)) l=l.length→linesF l=[l]
 | [],_=>rfl
 | c::r,h=>by
  by_cases hc:c=10
  ·subst hc;simp [spanF] at h
  ·have e:spanF (fun x=>!(x == 10)) (c::r)=spanF (fun x=>!(x == 10)) r+1:=by simp [spanF,hc]
   rw [linesF,if_neg (by simpa using hc),lines_one r (by rw [e] at h;simpa using h)]
theorem lines_more:∀(l:List UInt8),spanF (fun x=>!(x == 10)) l<l.length→linesF l=l.take (spanF (fun x=>!(x == 10)) l)::linesF (l.drop (spanF (fun x=>!(x == 10)) l+1))
 | [],h=>by simp at h
 | c::r,h=>by
  by_cases hc:c=10
  ·subst hc
   have e:spanF (fun x=>!(x == 10)) ((10:UInt8)::r)=0:=by simp [spanF]
   rw [e,linesF];simp
  ·have e:spanF (fun x=>!(x == 10)) (c::r)=spanF (fun x=>!(x == 10)) r+1:=by simp [spanF,hc]
   rw [e] at h ⊢
   rw [linesF,if_neg (by simpa using hc),lines_more r (by simpa using h)]
   simp
theorem sIndex_ok (s:ByteArray) (c:UInt8):Enters 82∧Spec prog 82 #[.string s,.string ⟨#[c]⟩] [] [] (RetV (.int .i64 (Lib.indexByte s.data.toList c))):=by
 have n1:=index1_ok s c
 generalize Lib.indexByte s.data.toList c=z at *
 refine ZR [_,_] func82 ntmps82 fun G w hp=>?_
 repeat' (first|refine ZG ?_|refine ZH ?_|refine ZJ ?_|refine ZI ?_|refine ZL ?_|refine ZF ?_|refine ZO ?_|refine ZN (fun b=>?_)|refine ZM (fun b=>?_)|refine ZD ?_|refine ZB ?_|refine ZK ?_|refine ZA (n1) (fun _ _=>?_)|refine l_call0 (n1) (fun _ _=>?_)|(refine ZC (fun hc=>?_) (fun hc=>?_)<;>(try simp at hc))|(refine ZE (fun hc=>?_) (fun hc=>?_)<;>(try simp at hc)))
 exact ZP () rfl trivial
abbrev spl (b1 b2 b3:Nat):List Value:=[pv0 b1,pv0 b2,pv0 b3]
abbrev SpR (b1 b2 b3:Nat) (L:List UInt8):List HP:=[Pt b1 (.cells #[.string nlS] 9),Pt b2 (.cells #[.string (ofL L)] 9),Pt b3 (.cells #[.int .i64 0] 3)]
theorem splitSeq_ok (L:List UInt8):Enters 44∧Spec prog 44 #[.string (ofL L),.string nlS] [] [] ⟨Nat×Nat×Nat,fun q=>.func (.func 94) #[] #[pv0 q.1,pv0 q.2.1,pv0 q.2.2],fun _=>True,fun _=>[],fun q=>SpR q.1 q.2.1 q.2.2 L⟩:=by
 have n1:Enters 68∧Spec prog 68 #[.string (ofL L),.string nlS,.int .i64 0] [] [] ⟨Nat×Nat×Nat,fun q=>.func (.func 94) #[] #[pv0 q.1,pv0 q.2.1,pv0 q.2.2],fun _=>True,fun _=>[],fun q=>SpR q.1 q.2.1 q.2.2 L⟩:=by
  refine ZR [_,_,_] func68 ntmps68 fun G w hp=>?_
  repeat' (first|refine ZG ?_|refine ZH ?_|refine ZJ ?_|refine ZI ?_|refine ZL ?_|refine ZF ?_|refine ZO ?_|refine ZN (fun b=>?_)|refine ZM (fun b=>?_)|refine ZD ?_|refine ZB ?_|refine ZK ?_|(refine ZC (fun hc=>?_) (fun hc=>?_)<;>(try simp at hc))|(refine ZE (fun hc=>?_) (fun hc=>?_)<;>(try simp at hc)))
  rename_i b1 b2
  exact ZP (b2,b1,b) rfl trivial
 refine ZR [_,_] func44 ntmps44 fun G w hp=>?_
 repeat' (first|refine ZG ?_|refine ZH ?_|refine ZJ ?_|refine ZI ?_|refine ZL ?_|refine ZF ?_|refine ZO ?_|refine ZN (fun b=>?_)|refine ZM (fun b=>?_)|refine ZD ?_|refine ZB ?_|refine ZK ?_|refine ZA (n1) (fun _ _=>?_)|refine l_call0 (n1) (fun _ _=>?_)|(refine ZC (fun hc=>?_) (fun hc=>?_)<;>(try simp at hc))|(refine ZE (fun hc=>?_) (fun hc=>?_)<;>(try simp at hc)))
 rename_i q _
 exact ZP q rfl trivial
set_option maxHeartbeats 4000000 in
theorem split_iter (b1 b2 b3:Nat) (L:List UInt8) (hL:L.length≤1000000):IterG 94 (spl b1 b2 b3) (fun l=>.string (ofL l)) (linesF L) [] (SpR b1 b2 b3 L):=by
 intro γ v Y FI I Ix g0 hy
 obtain ⟨XS,hXS⟩:∃XS,linesF L=XS:=⟨_,rfl⟩
 rw [hXS] at hy ⊢
 have sz1:(((nlS).size:Nat):Int)=1:=rfl
 generalize b1=c1,b2=c2,b3=c3 at *
 show Enters 94∧Spec prog 94 #[v,pv0 c1,pv0 c2,pv0 c3] _ _ _
 refine ZR [_,_,_,_] func94 ntmps94 fun G w hp=>?_
 repeat' (first|refine ZG ?_|refine ZH ?_|refine ZJ ?_|refine ZI ?_|refine ZL ?_|refine ZF ?_|refine ZO ?_|refine ZN (fun b=>?_)|refine ZM (fun b=>?_)|refine ZD ?_|refine ZB ?_|(refine ZC (fun hc=>?_) (fun hc=>?_)<;>(try simp at hc)<;>(try omega))|(refine ZE (fun hc=>?_) (fun hc=>?_)<;>(try simp at hc)<;>(try omega)))
 refine Yu (X:={q:List (List UInt8)×List UInt8×γ // q.1++linesF q.2.1=XS∧q.2.1.length≤1000000}) (fun _=>[(0,v),(1,pv0 c1),(2,pv0 c2),(3,pv0 c3)]) (fun q=>[Y,FI q.1.1 q.1.2.2]) (fun q=>I q.1.1 q.1.2.2::SpR c1 c2 c3 q.1.2.1) (fun q=>q.1.2.1.length) ⟨([],L,g0),hXS,hL⟩ ⟨rfl,rfl,rfl,rfl,trivial⟩ ?_
 rintro ⟨⟨pre,l,gz⟩,hp,hl⟩
 dsimp only at hp hl ⊢
 have n1:=sIndex_ok (ofL l) 10
 rw [Xg,ixb_span] at n1
 have hm:=Z7 (fun x=>!(x == 10)) l
 have hone:=lines_one l
 have hmore:=lines_more l
 have hsz:=XJ l
 have hll:=Xg l
 generalize spanF (fun x=>!(x == 10)) l=m at *
 by_cases c:m=l.length
 ·rw [if_pos c] at n1
  have e:=hone c
  rw [e] at hp
  have y1:=hy pre gz l (by rw [hp];exact List.prefix_rfl)
  repeat' (first|refine ZG ?_|refine ZH ?_|refine ZJ ?_|refine ZI ?_|refine ZL ?_|refine ZF ?_|refine ZO ?_|refine ZN (fun b=>?_)|refine ZM (fun b=>?_)|refine ZD ?_|refine ZB ?_|refine ZK ?_|refine ZA (n1) (fun _ _=>?_)|refine l_call0 (n1) (fun _ _=>?_)|refine Yk y1 (fun _ _=>?_)|(refine ZC (fun hc=>?_) (fun hc=>?_)<;>(try simp at hc)<;>(try omega))|(refine ZE (fun hc=>?_) (fun hc=>?_)<;>(try simp at hc)<;>(try omega)))
  rename_i b _
  obtain ⟨b,gy⟩:=b
  subst hp
  cases b with
  | true=>exact YB (none,gy) rfl (fun _ h=>by cases h)
  | false=>exact YB (some (pre++[l]),gy) rfl (fun _ h=>by cases h;exact List.prefix_rfl)
 ·rw [if_neg c] at n1
  have hlt:m<l.length:=by omega
  have e:=hmore hlt
  rw [e] at hp
  have hp2:pre++[l.take m]++linesF (l.drop (m+1))=XS:=by rw [←hp];simp
  have y1:=hy pre gz (l.take m) (by rw [←hp2];exact List.prefix_append _ _)
  have w1:=wrapi (z:=(m:Int)+0) (by omega) (by omega)
  have w2:=wrapi (z:=(m:Int)+1) (by omega) (by omega)
  repeat' (first|refine ZG ?_|refine ZH ?_|refine ZJ ?_|refine ZI ?_|refine ZL ?_|refine ZF ?_|refine ZO ?_|refine ZN (fun b=>?_)|refine ZM (fun b=>?_)|refine ZD ?_|refine ZB ?_|refine ZA (n1) (fun _ _=>?_)|refine l_call0 (n1) (fun _ _=>?_)|refine Yk y1 (fun _ _=>?_)|rw [sz1]|rw [w1]|rw [w2]|refine l_sTo (s:=ofL l) (u:=ofL (l.take m)) m (by omega) (by rw [Xg,Xg]) ?_|refine Z1 (s:=ofL l) (u:=ofL (l.drop (m+1))) (m+1) (by omega) (by rw [Xg,Xg]) ?_|(refine ZC (fun hc=>?_) (fun hc=>?_)<;>(try simp at hc)<;>(try omega))|(refine ZE (fun hc=>?_) (fun hc=>?_)<;>(try simp at hc)<;>(try omega)))
  all_goals rename_i b _
  all_goals obtain ⟨b,gy⟩:=b
  ·cases b with
   | true=>cases hc
   | false=>exact YQ (Yf (Z3 (some (pre++[l.take m]),gy) rfl (fun _ h=>by cases h;rw [←hp2];exact List.prefix_append _ _)))
  ·cases b with
   | false=>cases hc
   | true=>exact ZZ ⟨(pre++[l.take m],l.drop (m+1),gy),hp2,by show (l.drop (m+1)).length≤_;rw [List.length_drop];omega⟩ (by show (l.drop (m+1)).length<l.length;rw [List.length_drop];omega) ⟨rfl,rfl,rfl,rfl,trivial⟩
variable {n:Nat} {C:Cx} {Q:Exit→Act→World→Prop} {E E':List (Nat×Value)} {F F' F1 Fs F0:List Pf} {R R' R0 Rs N N' A:List HP} {k k':List Fr} {ops l:List Oper} {L L':List (Nat×Nat)} {Tl:List Nat} {i d:Nat} {t t2 ty0:TypeId} {x y z:Operand} {pos:String} {aft:Array Edge} {gd:Option (Nat×Bool)}
section
variable {b off:Nat} {ty:TypeId} {v:Value} {cs:Array Value}
theorem r_stI (nx:Wr n C ops k Q Tl Fs R L E F N) (ho:nth ops i=some ⟨none,.store t x y,ty0,pos,aft,gd⟩:=by rfl) (hw:wantL ops E ⟨none,.store t x y,ty0,pos,aft,gd⟩=some true:=by rfl)
  (hx:ev E x=some (.pointer (some ⟨b,off,none⟩)):=by rfl) (hy:ev E y=some v:=by rfl) (hs:Sel (Pt b (.cells cs ty (0,0))) R R0:=by (repeat (first|exact Sel.here|apply Sel.there));first|done|fail) (hv:stv t cs.toList off v=some cs.toList:=by rfl) :
  Wr n C ops k Q Tl Fs R ((i,4)::L) E F N:=
 Ye ho fun hp hr w st hz sb=>by
  simp only [Zn hw]
  refine ⟨⟨Unit,fun _=>undef,fun _=>True,fun _=>F,fun _=>N⟩,fun a G w1 hp' ha hsub hsat=>?_,fun _ _=>nx hp hr w st hz sb⟩
  obtain ⟨h1,h2,_,s1,_,hpt,_⟩:=hs.sep st.r
  have hb:w1.heap[b]? = some (.cells cs ty (0,0)):=hsat.stat hsub b _ (sb b _ (ZV _ _ _ _ (s1 _ _ hpt)))
  obtain ⟨w',g1,g2,g3,g4⟩:=stv_ok hb hv
  have hh:∀c,w'.heap[c]? = w1.heap[c]?:=fun c=>by
   by_cases hc:c=b
   ·rw [hc,g2,hb]
   ·exact g4 c hc
  unfold OpRes
  simp only [execOp,Instr.storeAt,ha.ev (x:=x) (by rw [ZQ];exact hx),ha.ev (x:=y) (by rw [ZQ];exact hy),Instr.sureAddr,Sem.run_bind,Sem.run_pure,Result.andThen,g1]
  obtain ⟨hp2,hr2,s⟩:=hsat
  exact ⟨(),trivial,trivial,hp2,hr2,fun c o e=>(hh c).trans (s.inp c o e),fun c o e=>(hh c).trans (s.inr c o e),fun c o e=>(hh c).trans (s.ing c o e),s.d1,s.d2,s.d3,s.sub,s.f,s.r,s.same.trans g3⟩
end
def RlsF (b:Nat) (l:List Ru):Pf:=⟨fun h=>∃(xs:List RI) (o:Option Addr) (cap:Nat),(Blk b (.cells #[.slice o xs.length cap] 95)).p h∧(Sl 102 rul o cap xs).p h∧RusP h l xs,
 fun _ _ s ⟨xs,o,cap,h1,h2,h3⟩=>⟨xs,o,cap,(Blk b _).m _ _ s h1,(Sl _ _ o cap xs).m _ _ s h2,Wd s l xs h3⟩⟩
abbrev PaP (r:Except (Int×Int×Int) (List Ru)):Post:=match r with
 | .ok l=>⟨Nat,fun b=>.tuple #[.pointer (some ⟨b,0,none⟩),.int .i64 0,.int .i64 0,.int .i64 0],fun _=>True,fun b=>[RlsF b l],fun _=>[]⟩
 | .error x=>⟨Unit,fun _=>.tuple #[.pointer none,.int .i64 x.1,.int .i64 x.2.1,.int .i64 x.2.2],fun _=>True,fun _=>[],fun _=>[]⟩
abbrev PG:=List Ru×List RI×Option Addr×Nat
def PaJ (_:ByteArray) (b2 b3 b4 b5 br:Nat) (pre:List (List UInt8)) (g:PG):HP:=fun h=>((∀rest,rowsF (pre++rest) 0 []=rowsF rest pre.length g.1)∧g.2.1.length=g.1.length∧g.1.length≤256)∧
 Sep ([Pt b2 (.cells #[.pointer (some ⟨br,0,none⟩)] 39),Pt b3 (.cells #[.int .i64 (pre.length:Nat)] 3),Pt b4 (.cells #[.int .i64 0] 3),Pt b5 (.cells #[.int .i64 0] 28)]++RlR br g.2.1 g.2.2.1 g.2.2.2) h
def PaX (s:ByteArray) (b2 b3 b4 b5:Nat) (_:List (List UInt8)) (_:PG):HP:=fun h=>∃x:Int×Int×Int,rowsF (linesF s.data.toList) 0 [] = .error x∧
 Sep [Pt b2 (.cells #[.pointer none] 39),Pt b3 (.cells #[.int .i64 x.1] 3),Pt b4 (.cells #[.int .i64 x.2.1] 3),Pt b5 (.cells #[.int .i64 x.2.2] 28)] h
set_option maxHeartbeats 4000000 in
theorem X3 (s:ByteArray) (hs:s.size≤1000000000):Enters 21∧Spec prog 21 #[.string s] [ErA,P10] [] (PaP (parF s)):=by
 have hsz:=lsz s
 by_cases hb:65536<s.size
 ·have e:parF s = .error (0,0,5):=if_pos hb
  rw [e]
  refine ZR [_] func21 ntmps21 fun G w hp=>?_
  repeat' (first|refine ZG ?_|refine ZH ?_|refine ZJ ?_|refine ZI ?_|refine ZL ?_|refine ZF ?_|refine ZO ?_|refine ZN (fun b=>?_)|refine ZM (fun b=>?_)|refine ZD ?_|refine ZB ?_|refine ZK ?_|(refine ZC (fun hc=>?_) (fun hc=>?_)<;>(try simp at hc)<;>(try omega))|(refine ZE (fun hc=>?_) (fun hc=>?_)<;>(try simp at hc)<;>(try omega)))
  exact ZP () rfl trivial
 ·have e0:parF s=rowsF (linesF s.data.toList) 0 []:=if_neg hb
  rw [e0]
  obtain ⟨hl1,hl2⟩:=WP s.data.toList
  have n0:=splitSeq_ok s.data.toList
  have es:ofL s.data.toList=s:=XZ rfl
  rw [es] at n0
  have hit:=fun (a b c:Nat)=>split_iter a b c s.data.toList (by omega)
  obtain ⟨R,hR⟩:∃R,rowsF (linesF s.data.toList) 0 []=R:=⟨_,rfl⟩
  rw [hR]
  refine ⟨enters_of func21 (by kernel_rfl) rfl,spec_ofM (vs:=[_]) func21 rfl ntmps21 rfl fun G w hp=>?_⟩
  repeat' (first|refine ZG ?_|refine ZH ?_|refine ZJ ?_|refine ZI ?_|refine ZL ?_|refine ZF ?_|refine ZO ?_|refine ZN (fun b=>?_)|refine ZM (fun b=>?_)|refine ZD ?_|refine ZB ?_|refine ZA (n0) (fun _ _=>?_)|refine l_call0 (n0) (fun _ _=>?_)|(refine ZC (fun hc=>?_) (fun hc=>?_)<;>(try simp at hc)<;>(try omega))|(refine ZE (fun hc=>?_) (fun hc=>?_)<;>(try simp at hc)<;>(try omega)))
  rename_i b2 b3 b4 b5 q _
  obtain ⟨q1,q2,q3⟩:=q
  generalize b=br at *
  refine Zy (Lx:=[]) (r:=Row 102 3 none 0 0 []) (fun h _=>Xw _ _ h) ?_
  refine k_add (f:=RusF [] []) (fun _=>trivial) ?_
  refine Zy (Lx:=[Pt b2 (.cells #[.pointer (some ⟨br,0,none⟩)] 39),Pt b3 (.cells #[.int .i64 0] 3),Pt b4 (.cells #[.int .i64 0] 3),Pt b5 (.cells #[.int .i64 0] 28)]++RlR br [] none 0) (r:=PaJ s b2 b3 b4 b5 br [] ([],[],none,0)) (fun h hh=>⟨⟨fun rest=>rfl,rfl,by decide⟩,hh⟩) ?_
  refine k_rangeG (α:=List UInt8) (enc:=fun l=>.string (ofL l)) (xs:=linesF s.data.toList) (fun pre g=>RusF g.1 g.2.1) (PaJ s b2 b3 b4 b5 br) (PaX s b2 b3 b4 b5) ([],[],none,0) (hit q1 q2 q3) ?_ ?_ ?_
  ·intro lr l pre g e hpre G w0 hp0
   obtain ⟨acc,xs,o,cap⟩:=g
   dsimp only
   refine YR (X:=Unit) (Lx:=fun _=>[Pt b2 (.cells #[.pointer (some ⟨br,0,none⟩)] 39),Pt b3 (.cells #[.int .i64 (pre.length:Nat)] 3),Pt b4 (.cells #[.int .i64 0] 3),Pt b5 (.cells #[.int .i64 0] 28)]++RlR br xs o cap) (p:=fun _=>(∀rest,rowsF (pre++rest) 0 []=rowsF rest pre.length acc)∧xs.length=acc.length∧acc.length≤256) (r:=PaJ s b2 b3 b4 b5 br pre (acc,xs,o,cap)) (.there .here) (fun h hh=>⟨(),hh.1,hh.2⟩) (fun _ hpu=>?_)
   obtain ⟨p1,p2,p3⟩:=hpu
   have hel:e.length≤s.data.toList.length:=hl2 e (hpre.subset (by simp))
   have hpl:pre.length+1≤s.data.toList.length+1:=by
    have:=hpre.length_le
    simp only [List.length_append,List.length_singleton] at this;omega
   have n1:=ruAdd_ok br (ofL e) (by rw [XJ];omega) acc xs o cap p2 p3
   rw [Xg] at n1
   delta AdP at n1
   have w1:IntKind.i64.wrap ((pre.length:Int)+1)=(((pre++[e]).length:Nat):Int):=by
    rw [wrapi (by omega) (by omega)];simp
   obtain ⟨a1,a2⟩:=lineF_pl e acc.length
   have w2:=wrapi (z:=(lineF e acc.length).2.1+1) (by omega) (by omega)
   have hlen:=addF_len (s:=e) p3
   by_cases he:(lineF e acc.length).2.2=0
   ·have hst:=fun rest=>rows_step (rest:=rest) (i:=pre.length) he
    rw [he] at n1
    generalize (lineF e acc.length).2.1=a at *
    generalize addF e acc=acc2 at *
    repeat' (first|refine ZG ?_|refine ZH ?_|refine ZJ ?_|refine ZI ?_|refine ZL ?_|refine ZF ?_|refine ZO ?_|refine ZN (fun b=>?_)|refine ZM (fun b=>?_)|refine ZD ?_|refine ZB ?_|refine ZK ?_|refine Zg ?_|refine Zf ?_|refine Zv ?_|refine Zd ?_|refine Ze ?_|refine Zw (fun b=>?_)|refine Zx (fun b=>?_)|refine Zz ?_|refine Zh ?_|refine ZA (n1) (fun _ _=>?_)|refine l_call0 (n1) (fun _ _=>?_)|refine ZT (n1) (fun _ _=>?_)|refine k_beg ?_|rw [w1]|(refine ZC (fun hc=>?_) (fun hc=>?_)<;>(try simp at hc)<;>(try omega))|(refine ZX (fun hc=>?_) (fun hc=>?_)<;>(try simp at hc)<;>(try omega))|refine ZS 9 [] [(0,0),(1,0),(2,0),(3,0),(4,4),(5,4),(6,4)] [7] ?_|(refine ZE (fun hc=>?_) (fun hc=>?_)<;>(try simp at hc)<;>(try omega)))
    rename_i q hq
    obtain ⟨xs2,o2,cap2⟩:=q
    dsimp only at hq
    refine Zy (Lx:=[Pt b2 (.cells #[.pointer (some ⟨br,0,none⟩)] 39),Pt b3 (.cells #[.int .i64 ((pre++[e]).length:Nat)] 3),Pt b4 (.cells #[.int .i64 0] 3),Pt b5 (.cells #[.int .i64 0] 28)]++RlR br xs2 o2 cap2) (r:=PaJ s b2 b3 b4 b5 br (pre++[e]) (acc2,xs2,o2,cap2)) (fun h hh=>⟨⟨fun rest=>(by rw [List.append_assoc,List.singleton_append,p1,hst,List.length_append];rfl),hq,hlen⟩,hh⟩) ?_
    exact k_rnG (acc2,xs2,o2,cap2)
   ·have hbad:=fun rest=>rows_bad (rest:=rest) (i:=pre.length) he
    obtain ⟨rest,hrest⟩:=hpre
    have hx:=p1 (e::rest)
    rw [hbad,show pre++e::rest=linesF s.data.toList by rw [←hrest];simp] at hx
    generalize (lineF e acc.length).2.1=a at *
    generalize (lineF e acc.length).2.2=er at *
    generalize addF e acc=acc2 at *
    have hne:¬er=0:=he
    repeat' (first|refine r_stI ?_|refine ZG ?_|refine ZH ?_|refine ZJ ?_|refine ZI ?_|refine ZL ?_|refine ZF ?_|refine ZO ?_|refine ZN (fun b=>?_)|refine ZM (fun b=>?_)|refine ZD ?_|refine ZB ?_|refine ZK ?_|refine Zg ?_|refine Zf ?_|refine Zv ?_|refine Zd ?_|refine Ze ?_|refine Zw (fun b=>?_)|refine Zx (fun b=>?_)|refine Zz ?_|refine Zh ?_|refine ZA (n1) (fun _ _=>?_)|refine l_call0 (n1) (fun _ _=>?_)|refine ZT (n1) (fun _ _=>?_)|refine k_beg ?_|rw [w1]|rw [w2]|(refine ZC (fun hc=>?_) (fun hc=>?_)<;>(try simp at hc)<;>(try omega))|(refine ZX (fun hc=>?_) (fun hc=>?_)<;>(try simp at hc)<;>(try omega))|refine ZS 9 [Pt b2 _,Pt b4 _] [(0,0),(1,0),(2,0),(3,0),(4,4),(5,4),(6,4)] [7] ?_|(refine ZE (fun hc=>?_) (fun hc=>?_)<;>(try simp at hc)<;>(try omega)))
    have e1:((pre.length:Int)+1)=(((pre++[e]).length:Nat):Int):=by simp
    rw [e1] at hx
    refine Zy (Lx:=[Pt b2 (.cells #[.pointer none] 39),Pt b3 (.cells #[.int .i64 ((pre++[e]).length:Nat)] 3),Pt b4 (.cells #[.int .i64 (a+1)] 3),Pt b5 (.cells #[.int .i64 er] 28)]) (r:=PaX s b2 b3 b4 b5 (pre++[e]) (acc,xs,o,cap)) (fun h hh=>⟨_,hx,hh⟩) ?_
    exact k_rrG (acc,xs,o,cap)
  ·intro D g
   obtain ⟨acc,xs,o,cap⟩:=g
   dsimp only
   refine YR (X:=Unit) (Lx:=fun _=>[Pt b2 (.cells #[.pointer (some ⟨br,0,none⟩)] 39),Pt b3 (.cells #[.int .i64 ((linesF s.data.toList).length:Nat)] 3),Pt b4 (.cells #[.int .i64 0] 3),Pt b5 (.cells #[.int .i64 0] 28)]++RlR br xs o cap) (p:=fun _=>(∀rest,rowsF (linesF s.data.toList++rest) 0 []=rowsF rest (linesF s.data.toList).length acc)∧xs.length=acc.length∧acc.length≤256) (r:=PaJ s b2 b3 b4 b5 br (linesF s.data.toList) (acc,xs,o,cap)) .here (fun h hh=>⟨(),hh.1,hh.2⟩) (fun _ hpu=>?_)
   obtain ⟨p1,p2,p3⟩:=hpu
   have hRa:=p1 []
   rw [List.append_nil,hR] at hRa
   obtain rfl:R = .ok acc:=hRa
   refine k_frz (f:=rul) xs ?_ rfl rfl
   refine k_fz (b:=br) ?_
   refine Z2 (F1:=[Blk br (.cells #[.slice o xs.length cap] 95),Sl 102 rul o cap xs,RusF acc xs]) (f:=RlsF br acc) (fun hp hF=>⟨xs,o,cap,hF _ (.head _),hF _ (.tail _ (.head _)),hF _ (.tail _ (.tail _ (.head _)))⟩) ?_
   repeat' (first|refine ZG ?_|refine ZH ?_|refine ZJ ?_|refine ZI ?_|refine ZL ?_|refine ZF ?_|refine ZO ?_|refine ZN (fun b=>?_)|refine ZM (fun b=>?_)|refine ZD ?_|refine ZB ?_|refine ZK ?_|refine k_beg ?_|(refine ZC (fun hc=>?_) (fun hc=>?_)<;>(try simp at hc)<;>(try omega))|(refine ZE (fun hc=>?_) (fun hc=>?_)<;>(try simp at hc)<;>(try omega)))
   exact k_retM br rfl trivial
  ·intro D pre g hpre
   refine w_open (X:=Int×Int×Int) (Lx:=fun x=>[Pt b2 (.cells #[.pointer none] 39),Pt b3 (.cells #[.int .i64 x.1] 3),Pt b4 (.cells #[.int .i64 x.2.1] 3),Pt b5 (.cells #[.int .i64 x.2.2] 28)]) (p:=fun x=>rowsF (linesF s.data.toList) 0 [] = .error x) (r:=PaX s b2 b3 b4 b5 pre g) .here (fun h hh=>hh) (fun x hx=>?_)
   obtain rfl:R = .error x:=by rw [←hR,hx]
   exact w_retM () rfl trivial
end Go.Proofs.YtodkipbnefngkaaGreatDoor
set_option maxRecDepth 10000
namespace Go.Proofs
open Go.Shelf
def Tryz.lays99_ren:Go.Shelf.Ren:=⟨fun|99=>55|206=>85|n=>n,fun|9=>9|4=>4|3=>3|n=>n,fun|n=>n⟩
theorem Tryz.lays99:Go.Proofs.Lays.n99 Tryz.prog Tryz.lays99_ren:={
 mixed:=by kernel_rfl
 f99:=Tryz.func55.trans (congrArg some (by kernel_rfl))
 f206:=Tryz.func85.trans (congrArg some (by kernel_rfl))
 t3:=Tryz.underlying3
 a3:=Tryz.isAgg3
 z3:=Tryz.sizeOf3
 v3:=Tryz.zeroValue3
 t4:=Tryz.underlying4
 a4:=Tryz.isAgg4
 z4:=Tryz.sizeOf4
 v4:=Tryz.zeroValue4
 t9:=Tryz.underlying9
 a9:=Tryz.isAgg9
 z9:=Tryz.sizeOf9
 v9:=Tryz.zeroValue9}
end Go.Proofs
namespace Go.Proofs.YtodkipbnefngkaaGreatDoor
open Go.Proofs.Tryz
open Go.RowKit
variable {n:Nat} {C:Cx} {Q:Exit→Act→World→Prop} {E E':List (Nat×Value)} {F F' F1 Fs F0:List Pf} {R R' R0 Rs N N' A:List HP} {k k':List Fr} {ops l:List Oper} {L L':List (Nat×Nat)} {Tl:List Nat} {i d:Nat} {t t2 ty0:TypeId} {x y z:Operand} {pos:String} {aft:Array Edge} {gd:Option (Nat×Bool)}
section
theorem r_callV {v:Value} {args:Array Operand} {tys:Array TypeId} {vs:List Value} {post:Post} (spec:SpecV v vs F1 A post)
  (nx:∀x,post.pure x→Wr n C ops k Q Tl Fs R L ((d,post.val x)::E) (post.F x++F) (post.R x++N')) (ho:nth ops i=some ⟨some d,.call ⟨.value x,args,tys⟩,ty0,pos,aft,gd⟩:=by rfl)
  (hw:wantL ops E ⟨some d,.call ⟨.value x,args,tys⟩,ty0,pos,aft,gd⟩=some true:=by rfl) (hx:ev E x=some v:=by rfl) (hargs:evs (ev E) args.toList some=some vs:=by rfl)
  (sel:Sels A N N':=by (repeat (first|exact Sels.nil|exact Sel.here|apply Sel.there|apply Sels.cons));first|done|fail)
  (hF:EntF F F1:=by (repeat (first|exact trivial|exact Sel.here|apply Sel.there|apply EntF.cons));first|done|fail):Wr n C ops k Q Tl Fs R ((i,4)::L) E F N:=
 Ye ho fun hp hr w st hz sb=>by
  simp only [Zn hw]
  refine ⟨⟨post.X,post.val,post.pure,fun x=>post.F x++F,fun x=>post.R x++N'⟩,fun a G w hp' ha hsub hsat=>?_,fun x hx=>nx x hx hp hr w st hz sb⟩
  obtain ⟨G',hp2,h1,h2⟩:=Xt hsat sel hF.all
  have h3:=spec G' w hp2 h1
  obtain ⟨us,_,e2,e3⟩:=XN _ _ _ hargs
  obtain rfl:=Option.some.inj e2
  have e1:=e3 a.eval fun x _ u hu=>ha.ev (by rw [ZQ];exact hu)
  have e4:args.map a.eval=us.toArray:=by rw [←Array.toList_inj];simpa using e1
  have e5:(args.map fun x=>a.eval x)=us.toArray:=e4
  have e0:=ha.ev (x:=x) (by rw [ZQ];exact hx)
  unfold CallsV at h3
  split at h3
  ·rename_i fn fs cs
   have h4:=h3.mono (R':=fun v w'=>∃x,v=post.val x∧post.pure x∧Sat G w hp' (post.F x++F) (post.R x++N') w') (by
    rintro v w' ⟨x,rfl,hx,hs⟩
    exact ⟨x,rfl,hx,h2 _ _ _ hs⟩)
   unfold OpRes at h4 ⊢
   have er:(execOp a.eval ⟨some d,.call ⟨.value x,args,tys⟩,ty0,pos,aft,gd⟩).run prog w=(invoke (.fn fn cs) (fs++us.toArray)).run prog w:=by
    simp only [execOp,resolve,e0,Deferred.ofValue,Sem.run_bind,Sem.run_pure,Result.andThen]
    rw [e5]
   rw [er]
   exact h4
  ·exact h3.elim
end
theorem sPrefix_ok (s p:ByteArray):Enters 55∧Spec prog 55 #[.string s,.string p] [] [] (RetV (.bool (Lib.hasPrefix s.data.toList p.data.toList))):=by
 refine ⟨enters_of func55 (by kernel_rfl) rfl,fun G w hp hs=>?_⟩
 refine (Any.strings_HasPrefix Tryz.lays99 s p w).mono ?_
 rintro e w' ⟨rfl,rfl⟩
 exact ⟨(),rfl,trivial,hs⟩
def MxL:Pf:=⟨fun h=>∃m T fz,h 0=some (.cells #[.int .i64 m] T fz),fun _ _ s ⟨m,T,fz,h1⟩=>⟨m,T,fz,s _ _ h1⟩⟩
theorem sContains_ok (s u:ByteArray) (hs:s.size≤1000000):Enters 53∧Spec prog 53 #[.string s,.string u] [MxL] [] (RetV (.bool (Lib.contains s.data.toList u.data.toList))):=by
 refine ⟨enters_of func53 (by kernel_rfl) rfl,fun G w hp hs0=>?_⟩
 obtain ⟨hp',hr,st⟩:=hs0
 obtain ⟨m,T,fz,h1⟩:=st.f MxL (by simp)
 refine (Any.strings_Contains Tryz.lays144 s u m w (by omega) (cell_of (st.inp _ _ h1))).mono ?_
 rintro e w' ⟨rfl,rfl⟩
 exact ⟨(),rfl,trivial,(show Sat G _ hp [MxL] [] _ from ⟨hp',hr,st⟩).facts fun _ _ x hx=>by cases hx⟩
theorem ruWithin_ok (s a:ByteArray) (hs:s.size≤1000000) (ha:a.size≤1000000):Enters 52∧Spec prog 52 #[.string s,.string a] [] [] (RetV (.bool (lwith s a))):=by
 have n1:=valid_ok s (by omega)
 have n2:=valid_ok a (by omega)
 have e:(a++(⟨#[46]⟩:ByteArray)).data.toList=a.data.toList++[46]:=ba_app _ _
 have n3:=sPrefix_ok s (a++⟨#[46]⟩)
 rw [e] at n3
 obtain ⟨R,hR⟩:∃R,lwith s a=R:=⟨_,rfl⟩
 rw [hR]
 unfold lwith isE at hR
 generalize lvalid s.data.toList=v1 at *
 generalize lvalid a.data.toList=v2 at *
 generalize Lib.hasPrefix s.data.toList (a.data.toList++[46])=v3 at *
 cases v1
 ·obtain rfl:R=false:=by rw [←hR];rfl
  refine ZR [_,_] func52 ntmps52 fun G w hp=>?_
  repeat' (first|refine ZG ?_|refine ZH ?_|refine ZJ ?_|refine ZI ?_|refine ZL ?_|refine ZF ?_|refine ZO ?_|refine ZN (fun b=>?_)|refine ZM (fun b=>?_)|refine ZD ?_|refine ZB ?_|refine ZK ?_|refine ZA (n1) (fun _ _=>?_)|refine l_call0 (n1) (fun _ _=>?_)|refine ZA (n2) (fun _ _=>?_)|refine l_call0 (n2) (fun _ _=>?_)|(refine ZC (fun hc=>?_) (fun hc=>?_)<;>(try simp at hc)<;>(try omega))|(refine ZE (fun hc=>?_) (fun hc=>?_)<;>(try simp at hc)<;>(try omega)))
  all_goals exact ZP () rfl trivial
 cases v2
 ·obtain rfl:R=false:=by rw [←hR];rfl
  refine ZR [_,_] func52 ntmps52 fun G w hp=>?_
  repeat' (first|refine ZG ?_|refine ZH ?_|refine ZJ ?_|refine ZI ?_|refine ZL ?_|refine ZF ?_|refine ZO ?_|refine ZN (fun b=>?_)|refine ZM (fun b=>?_)|refine ZD ?_|refine ZB ?_|refine ZK ?_|refine ZA (n1) (fun _ _=>?_)|refine l_call0 (n1) (fun _ _=>?_)|refine ZA (n2) (fun _ _=>?_)|refine l_call0 (n2) (fun _ _=>?_)|(refine ZC (fun hc=>?_) (fun hc=>?_)<;>(try simp at hc)<;>(try omega))|(refine ZE (fun hc=>?_) (fun hc=>?_)<;>(try simp at hc)<;>(try omega)))
  all_goals exact ZP () rfl trivial
 by_cases h1:s=a
 ·have b1:=beqT h1
  obtain rfl:R=true:=by rw [←hR,b1];rfl
  refine ZR [_,_] func52 ntmps52 fun G w hp=>?_
  repeat' (first|rw [b1]|refine ZG ?_|refine ZH ?_|refine ZJ ?_|refine ZI ?_|refine ZL ?_|refine ZF ?_|refine ZO ?_|refine ZN (fun b=>?_)|refine ZM (fun b=>?_)|refine ZD ?_|refine ZB ?_|refine ZK ?_|refine ZA (n1) (fun _ _=>?_)|refine l_call0 (n1) (fun _ _=>?_)|refine ZA (n2) (fun _ _=>?_)|refine l_call0 (n2) (fun _ _=>?_)|refine ZA (n3) (fun _ _=>?_)|refine l_call0 (n3) (fun _ _=>?_)|refine YF ?_|(refine ZC (fun hc=>?_) (fun hc=>?_)<;>(try simp at hc)<;>(try omega))|(refine ZE (fun hc=>?_) (fun hc=>?_)<;>(try simp at hc)<;>(try omega)))
  all_goals exact ZP () rfl trivial
 have b1:=beqF h1
 by_cases h2:a=⟨#[]⟩
 ·have b2:=beqT h2
  obtain rfl:R=true:=by rw [←hR,b1,b2];rfl
  refine ZR [_,_] func52 ntmps52 fun G w hp=>?_
  repeat' (first|rw [b2]|rw [b1]|refine ZG ?_|refine ZH ?_|refine ZJ ?_|refine ZI ?_|refine ZL ?_|refine ZF ?_|refine ZO ?_|refine ZN (fun b=>?_)|refine ZM (fun b=>?_)|refine ZD ?_|refine ZB ?_|refine ZK ?_|refine ZA (n1) (fun _ _=>?_)|refine l_call0 (n1) (fun _ _=>?_)|refine ZA (n2) (fun _ _=>?_)|refine l_call0 (n2) (fun _ _=>?_)|refine ZA (n3) (fun _ _=>?_)|refine l_call0 (n3) (fun _ _=>?_)|refine YF ?_|(refine ZC (fun hc=>?_) (fun hc=>?_)<;>(try simp at hc)<;>(try omega))|(refine ZE (fun hc=>?_) (fun hc=>?_)<;>(try simp at hc)<;>(try omega)))
  all_goals exact ZP () rfl trivial
 ·have b2:=beqF h2
  obtain rfl:R=v3:=by rw [←hR,b1,b2];cases v3<;>rfl
  refine ZR [_,_] func52 ntmps52 fun G w hp=>?_
  repeat' (first|rw [b2]|rw [b1]|refine ZG ?_|refine ZH ?_|refine ZJ ?_|refine ZI ?_|refine ZL ?_|refine ZF ?_|refine ZO ?_|refine ZN (fun b=>?_)|refine ZM (fun b=>?_)|refine ZD ?_|refine ZB ?_|refine ZK ?_|refine ZA (n1) (fun _ _=>?_)|refine l_call0 (n1) (fun _ _=>?_)|refine ZA (n2) (fun _ _=>?_)|refine l_call0 (n2) (fun _ _=>?_)|refine ZA (n3) (fun _ _=>?_)|refine l_call0 (n3) (fun _ _=>?_)|refine YF ?_|(refine ZC (fun hc=>?_) (fun hc=>?_)<;>(try simp at hc)<;>(try omega))|(refine ZE (fun hc=>?_) (fun hc=>?_)<;>(try simp at hc)<;>(try omega)))
  all_goals exact ZP () rfl trivial
section
variable {c:Cq}
theorem kind1_ok (c:Cq) (b:Nat) (k:Int):Enters 123∧Spec prog 123 #[cqa c,pv0 b] [Blk b (.cells #[.int .i64 k] 3)] [] (RetV (.bool (c.kind == k))):=by
 refine ZR [_,_] func123 ntmps123 fun G w hp=>?_
 repeat' (first|refine ZG ?_|refine ZH ?_|refine ZJ ?_|refine ZI ?_|refine ZL ?_|refine ZF ?_|refine ZO ?_|refine ZN (fun b=>?_)|refine ZM (fun b=>?_)|refine ZD ?_|refine ZB ?_|refine ZK ?_|(refine ZC (fun hc=>?_) (fun hc=>?_)<;>(try simp at hc))|(refine ZE (fun hc=>?_) (fun hc=>?_)<;>(try simp at hc)))
 exact ZP () rfl trivial
theorem channel1_ok (c:Cq) (b:Nat) (k:Int):Enters 125∧Spec prog 125 #[cqa c,pv0 b] [Blk b (.cells #[.int .i64 k] 3)] [] (RetV (.bool ((subO c).ch == k))):=by
 have n1:=XM c
 refine ZR [_,_] func125 ntmps125 fun G w hp=>?_
 repeat' (first|refine ZG ?_|refine ZH ?_|refine ZJ ?_|refine ZI ?_|refine ZL ?_|refine ZF ?_|refine ZO ?_|refine ZN (fun b=>?_)|refine ZM (fun b=>?_)|refine ZD ?_|refine ZB ?_|refine ZK ?_|refine ZA (n1) (fun _ _=>?_)|refine l_call0 (n1) (fun _ _=>?_)|(refine ZC (fun hc=>?_) (fun hc=>?_)<;>(try simp at hc))|(refine ZE (fun hc=>?_) (fun hc=>?_)<;>(try simp at hc)))
 exact ZP () rfl trivial
theorem by1_ok (c:Cq) (hc:CqS c) (b:Nat) (a:ByteArray) (ha:a.size≤1000000):Enters 140∧Spec prog 140 #[cqa c,pv0 b] [Blk b (.cells #[.string a] 22)] [] (RetV (.bool (lwith c.who a))):=by
 have n1:=ruWithin_ok c.who a (by have:=hc.wh;omega) ha
 refine ZR [_,_] func140 ntmps140 fun G w hp=>?_
 repeat' (first|refine ZG ?_|refine ZH ?_|refine ZJ ?_|refine ZI ?_|refine ZL ?_|refine ZF ?_|refine ZO ?_|refine ZN (fun b=>?_)|refine ZM (fun b=>?_)|refine ZD ?_|refine ZB ?_|refine ZK ?_|refine ZA (n1) (fun _ _=>?_)|refine l_call0 (n1) (fun _ _=>?_)|(refine ZC (fun hc=>?_) (fun hc=>?_)<;>(try simp at hc))|(refine ZE (fun hc=>?_) (fun hc=>?_)<;>(try simp at hc)))
 exact ZP () rfl trivial
theorem fldT_ok (c:Cq) (f:Nat) (hf:f<3):SpecV (fdT f) [cqa c] [] [] (RetV (.string (fldT f c))):=by
 have n1:=XM c
 match f,hf with
 | 0,_=>
  refine Zk (f:=126) ?_
  refine ZR [_] func126 ntmps126 fun G w hp=>?_
  repeat' (first|refine ZG ?_|refine ZH ?_|refine ZJ ?_|refine ZI ?_|refine ZL ?_|refine ZF ?_|refine ZO ?_|refine ZN (fun b=>?_)|refine ZM (fun b=>?_)|refine ZD ?_|refine ZB ?_|refine ZK ?_|refine ZA (n1) (fun _ _=>?_)|refine l_call0 (n1) (fun _ _=>?_)|(refine ZC (fun hc=>?_) (fun hc=>?_)<;>(try simp at hc))|(refine ZE (fun hc=>?_) (fun hc=>?_)<;>(try simp at hc)))
  exact ZP () rfl trivial
 | 1,_=>
  refine Zk (f:=127) ?_
  refine ZR [_] func127 ntmps127 fun G w hp=>?_
  repeat' (first|refine ZG ?_|refine ZH ?_|refine ZJ ?_|refine ZI ?_|refine ZL ?_|refine ZF ?_|refine ZO ?_|refine ZN (fun b=>?_)|refine ZM (fun b=>?_)|refine ZD ?_|refine ZB ?_|refine ZK ?_|(refine ZC (fun hc=>?_) (fun hc=>?_)<;>(try simp at hc))|(refine ZE (fun hc=>?_) (fun hc=>?_)<;>(try simp at hc)))
  exact ZP () rfl trivial
 | 2,_=>
  refine Zk (f:=128) ?_
  refine ZR [_] func128 ntmps128 fun G w hp=>?_
  repeat' (first|refine ZG ?_|refine ZH ?_|refine ZJ ?_|refine ZI ?_|refine ZL ?_|refine ZF ?_|refine ZO ?_|refine ZN (fun b=>?_)|refine ZM (fun b=>?_)|refine ZD ?_|refine ZB ?_|refine ZK ?_|(refine ZC (fun hc=>?_) (fun hc=>?_)<;>(try simp at hc))|(refine ZE (fun hc=>?_) (fun hc=>?_)<;>(try simp at hc)))
  exact ZP () rfl trivial
theorem fldN_ok (c:Cq) (f:Nat) (hf:f<4):SpecV (fdN f) [cqa c] [] [] (RetV (.int .i64 (fldN f c))):=by
 have n1:=XM c
 match f,hf with
 | 0,_=>
  refine Zk (f:=131) ?_
  refine ZR [_] func131 ntmps131 fun G w hp=>?_
  repeat' (first|refine ZG ?_|refine ZH ?_|refine ZJ ?_|refine ZI ?_|refine ZL ?_|refine ZF ?_|refine ZO ?_|refine ZN (fun b=>?_)|refine ZM (fun b=>?_)|refine ZD ?_|refine ZB ?_|refine ZK ?_|refine ZA (n1) (fun _ _=>?_)|refine l_call0 (n1) (fun _ _=>?_)|(refine ZC (fun hc=>?_) (fun hc=>?_)<;>(try simp at hc))|(refine ZE (fun hc=>?_) (fun hc=>?_)<;>(try simp at hc)))
  exact ZP () rfl trivial
 | 1,_=>
  refine Zk (f:=132) ?_
  refine ZR [_] func132 ntmps132 fun G w hp=>?_
  repeat' (first|refine ZG ?_|refine ZH ?_|refine ZJ ?_|refine ZI ?_|refine ZL ?_|refine ZF ?_|refine ZO ?_|refine ZN (fun b=>?_)|refine ZM (fun b=>?_)|refine ZD ?_|refine ZB ?_|refine ZK ?_|(refine ZC (fun hc=>?_) (fun hc=>?_)<;>(try simp at hc))|(refine ZE (fun hc=>?_) (fun hc=>?_)<;>(try simp at hc)))
  exact ZP () rfl trivial
 | 2,_=>
  refine Zk (f:=133) ?_
  refine ZR [_] func133 ntmps133 fun G w hp=>?_
  repeat' (first|refine ZG ?_|refine ZH ?_|refine ZJ ?_|refine ZI ?_|refine ZL ?_|refine ZF ?_|refine ZO ?_|refine ZN (fun b=>?_)|refine ZM (fun b=>?_)|refine ZD ?_|refine ZB ?_|refine ZK ?_|refine ZA (n1) (fun _ _=>?_)|refine l_call0 (n1) (fun _ _=>?_)|(refine ZC (fun hc=>?_) (fun hc=>?_)<;>(try simp at hc))|(refine ZE (fun hc=>?_) (fun hc=>?_)<;>(try simp at hc)))
  exact ZP () rfl trivial
 | 3,_=>
  refine Zk (f:=134) ?_
  refine ZR [_] func134 ntmps134 fun G w hp=>?_
  repeat' (first|refine ZG ?_|refine ZH ?_|refine ZJ ?_|refine ZI ?_|refine ZL ?_|refine ZF ?_|refine ZO ?_|refine ZN (fun b=>?_)|refine ZM (fun b=>?_)|refine ZD ?_|refine ZB ?_|refine ZK ?_|refine ZA (n1) (fun _ _=>?_)|refine l_call0 (n1) (fun _ _=>?_)|(refine ZC (fun hc=>?_) (fun hc=>?_)<;>(try simp at hc))|(refine ZE (fun hc=>?_) (fun hc=>?_)<;>(try simp at hc)))
  exact ZP () rfl trivial
theorem cmpT_ok (k:Nat) (hk:k<3) (s u:ByteArray) (hs:s.size≤1000000):SpecV (cmT k) [.string s,.string u] [MxL] [] (RetV (.bool (cmpB k s u))):=by
 match k,hk with
 | 0,_=>
  refine Zk (f:=129) ?_
  refine ZR [_,_] func129 ntmps129 fun G w hp=>?_
  repeat' (first|refine ZG ?_|refine ZH ?_|refine ZJ ?_|refine ZI ?_|refine ZL ?_|refine ZF ?_|refine ZO ?_|refine ZN (fun b=>?_)|refine ZM (fun b=>?_)|refine ZD ?_|refine ZB ?_|refine ZK ?_|(refine ZC (fun hc=>?_) (fun hc=>?_)<;>(try simp at hc))|(refine ZE (fun hc=>?_) (fun hc=>?_)<;>(try simp at hc)))
  exact ZP () rfl trivial
 | 1,_=>exact Zk (f:=53) (sContains_ok s u hs)
 | 2,_=>exact Zk (f:=55) ((sPrefix_ok s u).imp_right fun h G w hp hs=>h G w hp (hs.facts fun _ _ x hx=>by cases hx))
theorem cmpN_ok (k:Nat) (hk:k<3) (n m:Int):SpecV (cmN k) [.int .i64 n,.int .i64 m] [] [] (RetV (.bool (cmpZ k n m))):=by
 match k,hk with
 | 0,_=>
  refine Zk (f:=135) ?_
  refine ZR [_,_] func135 ntmps135 fun G w hp=>?_
  repeat' (first|refine ZG ?_|refine ZH ?_|refine ZJ ?_|refine ZI ?_|refine ZL ?_|refine ZF ?_|refine ZO ?_|refine ZN (fun b=>?_)|refine ZM (fun b=>?_)|refine ZD ?_|refine ZB ?_|refine ZK ?_|(refine ZC (fun hc=>?_) (fun hc=>?_)<;>(try simp at hc))|(refine ZE (fun hc=>?_) (fun hc=>?_)<;>(try simp at hc)))
  exact ZP () rfl trivial
 | 1,_=>
  refine Zk (f:=136) ?_
  refine ZR [_,_] func136 ntmps136 fun G w hp=>?_
  repeat' (first|refine ZG ?_|refine ZH ?_|refine ZJ ?_|refine ZI ?_|refine ZL ?_|refine ZF ?_|refine ZO ?_|refine ZN (fun b=>?_)|refine ZM (fun b=>?_)|refine ZD ?_|refine ZB ?_|refine ZK ?_|(refine ZC (fun hc=>?_) (fun hc=>?_)<;>(try simp at hc))|(refine ZE (fun hc=>?_) (fun hc=>?_)<;>(try simp at hc)))
  exact ZP () rfl trivial
 | 2,_=>
  refine Zk (f:=137) ?_
  refine ZR [_,_] func137 ntmps137 fun G w hp=>?_
  repeat' (first|refine ZG ?_|refine ZH ?_|refine ZJ ?_|refine ZI ?_|refine ZL ?_|refine ZF ?_|refine ZO ?_|refine ZN (fun b=>?_)|refine ZM (fun b=>?_)|refine ZD ?_|refine ZB ?_|refine ZK ?_|(refine ZC (fun hc=>?_) (fun hc=>?_)<;>(try simp at hc))|(refine ZE (fun hc=>?_) (fun hc=>?_)<;>(try simp at hc)))
  exact ZP () rfl trivial
theorem text5_ok (c:Cq) (hc:CqS c) (f k:Nat) (hf:f<3) (hk:k<3) (b1 b2 b3:Nat) (s:ByteArray):Enters 130∧Spec prog 130 #[cqa c,pv0 b1,pv0 b2,pv0 b3]
  [Blk b1 (.cells #[cmT k] 116),Blk b2 (.cells #[fdT f] 187),Blk b3 (.cells #[.string s] 9),MxL] [] (RetV (.bool (cmpB k (fldT f c) s))):=by
 have n1:=fldT_ok c f hf
 have n2:=cmpT_ok k hk (fldT f c) s (by have:=hc.fld f;omega)
 obtain ⟨v1,e1⟩:∃v,cmT k=v:=⟨_,rfl⟩
 obtain ⟨v2,e2⟩:∃v,fdT f=v:=⟨_,rfl⟩
 rw [e1] at n2 ⊢
 rw [e2] at n1 ⊢
 refine ZR [_,_,_,_] func130 ntmps130 fun G w hp=>?_
 repeat' (first|refine ZG ?_|refine ZH ?_|refine ZJ ?_|refine ZI ?_|refine ZL ?_|refine ZF ?_|refine ZO ?_|refine ZN (fun b=>?_)|refine ZM (fun b=>?_)|refine ZD ?_|refine ZB ?_|refine ZK ?_|refine Zg ?_|refine Zf ?_|refine Zv ?_|refine Zd ?_|refine Ze ?_|refine Zw (fun b=>?_)|refine Zx (fun b=>?_)|refine Zz ?_|refine Zh ?_|refine r_callV n1 (fun _ _=>?_)|refine r_callV n2 (fun _ _=>?_)|(refine ZC (fun hc=>?_) (fun hc=>?_)<;>(try simp at hc))|(refine ZX (fun hc=>?_) (fun hc=>?_)<;>(try simp at hc))|refine ZS 1 [] [(0,0),(1,0),(2,0),(4,0),(3,4),(5,4),(6,0)] [] ?_|(refine ZE (fun hc=>?_) (fun hc=>?_)<;>(try simp at hc)))
 exact ZP () rfl trivial
theorem number8_ok (c:Cq) (f k:Nat) (hf:f<4) (hk:k<3) (b1 b2 b3:Nat) (m:Int):Enters 139∧Spec prog 139 #[cqa c,pv0 b1,pv0 b2,pv0 b3]
  [Blk b1 (.cells #[cmN k] 37),Blk b2 (.cells #[fdN f] 191),Blk b3 (.cells #[.int .i64 m] 3)] [] (RetV (.bool (cmpZ k (fldN f c) m))):=by
 have n1:=fldN_ok c f hf
 have n2:=cmpN_ok k hk (fldN f c) m
 obtain ⟨v1,e1⟩:∃v,cmN k=v:=⟨_,rfl⟩
 obtain ⟨v2,e2⟩:∃v,fdN f=v:=⟨_,rfl⟩
 rw [e1] at n2 ⊢
 rw [e2] at n1 ⊢
 refine ZR [_,_,_,_] func139 ntmps139 fun G w hp=>?_
 repeat' (first|refine ZG ?_|refine ZH ?_|refine ZJ ?_|refine ZI ?_|refine ZL ?_|refine ZF ?_|refine ZO ?_|refine ZN (fun b=>?_)|refine ZM (fun b=>?_)|refine ZD ?_|refine ZB ?_|refine ZK ?_|refine Zg ?_|refine Zf ?_|refine Zv ?_|refine Zd ?_|refine Ze ?_|refine Zw (fun b=>?_)|refine Zx (fun b=>?_)|refine Zz ?_|refine Zh ?_|refine r_callV n1 (fun _ _=>?_)|refine r_callV n2 (fun _ _=>?_)|(refine ZC (fun hc=>?_) (fun hc=>?_)<;>(try simp at hc))|(refine ZX (fun hc=>?_) (fun hc=>?_)<;>(try simp at hc))|refine ZS 1 [] [(0,0),(1,0),(2,0),(4,0),(3,4),(5,4),(6,0)] [] ?_|(refine ZE (fun hc=>?_) (fun hc=>?_)<;>(try simp at hc)))
 exact ZP () rfl trivial
end
end Go.Proofs.YtodkipbnefngkaaGreatDoor
namespace Go.Proofs.YtodkipbnefngkaaGreatDoor
open Go.RowKit Go.Proofs.Tryz
theorem sat_fact {G:H} {w0 w:World} {hp0:H} {F:List Pf} {R:List HP} {X:Type} {f:Pf} {Fx:X→List Pf} {p:X→Prop} (hs:Sat G w0 hp0 (f::F) R w) (h:∀hp,f.p hp→∃x,p x∧∀g ∈ Fx x,g.p hp):∃x,p x∧Sat G w0 hp0 (Fx x++F) R w:=by
 obtain ⟨hp,hr,st⟩:=hs
 obtain ⟨x,hpx,hfx⟩:=h hp (st.f f (.head _))
 refine ⟨x,hpx,hp,hr,st.inp,st.inr,st.ing,st.d1,st.d2,st.d3,st.sub,fun g hg=>?_,st.r,st.same⟩
 rcases List.mem_append.1 hg with h|h
 ·exact hfx g h
 ·exact st.f g (.tail _ h)
theorem Zt {v:Value} {name:String} {vs:List Value} {F:List Pf} {R:List HP} {post:Post} {X:Type} {f:Pf} {Fx:X→List Pf} {p:X→Prop} (h:∀hp,f.p hp→∃x,p x∧∀g ∈ Fx x,g.p hp)
  (s:∀x,p x→SpecI v name vs (Fx x++F) R post):SpecI v name vs (f::F) R post:=fun G w hp hs=>by
 obtain ⟨x,hx,hs⟩:=sat_fact hs h
 exact s x hx G w hp hs
theorem specMore {P:Program} {f:FuncId} {args:Array Value} {F F1:List Pf} {R:List HP} {post:Post} (s:Spec P f args F R post):Spec P f args (F++F1) R post:=fun G w hp hs=>s G w hp (hs.facts fun _ h x hx=>h x (List.mem_append_left _ hx))
theorem test_holds (wd:ByteArray) (fv:Value) (c:Cq) {F:List Pf} {x:Bool} (spec:SpecV fv [cqa c] F [] (RetV (.bool x))):Enters 199∧Spec prog 199 #[.agg #[.string wd,fv],cqa c] F [] (RetV (.bool x)):=by
 refine ZR [_,_] func199 ntmps199 fun G w hp=>?_
 repeat' (first|refine ZG ?_|refine ZH ?_|refine ZJ ?_|refine ZI ?_|refine ZL ?_|refine ZF ?_|refine ZO ?_|refine ZN (fun b=>?_)|refine ZM (fun b=>?_)|refine ZD ?_|refine ZB ?_|refine ZK ?_|refine Yk spec (fun _ _=>?_) (hF:=entF_self _)|(refine ZC (fun hc=>?_) (fun hc=>?_)<;>(try simp at hc))|(refine ZE (fun hc=>?_) (fun hc=>?_)<;>(try simp at hc)))
 exact ZP () rfl trivial
abbrev HoI (c : Cq) (d : Cnd) : Prop := ∀ v, SpecI v "replevin/rule.holds" [cqa c] [CdF d v, MxL] [] (RetV (.bool (holF c d)))
theorem tst_ho {c : Cq} {wd : ByteArray} {f : FuncId} {cs : Array Value} {F : List Pf} {x : Bool} (spec : Enters f ∧ Spec prog f ([cqa c].toArray ++ cs) F [] (RetV (.bool x))) : SpecI (tsv wd f cs) "replevin/rule.holds" [cqa c] F [] (RetV (.bool x)) :=
 Yd (f:=199) (by intro w;kernel_rfl) (test_holds wd _ c (Zk spec))
theorem not_holds (c:Cq) (d:Cnd) (u:Value) (ih:HoI c d):Enters 203∧Spec prog 203 #[.agg #[u],cqa c] [CdF d u,MxL] [] (RetV (.bool (!holF c d))):=by
 have n1:=ih u
 refine ZR [_,_] func203 ntmps203 fun G w hp=>?_
 repeat' (first|refine ZG ?_|refine ZH ?_|refine ZJ ?_|refine ZI ?_|refine ZL ?_|refine ZF ?_|refine ZO ?_|refine ZN (fun b=>?_)|refine ZM (fun b=>?_)|refine ZD ?_|refine ZB ?_|refine ZK ?_|refine YS n1 (fun _ _=>?_)|(refine ZC (fun hc=>?_) (fun hc=>?_)<;>(try simp at hc))|(refine ZE (fun hc=>?_) (fun hc=>?_)<;>(try simp at hc)))
 exact ZP () rfl trivial
set_option maxHeartbeats 4000000 in
theorem any_holds (c:Cq) (l:List Cnd) (hbd:l.length≤1000000) (ih:∀d ∈ l,HoI c d) (o:Option Addr) (cap:Nat) (vs:List IV) (hl:vs.length=l.length):Enters 201∧Spec prog 201 #[.agg #[.slice o vs.length cap],cqa c] [Sl 100 ivl o cap vs,CdsF l (vs.map ivOf),MxL] [] (RetV (.bool (anyH c l))):=by
 obtain ⟨R,hR⟩:∃R,anyH c l=R:=⟨_,rfl⟩
 rw [hR]
 refine ZR [_,_] func201 ntmps201 fun G w hp=>?_
 repeat' (first|refine ZG ?_|refine ZH ?_|refine ZJ ?_|refine ZI ?_|refine ZL ?_|refine ZF ?_|refine ZO ?_|refine ZN (fun b=>?_)|refine ZM (fun b=>?_)|refine ZD ?_|refine ZB ?_|(refine ZC (fun hc=>?_) (fun hc=>?_)<;>(try simp at hc))|(refine ZE (fun hc=>?_) (fun hc=>?_)<;>(try simp at hc)))
 rename_i b2
 refine Yu (X:={j:Nat // j≤vs.length∧anyH c (l.drop j)=R}) (fun j=>[(3,pv0 b),(8,.slice o vs.length cap),(9,.int .i64 (vs.length:Int)),(10,.int .i64 (j.1:Int))]) (fun _=>[Sl 100 ivl o cap vs,CdsF l (vs.map ivOf),MxL]) (fun _=>[Pt b (.cells (cqf c).toArray 26)]) (fun j=>vs.length - j.1) ⟨0,Nat.zero_le _,hR⟩ ⟨rfl,rfl,rfl,rfl,trivial⟩ ?_
 rintro ⟨j,hj,hRj⟩
 dsimp only at hj hRj ⊢
 by_cases hlt:j<vs.length
 ·have hxj:=List.getElem?_eq_getElem hlt
  have hltc:j<l.length:=by omega
  have hcj:=List.getElem?_eq_getElem hltc
  rw [List.drop_eq_getElem_cons hltc] at hRj
  have ihd:=ih _ (List.getElem_mem hltc)
  generalize vs[j]=x at *
  generalize l[j]=d at *
  rw [anyH] at hRj
  obtain ⟨T,u⟩:=x
  have n1:=ihd (ivOf (T,u))
  refine Z2 (F1:=[CdsF l (vs.map ivOf)]) (f:=CdF d (ivOf (T,u))) (fun hp hF=>Yy (hF _ (.head _)) hcj (by rw [List.getElem?_map,hxj];rfl)) ?_
  have w1:=wrapi (z:=(j:Int)+1) (by omega) (by omega)
  cases hh:holF c d with
  | true=>
   rw [hh] at n1 hRj
   obtain rfl:R=true:=hRj.symm
   repeat' (first|refine ZG ?_|refine ZH ?_|refine ZJ ?_|refine ZI ?_|refine ZL ?_|refine ZF ?_|refine ZO ?_|refine ZN (fun b=>?_)|refine ZM (fun b=>?_)|refine ZD ?_|refine ZB ?_|refine Zl (es:=vs) (f:=ivl) j _ hxj (fun b off=>?_)|refine Zm ?_|refine YS n1 (fun _ _=>?_)|rw [w1]|(refine ZC (fun hc=>?_) (fun hc=>?_)<;>(try simp at hc)<;>(try omega))|(refine ZE (fun hc=>?_) (fun hc=>?_)<;>(try simp at hc)<;>(try omega)))
   exact YQ (Yf (Z3 () rfl trivial))
  | false=>
   rw [hh] at n1 hRj
   repeat' (first|refine ZG ?_|refine ZH ?_|refine ZJ ?_|refine ZI ?_|refine ZL ?_|refine ZF ?_|refine ZO ?_|refine ZN (fun b=>?_)|refine ZM (fun b=>?_)|refine ZD ?_|refine ZB ?_|refine Zl (es:=vs) (f:=ivl) j _ hxj (fun b off=>?_)|refine Zm ?_|refine YS n1 (fun _ _=>?_)|rw [w1]|(refine ZC (fun hc=>?_) (fun hc=>?_)<;>(try simp at hc)<;>(try omega))|(refine ZE (fun hc=>?_) (fun hc=>?_)<;>(try simp at hc)<;>(try omega)))
   exact ZZ ⟨j+1,by show j+1≤vs.length;omega,hRj⟩ (by show vs.length - (j+1)<vs.length - j;omega) ⟨rfl,rfl,rfl,rfl,trivial⟩
 ·rw [List.drop_eq_nil_of_le (by omega)] at hRj
  obtain rfl:R=false:=hRj.symm
  repeat' (first|refine ZG ?_|refine ZH ?_|refine ZJ ?_|refine ZI ?_|refine ZL ?_|refine ZF ?_|refine ZO ?_|refine ZN (fun b=>?_)|refine ZM (fun b=>?_)|refine ZD ?_|refine ZB ?_|refine ZK ?_|(refine ZC (fun hc=>?_) (fun hc=>?_)<;>(try simp at hc)<;>(try omega))|(refine ZE (fun hc=>?_) (fun hc=>?_)<;>(try simp at hc)<;>(try omega)))
  exact ZP () rfl trivial
set_option maxHeartbeats 4000000 in
theorem all_holds (c:Cq) (l:List Cnd) (hbd:l.length≤1000000) (ih:∀d ∈ l,HoI c d) (o:Option Addr) (cap:Nat) (vs:List IV) (hl:vs.length=l.length):Enters 206∧Spec prog 206 #[.agg #[.slice o vs.length cap],cqa c] [Sl 100 ivl o cap vs,CdsF l (vs.map ivOf),MxL] [] (RetV (.bool (allH c l))):=by
 obtain ⟨R,hR⟩:∃R,allH c l=R:=⟨_,rfl⟩
 rw [hR]
 refine ZR [_,_] func206 ntmps206 fun G w hp=>?_
 repeat' (first|refine ZG ?_|refine ZH ?_|refine ZJ ?_|refine ZI ?_|refine ZL ?_|refine ZF ?_|refine ZO ?_|refine ZN (fun b=>?_)|refine ZM (fun b=>?_)|refine ZD ?_|refine ZB ?_|(refine ZC (fun hc=>?_) (fun hc=>?_)<;>(try simp at hc))|(refine ZE (fun hc=>?_) (fun hc=>?_)<;>(try simp at hc)))
 rename_i b2
 refine Yu (X:={j:Nat // j≤vs.length∧allH c (l.drop j)=R}) (fun j=>[(3,pv0 b),(8,.slice o vs.length cap),(9,.int .i64 (vs.length:Int)),(10,.int .i64 (j.1:Int))]) (fun _=>[Sl 100 ivl o cap vs,CdsF l (vs.map ivOf),MxL]) (fun _=>[Pt b (.cells (cqf c).toArray 26)]) (fun j=>vs.length - j.1) ⟨0,Nat.zero_le _,hR⟩ ⟨rfl,rfl,rfl,rfl,trivial⟩ ?_
 rintro ⟨j,hj,hRj⟩
 dsimp only at hj hRj ⊢
 by_cases hlt:j<vs.length
 ·have hxj:=List.getElem?_eq_getElem hlt
  have hltc:j<l.length:=by omega
  have hcj:=List.getElem?_eq_getElem hltc
  rw [List.drop_eq_getElem_cons hltc] at hRj
  have ihd:=ih _ (List.getElem_mem hltc)
  generalize vs[j]=x at *
  generalize l[j]=d at *
  rw [allH] at hRj
  obtain ⟨T,u⟩:=x
  have n1:=ihd (ivOf (T,u))
  refine Z2 (F1:=[CdsF l (vs.map ivOf)]) (f:=CdF d (ivOf (T,u))) (fun hp hF=>Yy (hF _ (.head _)) hcj (by rw [List.getElem?_map,hxj];rfl)) ?_
  have w1:=wrapi (z:=(j:Int)+1) (by omega) (by omega)
  cases hh:holF c d with
  | false=>
   rw [hh] at n1 hRj
   obtain rfl:R=false:=hRj.symm
   repeat' (first|refine ZG ?_|refine ZH ?_|refine ZJ ?_|refine ZI ?_|refine ZL ?_|refine ZF ?_|refine ZO ?_|refine ZN (fun b=>?_)|refine ZM (fun b=>?_)|refine ZD ?_|refine ZB ?_|refine Zl (es:=vs) (f:=ivl) j _ hxj (fun b off=>?_)|refine Zm ?_|refine YS n1 (fun _ _=>?_)|rw [w1]|(refine ZC (fun hc=>?_) (fun hc=>?_)<;>(try simp at hc)<;>(try omega))|(refine ZE (fun hc=>?_) (fun hc=>?_)<;>(try simp at hc)<;>(try omega)))
   exact YQ (Yf (Z3 () rfl trivial))
  | true=>
   rw [hh] at n1 hRj
   repeat' (first|refine ZG ?_|refine ZH ?_|refine ZJ ?_|refine ZI ?_|refine ZL ?_|refine ZF ?_|refine ZO ?_|refine ZN (fun b=>?_)|refine ZM (fun b=>?_)|refine ZD ?_|refine ZB ?_|refine Zl (es:=vs) (f:=ivl) j _ hxj (fun b off=>?_)|refine Zm ?_|refine YS n1 (fun _ _=>?_)|rw [w1]|(refine ZC (fun hc=>?_) (fun hc=>?_)<;>(try simp at hc)<;>(try omega))|(refine ZE (fun hc=>?_) (fun hc=>?_)<;>(try simp at hc)<;>(try omega)))
   exact ZZ ⟨j+1,by show j+1≤vs.length;omega,hRj⟩ (by show vs.length - (j+1)<vs.length - j;omega) ⟨rfl,rfl,rfl,rfl,trivial⟩
 ·rw [List.drop_eq_nil_of_le (by omega)] at hRj
  obtain rfl:R=true:=hRj.symm
  repeat' (first|refine ZG ?_|refine ZH ?_|refine ZJ ?_|refine ZI ?_|refine ZL ?_|refine ZF ?_|refine ZO ?_|refine ZN (fun b=>?_)|refine ZM (fun b=>?_)|refine ZD ?_|refine ZB ?_|refine ZK ?_|(refine ZC (fun hc=>?_) (fun hc=>?_)<;>(try simp at hc)<;>(try omega))|(refine ZE (fun hc=>?_) (fun hc=>?_)<;>(try simp at hc)<;>(try omega)))
  exact ZP () rfl trivial
mutual
theorem Wn (c:Cq) (hc:CqS c) {M:Nat} (hM:M≤100000):∀d:Cnd,WfC d→SzC M d→lv d≤1000000→HoI c d
 | .any l,hw,hz,hv,v=>by
  rw [WfC] at hw;rw [SzC] at hz;rw [lv] at hv
  have hll:=Yj l
  refine Zt (X:=Option Addr×Nat×List IV) (Fx:=fun q=>[Sl 100 ivl q.1 q.2.1 q.2.2,CdsF l (q.2.2.map ivOf)]) (p:=fun q=>v = .iface 211 (.agg #[.slice q.1 q.2.2.length q.2.1])∧q.2.2.length=l.length) (fun h hh=>?_) (fun q hq=>?_)
  ·have hh:CdP h (.any l) v:=hh
   rw [CdP] at hh
   obtain ⟨o,cap,vs,h1,h2,h3⟩:=hh
   exact ⟨(o,cap,vs),⟨h1,by have:=Yv h3;simpa using this⟩,fun g hg=>by
    simp only [List.mem_cons,List.not_mem_nil,or_false] at hg
    rcases hg with rfl|rfl
    ·exact h2
    ·exact h3⟩
  ·obtain ⟨rfl,hl⟩:=hq
   rw [holF]
   exact Yd (f:=201) (by intro w;kernel_rfl) (any_holds c l (by omega) (X4 c hc hM l hw hz (by omega)) _ _ _ hl)
 | .all l,hw,hz,hv,v=>by
  rw [WfC] at hw;rw [SzC] at hz;rw [lv] at hv
  have hll:=Yj l
  refine Zt (X:=Option Addr×Nat×List IV) (Fx:=fun q=>[Sl 100 ivl q.1 q.2.1 q.2.2,CdsF l (q.2.2.map ivOf)]) (p:=fun q=>v = .iface 225 (.agg #[.slice q.1 q.2.2.length q.2.1])∧q.2.2.length=l.length) (fun h hh=>?_) (fun q hq=>?_)
  ·have hh:CdP h (.all l) v:=hh
   rw [CdP] at hh
   obtain ⟨o,cap,vs,h1,h2,h3⟩:=hh
   exact ⟨(o,cap,vs),⟨h1,by have:=Yv h3;simpa using this⟩,fun g hg=>by
    simp only [List.mem_cons,List.not_mem_nil,or_false] at hg
    rcases hg with rfl|rfl
    ·exact h2
    ·exact h3⟩
  ·obtain ⟨rfl,hl⟩:=hq
   rw [holF]
   exact Yd (f:=206) (by intro w;kernel_rfl) (all_holds c l (by omega) (X4 c hc hM l hw hz (by omega)) _ _ _ hl)
 | .nt d,hw,hz,hv,v=>by
  rw [WfC] at hw;rw [SzC] at hz;rw [lv] at hv
  refine Zt (X:=Value) (Fx:=fun u=>[CdF d u]) (p:=fun u=>v = .iface 223 (.agg #[u])) (fun h hh=>?_) (fun u hq=>?_)
  ·have hh:CdP h (.nt d) v:=hh
   rw [CdP] at hh
   obtain ⟨u,h1,h2⟩:=hh
   exact ⟨u,h1,fun g hg=>by rcases List.mem_singleton.1 hg with rfl;exact h2⟩
  ·subst hq
   rw [holF]
   exact Yd (f:=203) (by intro w;kernel_rfl) (not_holds c d u (Wn c hc hM d hw hz (by omega)))
 | .nul,hw,_,_,_=>by rw [WfC] at hw;exact absurd hw id
 | .kd wd k,_,_,_,v=>by
  refine Zt (X:=Nat) (Fx:=fun b=>[Blk b (.cells #[.int .i64 k] 3)]) (p:=fun b=>v=tsv wd 123 #[pv0 b]) (fun h hh=>?_) (fun b hq=>?_)
  ·have hh:CdP h (.kd wd k) v:=hh
   rw [CdP] at hh
   obtain ⟨b,h1,h2⟩:=hh
   exact ⟨b,h1,fun g hg=>by rcases List.mem_singleton.1 hg with rfl;exact h2⟩
  ·subst hq
   rw [holF]
   exact tst_ho ((kind1_ok c b k).imp_right fun h=>specMore h)
 | .ch wd k,_,_,_,v=>by
  refine Zt (X:=Nat) (Fx:=fun b=>[Blk b (.cells #[.int .i64 k] 3)]) (p:=fun b=>v=tsv wd 125 #[pv0 b]) (fun h hh=>?_) (fun b hq=>?_)
  ·have hh:CdP h (.ch wd k) v:=hh
   rw [CdP] at hh
   obtain ⟨b,h1,h2⟩:=hh
   exact ⟨b,h1,fun g hg=>by rcases List.mem_singleton.1 hg with rfl;exact h2⟩
  ·subst hq
   rw [holF]
   exact tst_ho ((channel1_ok c b k).imp_right fun h=>specMore h)
 | .tx wd f k s,hw,hz,_,v=>by
  rw [WfC] at hw;rw [SzC] at hz
  refine Zt (X:=Nat×Nat×Nat) (Fx:=fun q=>[Blk q.1 (.cells #[cmT k] 116),Blk q.2.1 (.cells #[fdT f] 187),Blk q.2.2 (.cells #[.string s] 9)]) (p:=fun q=>v=tsv wd 130 #[pv0 q.1,pv0 q.2.1,pv0 q.2.2]) (fun h hh=>?_) (fun q hq=>?_)
  ·have hh:CdP h (.tx wd f k s) v:=hh
   rw [CdP] at hh
   obtain ⟨b1,b2,b3,h1,h2,h3,h4⟩:=hh
   exact ⟨(b1,b2,b3),h1,fun g hg=>by
    simp only [List.mem_cons,List.not_mem_nil,or_false] at hg
    rcases hg with rfl|rfl|rfl
    ·exact h2
    ·exact h3
    ·exact h4⟩
  ·subst hq
   rw [holF]
   exact tst_ho (text5_ok c hc f k hw.1 hw.2 _ _ _ s)
 | .nm wd f k n,hw,_,_,v=>by
  rw [WfC] at hw
  refine Zt (X:=Nat×Nat×Nat) (Fx:=fun q=>[Blk q.1 (.cells #[cmN k] 37),Blk q.2.1 (.cells #[fdN f] 191),Blk q.2.2 (.cells #[.int .i64 n] 3)]) (p:=fun q=>v=tsv wd 139 #[pv0 q.1,pv0 q.2.1,pv0 q.2.2]) (fun h hh=>?_) (fun q hq=>?_)
  ·have hh:CdP h (.nm wd f k n) v:=hh
   rw [CdP] at hh
   obtain ⟨b1,b2,b3,h1,h2,h3,h4⟩:=hh
   exact ⟨(b1,b2,b3),h1,fun g hg=>by
    simp only [List.mem_cons,List.not_mem_nil,or_false] at hg
    rcases hg with rfl|rfl|rfl
    ·exact h2
    ·exact h3
    ·exact h4⟩
  ·subst hq
   rw [holF]
   exact tst_ho ((number8_ok c f k hw.1 hw.2 _ _ _ n).imp_right fun h=>specMore h)
 | .by_ wd s,_,hz,_,v=>by
  rw [SzC] at hz
  refine Zt (X:=Nat) (Fx:=fun b=>[Blk b (.cells #[.string s] 22)]) (p:=fun b=>v=tsv wd 140 #[pv0 b]) (fun h hh=>?_) (fun b hq=>?_)
  ·have hh:CdP h (.by_ wd s) v:=hh
   rw [CdP] at hh
   obtain ⟨b,h1,h2⟩:=hh
   exact ⟨b,h1,fun g hg=>by rcases List.mem_singleton.1 hg with rfl;exact h2⟩
  ·subst hq
   rw [holF]
   exact tst_ho ((by1_ok c hc b s (by omega)).imp_right fun h=>specMore h)
theorem X4 (c:Cq) (hc:CqS c) {M:Nat} (hM:M≤100000):∀l:List Cnd,WfCs l→SzCs M l→lvs l≤1000000→∀d ∈ l,HoI c d
 | [],_,_,_=>fun d hd=>by cases hd
 | x::l,hw,hz,hv=>fun d hd=>by
  rw [WfCs] at hw;rw [SzCs] at hz;rw [lvs] at hv
  rcases List.mem_cons.1 hd with hd|hd
  ·exact hd ▸ Wn c hc hM x hw.1 hz.1 (by omega)
  ·exact X4 c hc hM l hw.2 hz.2 (by omega) d hd
end
variable {n:Nat} {C:Cx} {Q:Exit→Act→World→Prop} {E E':List (Nat×Value)} {F F' F1 Fs F0:List Pf} {R R' R0 Rs N N' A:List HP} {k k':List Fr} {ops l:List Oper} {L L':List (Nat×Nat)} {Tl:List Nat} {i d:Nat} {t t2 ty0:TypeId} {x y:Operand} {pos:String} {aft:Array Edge} {gd:Option (Nat×Bool)}
section
variable {b:Nat} {td:TypeId}
end
theorem pos_iff (a k:Int):posF a k=true↔((a=1∨a=2)∧(k=2∨k=3))∨(a=3∧(k=3∨k=4))∨(a=4∧k=4)∨(a=5∧(k=2∨k=3∨k=4)):=by
 unfold posF
 split
 ·rw [decide_eq_true_iff];omega
 split
 ·rw [decide_eq_true_iff];omega
 split
 ·rw [decide_eq_true_iff];omega
 split
 ·rw [decide_eq_true_iff];omega
 ·constructor
  ·intro h;cases h
  ·omega
set_option maxHeartbeats 4000000 in
theorem possibleM_ok (a k:Int):Enters 20∧Spec prog 20 #[.int .i64 a,.int .i64 k] [] [] (RetV (.bool (posF a k))):=by
 have hpz:=pos_iff a k
 refine ZR [_,_] func20 ntmps20 fun G w hp=>?_
 repeat' (first|refine ZG ?_|refine ZH ?_|refine ZJ ?_|refine ZI ?_|refine ZL ?_|refine ZF ?_|refine ZO ?_|refine ZN (fun b=>?_)|refine ZM (fun b=>?_)|refine ZD ?_|refine ZB ?_|refine ZK ?_|(refine ZC (fun hc=>?_) (fun hc=>?_)<;>(try simp at hc)<;>(try omega))|(refine ZE (fun hc=>?_) (fun hc=>?_)<;>(try simp at hc)<;>(try omega)))
 all_goals refine ZP () ?_ trivial
 all_goals show Value.bool _=Value.bool _
 all_goals congr 1
 all_goals rw [Bool.eq_iff_iff,hpz]
 all_goals first|(simp;omega)|omega
set_option maxHeartbeats 4000000 in
theorem Xm (a k:Int):Enters 19∧Spec prog 19 #[.int .i64 a,.int .i64 k] [] [] (RetV (.bool (posF a k))):=by
 have hpz:=pos_iff a k
 refine ZR [_,_] func19 ntmps19 fun G w hp=>?_
 repeat' (first|refine ZG ?_|refine ZH ?_|refine ZJ ?_|refine ZI ?_|refine ZL ?_|refine ZF ?_|refine ZO ?_|refine ZN (fun b=>?_)|refine ZM (fun b=>?_)|refine ZD ?_|refine ZB ?_|refine ZK ?_|(refine ZC (fun hc=>?_) (fun hc=>?_)<;>(try simp at hc)<;>(try omega))|(refine ZE (fun hc=>?_) (fun hc=>?_)<;>(try simp at hc)<;>(try omega)))
 all_goals refine ZP () ?_ trivial
 all_goals show Value.bool _=Value.bool _
 all_goals congr 1
 all_goals rw [Bool.eq_iff_iff,hpz]
 all_goals first|(simp;omega)|omega
theorem line_holds (c:Cq) (hc:CqS c) {M:Nat} (hM:M≤100000) (x:Ru) (hx:RuOK M x) (i:Option IV):Enters 46∧Spec prog 46 #[ruV i x.a,cqa c] [OcF x.c i,MxL] [] (RetV (.bool (condH c x))):=by
 obtain ⟨xc,xa⟩:=x
 cases xc with
 | none=>
  cases i with
  | none=>
   refine ZR [_,_] func46 ntmps46 fun G w hp=>?_
   repeat' (first|refine l_eqI underlying100 (.inl ⟨rfl,rfl⟩) ?_|refine ZG ?_|refine ZH ?_|refine ZJ ?_|refine ZI ?_|refine ZL ?_|refine ZF ?_|refine ZO ?_|refine ZN (fun b=>?_)|refine ZM (fun b=>?_)|refine ZD ?_|refine ZB ?_|refine ZK ?_|(refine ZC (fun hc=>?_) (fun hc=>?_)<;>(try simp at hc)<;>(try omega))|(refine ZE (fun hc=>?_) (fun hc=>?_)<;>(try simp at hc)<;>(try omega)))
   exact ZP () rfl trivial
  | some iv=>
   refine ⟨enters_of func46 (by kernel_rfl) rfl,fun G w hp hs=>?_⟩
   obtain ⟨hp',hr,st⟩:=hs
   exact absurd (st.f _ (.head _)) id
 | some d=>
  cases i with
  | none=>
   refine ⟨enters_of func46 (by kernel_rfl) rfl,fun G w hp hs=>?_⟩
   obtain ⟨hp',hr,st⟩:=hs
   exact absurd (st.f _ (.head _)) id
  | some iv=>
   obtain ⟨hw,hz,hv⟩:=hx.c d rfl
   have n1:=Wn c hc hM d hw hz (by omega) (ivOf iv)
   have e:condH c ⟨some d,xa⟩=holF c d:=rfl
   rw [e]
   obtain ⟨R,hR⟩:∃R,holF c d=R:=⟨_,rfl⟩
   rw [hR] at n1 ⊢
   obtain ⟨T,u⟩:=iv
   refine ZR [_,_] func46 ntmps46 fun G w hp=>?_
   refine Z2 (F1:=[OcF (some d) (some (T,u))]) (f:=CdF d (ivOf (T,u))) (fun hp hF=>hF _ (.head _)) ?_
   repeat' (first|refine l_eqI underlying100 (.inr ⟨⟨_,_,rfl⟩,rfl⟩) ?_|refine ZG ?_|refine ZH ?_|refine ZJ ?_|refine ZI ?_|refine ZL ?_|refine ZF ?_|refine ZO ?_|refine ZN (fun b=>?_)|refine ZM (fun b=>?_)|refine ZD ?_|refine ZB ?_|refine ZK ?_|refine YS n1 (fun _ _=>?_)|(refine ZC (fun hc=>?_) (fun hc=>?_)<;>(try simp at hc)<;>(try omega))|(refine ZE (fun hc=>?_) (fun hc=>?_)<;>(try simp at hc)<;>(try omega)))
   exact ZP () rfl trivial
theorem rls_open {b:Nat} {l:List Ru} (h:H) (hh:(RlsF b l).p h):∃q:List RI×Option Addr×Nat,q.1.length=l.length∧∀g ∈ [Blk b (.cells #[.slice q.2.1 q.1.length q.2.2] 95),Sl 102 rul q.2.1 q.2.2 q.1,RusF l q.1],g.p h:=by
 obtain ⟨xs,o,cap,h1,h2,h3⟩:=hh
 refine ⟨(xs,o,cap),rusP_len h3,fun g hg=>?_⟩
 simp only [List.mem_cons,List.not_mem_nil,or_false] at hg
 rcases hg with rfl|rfl|rfl
 ·exact h1
 ·exact h2
 ·exact h3
theorem Xf (b:Nat) (l:List Ru):Enters 23∧Spec prog 23 #[pv0 b] [RlsF b l] [] (RetV (.int .i64 (l.length:Nat))):=by
 refine ZR [_] func23 ntmps23 fun G w hp=>?_
 refine YH (X:=List RI×Option Addr×Nat) (f:=RlsF b l) .here rls_open (fun q hq=>?_)
 obtain ⟨xs,o,cap⟩:=q
 dsimp only at hq ⊢
 rw [←hq]
 repeat' (first|refine ZG ?_|refine ZH ?_|refine ZJ ?_|refine ZI ?_|refine ZL ?_|refine ZF ?_|refine ZO ?_|refine ZN (fun b=>?_)|refine ZM (fun b=>?_)|refine ZD ?_|refine ZB ?_|refine ZK ?_|(refine ZC (fun hc=>?_) (fun hc=>?_)<;>(try simp at hc)<;>(try omega))|(refine ZE (fun hc=>?_) (fun hc=>?_)<;>(try simp at hc)<;>(try omega)))
 exact ZP () rfl trivial
theorem We:Enters 23∧Spec prog 23 #[.pointer none] [] [] (RetV (.int .i64 0)):=by
 refine ZR [_] func23 ntmps23 fun G w hp=>?_
 repeat' (first|refine ZG ?_|refine ZH ?_|refine ZJ ?_|refine ZI ?_|refine ZL ?_|refine ZF ?_|refine ZO ?_|refine ZN (fun b=>?_)|refine ZM (fun b=>?_)|refine ZD ?_|refine ZB ?_|refine ZK ?_|(refine ZC (fun hc=>?_) (fun hc=>?_)<;>(try simp at hc)<;>(try omega))|(refine ZE (fun hc=>?_) (fun hc=>?_)<;>(try simp at hc)<;>(try omega)))
 exact ZP () rfl trivial
def hoV (l:List Ru) (i:Int) (c:Cq):Value:=match (if 0≤i then l[i.toNat]? else none) with
 | some x=>.tuple #[.bool (condH c x),.int .i64 0]
 | none=>.tuple #[.bool false,.int .i64 2]
theorem ruHolds0_ok (i:Int) (c:Cq):Enters 25∧Spec prog 25 #[.pointer none,.int .i64 i,cqa c] [] [] (RetV (.tuple #[.bool false,.int .i64 2])):=by
 have n1:=We
 refine ZR [_,_,_] func25 ntmps25 fun G w hp=>?_
 repeat' (first|refine ZG ?_|refine ZH ?_|refine ZJ ?_|refine ZI ?_|refine ZL ?_|refine ZF ?_|refine ZO ?_|refine ZN (fun b=>?_)|refine ZM (fun b=>?_)|refine ZD ?_|refine ZB ?_|refine ZK ?_|refine Zg ?_|refine Zf ?_|refine Zv ?_|refine Zd ?_|refine Ze ?_|refine Zw (fun b=>?_)|refine Zx (fun b=>?_)|refine Zz ?_|refine Zh ?_|refine ZA (n1) (fun _ _=>?_)|refine l_call0 (n1) (fun _ _=>?_)|refine ZT (n1) (fun _ _=>?_)|(refine ZC (fun hc=>?_) (fun hc=>?_)<;>(try simp at hc)<;>(try omega))|(refine ZX (fun hc=>?_) (fun hc=>?_)<;>(try simp at hc)<;>(try omega))|refine ZS 3 [] [(0,0),(1,0),(2,0),(3,0),(4,0),(5,0),(6,0),(7,0),(8,4),(9,0),(10,0)] [] ?_|(refine ZE (fun hc=>?_) (fun hc=>?_)<;>(try simp at hc)<;>(try omega)))
 all_goals exact ZP () rfl trivial
abbrev DeV (r:Ac×Int):Value:=.tuple #[acV r.1,.int .i64 r.2]
set_option maxHeartbeats 4000000 in
theorem Y2 (bp:Nat) (l:List Ru) (c:Cq) (hc:CqI c) (hs:CqS c) {M:Nat} (hM:M≤70000) (hl:∀x ∈ l,RuOK M x) (hn:l.length≤256):Enters 22∧Spec prog 22 #[pv0 bp,cqa c] [RlsF bp l,P10,MxL] [] (RetV (DeV (decideF l c))):=by
 have n1:=Xf bp l
 have m1:=Xm 5 c.kind
 obtain ⟨V,hV⟩:∃V,DeV (decideF l c)=V:=⟨_,rfl⟩
 rw [hV]
 cases hp:posF 5 c.kind with
 | false=>
  rw [hp] at m1
  unfold decideF at hV
  rw [if_pos hp] at hV
  subst hV
  refine ZR [_,_] func22 ntmps22 fun G w hp=>?_
  repeat' (first|refine ZG ?_|refine ZH ?_|refine ZJ ?_|refine ZI ?_|refine ZL ?_|refine ZF ?_|refine ZO ?_|refine ZN (fun b=>?_)|refine ZM (fun b=>?_)|refine ZD ?_|refine ZB ?_|refine ZK ?_|refine ZA (m1) (fun _ _=>?_)|refine l_call0 (m1) (fun _ _=>?_)|(refine ZC (fun hc=>?_) (fun hc=>?_)<;>(try simp at hc)<;>(try omega))|(refine ZE (fun hc=>?_) (fun hc=>?_)<;>(try simp at hc)<;>(try omega)))
  all_goals exact ZP () rfl trivial
 | true=>
  rw [hp] at m1
  unfold decideF at hV
  rw [if_neg (by rw [hp];decide)] at hV
  refine ZR [_,_] func22 ntmps22 fun G w hp=>?_
  refine YH (X:=List RI×Option Addr×Nat) (f:=RlsF bp l) .here rls_open (fun q hq=>?_)
  obtain ⟨xs,o,cap⟩:=q
  dsimp only at hq ⊢
  repeat' (first|refine ZG ?_|refine ZH ?_|refine ZJ ?_|refine ZI ?_|refine ZL ?_|refine ZF ?_|refine ZO ?_|refine ZN (fun b=>?_)|refine ZM (fun b=>?_)|refine ZD ?_|refine ZB ?_|refine ZA (m1) (fun _ _=>?_)|refine l_call0 (m1) (fun _ _=>?_)|refine ZA (n1) (fun _ _=>?_)|refine l_call0 (n1) (fun _ _=>?_)|(refine ZC (fun hc=>?_) (fun hc=>?_)<;>(try simp at hc)<;>(try omega))|(refine ZE (fun hc=>?_) (fun hc=>?_)<;>(try simp at hc)<;>(try omega)))
  rename_i b3 _ _ _ _
  generalize b=b4 at *
  refine Yu (X:={j:Nat // j≤l.length∧DeV (decF c (l.drop j) j)=V}) (fun j=>[(0,pv0 bp),(3,pv0 b3),(4,pv0 b4),(16,.int .i64 (l.length:Int)),(17,.int .i64 (j.1:Int))]) (fun _=>[Blk bp (.cells #[.slice o xs.length cap] 95),Sl 102 rul o cap xs,RusF l xs,P10,MxL]) (fun _=>[Pt b3 (.cells (cqf c).toArray 26),Pt b4 (.cells #[.int .i64 0,.string ⟨#[]⟩] 43)]) (fun j=>l.length - j.1) ⟨0,Nat.zero_le _,hV⟩ ⟨rfl,rfl,rfl,rfl,rfl,trivial⟩ ?_
  rintro ⟨j,hj,hR⟩
  dsimp only at hj hR ⊢
  by_cases hlt:j<l.length
  ·have hxj:=List.getElem?_eq_getElem hlt
   rw [List.drop_eq_getElem_cons hlt] at hR
   have hx:=hl _ (List.getElem_mem hlt)
   generalize l[j]=x at *
   rw [decF] at hR
   have hyj:=List.getElem?_eq_getElem (show j<xs.length by omega)
   generalize xs[j]=y at *
   obtain ⟨iv,a⟩:=y
   have w1:=wrapi (z:=(j:Int)+1) (by omega) (by omega)
   refine YH (X:=Unit) (Fx:=fun _=>[OcF x.c iv]) (p:=fun _=>x.a=a) (f:=RusF l xs) (.there (.there .here)) (fun h hh=>?_) (fun _ ha=>?_)
   ·obtain ⟨g1,g2⟩:=rusP_get (show RusP h l xs from hh) hxj hyj
    exact ⟨(),g2,fun g hg=>by rcases List.mem_singleton.1 hg with rfl;exact g1⟩
   subst ha
   have m2:=Xm x.a.k c.kind
   have m3:=line_holds c hs (show M≤100000 by omega) x hx iv
   have m4:=ruSize_ok x.a.t c (by have:=hx.t;omega) hc (by have:=exp_sz hx.t hs hc;have:(M+1) * (M+5000)≤70001 * 75000:=Nat.mul_le_mul (by omega) (by omega);omega)
   cases hpo:posF x.a.k c.kind with
   | false=>
    rw [if_pos (.inl hpo)] at hR
    rw [hpo] at m2
    rcases iv with _|⟨T,u⟩
    ·repeat' (first|refine ZG ?_|refine ZH ?_|refine ZJ ?_|refine ZI ?_|refine ZL ?_|refine ZF ?_|refine ZO ?_|refine ZN (fun b=>?_)|refine ZM (fun b=>?_)|refine ZD ?_|refine ZB ?_|refine ZA (m2) (fun _ _=>?_)|refine l_call0 (m2) (fun _ _=>?_)|refine ZA (m3) (fun _ _=>?_)|refine l_call0 (m3) (fun _ _=>?_)|refine ZA (m4) (fun _ _=>?_)|refine l_call0 (m4) (fun _ _=>?_)|refine Zl (es:=xs) (f:=rul) j _ hyj (fun b off=>?_)|refine Zm ?_|rw [w1]|(refine ZC (fun hc=>?_) (fun hc=>?_)<;>(try simp at hc)<;>(try omega))|(refine ZE (fun hc=>?_) (fun hc=>?_)<;>(try simp at hc)<;>(try omega)))
     all_goals exact ZZ ⟨j+1,by show j+1≤l.length;omega,hR⟩ (by show l.length - (j+1)<l.length - j;omega) ⟨rfl,rfl,rfl,rfl,rfl,trivial⟩
    ·repeat' (first|refine ZG ?_|refine ZH ?_|refine ZJ ?_|refine ZI ?_|refine ZL ?_|refine ZF ?_|refine ZO ?_|refine ZN (fun b=>?_)|refine ZM (fun b=>?_)|refine ZD ?_|refine ZB ?_|refine ZA (m2) (fun _ _=>?_)|refine l_call0 (m2) (fun _ _=>?_)|refine ZA (m3) (fun _ _=>?_)|refine l_call0 (m3) (fun _ _=>?_)|refine ZA (m4) (fun _ _=>?_)|refine l_call0 (m4) (fun _ _=>?_)|refine Zl (es:=xs) (f:=rul) j _ hyj (fun b off=>?_)|refine Zm ?_|rw [w1]|(refine ZC (fun hc=>?_) (fun hc=>?_)<;>(try simp at hc)<;>(try omega))|(refine ZE (fun hc=>?_) (fun hc=>?_)<;>(try simp at hc)<;>(try omega)))
     all_goals exact ZZ ⟨j+1,by show j+1≤l.length;omega,hR⟩ (by show l.length - (j+1)<l.length - j;omega) ⟨rfl,rfl,rfl,rfl,rfl,trivial⟩
   | true=>
    rw [hpo] at m2
    cases hh:condH c x with
    | false=>
     rw [if_pos (.inr hh)] at hR
     rw [hh] at m3
     rcases iv with _|⟨T,u⟩
     ·repeat' (first|refine ZG ?_|refine ZH ?_|refine ZJ ?_|refine ZI ?_|refine ZL ?_|refine ZF ?_|refine ZO ?_|refine ZN (fun b=>?_)|refine ZM (fun b=>?_)|refine ZD ?_|refine ZB ?_|refine ZA (m2) (fun _ _=>?_)|refine l_call0 (m2) (fun _ _=>?_)|refine ZA (m3) (fun _ _=>?_)|refine l_call0 (m3) (fun _ _=>?_)|refine ZA (m4) (fun _ _=>?_)|refine l_call0 (m4) (fun _ _=>?_)|refine Zl (es:=xs) (f:=rul) j _ hyj (fun b off=>?_)|refine Zm ?_|rw [w1]|(refine ZC (fun hc=>?_) (fun hc=>?_)<;>(try simp at hc)<;>(try omega))|(refine ZE (fun hc=>?_) (fun hc=>?_)<;>(try simp at hc)<;>(try omega)))
      all_goals exact ZZ ⟨j+1,by show j+1≤l.length;omega,hR⟩ (by show l.length - (j+1)<l.length - j;omega) ⟨rfl,rfl,rfl,rfl,rfl,trivial⟩
     ·repeat' (first|refine ZG ?_|refine ZH ?_|refine ZJ ?_|refine ZI ?_|refine ZL ?_|refine ZF ?_|refine ZO ?_|refine ZN (fun b=>?_)|refine ZM (fun b=>?_)|refine ZD ?_|refine ZB ?_|refine ZA (m2) (fun _ _=>?_)|refine l_call0 (m2) (fun _ _=>?_)|refine ZA (m3) (fun _ _=>?_)|refine l_call0 (m3) (fun _ _=>?_)|refine ZA (m4) (fun _ _=>?_)|refine l_call0 (m4) (fun _ _=>?_)|refine Zl (es:=xs) (f:=rul) j _ hyj (fun b off=>?_)|refine Zm ?_|rw [w1]|(refine ZC (fun hc=>?_) (fun hc=>?_)<;>(try simp at hc)<;>(try omega))|(refine ZE (fun hc=>?_) (fun hc=>?_)<;>(try simp at hc)<;>(try omega)))
      all_goals exact ZZ ⟨j+1,by show j+1≤l.length;omega,hR⟩ (by show l.length - (j+1)<l.length - j;omega) ⟨rfl,rfl,rfl,rfl,rfl,trivial⟩
    | true=>
     rw [if_neg (fun h=>h.elim (fun h=>by rw [hpo] at h;cases h) (fun h=>by rw [hh] at h;cases h))] at hR
     rw [hh] at m3
     by_cases hk:x.a.k=2
     ·rw [if_neg (fun h=>h hk)] at hR
      by_cases hz:4096<(expF x.a.t c).size
      ·rw [if_pos hz] at hR
       subst hR
       rcases iv with _|⟨T,u⟩
       ·repeat' (first|refine ZG ?_|refine ZH ?_|refine ZJ ?_|refine ZI ?_|refine ZL ?_|refine ZF ?_|refine ZO ?_|refine ZN (fun b=>?_)|refine ZM (fun b=>?_)|refine ZD ?_|refine ZB ?_|refine ZK ?_|refine ZA (m2) (fun _ _=>?_)|refine l_call0 (m2) (fun _ _=>?_)|refine ZA (m3) (fun _ _=>?_)|refine l_call0 (m3) (fun _ _=>?_)|refine ZA (m4) (fun _ _=>?_)|refine l_call0 (m4) (fun _ _=>?_)|refine Zl (es:=xs) (f:=rul) j _ hyj (fun b off=>?_)|refine Zm ?_|rw [w1]|(refine ZC (fun hc=>?_) (fun hc=>?_)<;>(try simp at hc)<;>(try omega))|(refine ZE (fun hc=>?_) (fun hc=>?_)<;>(try simp at hc)<;>(try omega)))
        all_goals exact ZP () rfl trivial
       ·repeat' (first|refine ZG ?_|refine ZH ?_|refine ZJ ?_|refine ZI ?_|refine ZL ?_|refine ZF ?_|refine ZO ?_|refine ZN (fun b=>?_)|refine ZM (fun b=>?_)|refine ZD ?_|refine ZB ?_|refine ZK ?_|refine ZA (m2) (fun _ _=>?_)|refine l_call0 (m2) (fun _ _=>?_)|refine ZA (m3) (fun _ _=>?_)|refine l_call0 (m3) (fun _ _=>?_)|refine ZA (m4) (fun _ _=>?_)|refine l_call0 (m4) (fun _ _=>?_)|refine Zl (es:=xs) (f:=rul) j _ hyj (fun b off=>?_)|refine Zm ?_|rw [w1]|(refine ZC (fun hc=>?_) (fun hc=>?_)<;>(try simp at hc)<;>(try omega))|(refine ZE (fun hc=>?_) (fun hc=>?_)<;>(try simp at hc)<;>(try omega)))
        all_goals exact ZP () rfl trivial
      ·rw [if_neg hz] at hR
       have m5:=ruExpand_ok x.a.t c (by have:=hx.t;omega) hc (by omega)
       rw [hx.a.2.2.1 hk] at m5
       have hR':DeV (⟨2,expF x.a.t c⟩,(j:Int))=V:=hR
       subst hR'
       rcases iv with _|⟨T,u⟩
       ·repeat' (first|refine ZG ?_|refine ZH ?_|refine ZJ ?_|refine ZI ?_|refine ZL ?_|refine ZF ?_|refine ZO ?_|refine ZN (fun b=>?_)|refine ZM (fun b=>?_)|refine ZD ?_|refine ZB ?_|refine ZA (m2) (fun _ _=>?_)|refine l_call0 (m2) (fun _ _=>?_)|refine ZA (m3) (fun _ _=>?_)|refine l_call0 (m3) (fun _ _=>?_)|refine ZA (m4) (fun _ _=>?_)|refine l_call0 (m4) (fun _ _=>?_)|refine ZA (m5) (fun _ _=>?_)|refine l_call0 (m5) (fun _ _=>?_)|refine Zl (es:=xs) (f:=rul) j _ hyj (fun b off=>?_)|refine Zm ?_|rw [w1]|(refine ZC (fun hc=>?_) (fun hc=>?_)<;>(try simp at hc)<;>(try omega))|(refine ZE (fun hc=>?_) (fun hc=>?_)<;>(try simp at hc)<;>(try omega)))
        all_goals exact YQ (Yf (Z3 () rfl trivial))
       ·repeat' (first|refine ZG ?_|refine ZH ?_|refine ZJ ?_|refine ZI ?_|refine ZL ?_|refine ZF ?_|refine ZO ?_|refine ZN (fun b=>?_)|refine ZM (fun b=>?_)|refine ZD ?_|refine ZB ?_|refine ZA (m2) (fun _ _=>?_)|refine l_call0 (m2) (fun _ _=>?_)|refine ZA (m3) (fun _ _=>?_)|refine l_call0 (m3) (fun _ _=>?_)|refine ZA (m4) (fun _ _=>?_)|refine l_call0 (m4) (fun _ _=>?_)|refine ZA (m5) (fun _ _=>?_)|refine l_call0 (m5) (fun _ _=>?_)|refine Zl (es:=xs) (f:=rul) j _ hyj (fun b off=>?_)|refine Zm ?_|rw [w1]|(refine ZC (fun hc=>?_) (fun hc=>?_)<;>(try simp at hc)<;>(try omega))|(refine ZE (fun hc=>?_) (fun hc=>?_)<;>(try simp at hc)<;>(try omega)))
        all_goals exact YQ (Yf (Z3 () rfl trivial))
     ·rw [if_pos hk] at hR
      subst hR
      rcases iv with _|⟨T,u⟩
      ·repeat' (first|refine ZG ?_|refine ZH ?_|refine ZJ ?_|refine ZI ?_|refine ZL ?_|refine ZF ?_|refine ZO ?_|refine ZN (fun b=>?_)|refine ZM (fun b=>?_)|refine ZD ?_|refine ZB ?_|refine ZA (m2) (fun _ _=>?_)|refine l_call0 (m2) (fun _ _=>?_)|refine ZA (m3) (fun _ _=>?_)|refine l_call0 (m3) (fun _ _=>?_)|refine ZA (m4) (fun _ _=>?_)|refine l_call0 (m4) (fun _ _=>?_)|refine Zl (es:=xs) (f:=rul) j _ hyj (fun b off=>?_)|refine Zm ?_|rw [w1]|(refine ZC (fun hc=>?_) (fun hc=>?_)<;>(try simp at hc)<;>(try omega))|(refine ZE (fun hc=>?_) (fun hc=>?_)<;>(try simp at hc)<;>(try omega)))
       all_goals exact YQ (Yf (Z3 () rfl trivial))
      ·repeat' (first|refine ZG ?_|refine ZH ?_|refine ZJ ?_|refine ZI ?_|refine ZL ?_|refine ZF ?_|refine ZO ?_|refine ZN (fun b=>?_)|refine ZM (fun b=>?_)|refine ZD ?_|refine ZB ?_|refine ZA (m2) (fun _ _=>?_)|refine l_call0 (m2) (fun _ _=>?_)|refine ZA (m3) (fun _ _=>?_)|refine l_call0 (m3) (fun _ _=>?_)|refine ZA (m4) (fun _ _=>?_)|refine l_call0 (m4) (fun _ _=>?_)|refine Zl (es:=xs) (f:=rul) j _ hyj (fun b off=>?_)|refine Zm ?_|rw [w1]|(refine ZC (fun hc=>?_) (fun hc=>?_)<;>(try simp at hc)<;>(try omega))|(refine ZE (fun hc=>?_) (fun hc=>?_)<;>(try simp at hc)<;>(try omega)))
       all_goals exact YQ (Yf (Z3 () rfl trivial))
  ·rw [List.drop_eq_nil_of_le (by omega)] at hR
   subst hR
   repeat' (first|refine ZG ?_|refine ZH ?_|refine ZJ ?_|refine ZI ?_|refine ZL ?_|refine ZF ?_|refine ZO ?_|refine ZN (fun b=>?_)|refine ZM (fun b=>?_)|refine ZD ?_|refine ZB ?_|refine ZK ?_|(refine ZC (fun hc=>?_) (fun hc=>?_)<;>(try simp at hc)<;>(try omega))|(refine ZE (fun hc=>?_) (fun hc=>?_)<;>(try simp at hc)<;>(try omega)))
   exact ZP () rfl trivial
def eqA:List Nat:=[43]
theorem eqA_ok:eqA.all chkE=true:=by decide +kernel
section
variable {xs ys:Array Value}
theorem X6 {b:Bool} (nx:Wl n C ops.toArray k Q l ((d,.bool b)::E) F R) (hw:wantL ops E ⟨some d,.binOp .eql t x y t2,ty0,pos,aft,gd⟩=some true:=by rfl) (hn:Nat.blt d n=true:=by rfl)
  (hx:ev E x=some (.agg xs):=by rfl) (hy:ev E y=some (.agg ys):=by rfl) (hm:memN eqA t=true:=by rfl) (he:eqC eqA 20 t (.agg xs) (.agg ys)=some b:=by rfl):Wl n C ops.toArray k Q (⟨some d,.binOp .eql t x y t2,ty0,pos,aft,gd⟩::l) E F R:=
 l_q (fun a w ha=>by
  have hc:=List.all_eq_true.1 eqA_ok t (memN_mem hm)
  simp only [chkE,Bool.and_eq_true,beq_iff_eq] at hc
  have h1:=eqC_ok eqA_ok 20 10000 t _ _ b w (by omega) he
  simp only [execOp,ha.ev (x:=x) (by rw [ZQ];exact hx),ha.ev (x:=y) (by rw [ZQ];exact hy),Sem.run_bind,run_eqGuard_agg w .eql t x y xs ys hc.2,Result.andThen,run_eql_struct,h1,Sem.run_pure]) nx (by intro c h;cases h) hw hn
end
theorem kc_i:CqI kc1∧CqI kc2∧CqI kc3:=by refine ⟨?_,?_,?_⟩<;>constructor<;>decide
theorem kc_s:CqS kc1∧CqS kc2∧CqS kc3:=by refine ⟨?_,?_,?_⟩<;>constructor<;>decide
set_option maxHeartbeats 4000000 in
theorem known51_ok:Enters 17∧Spec prog 17 #[] [ErA,P10,MxL] [] (RetV (.bool true)):=by
 have n1:=X3 knS (by decide)
 rw [kn_par] at n1
 obtain ⟨h1,h2⟩:=par_ok kn_par
 have hz:knS.size≤70000:=by decide
 have d1:=fun b=>Y2 b knL kc1 kc_i.1 kc_s.1 hz h2 h1
 have d2:=fun b=>Y2 b knL kc2 kc_i.2.1 kc_s.2.1 hz h2 h1
 have d3:=fun b=>Y2 b knL kc3 kc_i.2.2 kc_s.2.2 hz h2 h1
 rw [kn_1] at d1;rw [kn_2] at d2;rw [kn_3] at d3
 have l1:=fun b=>Xf b knL
 rw [show knL.length=3 from rfl] at l1
 generalize knL=l at *
 have bX:(knX.toList == (⟨#[80,108,101,97,115,101,32,105,103,110,111,114,101,32,116,104,101,32,109,97,105,108,32,116,111,32,97,64,98,46]⟩:ByteArray).toList)=true:=beqT rfl
 refine ZR [] func17 ntmps17 fun G w hp=>?_
 repeat' (first|rw [bX]|refine ZG ?_|refine ZH ?_|refine ZJ ?_|refine ZI ?_|refine ZL ?_|refine ZF ?_|refine ZO ?_|refine ZN (fun b=>?_)|refine ZM (fun b=>?_)|refine ZD ?_|refine ZB ?_|refine ZK ?_|refine ZA (n1) (fun _ _=>?_)|refine l_call0 (n1) (fun _ _=>?_)|refine ZA (l1 _) (fun _ _=>?_)|refine l_call0 (l1 _) (fun _ _=>?_)|refine ZA (d1 _) (fun _ _=>?_)|refine l_call0 (d1 _) (fun _ _=>?_)|refine ZA (d2 _) (fun _ _=>?_)|refine l_call0 (d2 _) (fun _ _=>?_)|refine ZA (d3 _) (fun _ _=>?_)|refine l_call0 (d3 _) (fun _ _=>?_)|refine X6 ?_|(refine ZC (fun hc=>?_) (fun hc=>?_)<;>(try simp at hc)<;>(try omega))|(refine ZE (fun hc=>?_) (fun hc=>?_)<;>(try simp at hc)<;>(try omega)))
 all_goals exact ZP () rfl trivial
def sOr:ByteArray:=⟨#[32,111,114,32]⟩
def sAnd:ByteArray:=⟨#[32,97,110,100,32]⟩
def sNot:ByteArray:=⟨#[110,111,116,32]⟩
def isAny:Cnd→Bool
 | .any _=>true
 | _=>false
def isAA:Cnd→Bool
 | .any _=>true
 | .all _=>true
 | _=>false
mutual
def wrC:Cnd→List UInt8
 | .any l=>wrL sOr false l 0
 | .all l=>wrL sAnd true l 0
 | .nt d=>sNot.data.toList++if isAA d then 40::(wrC d++[41]) else wrC d
 | .nul=>[]
 | .kd w _=>w.data.toList
 | .ch w _=>w.data.toList
 | .tx w _ _ _=>w.data.toList
 | .nm w _ _ _=>w.data.toList
 | .by_ w _=>w.data.toList
def wrL (sep:ByteArray) (par:Bool):List Cnd→Nat→List UInt8
 | [],_=>[]
 | c::l,i=>(if i=0 then [] else sep.data.toList)++(if par && isAny c then 40::(wrC c++[41]) else wrC c)++wrL sep par l (i+1)
end
mutual
theorem wr_len {M:Nat}:∀d:Cnd,SzC M d→(wrC d).length+20≤lv d * (4 * M+440)
 | .any l,h=>by
  rw [SzC] at h;rw [wrC,lv,Nat.add_mul]
  have:=wr_lens sOr false (by decide) l 0 h;omega
 | .all l,h=>by
  rw [SzC] at h;rw [wrC,lv,Nat.add_mul]
  have:=wr_lens sAnd true (by decide) l 0 h;omega
 | .nt d,h=>by
  rw [SzC] at h;rw [wrC,lv,Nat.add_mul]
  have:=wr_len d h
  have e:sNot.data.toList.length=4:=rfl
  rw [List.length_append,e]
  split
  ·simp only [List.length_cons,List.length_append,List.length_nil];omega
  ·omega
 | .nul,_=>by rw [wrC,lv];simp
 | .kd w _,h=>by rw [SzC] at h;rw [wrC,lv,lsz];omega
 | .ch w _,h=>by rw [SzC] at h;rw [wrC,lv,lsz];omega
 | .tx w _ _ _,h=>by rw [SzC] at h;rw [wrC,lv,lsz];omega
 | .nm w _ _ _,h=>by rw [SzC] at h;rw [wrC,lv,lsz];omega
 | .by_ w _,h=>by rw [SzC] at h;rw [wrC,lv,lsz];omega
theorem wr_lens {M:Nat} (sep:ByteArray) (par:Bool) (hs:sep.size≤5):∀(l:List Cnd) (i:Nat),SzCs M l→(wrL sep par l i).length≤lvs l * (4 * M+440)
 | [],_,_=>by rw [wrL,lvs];simp
 | c::l,i,h=>by
  rw [SzCs] at h;rw [wrL,lvs,Nat.add_mul]
  have h1:=wr_len c h.1
  have h2:=wr_lens sep par hs l (i+1) h.2
  have h3:(if i=0 then [] else sep.data.toList).length≤5:=by
   split
   ·simp
   ·rw [lsz];exact hs
  have h4:(if (par && isAny c)=true then 40::(wrC c++[41]) else wrC c).length≤(wrC c).length+2:=by
   split
   ·simp
   ·omega
  simp only [List.length_append]
  omega
end
abbrev WrP (b:Nat) (bs:List UInt8):Post:=⟨Unit,fun _=>.tuple #[],fun _=>True,fun _=>[],fun _=>[Bdr b bs]⟩
abbrev WrI (d : Cnd) : Prop := ∀ v bq bs, bs.length + (wrC d).length ≤ 900000000 → SpecI v "replevin/rule.write" [pv0 bq] [CdF d v] [Bdr bq bs] (WrP bq (bs ++ wrC d))
theorem test_write (wd:ByteArray) (fv:Value) (bq:Nat) (bs:List UInt8) (h:bs.length+wd.size≤900000000):Enters 200∧Spec prog 200 #[.agg #[.string wd,fv],pv0 bq] [] [Bdr bq bs] (WrP bq (bs++wd.data.toList)):=by
 have n1:=ZU bq bs wd (by omega) (by omega)
 refine ZR [_,_] func200 ntmps200 fun G w hp=>?_
 repeat' (first|refine ZG ?_|refine ZH ?_|refine ZJ ?_|refine ZI ?_|refine ZL ?_|refine ZF ?_|refine ZO ?_|refine ZN (fun b=>?_)|refine ZM (fun b=>?_)|refine ZD ?_|refine ZB ?_|refine ZK ?_|refine ZA (n1) (fun _ _=>?_)|refine l_call0 (n1) (fun _ _=>?_)|(refine ZC (fun hc=>?_) (fun hc=>?_)<;>(try simp at hc))|(refine ZE (fun hc=>?_) (fun hc=>?_)<;>(try simp at hc)))
 exact YB () rfl trivial
theorem tst_wr {d:Cnd} {wd:ByteArray} (hd:∀h v,CdP h d v→∃fv,v = .iface 184 (.agg #[.string wd,fv])) (hw:wrC d=wd.data.toList):WrI d:=fun v bq bs hb=>by
 rw [hw] at hb ⊢
 rw [lsz] at hb
 refine Zt (X:=Value) (Fx:=fun _=>[]) (p:=fun fv=>v = .iface 184 (.agg #[.string wd,fv])) (fun h hh=>?_) (fun fv hq=>?_)
 ·obtain ⟨fv,e⟩:=hd h v hh
  exact ⟨fv,e,fun _ hx=>by cases hx⟩
 ·subst hq
  exact Yd (f:=200) (by intro w;kernel_rfl) (test_write wd fv bq bs hb)
theorem X7 (d:Cnd) (ih:WrI d) (v:Value) (bq:Nat) (bs:List UInt8) (h:bs.length+(wrC d).length+2≤900000000):Enters 205∧Spec prog 205 #[pv0 bq,v] [CdF d v] [Bdr bq bs] (WrP bq (bs++40::(wrC d++[41]))):=by
 have n1:=ZW bq bs 40 (by omega)
 have n2:=ih v bq (bs++[40]) (by rw [List.length_append,List.length_singleton];omega)
 have n3:=ZW bq (bs++[40]++wrC d) 41 (by simp only [List.length_append,List.length_singleton];omega)
 have e:bs++40::(wrC d++[41])=bs++[40]++wrC d++[41]:=by simp
 rw [e]
 refine ZR [_,_] func205 ntmps205 fun G w hp=>?_
 repeat' (first|refine ZG ?_|refine ZH ?_|refine ZJ ?_|refine ZI ?_|refine ZL ?_|refine ZF ?_|refine ZO ?_|refine ZN (fun b=>?_)|refine ZM (fun b=>?_)|refine ZD ?_|refine ZB ?_|refine ZK ?_|refine ZA (n1) (fun _ _=>?_)|refine l_call0 (n1) (fun _ _=>?_)|refine ZA (n3) (fun _ _=>?_)|refine l_call0 (n3) (fun _ _=>?_)|refine YS n2 (fun _ _=>?_)|(refine ZC (fun hc=>?_) (fun hc=>?_)<;>(try simp at hc))|(refine ZE (fun hc=>?_) (fun hc=>?_)<;>(try simp at hc)))
 exact YB () rfl trivial
set_option maxHeartbeats 4000000 in
theorem any_write (l:List Cnd) (hbd:l.length≤1000000) (ih:∀d ∈ l,WrI d) (o:Option Addr) (cap:Nat) (vs:List IV) (hl:vs.length=l.length) (bq:Nat) (bs:List UInt8) (hb:bs.length+(wrL sOr false l 0).length≤900000000):Enters 202∧Spec prog 202 #[.agg #[.slice o vs.length cap],pv0 bq] [Sl 100 ivl o cap vs,CdsF l (vs.map ivOf)] [Bdr bq bs] (WrP bq (bs++wrL sOr false l 0)):=by
 obtain ⟨T,hT⟩:∃T,bs++wrL sOr false l 0=T:=⟨_,rfl⟩
 have hTl:T.length≤900000000:=by rw [←hT,List.length_append];exact hb
 rw [hT]
 refine ZR [_,_] func202 ntmps202 fun G w hp=>?_
 repeat' (first|refine ZG ?_|refine ZH ?_|refine ZJ ?_|refine ZI ?_|refine ZL ?_|refine ZF ?_|refine ZO ?_|refine ZN (fun b=>?_)|refine ZM (fun b=>?_)|refine ZD ?_|refine ZB ?_|(refine ZC (fun hc=>?_) (fun hc=>?_)<;>(try simp at hc))|(refine ZE (fun hc=>?_) (fun hc=>?_)<;>(try simp at hc)))
 refine Yu (X:={q:Nat×List UInt8 // q.1≤vs.length∧q.2++wrL sOr false (l.drop q.1) q.1=T}) (fun q=>[(1,pv0 bq),(7,.slice o vs.length cap),(8,.int .i64 (vs.length:Int)),(9,.int .i64 (q.1.1:Int))]) (fun _=>[Sl 100 ivl o cap vs,CdsF l (vs.map ivOf)]) (fun q=>[Bdr bq q.1.2]) (fun q=>vs.length - q.1.1) ⟨(0,bs),Nat.zero_le _,hT⟩ ⟨rfl,rfl,rfl,rfl,trivial⟩ ?_
 rintro ⟨⟨j,cs⟩,hj,hR⟩
 dsimp only at hj hR ⊢
 by_cases hlt:j<vs.length
 ·have hxj:=List.getElem?_eq_getElem hlt
  have hltc:j<l.length:=by omega
  have hcj:=List.getElem?_eq_getElem hltc
  rw [List.drop_eq_getElem_cons hltc] at hR
  have ihd:=ih _ (List.getElem_mem hltc)
  generalize vs[j]=x at *
  generalize l[j]=d at *
  obtain ⟨T1,u⟩:=x
  refine Z2 (F1:=[CdsF l (vs.map ivOf)]) (f:=CdF d (ivOf (T1,u))) (fun hp hF=>Yy (hF _ (.head _)) hcj (by rw [List.getElem?_map,hxj];rfl)) ?_
  have w1:=wrapi (z:=(j:Int)+1) (by omega) (by omega)
  rw [wrL] at hR
  simp only [Bool.false_and,Bool.false_eq_true,if_false] at hR
  have hlen:=congrArg List.length hR
  simp only [List.length_append] at hlen
  by_cases hj0:j=0
  ·have hj1:¬(0:Int)<(j:Int):=by omega
   rw [if_pos hj0,List.nil_append] at hR
   rw [if_pos hj0] at hlen
   simp only [List.length_nil] at hlen
   have n2:=ihd (ivOf (T1,u)) bq cs (by omega)
   repeat' (first|refine ZG ?_|refine ZH ?_|refine ZJ ?_|refine ZI ?_|refine ZL ?_|refine ZF ?_|refine ZO ?_|refine ZN (fun b=>?_)|refine ZM (fun b=>?_)|refine ZD ?_|refine ZB ?_|refine Zl (es:=vs) (f:=ivl) j _ hxj (fun b off=>?_)|refine Zm ?_|refine YS n2 (fun _ _=>?_)|rw [w1]|(refine ZC (fun hc=>?_) (fun hc=>?_)<;>(try simp at hc)<;>(try omega))|(refine ZE (fun hc=>?_) (fun hc=>?_)<;>(try simp at hc)<;>(try omega)))
   exact ZZ ⟨(j+1,cs++wrC d),by show j+1≤vs.length;omega,by show cs++wrC d++wrL sOr false (l.drop (j+1)) (j+1)=T;rw [List.append_assoc];exact hR⟩ (by show vs.length - (j+1)<vs.length - j;omega) ⟨rfl,rfl,rfl,rfl,trivial⟩
  ·rw [if_neg hj0] at hR hlen
   have hj1:(0:Int)<(j:Int):=by omega
   have n1:=ZU bq cs sOr (by omega) (by decide)
   have n2:=ihd (ivOf (T1,u)) bq (cs++sOr.data.toList) (by rw [List.length_append];omega)
   repeat' (first|refine ZG ?_|refine ZH ?_|refine ZJ ?_|refine ZI ?_|refine ZL ?_|refine ZF ?_|refine ZO ?_|refine ZN (fun b=>?_)|refine ZM (fun b=>?_)|refine ZD ?_|refine ZB ?_|refine ZA (n1) (fun _ _=>?_)|refine l_call0 (n1) (fun _ _=>?_)|refine Zl (es:=vs) (f:=ivl) j _ hxj (fun b off=>?_)|refine Zm ?_|refine YS n2 (fun _ _=>?_)|rw [w1]|(refine ZC (fun hc=>?_) (fun hc=>?_)<;>(try simp at hc)<;>(try omega))|(refine ZE (fun hc=>?_) (fun hc=>?_)<;>(try simp at hc)<;>(try omega)))
   exact ZZ ⟨(j+1,cs++sOr.data.toList++wrC d),by show j+1≤vs.length;omega,by show cs++sOr.data.toList++wrC d++wrL sOr false (l.drop (j+1)) (j+1)=T;rw [←hR];simp only [List.append_assoc]⟩ (by show vs.length - (j+1)<vs.length - j;omega) ⟨rfl,rfl,rfl,rfl,trivial⟩
 ·rw [List.drop_eq_nil_of_le (by omega),wrL,List.append_nil] at hR
  subst hR
  repeat' (first|refine ZG ?_|refine ZH ?_|refine ZJ ?_|refine ZI ?_|refine ZL ?_|refine ZF ?_|refine ZO ?_|refine ZN (fun b=>?_)|refine ZM (fun b=>?_)|refine ZD ?_|refine ZB ?_|refine ZK ?_|(refine ZC (fun hc=>?_) (fun hc=>?_)<;>(try simp at hc)<;>(try omega))|(refine ZE (fun hc=>?_) (fun hc=>?_)<;>(try simp at hc)<;>(try omega)))
  exact YB () rfl trivial
theorem isAny_eq {d:Cnd} (h:isAny d=true):∃l,d = .any l:=by cases d<;>first|exact ⟨_,rfl⟩|cases h
theorem isAny_ne {d:Cnd} (h:¬isAny d=true):∀l,d≠.any l:=fun l e=>h (by rw [e];rfl)
theorem any_ty {h:H} {l:List Cnd} {T:TypeId} {u:Value} (hh:CdP h (.any l) (ivOf (T,u))):T=211∧∃q:Option Addr×Nat×Nat,u = .agg #[.slice q.1 q.2.1 q.2.2]:=by
 rw [CdP] at hh
 obtain ⟨o,cap,vs,h1,_⟩:=hh
 obtain ⟨rfl,rfl⟩:=Value.iface.inj h1
 exact ⟨rfl,(o,vs.length,cap),rfl⟩
set_option maxHeartbeats 4000000 in
theorem all_write (l:List Cnd) (hbd:l.length≤1000000) (ih:∀d ∈ l,WrI d) (o:Option Addr) (cap:Nat) (vs:List IV) (hl:vs.length=l.length) (bq:Nat) (bs:List UInt8) (hb:bs.length+(wrL sAnd true l 0).length≤900000000):Enters 207∧Spec prog 207 #[.agg #[.slice o vs.length cap],pv0 bq] [Sl 100 ivl o cap vs,CdsF l (vs.map ivOf)] [Bdr bq bs] (WrP bq (bs++wrL sAnd true l 0)):=by
 obtain ⟨T,hT⟩:∃T,bs++wrL sAnd true l 0=T:=⟨_,rfl⟩
 have hTl:T.length≤900000000:=by rw [←hT,List.length_append];exact hb
 rw [hT]
 refine ZR [_,_] func207 ntmps207 fun G w hp=>?_
 repeat' (first|refine ZG ?_|refine ZH ?_|refine ZJ ?_|refine ZI ?_|refine ZL ?_|refine ZF ?_|refine ZO ?_|refine ZN (fun b=>?_)|refine ZM (fun b=>?_)|refine ZD ?_|refine ZB ?_|(refine ZC (fun hc=>?_) (fun hc=>?_)<;>(try simp at hc))|(refine ZE (fun hc=>?_) (fun hc=>?_)<;>(try simp at hc)))
 refine Yu (X:={q:Nat×List UInt8 // q.1≤vs.length∧q.2++wrL sAnd true (l.drop q.1) q.1=T}) (fun q=>[(1,pv0 bq),(9,.slice o vs.length cap),(10,.int .i64 (vs.length:Int)),(11,.int .i64 (q.1.1:Int))]) (fun _=>[Sl 100 ivl o cap vs,CdsF l (vs.map ivOf)]) (fun q=>[Bdr bq q.1.2]) (fun q=>vs.length - q.1.1) ⟨(0,bs),Nat.zero_le _,hT⟩ ⟨rfl,rfl,rfl,rfl,trivial⟩ ?_
 rintro ⟨⟨j,cs⟩,hj,hR⟩
 dsimp only at hj hR ⊢
 by_cases hlt:j<vs.length
 ·have hxj:=List.getElem?_eq_getElem hlt
  have hltc:j<l.length:=by omega
  have hcj:=List.getElem?_eq_getElem hltc
  rw [List.drop_eq_getElem_cons hltc] at hR
  have ihd:=ih _ (List.getElem_mem hltc)
  generalize vs[j]=x at *
  generalize l[j]=d at *
  obtain ⟨T1,u⟩:=x
  refine Z2 (F1:=[CdsF l (vs.map ivOf)]) (f:=CdF d (ivOf (T1,u))) (fun hp hF=>Yy (hF _ (.head _)) hcj (by rw [List.getElem?_map,hxj];rfl)) ?_
  have w1:=wrapi (z:=(j:Int)+1) (by omega) (by omega)
  rw [wrL] at hR
  simp only [Bool.true_and] at hR
  have hlen:=congrArg List.length hR
  simp only [List.length_append] at hlen
  by_cases ha:isAny d=true
  ·obtain ⟨la,rfl⟩:=isAny_eq ha
   refine YH (X:=Option Addr×Nat×Nat) (Fx:=fun _=>[]) (p:=fun a=>T1=211∧u = .agg #[.slice a.1 a.2.1 a.2.2]) (f:=CdF (.any la) (ivOf (T1,u))) .here (fun h hh=>?_) (fun a hq=>?_)
   ·obtain ⟨e1,a,e2⟩:=any_ty hh
    exact ⟨a,⟨e1,e2⟩,fun _ hx=>by cases hx⟩
   obtain ⟨a1,a2,a3⟩:=a
   obtain ⟨rfl,rfl⟩:=hq
   dsimp only at hxj ⊢
   rw [if_pos ha] at hR hlen
   simp only [List.length_cons,List.length_append,List.length_nil] at hlen
   generalize hdd:Cnd.any la=d at *
   by_cases hj0:j=0
   ·have hj1:¬(0:Int)<(j:Int):=by omega
    rw [if_pos hj0,List.nil_append] at hR
    rw [if_pos hj0] at hlen
    simp only [List.length_nil] at hlen
    have n2:=X7 d ihd (ivOf (211,.agg #[.slice a1 a2 a3])) bq cs (by omega)
    repeat' (first|refine ZG ?_|refine ZH ?_|refine ZJ ?_|refine ZI ?_|refine ZL ?_|refine ZF ?_|refine ZO ?_|refine ZN (fun b=>?_)|refine ZM (fun b=>?_)|refine ZD ?_|refine ZB ?_|refine ZA (n2) (fun _ _=>?_)|refine l_call0 (n2) (fun _ _=>?_)|refine Zl (es:=vs) (f:=ivl) j _ hxj (fun b off=>?_)|refine Zm ?_|refine l_taY ?_|rw [w1]|(refine ZC (fun hc=>?_) (fun hc=>?_)<;>(try simp at hc)<;>(try omega))|(refine ZE (fun hc=>?_) (fun hc=>?_)<;>(try simp at hc)<;>(try omega)))
    exact ZZ ⟨(j+1,cs++40::(wrC d++[41])),by show j+1≤vs.length;omega,by show cs++40::(wrC d++[41])++wrL sAnd true (l.drop (j+1)) (j+1)=T;rw [List.append_assoc];exact hR⟩ (by show vs.length - (j+1)<vs.length - j;omega) ⟨rfl,rfl,rfl,rfl,trivial⟩
   ·rw [if_neg hj0] at hR hlen
    have hj1:(0:Int)<(j:Int):=by omega
    have n1:=ZU bq cs sAnd (by omega) (by decide)
    have n2:=X7 d ihd (ivOf (211,.agg #[.slice a1 a2 a3])) bq (cs++sAnd.data.toList) (by rw [List.length_append];omega)
    repeat' (first|refine ZG ?_|refine ZH ?_|refine ZJ ?_|refine ZI ?_|refine ZL ?_|refine ZF ?_|refine ZO ?_|refine ZN (fun b=>?_)|refine ZM (fun b=>?_)|refine ZD ?_|refine ZB ?_|refine ZA (n1) (fun _ _=>?_)|refine l_call0 (n1) (fun _ _=>?_)|refine ZA (n2) (fun _ _=>?_)|refine l_call0 (n2) (fun _ _=>?_)|refine Zl (es:=vs) (f:=ivl) j _ hxj (fun b off=>?_)|refine Zm ?_|refine l_taY ?_|rw [w1]|(refine ZC (fun hc=>?_) (fun hc=>?_)<;>(try simp at hc)<;>(try omega))|(refine ZE (fun hc=>?_) (fun hc=>?_)<;>(try simp at hc)<;>(try omega)))
    exact ZZ ⟨(j+1,cs++sAnd.data.toList++40::(wrC d++[41])),by show j+1≤vs.length;omega,by show cs++sAnd.data.toList++40::(wrC d++[41])++wrL sAnd true (l.drop (j+1)) (j+1)=T;rw [←hR];simp only [List.append_assoc]⟩ (by show vs.length - (j+1)<vs.length - j;omega) ⟨rfl,rfl,rfl,rfl,trivial⟩
  ·refine YH (X:=Unit) (Fx:=fun _=>[]) (p:=fun _=>T1≠211) (f:=CdF d (ivOf (T1,u))) .here (fun h hh=>⟨(),?_,fun _ hx=>by cases hx⟩) (fun _ hne=>?_)
   ·rcases X1 hh with h1|⟨T',u',h1,h2,_⟩
    ·cases h1
    ·obtain ⟨rfl,_⟩:=Value.iface.inj h1
     exact h2 (isAny_ne ha)
   have hne':ivOf (T1,u) = .nilIface∨∃T' v,ivOf (T1,u) = .iface T' v∧T'≠211:=.inr ⟨T1,u,rfl,hne⟩
   rw [if_neg ha] at hR hlen
   by_cases hj0:j=0
   ·have hj1:¬(0:Int)<(j:Int):=by omega
    rw [if_pos hj0,List.nil_append] at hR
    rw [if_pos hj0] at hlen
    simp only [List.length_nil] at hlen
    have n2:=ihd (ivOf (T1,u)) bq cs (by omega)
    repeat' (first|refine ZG ?_|refine ZH ?_|refine ZJ ?_|refine ZI ?_|refine ZL ?_|refine ZF ?_|refine ZO ?_|refine ZN (fun b=>?_)|refine ZM (fun b=>?_)|refine ZD ?_|refine ZB ?_|refine Zl (es:=vs) (f:=ivl) j _ hxj (fun b off=>?_)|refine Zm ?_|refine l_taN hne' ?_|refine YS n2 (fun _ _=>?_)|rw [w1]|(refine ZC (fun hc=>?_) (fun hc=>?_)<;>(try simp at hc)<;>(try omega))|(refine ZE (fun hc=>?_) (fun hc=>?_)<;>(try simp at hc)<;>(try omega)))
    exact ZZ ⟨(j+1,cs++wrC d),by show j+1≤vs.length;omega,by show cs++wrC d++wrL sAnd true (l.drop (j+1)) (j+1)=T;rw [List.append_assoc];exact hR⟩ (by show vs.length - (j+1)<vs.length - j;omega) ⟨rfl,rfl,rfl,rfl,trivial⟩
   ·rw [if_neg hj0] at hR hlen
    have hj1:(0:Int)<(j:Int):=by omega
    have n1:=ZU bq cs sAnd (by omega) (by decide)
    have n2:=ihd (ivOf (T1,u)) bq (cs++sAnd.data.toList) (by rw [List.length_append];omega)
    repeat' (first|refine ZG ?_|refine ZH ?_|refine ZJ ?_|refine ZI ?_|refine ZL ?_|refine ZF ?_|refine ZO ?_|refine ZN (fun b=>?_)|refine ZM (fun b=>?_)|refine ZD ?_|refine ZB ?_|refine ZA (n1) (fun _ _=>?_)|refine l_call0 (n1) (fun _ _=>?_)|refine Zl (es:=vs) (f:=ivl) j _ hxj (fun b off=>?_)|refine Zm ?_|refine l_taN hne' ?_|refine YS n2 (fun _ _=>?_)|rw [w1]|(refine ZC (fun hc=>?_) (fun hc=>?_)<;>(try simp at hc)<;>(try omega))|(refine ZE (fun hc=>?_) (fun hc=>?_)<;>(try simp at hc)<;>(try omega)))
    exact ZZ ⟨(j+1,cs++sAnd.data.toList++wrC d),by show j+1≤vs.length;omega,by show cs++sAnd.data.toList++wrC d++wrL sAnd true (l.drop (j+1)) (j+1)=T;rw [←hR];simp only [List.append_assoc]⟩ (by show vs.length - (j+1)<vs.length - j;omega) ⟨rfl,rfl,rfl,rfl,trivial⟩
 ·rw [List.drop_eq_nil_of_le (by omega),wrL,List.append_nil] at hR
  subst hR
  repeat' (first|refine ZG ?_|refine ZH ?_|refine ZJ ?_|refine ZI ?_|refine ZL ?_|refine ZF ?_|refine ZO ?_|refine ZN (fun b=>?_)|refine ZM (fun b=>?_)|refine ZD ?_|refine ZB ?_|refine ZK ?_|(refine ZC (fun hc=>?_) (fun hc=>?_)<;>(try simp at hc)<;>(try omega))|(refine ZE (fun hc=>?_) (fun hc=>?_)<;>(try simp at hc)<;>(try omega)))
  exact YB () rfl trivial
set_option maxHeartbeats 4000000 in
theorem not_write (d:Cnd) (ih:WrI d) (v:Value) (bq:Nat) (bs:List UInt8) (h:bs.length+(wrC (.nt d)).length≤900000000):Enters 204∧Spec prog 204 #[.agg #[v],pv0 bq] [CdF d v] [Bdr bq bs] (WrP bq (bs++wrC (.nt d))):=by
 rw [wrC] at h ⊢
 have e4:sNot.data.toList.length=4:=rfl
 rw [List.length_append,e4] at h
 have n1:=ZU bq bs sNot (by omega) (by decide)
 by_cases haa:isAA d=true
 ·rw [if_pos haa] at h ⊢
  simp only [List.length_cons,List.length_append,List.length_nil] at h
  have n2:=fun w=>X7 d ih w bq (bs++sNot.data.toList) (by rw [List.length_append,e4];omega)
  obtain ⟨T,hT⟩:∃T,bs++(sNot.data.toList++40::(wrC d++[41]))=T:=⟨_,rfl⟩
  rw [←List.append_assoc] at hT
  rw [hT] at n2
  rw [←List.append_assoc,hT]
  by_cases ha:isAny d=true
  ·obtain ⟨la,rfl⟩:=isAny_eq ha
   refine ZR [_,_] func204 ntmps204 fun G w hp=>?_
   refine YH (X:=Option Addr×Nat×Nat) (Fx:=fun _=>[]) (p:=fun a=>v = .iface 211 (.agg #[.slice a.1 a.2.1 a.2.2])) (f:=CdF (.any la) v) .here (fun h hh=>?_) (fun a hq=>?_)
   ·have hh:CdP h (.any la) v:=hh
    rw [CdP] at hh
    obtain ⟨o,cap,vs,e,_⟩:=hh
    exact ⟨(o,vs.length,cap),e,fun _ hx=>by cases hx⟩
   obtain ⟨a1,a2,a3⟩:=a
   subst hq
   generalize hdd:Cnd.any la=d at *
   dsimp only
   repeat' (first|refine l_taN (.inr ⟨211,_,rfl,by decide⟩) ?_|refine l_taY ?_|refine ZG ?_|refine ZH ?_|refine ZJ ?_|refine ZI ?_|refine ZL ?_|refine ZF ?_|refine ZO ?_|refine ZN (fun b=>?_)|refine ZM (fun b=>?_)|refine ZD ?_|refine ZB ?_|refine ZK ?_|refine ZA (n1) (fun _ _=>?_)|refine l_call0 (n1) (fun _ _=>?_)|refine ZA (n2 _) (fun _ _=>?_)|refine l_call0 (n2 _) (fun _ _=>?_)|(refine ZC (fun hc=>?_) (fun hc=>?_)<;>(try simp at hc)<;>(try omega))|(refine ZE (fun hc=>?_) (fun hc=>?_)<;>(try simp at hc)<;>(try omega)))
   exact YB () rfl trivial
  ·have ha2:∃la,d = .all la:=by
    cases d<;>first|exact ⟨_,rfl⟩|exact absurd rfl ha|cases haa
   obtain ⟨la,rfl⟩:=ha2
   refine ZR [_,_] func204 ntmps204 fun G w hp=>?_
   refine YH (X:=Option Addr×Nat×Nat) (Fx:=fun _=>[]) (p:=fun a=>v = .iface 225 (.agg #[.slice a.1 a.2.1 a.2.2])) (f:=CdF (.all la) v) .here (fun h hh=>?_) (fun a hq=>?_)
   ·have hh:CdP h (.all la) v:=hh
    rw [CdP] at hh
    obtain ⟨o,cap,vs,e,_⟩:=hh
    exact ⟨(o,vs.length,cap),e,fun _ hx=>by cases hx⟩
   obtain ⟨a1,a2,a3⟩:=a
   subst hq
   generalize hdd:Cnd.all la=d at *
   dsimp only
   repeat' (first|refine l_taN (.inr ⟨225,_,rfl,by decide⟩) ?_|refine l_taY ?_|refine ZG ?_|refine ZH ?_|refine ZJ ?_|refine ZI ?_|refine ZL ?_|refine ZF ?_|refine ZO ?_|refine ZN (fun b=>?_)|refine ZM (fun b=>?_)|refine ZD ?_|refine ZB ?_|refine ZK ?_|refine ZA (n1) (fun _ _=>?_)|refine l_call0 (n1) (fun _ _=>?_)|refine ZA (n2 _) (fun _ _=>?_)|refine l_call0 (n2 _) (fun _ _=>?_)|(refine ZC (fun hc=>?_) (fun hc=>?_)<;>(try simp at hc)<;>(try omega))|(refine ZE (fun hc=>?_) (fun hc=>?_)<;>(try simp at hc)<;>(try omega)))
   exact YB () rfl trivial
 ·rw [if_neg haa] at h ⊢
  rw [←List.append_assoc]
  have n2:=ih v bq (bs++sNot.data.toList) (by rw [List.length_append,e4];omega)
  obtain ⟨T,hT⟩:∃T,bs++sNot.data.toList++wrC d=T:=⟨_,rfl⟩
  rw [hT] at n2 ⊢
  have hd1:∀l,d≠.any l:=fun l e=>haa (by rw [e];rfl)
  have hd2:∀l,d≠.all l:=fun l e=>haa (by rw [e];rfl)
  refine ZR [_,_] func204 ntmps204 fun G w hp=>?_
  refine YH (X:=Unit) (Fx:=fun _=>[]) (p:=fun _=>v = .nilIface∨∃T u,v = .iface T u∧T≠211∧T≠225) (f:=CdF d v) .here (fun h hh=>⟨(),?_,fun _ hx=>by cases hx⟩) (fun _ hq=>?_)
  ·rcases X1 hh with h1|⟨T',u',h1,h2,h3⟩
   ·exact .inl h1
   ·exact .inr ⟨T',u',h1,h2 hd1,h3 hd2⟩
  rcases hq with rfl|⟨T1,u,rfl,hq1,hq2⟩
  ·repeat' (first|refine ZG ?_|refine ZH ?_|refine ZJ ?_|refine ZI ?_|refine ZL ?_|refine ZF ?_|refine ZO ?_|refine ZN (fun b=>?_)|refine ZM (fun b=>?_)|refine ZD ?_|refine ZB ?_|refine ZK ?_|refine ZA (n1) (fun _ _=>?_)|refine l_call0 (n1) (fun _ _=>?_)|refine l_taN (.inl rfl) ?_|refine YS n2 (fun _ _=>?_)|(refine ZC (fun hc=>?_) (fun hc=>?_)<;>(try simp at hc)<;>(try omega))|(refine ZE (fun hc=>?_) (fun hc=>?_)<;>(try simp at hc)<;>(try omega)))
   exact YB () rfl trivial
  ·repeat' (first|refine ZG ?_|refine ZH ?_|refine ZJ ?_|refine ZI ?_|refine ZL ?_|refine ZF ?_|refine ZO ?_|refine ZN (fun b=>?_)|refine ZM (fun b=>?_)|refine ZD ?_|refine ZB ?_|refine ZK ?_|refine ZA (n1) (fun _ _=>?_)|refine l_call0 (n1) (fun _ _=>?_)|refine l_taN (.inr ⟨T1,u,rfl,hq1⟩) ?_|refine l_taN (.inr ⟨T1,u,rfl,hq2⟩) ?_|refine YS n2 (fun _ _=>?_)|(refine ZC (fun hc=>?_) (fun hc=>?_)<;>(try simp at hc)<;>(try omega))|(refine ZE (fun hc=>?_) (fun hc=>?_)<;>(try simp at hc)<;>(try omega)))
   exact YB () rfl trivial
mutual
theorem Wm:∀d:Cnd,WfC d→lv d≤1000000→WrI d
 | .any l,hw,hv=>fun v bq bs hb=>by
  rw [WfC] at hw;rw [lv] at hv;rw [wrC] at hb ⊢
  have hll:=Yj l
  refine Zt (X:=Option Addr×Nat×List IV) (Fx:=fun q=>[Sl 100 ivl q.1 q.2.1 q.2.2,CdsF l (q.2.2.map ivOf)]) (p:=fun q=>v = .iface 211 (.agg #[.slice q.1 q.2.2.length q.2.1])∧q.2.2.length=l.length) (fun h hh=>?_) (fun q hq=>?_)
  ·have hh:CdP h (.any l) v:=hh
   rw [CdP] at hh
   obtain ⟨o,cap,vs,h1,h2,h3⟩:=hh
   exact ⟨(o,cap,vs),⟨h1,by have:=Yv h3;simpa using this⟩,fun g hg=>by
    simp only [List.mem_cons,List.not_mem_nil,or_false] at hg
    rcases hg with rfl|rfl
    ·exact h2
    ·exact h3⟩
  ·obtain ⟨rfl,hl⟩:=hq
   exact Yd (f:=202) (by intro w;kernel_rfl) (any_write l (by omega) (X5 l hw (by omega)) _ _ _ hl bq bs hb)
 | .all l,hw,hv=>fun v bq bs hb=>by
  rw [WfC] at hw;rw [lv] at hv;rw [wrC] at hb ⊢
  have hll:=Yj l
  refine Zt (X:=Option Addr×Nat×List IV) (Fx:=fun q=>[Sl 100 ivl q.1 q.2.1 q.2.2,CdsF l (q.2.2.map ivOf)]) (p:=fun q=>v = .iface 225 (.agg #[.slice q.1 q.2.2.length q.2.1])∧q.2.2.length=l.length) (fun h hh=>?_) (fun q hq=>?_)
  ·have hh:CdP h (.all l) v:=hh
   rw [CdP] at hh
   obtain ⟨o,cap,vs,h1,h2,h3⟩:=hh
   exact ⟨(o,cap,vs),⟨h1,by have:=Yv h3;simpa using this⟩,fun g hg=>by
    simp only [List.mem_cons,List.not_mem_nil,or_false] at hg
    rcases hg with rfl|rfl
    ·exact h2
    ·exact h3⟩
  ·obtain ⟨rfl,hl⟩:=hq
   exact Yd (f:=207) (by intro w;kernel_rfl) (all_write l (by omega) (X5 l hw (by omega)) _ _ _ hl bq bs hb)
 | .nt d,hw,hv=>fun v bq bs hb=>by
  rw [WfC] at hw;rw [lv] at hv
  refine Zt (X:=Value) (Fx:=fun u=>[CdF d u]) (p:=fun u=>v = .iface 223 (.agg #[u])) (fun h hh=>?_) (fun u hq=>?_)
  ·have hh:CdP h (.nt d) v:=hh
   rw [CdP] at hh
   obtain ⟨u,h1,h2⟩:=hh
   exact ⟨u,h1,fun g hg=>by rcases List.mem_singleton.1 hg with rfl;exact h2⟩
  ·subst hq
   exact Yd (f:=204) (by intro w;kernel_rfl) (not_write d (Wm d hw (by omega)) u bq bs hb)
 | .nul,hw,_=>by rw [WfC] at hw;exact absurd hw id
 | .kd _ _,_,_=>tst_wr (fun h v hh=>by
  rw [CdP] at hh
  obtain ⟨b,e,_⟩:=hh
  exact ⟨_,e⟩) (by rw [wrC])
 | .ch _ _,_,_=>tst_wr (fun h v hh=>by
  rw [CdP] at hh
  obtain ⟨b,e,_⟩:=hh
  exact ⟨_,e⟩) (by rw [wrC])
 | .tx _ _ _ _,_,_=>tst_wr (fun h v hh=>by
  rw [CdP] at hh
  obtain ⟨b1,b2,b3,e,_⟩:=hh
  exact ⟨_,e⟩) (by rw [wrC])
 | .nm _ _ _ _,_,_=>tst_wr (fun h v hh=>by
  rw [CdP] at hh
  obtain ⟨b1,b2,b3,e,_⟩:=hh
  exact ⟨_,e⟩) (by rw [wrC])
 | .by_ _ _,_,_=>tst_wr (fun h v hh=>by
  rw [CdP] at hh
  obtain ⟨b,e,_⟩:=hh
  exact ⟨_,e⟩) (by rw [wrC])
theorem X5:∀l:List Cnd,WfCs l→lvs l≤1000000→∀d ∈ l,WrI d
 | [],_,_=>fun d hd=>by cases hd
 | x::l,hw,hv=>fun d hd=>by
  rw [WfCs] at hw;rw [lvs] at hv
  rcases List.mem_cons.1 hd with hd|hd
  ·exact hd ▸ Wm x hw.1 (by omega)
  ·exact X5 l hw.2 (by omega) d hd
end
def tKeep:ByteArray:=⟨#[107,101,101,112]⟩
def tComp:ByteArray:=⟨#[99,111,109,112,101,110,115,97,116,101,32]⟩
def tSend:ByteArray:=⟨#[115,101,110,100]⟩
def tHold:ByteArray:=⟨#[104,111,108,100]⟩
def tAsk:ByteArray:=⟨#[97,115,107]⟩
def tIf:ByteArray:=⟨#[105,102,32]⟩
def tCol:ByteArray:=⟨#[58,32]⟩
def actB (a:Ac):ByteArray:=if a.k=1 then tKeep else if a.k=2 then tComp++quoF a.t else if a.k=3 then tSend else if a.k=4 then tHold else if a.k=5 then tAsk else ofL []
def lnR (x:Ru):List UInt8:=(match x.c with
 | none=>[]
 | some d=>tIf.data.toList++wrC d++tCol.data.toList)++(actB x.a).data.toList++[10]
def txR (l:List Ru):List UInt8:=l.flatMap lnR
theorem txR_nil {l:List Ru}:txR l=[]↔l=[]:=by
 cases l with
 | nil=>simp [txR]
 | cons x l=>simp [txR,lnR]
theorem lnR_len {M:Nat} {x:Ru} (h:RuSz M x):(lnR x).length≤(3 * M+10) * (4 * M+440)+2 * M+40:=by
 have ha:(actB x.a).data.toList.length≤2 * M+20:=by
  rw [lsz]
  have hq:=Xe x.a.t
  have ht:=h.1
  unfold actB
  split
  ·show 4≤_;omega
  split
  ·rw [YI];have:tComp.size=11:=rfl;omega
  split
  ·show 4≤_;omega
  split
  ·show 4≤_;omega
  split
  ·show 3≤_;omega
  ·show 0≤_;omega
 unfold lnR
 cases hc:x.c with
 | none=>simp only [List.nil_append,List.length_append,List.length_singleton];omega
 | some d=>
  obtain ⟨hz,hv⟩:=h.2 d hc
  have h1:=wr_len d hz
  have h2:lv d * (4 * M+440)≤(3 * M+10) * (4 * M+440):=Nat.mul_le_mul_right _ hv
  have e1:tIf.data.toList.length=3:=rfl
  have e2:tCol.data.toList.length=2:=rfl
  simp only [List.length_append,List.length_singleton,e1,e2]
  omega
theorem lnR_k {n:Nat} {x:Ru} (h:RuSz n x) (hn:n≤1000):(lnR x).length≤(n+1) * 50000:=by
 have h1:=lnR_len h
 have h2:(3 * n+10) * (4 * n+440)≤(3 * n+10) * 4440:=Nat.mul_le_mul_left _ (by omega)
 omega
theorem rows_tx {r:List Ru}:∀(l:List (List UInt8)) (i:Nat) (acc:List Ru),(∀e ∈ l,e.length≤1000)→rowsF l i acc = .ok r→(txR r).length≤(txR acc).length+(l.map fun e=>e.length+1).sum * 50000
 | [],_,acc,_,hr=>by cases hr;simp
 | s::l,i,acc,hl,hr=>by
  have hl':∀e ∈ l,e.length≤1000:=fun e he=>hl e (.tail _ he)
  have hs:=hl s (.head _)
  rw [List.map_cons,List.sum_cons,Nat.add_mul]
  unfold rowsF at hr
  split at hr
  ·rename_i x a e hx
   have h1:=rows_tx l (i+1) _ hl' hr
   have h2:=lnR_k (line_sz (Nat.le_refl _) hx) hs
   have e2:txR (acc++[x])=txR acc++lnR x:=by simp [txR]
   rw [e2,List.length_append] at h1
   omega
  ·split at hr
   ·exact Nat.le_trans (rows_tx l (i+1) acc hl' hr) (Nat.add_le_add_left (Nat.le_add_left _ _) _)
   ·cases hr
theorem lines_sum:∀l:List UInt8,((linesF l).map fun e=>e.length+1).sum=l.length+1
 | []=>rfl
 | c::l=>by
  have ih:=lines_sum l
  unfold linesF
  split
  ·simp only [List.map_cons,List.sum_cons,List.length_nil,List.length_cons];omega
  ·split
   ·rename_i h;rw [h] at ih;simp at ih
   ·rename_i h
    rw [h] at ih
    simp only [List.map_cons,List.sum_cons,List.length_cons] at ih ⊢
    omega
theorem par_tx {s:ByteArray} (hs:s.size≤1000) {r:List Ru} (h:parF s = .ok r):(txR r).length≤60000000:=by
 have h0:rowsF (linesF s.data.toList) 0 [] = .ok r:=by
  unfold parF at h
  split at h
  ·cases h
  ·exact h
 have h1:=rows_tx _ 0 [] (fun e he=>by have:=(WP _).2 e he;rw [lsz] at this;omega) h0
 rw [lines_sum,lsz] at h1
 have e:(txR []).length=0:=rfl
 omega
theorem ruText0_ok:Enters 32∧Spec prog 32 #[.pointer none] [] [] (RetV (.string (ofL []))):=by
 refine ZR [_] func32 ntmps32 fun G w hp=>?_
 repeat' (first|refine ZG ?_|refine ZH ?_|refine ZJ ?_|refine ZI ?_|refine ZL ?_|refine ZF ?_|refine ZO ?_|refine ZN (fun b=>?_)|refine ZM (fun b=>?_)|refine ZD ?_|refine ZB ?_|refine ZK ?_|(refine ZC (fun hc=>?_) (fun hc=>?_)<;>(try simp at hc)<;>(try omega))|(refine ZE (fun hc=>?_) (fun hc=>?_)<;>(try simp at hc)<;>(try omega)))
 exact ZP () rfl trivial
set_option maxHeartbeats 4000000 in
theorem Wp (bp:Nat) (l:List Ru) {M:Nat} (hM:M≤70000) (hl:∀x ∈ l,RuOK M x) (hn:l.length≤256) (ht:(txR l).length≤900000000):Enters 32∧Spec prog 32 #[pv0 bp] [RlsF bp l] [] (RetV (.string (ofL (txR l)))):=by
 obtain ⟨T,hT⟩:∃T,txR l=T:=⟨_,rfl⟩
 rw [hT] at ht ⊢
 refine ZR [_] func32 ntmps32 fun G w hp=>?_
 refine YH (X:=List RI×Option Addr×Nat) (f:=RlsF bp l) .here rls_open (fun q hq=>?_)
 obtain ⟨xs,o,cap⟩:=q
 dsimp only at hq ⊢
 repeat' (first|refine ZG ?_|refine ZH ?_|refine ZJ ?_|refine ZI ?_|refine ZL ?_|refine ZF ?_|refine ZO ?_|refine ZN (fun b=>?_)|refine ZM (fun b=>?_)|refine ZD ?_|refine ZB ?_|(refine ZC (fun hc=>?_) (fun hc=>?_)<;>(try simp at hc)<;>(try omega))|(refine ZE (fun hc=>?_) (fun hc=>?_)<;>(try simp at hc)<;>(try omega)))
 generalize b=b3 at *
 refine Zy (Lx:=[Pt b3 (.cells #[.pointer none,.slice none 0 0] 82)]) (r:=Bdr b3 []) (fun h hh=>bd_new hh) ?_
 refine Yu (X:={q:Nat×List UInt8 // q.1≤xs.length∧q.2++txR (l.drop q.1)=T}) (fun q=>[(3,pv0 b3),(11,.slice o xs.length cap),(12,.int .i64 (xs.length:Int)),(13,.int .i64 (q.1.1:Int))]) (fun _=>[Sl 102 rul o cap xs,RusF l xs]) (fun q=>[Bdr b3 q.1.2]) (fun q=>xs.length - q.1.1) ⟨(0,[]),Nat.zero_le _,hT⟩ ⟨rfl,rfl,rfl,rfl,trivial⟩ ?_
 rintro ⟨⟨j,cs⟩,hj,hR⟩
 dsimp only at hj hR ⊢
 by_cases hlt:j<xs.length
 ·have hyj:=List.getElem?_eq_getElem hlt
  have hltc:j<l.length:=by omega
  have hxj:=List.getElem?_eq_getElem hltc
  rw [List.drop_eq_getElem_cons hltc] at hR
  have hx:=hl _ (List.getElem_mem hltc)
  generalize xs[j]=y at *
  generalize l[j]=x at *
  obtain ⟨iv,a⟩:=y
  have w1:=wrapi (z:=(j:Int)+1) (by omega) (by omega)
  refine YH (X:=Unit) (Fx:=fun _=>[OcF x.c iv]) (p:=fun _=>x.a=a) (f:=RusF l xs) (.there .here) (fun h hh=>?_) (fun _ ha=>?_)
  ·obtain ⟨g1,g2⟩:=rusP_get (show RusP h l xs from hh) hxj hyj
   exact ⟨(),g2,fun g hg=>by rcases List.mem_singleton.1 hg with rfl;exact g1⟩
  subst ha
  have hR:cs++(lnR x++txR (l.drop (j+1)))=T:=hR
  obtain ⟨xc,⟨ak,at_⟩⟩:=x
  refine YH (X:=Unit) (Fx:=fun _=>[]) (p:=fun _=>(xc=none∧iv=none)∨∃d i,xc=some d∧iv=some i) (f:=OcF xc iv) .here (fun h hh=>⟨(),?_,fun _ hx=>by cases hx⟩) (fun _ hq2=>?_)
  ·have hh:OcP h xc iv:=hh
   cases xc with
   | none=>cases iv with
    | none=>exact .inl ⟨rfl,rfl⟩
    | some i=>exact hh.elim
   | some d=>cases iv with
    | none=>exact hh.elim
    | some i=>exact .inr ⟨d,i,rfl,rfl⟩
  have hk1:=hx.a.1
  have hk2:=hx.a.2.1
  have hat:=hx.t
  dsimp only at hk1 hk2 hat hyj ⊢
  have hk:ak=1∨ak=2∨ak=3∨ak=4∨ak=5:=by omega
  rcases hq2 with ⟨rfl,rfl⟩|⟨d,⟨T1,u⟩,rfl,rfl⟩
  ·have hlen:=congrArg List.length hR
   simp only [lnR,List.length_append,List.length_singleton,List.length_nil] at hlen
   simp only [lnR] at hR
   rw [lsz] at hlen
   rcases hk with hk|hk|hk|hk|hk
   ·obtain rfl:=hk
    have hwz:tKeep.size≤300000:=by decide
    have e0:actB ⟨1,at_⟩=tKeep:=rfl
    rw [e0] at hlen hR
    have n1:=ZU b3 cs tKeep (by first|omega|(simp only [List.length_append,lsz];omega)) (by omega)
    have n2:=ZW b3 (cs++tKeep.data.toList) 10 (by simp only [List.length_append,lsz];omega)
    repeat' (first|refine YC underlying100 (.inl ⟨rfl,rfl⟩) ?_|refine ZG ?_|refine ZH ?_|refine ZJ ?_|refine ZI ?_|refine ZL ?_|refine ZF ?_|refine ZO ?_|refine ZN (fun b=>?_)|refine ZM (fun b=>?_)|refine ZD ?_|refine ZB ?_|refine ZA (n1) (fun _ _=>?_)|refine l_call0 (n1) (fun _ _=>?_)|refine ZA (n2) (fun _ _=>?_)|refine l_call0 (n2) (fun _ _=>?_)|refine Zl (es:=xs) (f:=rul) j _ hyj (fun b off=>?_)|refine Zm ?_|refine YF ?_|rw [w1]|(refine ZC (fun hc=>?_) (fun hc=>?_)<;>(try simp at hc)<;>(try omega))|(refine ZE (fun hc=>?_) (fun hc=>?_)<;>(try simp at hc)<;>(try omega)))
    all_goals exact ZZ ⟨(j+1,cs++tKeep.data.toList++[10]),by show j+1≤xs.length;omega,by show cs++tKeep.data.toList++[10]++txR (l.drop (j+1))=T;rw [←hR];simp only [List.append_assoc,List.nil_append]⟩ (by show xs.length - (j+1)<xs.length - j;omega) ⟨rfl,rfl,rfl,rfl,trivial⟩
   ·obtain rfl:=hk
    have q0:=Xe at_
    have m0:=X9 at_ (by omega)
    have hwz:(tComp++quoF at_).size≤300000:=by rw [YI];have:tComp.size=11:=rfl;omega
    have e0:actB ⟨2,at_⟩=(tComp++quoF at_):=rfl
    rw [e0] at hlen hR
    have n1:=ZU b3 cs (tComp++quoF at_) (by first|omega|(simp only [List.length_append,lsz];omega)) (by omega)
    have n2:=ZW b3 (cs++(tComp++quoF at_).data.toList) 10 (by simp only [List.length_append,lsz];omega)
    generalize hqq:quoF at_=qq at *
    repeat' (first|refine YC underlying100 (.inl ⟨rfl,rfl⟩) ?_|refine ZG ?_|refine ZH ?_|refine ZJ ?_|refine ZI ?_|refine ZL ?_|refine ZF ?_|refine ZO ?_|refine ZN (fun b=>?_)|refine ZM (fun b=>?_)|refine ZD ?_|refine ZB ?_|refine ZA (n1) (fun _ _=>?_)|refine l_call0 (n1) (fun _ _=>?_)|refine ZA (n2) (fun _ _=>?_)|refine l_call0 (n2) (fun _ _=>?_)|refine ZA (m0) (fun _ _=>?_)|refine l_call0 (m0) (fun _ _=>?_)|refine Zl (es:=xs) (f:=rul) j _ hyj (fun b off=>?_)|refine Zm ?_|refine YF ?_|rw [w1]|(refine ZC (fun hc=>?_) (fun hc=>?_)<;>(try simp at hc)<;>(try omega))|(refine ZE (fun hc=>?_) (fun hc=>?_)<;>(try simp at hc)<;>(try omega)))
    all_goals exact ZZ ⟨(j+1,cs++(tComp++qq).data.toList++[10]),by show j+1≤xs.length;omega,by show cs++(tComp++qq).data.toList++[10]++txR (l.drop (j+1))=T;rw [←hR];simp only [List.append_assoc,List.nil_append]⟩ (by show xs.length - (j+1)<xs.length - j;omega) ⟨rfl,rfl,rfl,rfl,trivial⟩
   ·obtain rfl:=hk
    have hwz:tSend.size≤300000:=by decide
    have e0:actB ⟨3,at_⟩=tSend:=rfl
    rw [e0] at hlen hR
    have n1:=ZU b3 cs tSend (by first|omega|(simp only [List.length_append,lsz];omega)) (by omega)
    have n2:=ZW b3 (cs++tSend.data.toList) 10 (by simp only [List.length_append,lsz];omega)
    repeat' (first|refine YC underlying100 (.inl ⟨rfl,rfl⟩) ?_|refine ZG ?_|refine ZH ?_|refine ZJ ?_|refine ZI ?_|refine ZL ?_|refine ZF ?_|refine ZO ?_|refine ZN (fun b=>?_)|refine ZM (fun b=>?_)|refine ZD ?_|refine ZB ?_|refine ZA (n1) (fun _ _=>?_)|refine l_call0 (n1) (fun _ _=>?_)|refine ZA (n2) (fun _ _=>?_)|refine l_call0 (n2) (fun _ _=>?_)|refine Zl (es:=xs) (f:=rul) j _ hyj (fun b off=>?_)|refine Zm ?_|refine YF ?_|rw [w1]|(refine ZC (fun hc=>?_) (fun hc=>?_)<;>(try simp at hc)<;>(try omega))|(refine ZE (fun hc=>?_) (fun hc=>?_)<;>(try simp at hc)<;>(try omega)))
    all_goals exact ZZ ⟨(j+1,cs++tSend.data.toList++[10]),by show j+1≤xs.length;omega,by show cs++tSend.data.toList++[10]++txR (l.drop (j+1))=T;rw [←hR];simp only [List.append_assoc,List.nil_append]⟩ (by show xs.length - (j+1)<xs.length - j;omega) ⟨rfl,rfl,rfl,rfl,trivial⟩
   ·obtain rfl:=hk
    have hwz:tHold.size≤300000:=by decide
    have e0:actB ⟨4,at_⟩=tHold:=rfl
    rw [e0] at hlen hR
    have n1:=ZU b3 cs tHold (by first|omega|(simp only [List.length_append,lsz];omega)) (by omega)
    have n2:=ZW b3 (cs++tHold.data.toList) 10 (by simp only [List.length_append,lsz];omega)
    repeat' (first|refine YC underlying100 (.inl ⟨rfl,rfl⟩) ?_|refine ZG ?_|refine ZH ?_|refine ZJ ?_|refine ZI ?_|refine ZL ?_|refine ZF ?_|refine ZO ?_|refine ZN (fun b=>?_)|refine ZM (fun b=>?_)|refine ZD ?_|refine ZB ?_|refine ZA (n1) (fun _ _=>?_)|refine l_call0 (n1) (fun _ _=>?_)|refine ZA (n2) (fun _ _=>?_)|refine l_call0 (n2) (fun _ _=>?_)|refine Zl (es:=xs) (f:=rul) j _ hyj (fun b off=>?_)|refine Zm ?_|refine YF ?_|rw [w1]|(refine ZC (fun hc=>?_) (fun hc=>?_)<;>(try simp at hc)<;>(try omega))|(refine ZE (fun hc=>?_) (fun hc=>?_)<;>(try simp at hc)<;>(try omega)))
    all_goals exact ZZ ⟨(j+1,cs++tHold.data.toList++[10]),by show j+1≤xs.length;omega,by show cs++tHold.data.toList++[10]++txR (l.drop (j+1))=T;rw [←hR];simp only [List.append_assoc,List.nil_append]⟩ (by show xs.length - (j+1)<xs.length - j;omega) ⟨rfl,rfl,rfl,rfl,trivial⟩
   ·obtain rfl:=hk
    have hwz:tAsk.size≤300000:=by decide
    have e0:actB ⟨5,at_⟩=tAsk:=rfl
    rw [e0] at hlen hR
    have n1:=ZU b3 cs tAsk (by first|omega|(simp only [List.length_append,lsz];omega)) (by omega)
    have n2:=ZW b3 (cs++tAsk.data.toList) 10 (by simp only [List.length_append,lsz];omega)
    repeat' (first|refine YC underlying100 (.inl ⟨rfl,rfl⟩) ?_|refine ZG ?_|refine ZH ?_|refine ZJ ?_|refine ZI ?_|refine ZL ?_|refine ZF ?_|refine ZO ?_|refine ZN (fun b=>?_)|refine ZM (fun b=>?_)|refine ZD ?_|refine ZB ?_|refine ZA (n1) (fun _ _=>?_)|refine l_call0 (n1) (fun _ _=>?_)|refine ZA (n2) (fun _ _=>?_)|refine l_call0 (n2) (fun _ _=>?_)|refine Zl (es:=xs) (f:=rul) j _ hyj (fun b off=>?_)|refine Zm ?_|refine YF ?_|rw [w1]|(refine ZC (fun hc=>?_) (fun hc=>?_)<;>(try simp at hc)<;>(try omega))|(refine ZE (fun hc=>?_) (fun hc=>?_)<;>(try simp at hc)<;>(try omega)))
    all_goals exact ZZ ⟨(j+1,cs++tAsk.data.toList++[10]),by show j+1≤xs.length;omega,by show cs++tAsk.data.toList++[10]++txR (l.drop (j+1))=T;rw [←hR];simp only [List.append_assoc,List.nil_append]⟩ (by show xs.length - (j+1)<xs.length - j;omega) ⟨rfl,rfl,rfl,rfl,trivial⟩
  ·have hlen:=congrArg List.length hR
   simp only [lnR,List.length_append,List.length_singleton,List.length_nil] at hlen
   simp only [lnR] at hR
   rw [lsz (actB _)] at hlen
   obtain ⟨hw,hz,hv⟩:=hx.c d rfl
   have e3:tIf.data.toList.length=3:=rfl
   have e5:tIf.size=3:=rfl
   have e6:tCol.size=2:=rfl
   have e4:tCol.data.toList.length=2:=rfl
   rw [e3,e4] at hlen
   have n3:=ZU b3 cs tIf (by omega) (by decide)
   have n4:=Wm d hw (by omega) (ivOf (T1,u)) b3 (cs++tIf.data.toList) (by rw [List.length_append,e3];omega)
   have n5:=ZU b3 (cs++tIf.data.toList++wrC d) tCol (by simp only [List.length_append,e3];omega) (by decide)
   rcases hk with hk|hk|hk|hk|hk
   ·obtain rfl:=hk
    have hwz:tKeep.size≤300000:=by decide
    have e0:actB ⟨1,at_⟩=tKeep:=rfl
    rw [e0] at hlen hR
    have n1:=ZU b3 (cs++tIf.data.toList++wrC d++tCol.data.toList) tKeep (by first|omega|(simp only [List.length_append,lsz];omega)) (by omega)
    have n2:=ZW b3 ((cs++tIf.data.toList++wrC d++tCol.data.toList)++tKeep.data.toList) 10 (by simp only [List.length_append,lsz];omega)
    repeat' (first|refine YC underlying100 (.inr ⟨⟨_,_,rfl⟩,rfl⟩) ?_|refine ZG ?_|refine ZH ?_|refine ZJ ?_|refine ZI ?_|refine ZL ?_|refine ZF ?_|refine ZO ?_|refine ZN (fun b=>?_)|refine ZM (fun b=>?_)|refine ZD ?_|refine ZB ?_|refine ZA (n1) (fun _ _=>?_)|refine l_call0 (n1) (fun _ _=>?_)|refine ZA (n2) (fun _ _=>?_)|refine l_call0 (n2) (fun _ _=>?_)|refine ZA (n3) (fun _ _=>?_)|refine l_call0 (n3) (fun _ _=>?_)|refine ZA (n5) (fun _ _=>?_)|refine l_call0 (n5) (fun _ _=>?_)|refine YS n4 (fun _ _=>?_)|refine Zl (es:=xs) (f:=rul) j _ hyj (fun b off=>?_)|refine Zm ?_|refine YF ?_|rw [w1]|(refine ZC (fun hc=>?_) (fun hc=>?_)<;>(try simp at hc)<;>(try omega))|(refine ZE (fun hc=>?_) (fun hc=>?_)<;>(try simp at hc)<;>(try omega)))
    all_goals exact ZZ ⟨(j+1,(cs++tIf.data.toList++wrC d++tCol.data.toList)++tKeep.data.toList++[10]),by show j+1≤xs.length;omega,by show (cs++tIf.data.toList++wrC d++tCol.data.toList)++tKeep.data.toList++[10]++txR (l.drop (j+1))=T;rw [←hR];simp only [List.append_assoc,List.nil_append]⟩ (by show xs.length - (j+1)<xs.length - j;omega) ⟨rfl,rfl,rfl,rfl,trivial⟩
   ·obtain rfl:=hk
    have q0:=Xe at_
    have m0:=X9 at_ (by omega)
    have hwz:(tComp++quoF at_).size≤300000:=by rw [YI];have:tComp.size=11:=rfl;omega
    have e0:actB ⟨2,at_⟩=(tComp++quoF at_):=rfl
    rw [e0] at hlen hR
    have n1:=ZU b3 (cs++tIf.data.toList++wrC d++tCol.data.toList) (tComp++quoF at_) (by first|omega|(simp only [List.length_append,lsz];omega)) (by omega)
    have n2:=ZW b3 ((cs++tIf.data.toList++wrC d++tCol.data.toList)++(tComp++quoF at_).data.toList) 10 (by simp only [List.length_append,lsz];omega)
    generalize hqq:quoF at_=qq at *
    repeat' (first|refine YC underlying100 (.inr ⟨⟨_,_,rfl⟩,rfl⟩) ?_|refine ZG ?_|refine ZH ?_|refine ZJ ?_|refine ZI ?_|refine ZL ?_|refine ZF ?_|refine ZO ?_|refine ZN (fun b=>?_)|refine ZM (fun b=>?_)|refine ZD ?_|refine ZB ?_|refine ZA (n1) (fun _ _=>?_)|refine l_call0 (n1) (fun _ _=>?_)|refine ZA (n2) (fun _ _=>?_)|refine l_call0 (n2) (fun _ _=>?_)|refine ZA (m0) (fun _ _=>?_)|refine l_call0 (m0) (fun _ _=>?_)|refine ZA (n3) (fun _ _=>?_)|refine l_call0 (n3) (fun _ _=>?_)|refine ZA (n5) (fun _ _=>?_)|refine l_call0 (n5) (fun _ _=>?_)|refine YS n4 (fun _ _=>?_)|refine Zl (es:=xs) (f:=rul) j _ hyj (fun b off=>?_)|refine Zm ?_|refine YF ?_|rw [w1]|(refine ZC (fun hc=>?_) (fun hc=>?_)<;>(try simp at hc)<;>(try omega))|(refine ZE (fun hc=>?_) (fun hc=>?_)<;>(try simp at hc)<;>(try omega)))
    all_goals exact ZZ ⟨(j+1,(cs++tIf.data.toList++wrC d++tCol.data.toList)++(tComp++qq).data.toList++[10]),by show j+1≤xs.length;omega,by show (cs++tIf.data.toList++wrC d++tCol.data.toList)++(tComp++qq).data.toList++[10]++txR (l.drop (j+1))=T;rw [←hR];simp only [List.append_assoc,List.nil_append]⟩ (by show xs.length - (j+1)<xs.length - j;omega) ⟨rfl,rfl,rfl,rfl,trivial⟩
   ·obtain rfl:=hk
    have hwz:tSend.size≤300000:=by decide
    have e0:actB ⟨3,at_⟩=tSend:=rfl
    rw [e0] at hlen hR
    have n1:=ZU b3 (cs++tIf.data.toList++wrC d++tCol.data.toList) tSend (by first|omega|(simp only [List.length_append,lsz];omega)) (by omega)
    have n2:=ZW b3 ((cs++tIf.data.toList++wrC d++tCol.data.toList)++tSend.data.toList) 10 (by simp only [List.length_append,lsz];omega)
    repeat' (first|refine YC underlying100 (.inr ⟨⟨_,_,rfl⟩,rfl⟩) ?_|refine ZG ?_|refine ZH ?_|refine ZJ ?_|refine ZI ?_|refine ZL ?_|refine ZF ?_|refine ZO ?_|refine ZN (fun b=>?_)|refine ZM (fun b=>?_)|refine ZD ?_|refine ZB ?_|refine ZA (n1) (fun _ _=>?_)|refine l_call0 (n1) (fun _ _=>?_)|refine ZA (n2) (fun _ _=>?_)|refine l_call0 (n2) (fun _ _=>?_)|refine ZA (n3) (fun _ _=>?_)|refine l_call0 (n3) (fun _ _=>?_)|refine ZA (n5) (fun _ _=>?_)|refine l_call0 (n5) (fun _ _=>?_)|refine YS n4 (fun _ _=>?_)|refine Zl (es:=xs) (f:=rul) j _ hyj (fun b off=>?_)|refine Zm ?_|refine YF ?_|rw [w1]|(refine ZC (fun hc=>?_) (fun hc=>?_)<;>(try simp at hc)<;>(try omega))|(refine ZE (fun hc=>?_) (fun hc=>?_)<;>(try simp at hc)<;>(try omega)))
    all_goals exact ZZ ⟨(j+1,(cs++tIf.data.toList++wrC d++tCol.data.toList)++tSend.data.toList++[10]),by show j+1≤xs.length;omega,by show (cs++tIf.data.toList++wrC d++tCol.data.toList)++tSend.data.toList++[10]++txR (l.drop (j+1))=T;rw [←hR];simp only [List.append_assoc,List.nil_append]⟩ (by show xs.length - (j+1)<xs.length - j;omega) ⟨rfl,rfl,rfl,rfl,trivial⟩
   ·obtain rfl:=hk
    have hwz:tHold.size≤300000:=by decide
    have e0:actB ⟨4,at_⟩=tHold:=rfl
    rw [e0] at hlen hR
    have n1:=ZU b3 (cs++tIf.data.toList++wrC d++tCol.data.toList) tHold (by first|omega|(simp only [List.length_append,lsz];omega)) (by omega)
    have n2:=ZW b3 ((cs++tIf.data.toList++wrC d++tCol.data.toList)++tHold.data.toList) 10 (by simp only [List.length_append,lsz];omega)
    repeat' (first|refine YC underlying100 (.inr ⟨⟨_,_,rfl⟩,rfl⟩) ?_|refine ZG ?_|refine ZH ?_|refine ZJ ?_|refine ZI ?_|refine ZL ?_|refine ZF ?_|refine ZO ?_|refine ZN (fun b=>?_)|refine ZM (fun b=>?_)|refine ZD ?_|refine ZB ?_|refine ZA (n1) (fun _ _=>?_)|refine l_call0 (n1) (fun _ _=>?_)|refine ZA (n2) (fun _ _=>?_)|refine l_call0 (n2) (fun _ _=>?_)|refine ZA (n3) (fun _ _=>?_)|refine l_call0 (n3) (fun _ _=>?_)|refine ZA (n5) (fun _ _=>?_)|refine l_call0 (n5) (fun _ _=>?_)|refine YS n4 (fun _ _=>?_)|refine Zl (es:=xs) (f:=rul) j _ hyj (fun b off=>?_)|refine Zm ?_|refine YF ?_|rw [w1]|(refine ZC (fun hc=>?_) (fun hc=>?_)<;>(try simp at hc)<;>(try omega))|(refine ZE (fun hc=>?_) (fun hc=>?_)<;>(try simp at hc)<;>(try omega)))
    all_goals exact ZZ ⟨(j+1,(cs++tIf.data.toList++wrC d++tCol.data.toList)++tHold.data.toList++[10]),by show j+1≤xs.length;omega,by show (cs++tIf.data.toList++wrC d++tCol.data.toList)++tHold.data.toList++[10]++txR (l.drop (j+1))=T;rw [←hR];simp only [List.append_assoc,List.nil_append]⟩ (by show xs.length - (j+1)<xs.length - j;omega) ⟨rfl,rfl,rfl,rfl,trivial⟩
   ·obtain rfl:=hk
    have hwz:tAsk.size≤300000:=by decide
    have e0:actB ⟨5,at_⟩=tAsk:=rfl
    rw [e0] at hlen hR
    have n1:=ZU b3 (cs++tIf.data.toList++wrC d++tCol.data.toList) tAsk (by first|omega|(simp only [List.length_append,lsz];omega)) (by omega)
    have n2:=ZW b3 ((cs++tIf.data.toList++wrC d++tCol.data.toList)++tAsk.data.toList) 10 (by simp only [List.length_append,lsz];omega)
    repeat' (first|refine YC underlying100 (.inr ⟨⟨_,_,rfl⟩,rfl⟩) ?_|refine ZG ?_|refine ZH ?_|refine ZJ ?_|refine ZI ?_|refine ZL ?_|refine ZF ?_|refine ZO ?_|refine ZN (fun b=>?_)|refine ZM (fun b=>?_)|refine ZD ?_|refine ZB ?_|refine ZA (n1) (fun _ _=>?_)|refine l_call0 (n1) (fun _ _=>?_)|refine ZA (n2) (fun _ _=>?_)|refine l_call0 (n2) (fun _ _=>?_)|refine ZA (n3) (fun _ _=>?_)|refine l_call0 (n3) (fun _ _=>?_)|refine ZA (n5) (fun _ _=>?_)|refine l_call0 (n5) (fun _ _=>?_)|refine YS n4 (fun _ _=>?_)|refine Zl (es:=xs) (f:=rul) j _ hyj (fun b off=>?_)|refine Zm ?_|refine YF ?_|rw [w1]|(refine ZC (fun hc=>?_) (fun hc=>?_)<;>(try simp at hc)<;>(try omega))|(refine ZE (fun hc=>?_) (fun hc=>?_)<;>(try simp at hc)<;>(try omega)))
    all_goals exact ZZ ⟨(j+1,(cs++tIf.data.toList++wrC d++tCol.data.toList)++tAsk.data.toList++[10]),by show j+1≤xs.length;omega,by show (cs++tIf.data.toList++wrC d++tCol.data.toList)++tAsk.data.toList++[10]++txR (l.drop (j+1))=T;rw [←hR];simp only [List.append_assoc,List.nil_append]⟩ (by show xs.length - (j+1)<xs.length - j;omega) ⟨rfl,rfl,rfl,rfl,trivial⟩
 ·rw [List.drop_eq_nil_of_le (by omega)] at hR
  have hR:cs++[]=T:=hR
  rw [List.append_nil] at hR
  subst hR
  have n1:=Y3 b3 cs (by omega)
  repeat' (first|refine ZG ?_|refine ZH ?_|refine ZJ ?_|refine ZI ?_|refine ZL ?_|refine ZF ?_|refine ZO ?_|refine ZN (fun b=>?_)|refine ZM (fun b=>?_)|refine ZD ?_|refine ZB ?_|refine ZK ?_|refine ZA (n1) (fun _ _=>?_)|refine l_call0 (n1) (fun _ _=>?_)|(refine ZC (fun hc=>?_) (fun hc=>?_)<;>(try simp at hc)<;>(try omega))|(refine ZE (fun hc=>?_) (fun hc=>?_)<;>(try simp at hc)<;>(try omega)))
  exact ZP () rfl trivial
theorem YY (p q:Value) (F:List Pf) (s t:ByteArray) (h1:Enters 32∧Spec prog 32 #[p] F [] (RetV (.string s))) (h2:Enters 32∧Spec prog 32 #[q] F [] (RetV (.string t))) :
  Enters 33∧Spec prog 33 #[p,q] F [] (RetV (.bool (s.toList == t.toList))):=by
 refine ZR [_,_] func33 ntmps33 fun G w hp=>?_
 repeat' (first|refine ZG ?_|refine ZH ?_|refine ZJ ?_|refine ZI ?_|refine ZL ?_|refine ZF ?_|refine ZO ?_|refine ZN (fun b=>?_)|refine ZM (fun b=>?_)|refine ZD ?_|refine ZB ?_|refine ZK ?_|refine ZA h1 (fun _ _=>?_) (hF:=entF_self _)|refine ZA h2 (fun _ _=>?_) (hF:=entF_app _ _)|(refine ZC (fun hc=>?_) (fun hc=>?_)<;>(try simp at hc))|(refine ZE (fun hc=>?_) (fun hc=>?_)<;>(try simp at hc)))
 exact ZP () rfl trivial
variable {z:Operand}
section
variable {y2:Operand}
end
theorem blk_sl {α:Type} {b:Nat} {cs:Array Value} {T U:Nat} {f:α→List Value} {es:List α} {cap:Nat} {h:H} (hb:(Blk b (.cells cs U)).p h) (e:cs.toList=es.flatMap f) (hc:es.length≤cap):(Sl T f (some ⟨b,0,none⟩) cap es).p h:=
 ⟨hc,.inr ⟨b,cs,(U,0,0),[],[],rfl,hb,by rw [e];simp⟩⟩
def tmZ (o:Option Nat):Value:=match o with
 | none=>.int .i64 (-1)
 | some i=>.int .i64 (i:Int)
abbrev skl (s:ByteArray):List Value:=[.string s]
def fldP (r:List UInt8) (j:Nat):Nat:=(wFlds.take j).foldl (fun n w=>if (w.data.toList++[125]).isPrefixOf r then w.size+1 else n) 0
section
variable {n:Nat} {C:Cx} {Q:Exit→Act→World→Prop} {E E':List (Nat×Value)} {F F' F1 Fs F0:List Pf} {R R' R0 Rs N N' A:List HP} {k k':List Fr} {ops l:List Oper} {L L':List (Nat×Nat)} {Tl:List Nat} {i d:Nat} {t ty0:TypeId} {x y z:Operand} {pos:String} {aft:Array Edge} {gd:Option (Nat×Bool)} {α β:Type} [DecidableEq α] {K:α→Value} {V:β→Value}
end
def clmp (a:Int):Int:=if a < -1099511627776 then -1099511627776 else a
theorem clmp_ge (a:Int) : -1099511627776≤clmp a:=by unfold clmp;split<;>omega
theorem clmp_le {a:Int} (h:a≤9223372036854775807):clmp a≤9223372036854775807:=by unfold clmp;split<;>omega
def shO (o:Ou):Ou:=⟨clmp o.ch,cutS o.tg 80,cutS o.tx 3000,clmp o.us⟩
def shF (c:Cq):Cq:=⟨c.kind,cutS c.who 80,clmp c.nu,c.place,shO c.old,clmp c.oldAt,shO c.new,clmp c.newAt⟩
theorem shF_s (c:Cq):CqS (shF c):=by
 constructor
 ·exact Nat.le_trans (Ym _ _) (by omega)
 ·exact Nat.le_trans (Ym _ _) (by omega)
 ·exact Nat.le_trans (Ym _ _) (by omega)
 ·exact Nat.le_trans (Ym _ _) (by omega)
 ·exact Nat.le_trans (Ym _ _) (by omega)
structure CqW (c:Cq):Prop where
 nu:c.nu≤9223372036854775807
 ou:c.old.us≤9223372036854775807
 oa:c.oldAt≤9223372036854775807
 eu:c.new.us≤9223372036854775807
 ea:c.newAt≤9223372036854775807
structure CqJ (c:Cq):Prop where
 i:CqI c
 n0 : -1099511627776≤c.nu
 u0 : -1099511627776≤(subO c).us
 t0 : -1099511627776≤subT c
theorem shF_j {c:Cq} (h:CqW c):CqJ (shF c):=by
 have e:∀k:Prop,∀_:Decidable k,∀a b:Int,(if k then clmp a else clmp b)=clmp (if k then a else b):=fun k _ a b=>by split<;>rfl
 have u1:(subO (shF c)).us=clmp (subO c).us:=by
  unfold subO
  show (if c.kind=4 then shO c.new else shO c.old).us=clmp (if c.kind=4 then c.new else c.old).us
  split<;>rfl
 have t1:subT (shF c)=clmp (subT c):=e _ _ _ _
 have n1:(shF c).nu=clmp c.nu:=rfl
 have u2:(subO c).us≤9223372036854775807:=by
  unfold subO;split
  ·exact h.eu
  ·exact h.ou
 have t2:subT c≤9223372036854775807:=by
  unfold subT;split
  ·exact h.ea
  ·exact h.oa
 have a1:=clmp_ge c.nu;have a2:=clmp_ge (subO c).us;have a3:=clmp_ge (subT c)
 exact ⟨⟨by omega,by rw [n1];exact clmp_le h.nu,by omega,by rw [u1];exact clmp_le u2,by omega,by rw [t1];exact clmp_le t2⟩,by omega,by omega,by omega⟩
def shP (j:Nat) (c:Cq):Cq:=match j with
 | 0=>c
 | 1=>{c with old:=shO c.old}
 | _=>{c with old:=shO c.old,new:=shO c.new}
set_option maxHeartbeats 4000000 in
theorem shortM_ok (c:Cq):Enters 13∧Spec prog 13 #[cqa c] [] [] (RetV (cqa (shF c))):=by
 refine ZR [_] func13 ntmps13 fun G w hp=>?_
 repeat' (first|refine ZG ?_|refine ZH ?_|refine ZJ ?_|refine ZI ?_|refine ZL ?_|refine ZF ?_|refine ZO ?_|refine ZN (fun b=>?_)|refine ZM (fun b=>?_)|refine ZD ?_|refine ZB ?_|(refine ZC (fun hc=>?_) (fun hc=>?_)<;>(try simp at hc))|(refine ZE (fun hc=>?_) (fun hc=>?_)<;>(try simp at hc)))
 rename_i b1 b2
 refine k_fz (b:=b) (o:=.cells #[.pointer (some ⟨b1,4,none⟩),.pointer (some ⟨b1,9,none⟩)] 75) ?_
 refine Z2 (F1:=[Blk b (.cells #[.pointer (some ⟨b1,4,none⟩),.pointer (some ⟨b1,9,none⟩)] 75)]) (f:=Sl 75 (fun v:Value=>[v]) (some ⟨b,0,none⟩) 2 [.pointer (some ⟨b1,4,none⟩),.pointer (some ⟨b1,9,none⟩)]) (fun hp hF=>blk_sl (hF _ (.head _)) rfl (Nat.le_refl 2)) ?_
 refine Yu (X:={j:Nat // j≤2}) (fun j=>[(1,pv0 b1),(2,pv0 b2),(7,.slice (some ⟨b,0,none⟩) 2 2),(8,.int .i64 2),(9,.int .i64 (j.1:Int))]) (fun _=>[Sl 75 (fun v:Value=>[v]) (some ⟨b,0,none⟩) 2 [.pointer (some ⟨b1,4,none⟩),.pointer (some ⟨b1,9,none⟩)]]) (fun j=>[Pt b2 (.cells (cqf cq0).toArray 26),Pt b1 (.cells (cqf (shP j.1 c)).toArray 26)]) (fun j=>2 - j.1) ⟨0,by omega⟩ ⟨rfl,rfl,rfl,rfl,rfl,trivial⟩ ?_
 rintro ⟨j,hj⟩
 dsimp only
 by_cases h0:j=0
 ·subst h0
  repeat' (first|refine ZG ?_|refine ZH ?_|refine ZJ ?_|refine ZI ?_|refine ZL ?_|refine ZF ?_|refine ZO ?_|refine ZN (fun b=>?_)|refine ZM (fun b=>?_)|refine ZD ?_|refine ZB ?_|refine Zg ?_|refine Zf ?_|refine Zv ?_|refine Zd ?_|refine Ze ?_|refine Zw (fun b=>?_)|refine Zx (fun b=>?_)|refine Zz ?_|refine Zh ?_|refine Zl (es:=[Value.pointer (some ⟨b1,4,none⟩),.pointer (some ⟨b1,9,none⟩)]) (f:=fun v:Value=>[v]) 0 _ rfl (fun b off=>?_)|refine Zm ?_|refine r_cutS 80 ?_|refine r_cutS 3000 ?_|refine r_up ?_|(refine ZC (fun hc=>?_) (fun hc=>?_)<;>(try simp at hc)<;>(try omega))|(refine ZX (fun hc=>?_) (fun hc=>?_)<;>(try simp at hc)<;>(try omega))|refine ZS 4 [Pt b1 _] [(0,0),(1,0),(2,0),(3,0),(4,0),(6,0),(7,0),(8,0),(13,0),(14,0),(15,0),(17,0),(18,0),(19,0),(5,3),(9,3),(10,0),(11,0),(12,0),(16,3),(20,3),(21,0),(22,0),(23,0),(24,0),(25,0),(26,4),(27,0),(28,0)] [29] ?_|refine ZS 5 [Pt b1 _] [(0,0),(1,0),(2,0),(3,0),(4,0),(7,0),(8,0),(9,0),(5,3),(6,0),(10,3),(11,0),(12,0),(13,0),(14,4),(15,0),(16,0)] [17] ?_|(refine ZE (fun hc=>?_) (fun hc=>?_)<;>(try simp at hc)<;>(try omega)))
  exact ZZ ⟨1,by omega⟩ (by show 2 - 1<2 - 0;omega) ⟨rfl,rfl,rfl,rfl,rfl,trivial⟩
 by_cases h1:j=1
 ·subst h1
  repeat' (first|refine ZG ?_|refine ZH ?_|refine ZJ ?_|refine ZI ?_|refine ZL ?_|refine ZF ?_|refine ZO ?_|refine ZN (fun b=>?_)|refine ZM (fun b=>?_)|refine ZD ?_|refine ZB ?_|refine Zg ?_|refine Zf ?_|refine Zv ?_|refine Zd ?_|refine Ze ?_|refine Zw (fun b=>?_)|refine Zx (fun b=>?_)|refine Zz ?_|refine Zh ?_|refine Zl (es:=[Value.pointer (some ⟨b1,4,none⟩),.pointer (some ⟨b1,9,none⟩)]) (f:=fun v:Value=>[v]) 1 _ rfl (fun b off=>?_)|refine Zm ?_|refine r_cutS 80 ?_|refine r_cutS 3000 ?_|refine r_up ?_|(refine ZC (fun hc=>?_) (fun hc=>?_)<;>(try simp at hc)<;>(try omega))|(refine ZX (fun hc=>?_) (fun hc=>?_)<;>(try simp at hc)<;>(try omega))|refine ZS 4 [Pt b1 _] [(0,0),(1,0),(2,0),(3,0),(4,0),(6,0),(7,0),(8,0),(13,0),(14,0),(15,0),(17,0),(18,0),(19,0),(5,3),(9,3),(10,0),(11,0),(12,0),(16,3),(20,3),(21,0),(22,0),(23,0),(24,0),(25,0),(26,4),(27,0),(28,0)] [29] ?_|refine ZS 5 [Pt b1 _] [(0,0),(1,0),(2,0),(3,0),(4,0),(7,0),(8,0),(9,0),(5,3),(6,0),(10,3),(11,0),(12,0),(13,0),(14,4),(15,0),(16,0)] [17] ?_|(refine ZE (fun hc=>?_) (fun hc=>?_)<;>(try simp at hc)<;>(try omega)))
  exact ZZ ⟨2,by omega⟩ (by show 2 - 2<2 - 1;omega) ⟨rfl,rfl,rfl,rfl,rfl,trivial⟩
 ·obtain rfl:j=2:=by omega
  repeat' (first|refine ZG ?_|refine ZH ?_|refine ZJ ?_|refine ZI ?_|refine ZL ?_|refine ZF ?_|refine ZO ?_|refine ZN (fun b=>?_)|refine ZM (fun b=>?_)|refine ZD ?_|refine ZB ?_|refine ZK ?_|refine l_cutS 80 ?_|(refine ZC (fun hc=>?_) (fun hc=>?_)<;>(try simp at hc)<;>(try omega))|(refine ZE (fun hc=>?_) (fun hc=>?_)<;>(try simp at hc)<;>(try omega)))
  exact ZP () rfl trivial
theorem cutM_ok (s:ByteArray):Enters 26∧Spec prog 26 #[.string s] [] [] (RetV (.string (cutS s 1000))):=by
 refine ZR [_] func26 ntmps26 fun G w hp=>?_
 repeat' (first|refine ZG ?_|refine ZH ?_|refine ZJ ?_|refine ZI ?_|refine ZL ?_|refine ZF ?_|refine ZO ?_|refine ZN (fun b=>?_)|refine ZM (fun b=>?_)|refine ZD ?_|refine ZB ?_|refine ZK ?_|refine l_cutS 1000 ?_|refine r_cutS 1000 ?_|(refine ZC (fun hc=>?_) (fun hc=>?_)<;>(try simp at hc))|(refine ZE (fun hc=>?_) (fun hc=>?_)<;>(try simp at hc)))
 exact ZP () rfl trivial
theorem par_err {s:ByteArray} {x:Int×Int×Int} (h:parF s = .error x):x.2.2≠0:=by
 have go:∀(l:List (List UInt8)) (i:Nat) (acc:List Ru),rowsF l i acc = .error x→x.2.2≠0:=by
  intro l
  induction l with
  | nil=>intro i acc h;cases h
  | cons s l ih=>
   intro i acc h
   unfold rowsF at h
   split at h
   ·exact ih _ _ h
   ·split at h
    ·exact ih _ _ h
    ·rename_i he
     obtain rfl:=Except.error.inj h
     exact he
 unfold parF at h
 split at h
 ·obtain rfl:=Except.error.inj h
  exact (by decide:(5:Int)≠0)
 ·exact go _ _ _ h
def niS:ByteArray:=⟨#[35,32,110,111,116,104,105,110,103,10,10,32,9]⟩
theorem ni_par:parF niS = .ok []:=by kernel_rfl
theorem dec_nil (c:Cq):decideF [] c=if posF 5 c.kind=false then (⟨0,ofL []⟩,-1) else (⟨5,ofL []⟩,-1):=rfl
set_option maxHeartbeats 4000000 in
theorem ruDecide0_ok (c:Cq):Enters 22∧Spec prog 22 #[.pointer none,cqa c] [] [] (RetV (DeV (decideF [] c))):=by
 have n1:=We
 have m1:=Xm 5 c.kind
 rw [dec_nil]
 cases hp5:posF 5 c.kind with
 | false=>
  rw [hp5] at m1
  rw [if_pos rfl]
  refine ZR [_,_] func22 ntmps22 fun G w hp=>?_
  repeat' (first|refine ZG ?_|refine ZH ?_|refine ZJ ?_|refine ZI ?_|refine ZL ?_|refine ZF ?_|refine ZO ?_|refine ZN (fun b=>?_)|refine ZM (fun b=>?_)|refine ZD ?_|refine ZB ?_|refine ZK ?_|refine ZA (m1) (fun _ _=>?_)|refine l_call0 (m1) (fun _ _=>?_)|(refine ZC (fun hc=>?_) (fun hc=>?_)<;>(try simp at hc)<;>(try omega))|(refine ZE (fun hc=>?_) (fun hc=>?_)<;>(try simp at hc)<;>(try omega)))
  all_goals exact ZP () rfl trivial
 | true=>
  rw [hp5] at m1
  rw [if_neg (by decide)]
  refine ZR [_,_] func22 ntmps22 fun G w hp=>?_
  repeat' (first|refine ZG ?_|refine ZH ?_|refine ZJ ?_|refine ZI ?_|refine ZL ?_|refine ZF ?_|refine ZO ?_|refine ZN (fun b=>?_)|refine ZM (fun b=>?_)|refine ZD ?_|refine ZB ?_|refine ZA (m1) (fun _ _=>?_)|refine l_call0 (m1) (fun _ _=>?_)|refine ZA (n1) (fun _ _=>?_)|refine l_call0 (n1) (fun _ _=>?_)|(refine ZC (fun hc=>?_) (fun hc=>?_)<;>(try simp at hc)<;>(try omega))|(refine ZE (fun hc=>?_) (fun hc=>?_)<;>(try simp at hc)<;>(try omega)))
  rename_i b3 _ _ _ _
  generalize b=b4 at *
  refine Yu (X:=Unit) (fun _=>[(3,pv0 b3),(4,pv0 b4),(16,.int .i64 0),(17,.int .i64 0)]) (fun _=>[]) (fun _=>[Pt b3 (.cells (cqf c).toArray 26),Pt b4 (.cells #[.int .i64 0,.string ⟨#[]⟩] 43)]) (fun _=>0) () ⟨rfl,rfl,rfl,rfl,trivial⟩ ?_
  intro _
  repeat' (first|refine ZG ?_|refine ZH ?_|refine ZJ ?_|refine ZI ?_|refine ZL ?_|refine ZF ?_|refine ZO ?_|refine ZN (fun b=>?_)|refine ZM (fun b=>?_)|refine ZD ?_|refine ZB ?_|refine ZK ?_|(refine ZC (fun hc=>?_) (fun hc=>?_)<;>(try simp at hc)<;>(try omega))|(refine ZE (fun hc=>?_) (fun hc=>?_)<;>(try simp at hc)<;>(try omega)))
  exact ZP () rfl trivial
set_option maxHeartbeats 8000000 in
theorem lawNil_ok (s:ByteArray) (i:Int) (c:Cq) (hw:CqW c):Enters 11∧Spec prog 11 #[.string s,.int .i64 i,cqa c] [ErA,P10,MxL] [] (RetV (.bool true)):=by
 have n0:=shortM_ok c
 have hj:=shF_j hw
 have hq:=shF_s c
 generalize shF c=e at *
 have n1:=known51_ok
 have n2:=cutM_ok s
 have hcz:=Ym s 1000
 generalize cutS s 1000=u at *
 have p0:=X3 niS (by decide)
 rw [ni_par] at p0
 have p1:=X3 u (by omega)
 have h0:=ruHolds0_ok i e
 have d0:=ruDecide0_ok e
 have d1:=fun b=>Y2 b [] e hj.i hq (show 0≤70000 by decide) (fun x hx=>by cases hx) (by decide)
 have l0:=We
 have l1:=fun b=>Xf b []
 have t0:=ruText0_ok
 have t1:=fun b=>Wp b [] (M:=0) (by decide) (fun x hx=>by cases hx) (by decide) (by decide)
 simp only [show txR []=[] from rfl] at t1
 have q0:=fun b=>YY (.pointer none) (pv0 b) [RlsF b []] (ofL []) (ofL []) (t0.imp_right fun h=>specMore (F:=[]) h) (t1 b)
 have q1:=fun b=>YY (pv0 b) (.pointer none) [RlsF b []] (ofL []) (ofL []) (t1 b) (t0.imp_right fun h=>specMore (F:=[]) h)
 have b0:((ofL []).toList == (ofL []).toList)=true:=beqT rfl
 rw [b0] at q0 q1
 have bE:((ofL []).toList == (⟨#[]⟩:ByteArray).toList)=true:=beqT rfl
 have i5:=pos_iff 5 e.kind
 rw [dec_nil] at d0 d1
 have c5:(posF 5 e.kind=true∧2≤e.kind∧e.kind≤4)∨(posF 5 e.kind=false∧¬(2≤e.kind∧e.kind≤4)):=by
  cases h5:posF 5 e.kind with
  | true=>have:=i5.1 h5;exact .inl ⟨rfl,by omega,by omega⟩
  | false=>exact .inr ⟨rfl,fun h=>by have:=i5.2 (by omega);rw [h5] at this;cases this⟩
 rcases c5 with ⟨c5,k2,k4⟩|⟨c5,k2⟩<;>rw [c5] at d0 d1
 ·rw [if_neg (by decide)] at d0 d1
  cases hpu:parF u with
  | error x=>
   rw [hpu] at p1
   have hne:=par_err hpu
   refine ZR [_,_,_] func11 ntmps11 fun G w hp=>?_
   repeat' (first|rw [bE]|refine ZG ?_|refine ZH ?_|refine ZJ ?_|refine ZI ?_|refine ZL ?_|refine ZF ?_|refine ZO ?_|refine ZN (fun b=>?_)|refine ZM (fun b=>?_)|refine ZD ?_|refine ZB ?_|refine ZK ?_|refine ZA (n0) (fun _ _=>?_)|refine l_call0 (n0) (fun _ _=>?_)|refine ZA (n1) (fun _ _=>?_)|refine l_call0 (n1) (fun _ _=>?_)|refine ZA (n2) (fun _ _=>?_)|refine l_call0 (n2) (fun _ _=>?_)|refine ZA (p0) (fun _ _=>?_)|refine l_call0 (p0) (fun _ _=>?_)|refine ZA (p1) (fun _ _=>?_)|refine l_call0 (p1) (fun _ _=>?_)|refine ZA (h0) (fun _ _=>?_)|refine l_call0 (h0) (fun _ _=>?_)|refine ZA (d0) (fun _ _=>?_)|refine l_call0 (d0) (fun _ _=>?_)|refine ZA (d1 _) (fun _ _=>?_)|refine l_call0 (d1 _) (fun _ _=>?_)|refine ZA (l0) (fun _ _=>?_)|refine l_call0 (l0) (fun _ _=>?_)|refine ZA (l1 _) (fun _ _=>?_)|refine l_call0 (l1 _) (fun _ _=>?_)|refine ZA (t0) (fun _ _=>?_)|refine l_call0 (t0) (fun _ _=>?_)|refine ZA (t1 _) (fun _ _=>?_)|refine l_call0 (t1 _) (fun _ _=>?_)|refine ZA (q0 _) (fun _ _=>?_)|refine l_call0 (q0 _) (fun _ _=>?_)|refine ZA (q1 _) (fun _ _=>?_)|refine l_call0 (q1 _) (fun _ _=>?_)|refine X6 ?_|(refine ZC (fun hc=>?_) (fun hc=>?_)<;>(try simp at hc)<;>(try omega))|(refine ZE (fun hc=>?_) (fun hc=>?_)<;>(try simp at hc)<;>(try omega)))
   all_goals exact ZP () rfl trivial
  | ok l=>
   rw [hpu] at p1
   by_cases hl0:l=[]
   ·subst hl0
    refine ZR [_,_,_] func11 ntmps11 fun G w hp=>?_
    repeat' (first|rw [bE]|refine ZG ?_|refine ZH ?_|refine ZJ ?_|refine ZI ?_|refine ZL ?_|refine ZF ?_|refine ZO ?_|refine ZN (fun b=>?_)|refine ZM (fun b=>?_)|refine ZD ?_|refine ZB ?_|refine ZK ?_|refine ZA (n0) (fun _ _=>?_)|refine l_call0 (n0) (fun _ _=>?_)|refine ZA (n1) (fun _ _=>?_)|refine l_call0 (n1) (fun _ _=>?_)|refine ZA (n2) (fun _ _=>?_)|refine l_call0 (n2) (fun _ _=>?_)|refine ZA (p0) (fun _ _=>?_)|refine l_call0 (p0) (fun _ _=>?_)|refine ZA (p1) (fun _ _=>?_)|refine l_call0 (p1) (fun _ _=>?_)|refine ZA (h0) (fun _ _=>?_)|refine l_call0 (h0) (fun _ _=>?_)|refine ZA (d0) (fun _ _=>?_)|refine l_call0 (d0) (fun _ _=>?_)|refine ZA (d1 _) (fun _ _=>?_)|refine l_call0 (d1 _) (fun _ _=>?_)|refine ZA (l0) (fun _ _=>?_)|refine l_call0 (l0) (fun _ _=>?_)|refine ZA (l1 _) (fun _ _=>?_)|refine l_call0 (l1 _) (fun _ _=>?_)|refine ZA (t0) (fun _ _=>?_)|refine l_call0 (t0) (fun _ _=>?_)|refine ZA (t1 _) (fun _ _=>?_)|refine l_call0 (t1 _) (fun _ _=>?_)|refine ZA (q0 _) (fun _ _=>?_)|refine l_call0 (q0 _) (fun _ _=>?_)|refine ZA (q1 _) (fun _ _=>?_)|refine l_call0 (q1 _) (fun _ _=>?_)|refine X6 ?_|(refine ZC (fun hc=>?_) (fun hc=>?_)<;>(try simp at hc)<;>(try omega))|(refine ZE (fun hc=>?_) (fun hc=>?_)<;>(try simp at hc)<;>(try omega)))
    all_goals exact ZP () rfl trivial
   ·obtain ⟨k1,k3⟩:=par_ok hpu
    have t2:=fun b=>Wp b l (show u.size≤70000 by omega) k3 k1 (by have:=par_tx (by omega) hpu;omega)
    have l2:=fun b=>Xf b l
    have bf:((ofL (txR l)).toList == (ofL []).toList)=false:=beqF fun h=>hl0 (txR_nil.1 (ofL_inj.1 h))
    have bg:((ofL []).toList == (ofL (txR l)).toList)=false:=beqF fun h=>hl0 (txR_nil.1 (ofL_inj.1 h.symm))
    have q2:=fun b=>YY (pv0 b) (.pointer none) [RlsF b l] (ofL (txR l)) (ofL []) (t2 b) (t0.imp_right fun h=>specMore (F:=[]) h)
    have q3:=fun b=>YY (.pointer none) (pv0 b) [RlsF b l] (ofL []) (ofL (txR l)) (t0.imp_right fun h=>specMore (F:=[]) h) (t2 b)
    rw [bf] at q2
    rw [bg] at q3
    have hll:¬(l.length:Int)=0:=fun h=>hl0 (List.length_eq_zero_iff.1 (by omega))
    have bl:((l.length:Int) == 0)=false:=beq_eq_false_iff_ne.2 hll
    refine ZR [_,_,_] func11 ntmps11 fun G w hp=>?_
    repeat' (first|rw [bl]|rw [bE]|refine ZG ?_|refine ZH ?_|refine ZJ ?_|refine ZI ?_|refine ZL ?_|refine ZF ?_|refine ZO ?_|refine ZN (fun b=>?_)|refine ZM (fun b=>?_)|refine ZD ?_|refine ZB ?_|refine ZK ?_|refine ZA (n0) (fun _ _=>?_)|refine l_call0 (n0) (fun _ _=>?_)|refine ZA (n1) (fun _ _=>?_)|refine l_call0 (n1) (fun _ _=>?_)|refine ZA (n2) (fun _ _=>?_)|refine l_call0 (n2) (fun _ _=>?_)|refine ZA (p0) (fun _ _=>?_)|refine l_call0 (p0) (fun _ _=>?_)|refine ZA (p1) (fun _ _=>?_)|refine l_call0 (p1) (fun _ _=>?_)|refine ZA (h0) (fun _ _=>?_)|refine l_call0 (h0) (fun _ _=>?_)|refine ZA (d0) (fun _ _=>?_)|refine l_call0 (d0) (fun _ _=>?_)|refine ZA (d1 _) (fun _ _=>?_)|refine l_call0 (d1 _) (fun _ _=>?_)|refine ZA (l0) (fun _ _=>?_)|refine l_call0 (l0) (fun _ _=>?_)|refine ZA (l1 _) (fun _ _=>?_)|refine l_call0 (l1 _) (fun _ _=>?_)|refine ZA (t0) (fun _ _=>?_)|refine l_call0 (t0) (fun _ _=>?_)|refine ZA (t1 _) (fun _ _=>?_)|refine l_call0 (t1 _) (fun _ _=>?_)|refine ZA (q0 _) (fun _ _=>?_)|refine l_call0 (q0 _) (fun _ _=>?_)|refine ZA (q1 _) (fun _ _=>?_)|refine l_call0 (q1 _) (fun _ _=>?_)|refine ZA (l2 _) (fun _ _=>?_)|refine l_call0 (l2 _) (fun _ _=>?_)|refine ZA (q2 _) (fun _ _=>?_)|refine l_call0 (q2 _) (fun _ _=>?_)|refine ZA (q3 _) (fun _ _=>?_)|refine l_call0 (q3 _) (fun _ _=>?_)|refine X6 ?_|(refine ZC (fun hc=>?_) (fun hc=>?_)<;>(try simp at hc)<;>(try omega))|(refine ZE (fun hc=>?_) (fun hc=>?_)<;>(try simp at hc)<;>(try omega)))
    all_goals exact ZP () rfl trivial
 ·rw [if_pos rfl] at d0 d1
  cases hpu:parF u with
  | error x=>
   rw [hpu] at p1
   have hne:=par_err hpu
   refine ZR [_,_,_] func11 ntmps11 fun G w hp=>?_
   repeat' (first|rw [bE]|refine ZG ?_|refine ZH ?_|refine ZJ ?_|refine ZI ?_|refine ZL ?_|refine ZF ?_|refine ZO ?_|refine ZN (fun b=>?_)|refine ZM (fun b=>?_)|refine ZD ?_|refine ZB ?_|refine ZK ?_|refine ZA (n0) (fun _ _=>?_)|refine l_call0 (n0) (fun _ _=>?_)|refine ZA (n1) (fun _ _=>?_)|refine l_call0 (n1) (fun _ _=>?_)|refine ZA (n2) (fun _ _=>?_)|refine l_call0 (n2) (fun _ _=>?_)|refine ZA (p0) (fun _ _=>?_)|refine l_call0 (p0) (fun _ _=>?_)|refine ZA (p1) (fun _ _=>?_)|refine l_call0 (p1) (fun _ _=>?_)|refine ZA (h0) (fun _ _=>?_)|refine l_call0 (h0) (fun _ _=>?_)|refine ZA (d0) (fun _ _=>?_)|refine l_call0 (d0) (fun _ _=>?_)|refine ZA (d1 _) (fun _ _=>?_)|refine l_call0 (d1 _) (fun _ _=>?_)|refine ZA (l0) (fun _ _=>?_)|refine l_call0 (l0) (fun _ _=>?_)|refine ZA (l1 _) (fun _ _=>?_)|refine l_call0 (l1 _) (fun _ _=>?_)|refine ZA (t0) (fun _ _=>?_)|refine l_call0 (t0) (fun _ _=>?_)|refine ZA (t1 _) (fun _ _=>?_)|refine l_call0 (t1 _) (fun _ _=>?_)|refine ZA (q0 _) (fun _ _=>?_)|refine l_call0 (q0 _) (fun _ _=>?_)|refine ZA (q1 _) (fun _ _=>?_)|refine l_call0 (q1 _) (fun _ _=>?_)|refine X6 ?_|(refine ZC (fun hc=>?_) (fun hc=>?_)<;>(try simp at hc)<;>(try omega))|(refine ZE (fun hc=>?_) (fun hc=>?_)<;>(try simp at hc)<;>(try omega)))
   all_goals exact ZP () rfl trivial
  | ok l=>
   rw [hpu] at p1
   by_cases hl0:l=[]
   ·subst hl0
    refine ZR [_,_,_] func11 ntmps11 fun G w hp=>?_
    repeat' (first|rw [bE]|refine ZG ?_|refine ZH ?_|refine ZJ ?_|refine ZI ?_|refine ZL ?_|refine ZF ?_|refine ZO ?_|refine ZN (fun b=>?_)|refine ZM (fun b=>?_)|refine ZD ?_|refine ZB ?_|refine ZK ?_|refine ZA (n0) (fun _ _=>?_)|refine l_call0 (n0) (fun _ _=>?_)|refine ZA (n1) (fun _ _=>?_)|refine l_call0 (n1) (fun _ _=>?_)|refine ZA (n2) (fun _ _=>?_)|refine l_call0 (n2) (fun _ _=>?_)|refine ZA (p0) (fun _ _=>?_)|refine l_call0 (p0) (fun _ _=>?_)|refine ZA (p1) (fun _ _=>?_)|refine l_call0 (p1) (fun _ _=>?_)|refine ZA (h0) (fun _ _=>?_)|refine l_call0 (h0) (fun _ _=>?_)|refine ZA (d0) (fun _ _=>?_)|refine l_call0 (d0) (fun _ _=>?_)|refine ZA (d1 _) (fun _ _=>?_)|refine l_call0 (d1 _) (fun _ _=>?_)|refine ZA (l0) (fun _ _=>?_)|refine l_call0 (l0) (fun _ _=>?_)|refine ZA (l1 _) (fun _ _=>?_)|refine l_call0 (l1 _) (fun _ _=>?_)|refine ZA (t0) (fun _ _=>?_)|refine l_call0 (t0) (fun _ _=>?_)|refine ZA (t1 _) (fun _ _=>?_)|refine l_call0 (t1 _) (fun _ _=>?_)|refine ZA (q0 _) (fun _ _=>?_)|refine l_call0 (q0 _) (fun _ _=>?_)|refine ZA (q1 _) (fun _ _=>?_)|refine l_call0 (q1 _) (fun _ _=>?_)|refine X6 ?_|(refine ZC (fun hc=>?_) (fun hc=>?_)<;>(try simp at hc)<;>(try omega))|(refine ZE (fun hc=>?_) (fun hc=>?_)<;>(try simp at hc)<;>(try omega)))
    all_goals exact ZP () rfl trivial
   ·obtain ⟨k1,k3⟩:=par_ok hpu
    have t2:=fun b=>Wp b l (show u.size≤70000 by omega) k3 k1 (by have:=par_tx (by omega) hpu;omega)
    have l2:=fun b=>Xf b l
    have bf:((ofL (txR l)).toList == (ofL []).toList)=false:=beqF fun h=>hl0 (txR_nil.1 (ofL_inj.1 h))
    have bg:((ofL []).toList == (ofL (txR l)).toList)=false:=beqF fun h=>hl0 (txR_nil.1 (ofL_inj.1 h.symm))
    have q2:=fun b=>YY (pv0 b) (.pointer none) [RlsF b l] (ofL (txR l)) (ofL []) (t2 b) (t0.imp_right fun h=>specMore (F:=[]) h)
    have q3:=fun b=>YY (.pointer none) (pv0 b) [RlsF b l] (ofL []) (ofL (txR l)) (t0.imp_right fun h=>specMore (F:=[]) h) (t2 b)
    rw [bf] at q2
    rw [bg] at q3
    have hll:¬(l.length:Int)=0:=fun h=>hl0 (List.length_eq_zero_iff.1 (by omega))
    have bl:((l.length:Int) == 0)=false:=beq_eq_false_iff_ne.2 hll
    refine ZR [_,_,_] func11 ntmps11 fun G w hp=>?_
    repeat' (first|rw [bl]|rw [bE]|refine ZG ?_|refine ZH ?_|refine ZJ ?_|refine ZI ?_|refine ZL ?_|refine ZF ?_|refine ZO ?_|refine ZN (fun b=>?_)|refine ZM (fun b=>?_)|refine ZD ?_|refine ZB ?_|refine ZK ?_|refine ZA (n0) (fun _ _=>?_)|refine l_call0 (n0) (fun _ _=>?_)|refine ZA (n1) (fun _ _=>?_)|refine l_call0 (n1) (fun _ _=>?_)|refine ZA (n2) (fun _ _=>?_)|refine l_call0 (n2) (fun _ _=>?_)|refine ZA (p0) (fun _ _=>?_)|refine l_call0 (p0) (fun _ _=>?_)|refine ZA (p1) (fun _ _=>?_)|refine l_call0 (p1) (fun _ _=>?_)|refine ZA (h0) (fun _ _=>?_)|refine l_call0 (h0) (fun _ _=>?_)|refine ZA (d0) (fun _ _=>?_)|refine l_call0 (d0) (fun _ _=>?_)|refine ZA (d1 _) (fun _ _=>?_)|refine l_call0 (d1 _) (fun _ _=>?_)|refine ZA (l0) (fun _ _=>?_)|refine l_call0 (l0) (fun _ _=>?_)|refine ZA (l1 _) (fun _ _=>?_)|refine l_call0 (l1 _) (fun _ _=>?_)|refine ZA (t0) (fun _ _=>?_)|refine l_call0 (t0) (fun _ _=>?_)|refine ZA (t1 _) (fun _ _=>?_)|refine l_call0 (t1 _) (fun _ _=>?_)|refine ZA (q0 _) (fun _ _=>?_)|refine l_call0 (q0 _) (fun _ _=>?_)|refine ZA (q1 _) (fun _ _=>?_)|refine l_call0 (q1 _) (fun _ _=>?_)|refine ZA (l2 _) (fun _ _=>?_)|refine l_call0 (l2 _) (fun _ _=>?_)|refine ZA (q2 _) (fun _ _=>?_)|refine l_call0 (q2 _) (fun _ _=>?_)|refine ZA (q3 _) (fun _ _=>?_)|refine l_call0 (q3 _) (fun _ _=>?_)|refine X6 ?_|(refine ZC (fun hc=>?_) (fun hc=>?_)<;>(try simp at hc)<;>(try omega))|(refine ZE (fun hc=>?_) (fun hc=>?_)<;>(try simp at hc)<;>(try omega)))
    all_goals exact ZP () rfl trivial
section
open Go.ChangeShapes Go.WideShapes Go.ChangeAt
structure Kept (W W':World):Prop where
 os:W'.os=W.os
 output:W'.output=W.output
 heap:∀(b:Nat) (o:Obj),W.heap[b]? = some o→W'.heap[b]? = some o
theorem Kept.but {W W':World} (h:Kept W W') (may:MemPlace→Prop):W.keptBut W' may:=by
 refine ⟨h.os,h.output,fun i hi=>?_⟩
 have h1:W.heap[i]? = some W.heap[i]:=Array.getElem?_eq_getElem hi
 have h2:=h.heap i _ h1
 rw [h1,h2]
 split
 ·rename_i c t fr c' t' fr' e1 e2
  rw [e1] at e2
  injection e2 with e2
  injection e2 with a1 a2 a3
  subst a1 a2 a3
  exact ⟨rfl,rfl,rfl,fun _ _=>rfl⟩
 ·rename_i es clock es' clock' e1 e2
  rw [e1] at e2
  injection e2 with e2
  injection e2 with a1 a2
  subst a1 a2
  exact .inr ⟨rfl,rfl⟩
 ·rfl
theorem calls_law {f:FuncId} {args:Array Value} {F:List Pf} {v:Value} (h:Spec prog f args F [] (RetV v)) (W:World) (hF:∀x ∈ F,x.p fun b=>W.heap[b]?) :
  Calls prog f args W fun e W'=>e = .returned v∧Kept W W':=by
 have hs:Sat emp W (fun b=>W.heap[b]?) F [] W:=⟨fun b=>W.heap[b]?,emp,fun _ _ e=>e,(fun _ _ e=>by cases e),(fun _ _ e=>by cases e),fun _=>.inr rfl,fun _=>.inr rfl,fun _=>.inr rfl,Sub.refl _,hF,trivial,Same.refl _⟩
 refine (h _ _ _ hs).mono ?_
 rintro e W' ⟨_,rfl,_,hp',hr,st⟩
 exact ⟨rfl,st.same.os,st.same.output,fun b o hb=>st.inp b o (st.sub b o hb)⟩
def contig (P:Program):Nat→List Field→Option Nat
 | o,[]=>some o
 | o,f::fs=>if f.offset=o then contig P (o+P.cellsOf f.type) fs else none
def plainT (P:Program):Nat→TypeId→Bool
 | 0,_=>false
 | k+1,t=>match P.underlying t with
  | some .bool=>true
  | some (.int _)=>true
  | some .string=>true
  | some (.struct fs)=>(fs.toList.all fun f=>plainT P k f.type) && (contig P 0 fs.toList == some (P.cellsOf t))
  | some (.array n e)=>plainT P k e && (P.cellsOf t == n * P.cellsOf e)
  | _=>false
variable {H:Type} {enc:TypeId×Value→H} {P:Program}
theorem Xp {α β:Type} {f g:α→Option β}:∀{l:List α} {r:List β},(∀a ∈ l,∀x,f a=some x→g a=some x)→l.mapM f=some r→l.mapM g=some r
 | [],r,_,h=>h
 | a::l,r,hfg,h=>by
  rw [List.mapM_cons] at h ⊢
  simp only [Option.bind_eq_bind,Option.bind_eq_some_iff,Option.pure_def,Option.some.injEq] at h ⊢
  obtain ⟨x,hx,xs,hxs,rfl⟩:=h
  exact ⟨x,hfg a (by simp) x hx,xs,Xp (fun b hb=>hfg b (by simp [hb])) hxs,rfl⟩
theorem mapM_all {α β:Type} {f:α→Option β} {p:β→Prop}:∀{l:List α} {r:List β},(∀a ∈ l,∀x,f a=some x→p x)→l.mapM f=some r→∀x ∈ r,p x
 | [],r,_,h=>by simp at h;subst h;simp
 | a::l,r,hfg,h=>by
  rw [List.mapM_cons] at h
  simp only [Option.bind_eq_bind,Option.bind_eq_some_iff,Option.pure_def,Option.some.injEq] at h
  obtain ⟨x,hx,xs,hxs,rfl⟩:=h
  intro y hy
  rcases List.mem_cons.1 hy with rfl|hy
  ·exact hfg a (by simp) y hx
  ·exact mapM_all (fun b hb=>hfg b (by simp [hb])) hxs y hy
theorem XT {β γ:Type} {f:β→List γ}:∀{l:List β},(∀x ∈ l,f x=[])→l.flatMap f=[]
 | [],_=>rfl
 | a::l,h=>by rw [List.flatMap_cons,h a (by simp),XT (fun x hx=>h x (by simp [hx]))];rfl
theorem Y0:∀(n k:Nat) (t:TypeId) (w:World) (base:Nat) (sp:Nat→Bool) (hd:Bool) (cs:List Value) (x:DataW H×List MemPlace),plainT P k t=true→DataW.trod enc P w base sp hd n t cs=some x→
  x.2=[]∧∀w' base' sp' hd',DataW.trod enc P w' base' sp' hd' n t cs=some x
 | 0,_,_,_,_,_,_,_,_,_,h=>by simp [DataW.trod] at h
 | n+1,0,_,_,_,_,_,_,_,hp,_=>by simp [plainT] at hp
 | n+1,k+1,t,w,base,sp,hd,cs,x,hp,h=>by
  unfold plainT at hp
  split at hp
  ·rename_i hu
   obtain ⟨b,rfl,rfl⟩:=DataW.trod_bool hu h
   exact ⟨rfl,fun _ _ _ _=>by simp [DataW.trod,hu]⟩
  ·rename_i hu
   obtain ⟨z,rfl,rfl,hz⟩:=DataW.trod_int hu h
   exact ⟨rfl,fun _ _ _ _=>by simp [DataW.trod,hu,hz]⟩
  ·rename_i hu
   obtain ⟨s,rfl,rfl,hs⟩:=DataW.trod_string hu h
   exact ⟨rfl,fun _ _ _ _=>by simp [DataW.trod,hu,hs]⟩
  ·rename_i fs hu
   rw [Bool.and_eq_true,List.all_eq_true] at hp
   simp only [DataW.trod,hu] at h ⊢
   split at h
   ·rename_i hl
    simp only [Option.map_eq_some_iff] at h
    obtain ⟨xs,hxs,rfl⟩:=h
    have ih:∀f ∈ fs.toList,∀y,DataW.trod enc P w base sp hd n f.type ((cs.drop f.offset).take (P.cellsOf f.type))=some y→y.2=[]∧∀w' base' sp' hd',DataW.trod enc P w' base' sp' hd' n f.type ((cs.drop f.offset).take (P.cellsOf f.type))=some y:=fun f hf y hy=>
     Y0 n k f.type w base sp hd _ y (hp.1 f hf) hy
    refine ⟨XT (mapM_all (fun f hf y hy=>(ih f hf y hy).1) hxs),fun w' base' sp' hd'=>?_⟩
    rw [if_pos hl,Xp (fun f hf y hy=>(ih f hf y hy).2 w' base' sp' hd') hxs]
    rfl
   ·cases h
  ·rename_i m e hu
   rw [Bool.and_eq_true] at hp
   simp only [DataW.trod,hu] at h ⊢
   split at h
   ·rename_i hl
    simp only [Option.map_eq_some_iff] at h
    obtain ⟨xs,hxs,rfl⟩:=h
    have ih:∀i ∈ List.range m,∀y,DataW.trod enc P w base sp hd n e ((cs.drop (i * P.cellsOf e)).take (P.cellsOf e))=some y→y.2=[]∧∀w' base' sp' hd',DataW.trod enc P w' base' sp' hd' n e ((cs.drop (i * P.cellsOf e)).take (P.cellsOf e))=some y:=fun i _ y hy=>
     Y0 n k e w base sp hd _ y hp.1 hy
    refine ⟨XT (mapM_all (fun i hi y hy=>(ih i hi y hy).1) hxs),fun w' base' sp' hd'=>?_⟩
    rw [if_pos hl,Xp (fun i hi y hy=>(ih i hi y hy).2 w' base' sp' hd') hxs]
    rfl
   ·cases h
  ·cases hp
theorem Yx {α β:Type} {f:α→Option β}:∀{l:List α} {r:List β},l.mapM f=some r→∀(i:Nat) (a:α),l[i]? = some a→∃b,r[i]? = some b∧f a=some b
 | [],r,_,i,a,hi=>by simp at hi
 | c::l,r,h,i,a,hi=>by
  rw [List.mapM_cons] at h
  simp only [Option.bind_eq_bind,Option.bind_eq_some_iff,Option.pure_def,Option.some.injEq] at h
  obtain ⟨x,hx,xs,hxs,rfl⟩:=h
  cases i with
  | zero=>simp at hi;subst hi;exact ⟨x,by simp,hx⟩
  | succ i=>simpa using Yx hxs i a (by simpa using hi)
theorem cover:∀(fs:List Field) (o total:Nat) (cs cs':List Value),contig P o fs=some total→cs.length=total→cs'.length=total→
  (∀f ∈ fs,(cs.drop f.offset).take (P.cellsOf f.type)=(cs'.drop f.offset).take (P.cellsOf f.type))→cs.drop o=cs'.drop o
 | [],o,total,cs,cs',h,h1,h2,_=>by
  simp only [contig,Option.some.injEq] at h
  rw [List.drop_eq_nil_of_le (by omega),List.drop_eq_nil_of_le (by omega)]
 | f::fs,o,total,cs,cs',h,h1,h2,hp=>by
  unfold contig at h
  split at h
  ·rename_i ho
   have ih:=cover fs (o+P.cellsOf f.type) total cs cs' h h1 h2 fun g hg=>hp g (by simp [hg])
   have h3:=hp f (by simp)
   rw [ho] at h3
   rw [←List.take_append_drop (P.cellsOf f.type) (cs.drop o),←List.take_append_drop (P.cellsOf f.type) (cs'.drop o),List.drop_drop,List.drop_drop,h3,ih]
  ·cases h
theorem trod_inj {H':Type} {enc':TypeId×Value→H'}:∀(n n' k:Nat) (t:TypeId) (w w':World) (base base':Nat) (sp sp':Nat→Bool) (hd hd':Bool) (cs cs':List Value) (x x':DataW H×List MemPlace),plainT P k t=true→
  DataW.trod enc P w base sp hd n t cs=some x→DataW.trod enc P w' base' sp' hd' n' t cs'=some x'→x.1=x'.1→cs=cs'
 | 0,_,_,_,_,_,_,_,_,_,_,_,_,_,_,_,_,h,_,_=>by simp [DataW.trod] at h
 | _+1,0,_,_,_,_,_,_,_,_,_,_,_,_,_,_,_,_,h,_=>by simp [DataW.trod] at h
 | n+1,n'+1,0,_,_,_,_,_,_,_,_,_,_,_,_,_,hp,_,_,_=>by simp [plainT] at hp
 | n+1,n'+1,k+1,t,w,w',base,base',sp,sp',hd,hd',cs,cs',x,x',hp,h,h',he=>by
  unfold plainT at hp
  split at hp
  ·rename_i hu
   obtain ⟨b,rfl,rfl⟩:=DataW.trod_bool hu h
   obtain ⟨b',rfl,rfl⟩:=DataW.trod_bool hu h'
   simp at he;subst he;rfl
  ·rename_i hu
   obtain ⟨z,rfl,rfl,hz⟩:=DataW.trod_int hu h
   obtain ⟨z',rfl,rfl,hz'⟩:=DataW.trod_int hu h'
   simp at he;subst he;rfl
  ·rename_i hu
   obtain ⟨s,rfl,rfl,hs⟩:=DataW.trod_string hu h
   obtain ⟨s',rfl,rfl,hs'⟩:=DataW.trod_string hu h'
   simp at he
   rw [XZ (by rw [he]:s.data.toList=s'.data.toList)]
  ·rename_i fs hu
   rw [Bool.and_eq_true,List.all_eq_true,beq_iff_eq] at hp
   simp only [DataW.trod,hu] at h h'
   split at h
   ·rename_i hl
    split at h'
    ·rename_i hl'
     simp only [Option.map_eq_some_iff] at h h'
     obtain ⟨xs,hxs,rfl⟩:=h
     obtain ⟨xs',hxs',rfl⟩:=h'
     simp only [DataW.agg.injEq] at he
     have:=cover fs.toList 0 _ cs cs' hp.2 hl hl' fun f hf=>by
      obtain ⟨i,hi,rfl⟩:=List.mem_iff_getElem.1 hf
      have hi':=List.getElem?_eq_getElem hi
      obtain ⟨y,hy1,hy2⟩:=Yx hxs i _ hi'
      obtain ⟨y',hy1',hy2'⟩:=Yx hxs' i _ hi'
      have hyy:y.1=y'.1:=by
       have h1:(xs.map (·.1))[i]? = some y.1:=by simp [hy1]
       have h2:(xs'.map (·.1))[i]? = some y'.1:=by simp [hy1']
       rw [he] at h1
       exact Option.some.inj (h1.symm.trans h2)
      exact trod_inj (enc':=enc') n n' k _ w w' base base' sp sp' hd hd' _ _ y y' (hp.1 _ hf) hy2 hy2' hyy
     simpa using this
    ·cases h'
   ·cases h
  ·rename_i m e hu
   rw [Bool.and_eq_true,beq_iff_eq] at hp
   simp only [DataW.trod,hu] at h h'
   split at h
   ·rename_i hl
    split at h'
    ·rename_i hl'
     simp only [Option.map_eq_some_iff] at h h'
     obtain ⟨xs,hxs,rfl⟩:=h
     obtain ⟨xs',hxs',rfl⟩:=h'
     simp only [DataW.agg.injEq] at he
     have hpart:∀i,i<m→(cs.drop (i * P.cellsOf e)).take (P.cellsOf e)=(cs'.drop (i * P.cellsOf e)).take (P.cellsOf e):=fun i hi=>by
      have hi':(List.range m)[i]? = some i:=by simp [hi]
      obtain ⟨y,hy1,hy2⟩:=Yx hxs i _ hi'
      obtain ⟨y',hy1',hy2'⟩:=Yx hxs' i _ hi'
      have hyy:y.1=y'.1:=by
       have h1:(xs.map (·.1))[i]? = some y.1:=by simp [hy1]
       have h2:(xs'.map (·.1))[i]? = some y'.1:=by simp [hy1']
       rw [he] at h1
       exact Option.some.inj (h1.symm.trans h2)
      exact trod_inj (enc':=enc') n n' k _ w w' base base' sp sp' hd hd' _ _ y y' hp.1 hy2 hy2' hyy
     apply List.ext_getElem?
     intro j
     by_cases hj:j<m * P.cellsOf e
     ·have hc:0<P.cellsOf e:=Nat.pos_of_ne_zero fun h0=>by rw [h0] at hj;simp at hj
      have h1:=congrArg (fun l=>l[j % P.cellsOf e]?) (hpart (j / P.cellsOf e) (Nat.div_lt_of_lt_mul (by rw [Nat.mul_comm];exact hj)))
      simp only [List.getElem?_take,List.getElem?_drop,if_pos (Nat.mod_lt j hc)] at h1
      rw [show j / P.cellsOf e * P.cellsOf e+j % P.cellsOf e=j by rw [Nat.mul_comm];exact Nat.div_add_mod j _] at h1
      exact h1
     ·rw [List.getElem?_eq_none (by omega),List.getElem?_eq_none (by omega)]
    ·cases h'
   ·cases h
  ·cases hp
theorem post_kept {f:Func} {s:ChangeSpec} {apart fresh handsOn again:Bool} {W W':World} {args:Array Value} {v:Value} {ds gs:List (DataW H)} {before pa pv:List MemPlace}
  (hW:DataW.Whole enc P f.params.toList s.vars apart W args.toList ds gs before)
  (hres:∀(b:Nat) (sp:Nat→Bool) (hd:Bool),DataW.TrodAll enc P W' b sp hd f.resultTypes.toList (v.resultList f.resultTypes.size) (s.fn H (ds++gs)).results [])
  (hargs:∀sp:Nat→Bool,(∀b<W.heap.size,sp b=true)→DataW.TrodAll enc P W' 0 sp true f.params.toList args.toList (s.fn H (ds++gs)).args pa)
  (hvars:∀sp:Nat→Bool,(∀b<W.heap.size,sp b=true)→DataW.TrodVars enc P W' sp s.vars (s.fn H (ds++gs)).vars pv)
  (hps:before=pa++pv) (hk:Kept W W')
  (hok:∀(j:Nat) (t:TypeId) (r:Value),f.resultTypes[j]? = some t→(v.resultList f.resultTypes.size)[j]? = some r→Value.okWide P W' .any 0 t r) :
  s.post enc P f apart fresh handsOn again W args v W':=by
 have hlt:=hW.lt
 refine ⟨ds,gs,before,[],pa,pv,hW,hres _ _ _,hargs _ (fun b hb=>by simpa using hb),hvars _ (fun b hb=>by simpa using hb),World.keptBut_mono (fun p hp=>⟨hp,?_⟩) (hk.but (· ∈ before)),fun _=>?_⟩
 ·rw [hps,List.mem_append] at hp
  exact Or.inr hp
 ·obtain ⟨_,_,_,_,_,hz,hn⟩:=hW
  refine ⟨hok,_,_,([]++pa)++pv,⟨[]++pa,pv,trodAll_append (hargs _ (fun _ _=>rfl)) (hres _ _ _),hvars _ (fun _ _=>rfl),rfl,?_,?_⟩,?_⟩
  ·intro b off hp
   have hm:MemPlace.cell b off ∈ before:=by rw [hps];simpa using hp
   have h1:=hz b off hm
   have h2:b<W.heap.size:=hlt _ hm
   have h4:W.heap[b]? = some W.heap[b]:=Array.getElem?_eq_getElem h2
   have h3:=hk.heap b _ h4
   unfold World.frozen? at h1 ⊢
   dsimp only at h1 ⊢
   rw [h4] at h1
   rw [h3]
   exact h1
  ·intro ha
   have:=hn ha
   rw [hps] at this
   simpa using this
  ·intro p hp _
   rw [hps]
   simpa using hp
inductive SK where
 | b
 | i (k:IntKind)
 | s
def sksF (g:TypeId→Option (List SK)):List Field→Option (List SK)
 | []=>some []
 | f::fs=>match g f.type,sksF g fs with
  | some a,some r=>some (a++r)
  | _,_=>none
def sks (P:Program):Nat→TypeId→Option (List SK)
 | 0,_=>none
 | k+1,t=>match P.underlying t with
  | some .bool=>some [.b]
  | some (.int ik)=>some [.i ik]
  | some .string=>some [.s]
  | some (.struct fs)=>sksF (sks P k) fs.toList
  | some (.array n e)=>(sks P k e).map fun l=>(List.replicate n l).flatten
  | _=>none
def CellOK (M:Nat):SK→Value→Prop
 | .b,v=>∃b,v = .bool b
 | .i k,v=>∃z,v = .int k z∧(Lit.int k z).wf=true
 | .s,v=>∃s:ByteArray,v = .string s∧s.size≤M
def CellsOK (M:Nat):List SK→List Value→Prop
 | [],[]=>True
 | k::ks,v::vs=>CellOK M k v∧CellsOK M ks vs
 | _,_=>False
theorem Yp {M:Nat}:∀{a b:List SK} {x y:List Value},CellsOK M a x→CellsOK M b y→CellsOK M (a++b) (x++y)
 | [],_,[],_,_,h=>h
 | _::_,_,_::_,_,⟨h1,h2⟩,h=>⟨h1,Yp h2 h⟩
theorem XK {M M':Nat} (hM:M≤M'):∀{a:List SK} {x:List Value},CellsOK M a x→CellsOK M' a x
 | [],[],_=>trivial
 | k::_,_::_,⟨h1,h2⟩=>⟨by
   cases k with
   | b=>exact h1
   | i k=>exact h1
   | s=>obtain ⟨s,hs,hl⟩:=h1;exact ⟨s,hs,Nat.le_trans hl hM⟩,XK hM h2⟩
theorem bulk_mem:∀{l:List (DataW H)} {d:DataW H},d ∈ l→Rows.uptoBulk d≤Rows.uptoBulkAll l
 | c::l,d,h=>by
  rcases List.mem_cons.1 h with rfl|h
  ·simp only [Rows.uptoBulkAll];omega
  ·have:=bulk_mem h
   simp only [Rows.uptoBulkAll];omega
theorem sksF_ok {M:Nat} {g:TypeId→Option (List SK)}:∀(fs:List Field) (o total:Nat) (cs:List Value) (ks:List SK),contig P o fs=some total→cs.length=total→sksF g fs=some ks→
  (∀f ∈ fs,∀k,g f.type=some k→CellsOK M k ((cs.drop f.offset).take (P.cellsOf f.type)))→CellsOK M ks (cs.drop o)
 | [],o,total,cs,ks,h,h1,h2,_=>by
  simp only [contig,Option.some.injEq] at h
  simp only [sksF,Option.some.injEq] at h2
  rw [←h2,List.drop_eq_nil_of_le (by omega)];trivial
 | f::fs,o,total,cs,ks,h,h1,h2,hp=>by
  unfold contig at h
  split at h
  ·rename_i ho
   unfold sksF at h2
   split at h2
   ·rename_i a r ha hr
    obtain rfl:=Option.some.inj h2
    have ih:=sksF_ok fs (o+P.cellsOf f.type) total cs r h h1 hr fun g hg=>hp g (by simp [hg])
    have h3:=hp f (by simp) a ha
    rw [ho] at h3
    rw [←List.take_append_drop (P.cellsOf f.type) (cs.drop o),List.drop_drop]
    exact Yp h3 ih
   ·cases h2
  ·cases h
theorem arr_cells {M c:Nat} {l:List SK}:∀(m:Nat) (cs:List Value),cs.length=m * c→(∀i,i<m→CellsOK M l ((cs.drop (i * c)).take c))→CellsOK M (List.replicate m l).flatten cs
 | 0,cs,h,_=>by
  have:cs=[]:=List.length_eq_zero_iff.1 (by omega)
  subst this;trivial
 | m+1,cs,h,hp=>by
  have h0:=hp 0 (by omega)
  rw [Nat.zero_mul,List.drop_zero] at h0
  have hl:cs.length=m * c+c:=by rw [h,Nat.succ_mul]
  have ih:=arr_cells (M:=M) (c:=c) (l:=l) m (cs.drop c) (by rw [List.length_drop];omega) fun i hi=>by
   have:=hp (i+1) (by omega)
   rw [List.drop_drop,show c+i * c=(i+1) * c by rw [Nat.succ_mul];omega]
   exact this
  rw [List.replicate_succ,List.flatten_cons,←List.take_append_drop c cs]
  exact Yp h0 ih
theorem Yq:∀(n k:Nat) (t:TypeId) (w:World) (base:Nat) (sp:Nat→Bool) (hd:Bool) (cs:List Value) (x:DataW H×List MemPlace) (ks:List SK),plainT P k t=true→sks P k t=some ks→DataW.trod enc P w base sp hd n t cs=some x→CellsOK (Rows.uptoBulk x.1) ks cs
 | 0,_,_,_,_,_,_,_,_,_,_,_,h=>by simp [DataW.trod] at h
 | n+1,0,_,_,_,_,_,_,_,_,hp,_,_=>by simp [plainT] at hp
 | n+1,k+1,t,w,base,sp,hd,cs,x,ks,hp,hk,h=>by
  unfold plainT at hp
  unfold sks at hk
  split at hp
  ·rename_i hu
   rw [hu] at hk
   obtain rfl:=Option.some.inj hk
   obtain ⟨b,rfl,rfl⟩:=DataW.trod_bool hu h
   exact ⟨⟨b,rfl⟩,trivial⟩
  ·rename_i hu
   rw [hu] at hk
   obtain rfl:=Option.some.inj hk
   obtain ⟨z,rfl,rfl,hz⟩:=DataW.trod_int hu h
   exact ⟨⟨z,rfl,hz⟩,trivial⟩
  ·rename_i hu
   rw [hu] at hk
   obtain rfl:=Option.some.inj hk
   obtain ⟨s,rfl,rfl,hs⟩:=DataW.trod_string hu h
   refine ⟨⟨s,rfl,?_⟩,trivial⟩
   have hsz:s.data.toList.length=s.size:=by simp
   simp only [Rows.uptoBulk];omega
  ·rename_i fs hu
   rw [hu] at hk
   rw [Bool.and_eq_true,List.all_eq_true,beq_iff_eq] at hp
   simp only [DataW.trod,hu] at h
   split at h
   ·rename_i hl
    simp only [Option.map_eq_some_iff] at h
    obtain ⟨xs,hxs,rfl⟩:=h
    have:=sksF_ok (M:=Rows.uptoBulk (.agg (xs.map (·.1)))) (g:=sks P k) fs.toList 0 _ cs ks hp.2 hl hk fun f hf k' hk'=>by
     obtain ⟨i,hi,rfl⟩:=List.mem_iff_getElem.1 hf
     obtain ⟨y,hy1,hy2⟩:=Yx hxs i _ (List.getElem?_eq_getElem hi)
     refine XK ?_ (Yq n k _ w base sp hd _ y k' (hp.1 _ hf) hk' hy2)
     have hm:y.1 ∈ xs.map (·.1):=List.mem_map.2 ⟨y,List.mem_of_getElem? hy1,rfl⟩
     have:=bulk_mem hm
     simp only [Rows.uptoBulk];omega
    simpa using this
   ·cases h
  ·rename_i m e hu
   rw [hu] at hk
   rw [Bool.and_eq_true,beq_iff_eq] at hp
   simp only [DataW.trod,hu] at h
   split at h
   ·rename_i hl
    simp only [Option.map_eq_some_iff] at h hk
    obtain ⟨xs,hxs,rfl⟩:=h
    obtain ⟨l,hl2,rfl⟩:=hk
    refine arr_cells m cs (by rw [hl,hp.2]) fun i hi=>?_
    have hi':(List.range m)[i]? = some i:=by simp [hi]
    obtain ⟨y,hy1,hy2⟩:=Yx hxs i _ hi'
    refine XK ?_ (Yq n k _ w base sp hd _ y l hp.1 hl2 hy2)
    have hm:y.1 ∈ xs.map (·.1):=List.mem_map.2 ⟨y,List.mem_of_getElem? hy1,rfl⟩
    have:=bulk_mem hm
    simp only [Rows.uptoBulk];omega
   ·cases h
  ·cases hp
end
section
open Go.ChangeShapes Go.WideShapes Go.ChangeAt
theorem Kept.cell {W W':World} (h:Kept W W') {a:Addr} {v:Value} (hc:W.cell? a=some v):W'.cell? a=some v:=by
 unfold World.cell? at hc ⊢
 split at hc
 ·rename_i c T fz hb
  rw [h.heap _ _ hb]
  exact hc
 ·cases hc
theorem Kept.cells {W W':World} (h:Kept W W') {a:Addr} {n:Nat} {cs:List Value} (hc:W.cells? 0 a n=some cs):W'.cells? 0 a n=some cs:=by
 unfold World.cells? at hc ⊢
 rw [if_pos (Nat.zero_le _)] at hc ⊢
 exact Xp (fun i _ x hx=>h.cell hx) hc
variable {H:Type} {enc:TypeId×Value→H} {P:Program}
end
section
open Go.ChangeShapes Go.WideShapes Go.ChangeAt
theorem own:ownKnob prog.godebug=none:=by kernel_rfl
theorem i64_in {n:Int} (h:(Lit.int .i64 n).wf=true) : -9223372036854775808≤n∧n<9223372036854775808:=by
 simp [Lit.wf,IntKind.min,IntKind.max,IntKind.bits,IntKind.signed] at h
 omega
theorem Ya {M:Nat} {k:IntKind} {ks:List SK} {cs:List Value} (h:CellsOK M (.i k::ks) cs):∃z cs',cs = .int k z::cs'∧(Lit.int k z).wf=true∧CellsOK M ks cs':=by
 obtain _|⟨v,cs⟩:=cs
 ·exact h.elim
 ·obtain ⟨⟨z,rfl,hz⟩,h⟩:=h
  exact ⟨z,cs,rfl,hz,h⟩
theorem Xq {M:Nat} {ks:List SK} {cs:List Value} (h:CellsOK M (.s::ks) cs):∃(s:ByteArray) (cs':List Value),cs = .string s::cs'∧s.size≤M∧CellsOK M ks cs':=by
 obtain _|⟨v,cs⟩:=cs
 ·exact h.elim
 ·obtain ⟨⟨z,rfl,hz⟩,h⟩:=h
  exact ⟨z,cs,rfl,hz,h⟩
theorem cells_nil {M:Nat} {cs:List Value} (h:CellsOK M [] cs):cs=[]:=by
 cases cs
 ·rfl
 ·exact h.elim
section
variable {H:Type} {enc:TypeId×Value→H} {W:World} {base:Nat} {v:Value} {d:DataW H} {p:List MemPlace}
theorem aggS {t:TypeId} {fs:Array Field} (hu:prog.underlying t=some (.struct fs)) (hv:Value.okWide prog W .any base t v):∃cs,v = .agg cs:=
 let ⟨cs,h,_⟩:=okWide_struct hu hv
 ⟨cs,h⟩
theorem open_agg {t:TypeId} {ks:List SK} (hpl:plainT prog 5 t=true) (hsk:sks prog 5 t=some ks) (hag:∃cs,v = .agg cs) (h:DataW.Trod enc prog W 0 (fun _=>true) true t v d p) :
  ∃cs:List Value,v = .agg cs.toArray∧CellsOK (Rows.uptoBulk d) ks cs∧p=[]∧∀w' base' sp' hd',DataW.Trod enc prog w' base' sp' hd' t v d []:=by
 obtain ⟨cs,rfl⟩:=hag
 obtain ⟨n,hn⟩:=h
 have hc:=Yq n 5 _ W 0 _ _ _ _ _ hpl hsk hn
 obtain ⟨hp,hr⟩:=Y0 n 5 _ W 0 _ _ _ _ hpl hn
 dsimp only at hp
 subst hp
 exact ⟨cs.toList,rfl,hc,rfl,fun w' base' sp' hd'=>⟨n,hr w' base' sp' hd'⟩⟩
theorem open_str {t:TypeId} (hu:prog.underlying t=some .string) (hv:Value.okWide prog W .any base t v) (h:DataW.Trod enc prog W 0 (fun _=>true) true t v d p) :
  ∃s:ByteArray,v = .string s∧s.size≤Rows.uptoBulk d∧p=[]∧∀w' base' sp' hd',DataW.Trod enc prog w' base' sp' hd' t v d []:=by
 obtain ⟨s,rfl⟩:=okWide_string hu hv
 obtain ⟨n,hn⟩:=h
 have hpl:plainT prog 5 t=true:=by unfold plainT;rw [hu]
 have hsk:sks prog 5 t=some [.s]:=by unfold sks;rw [hu]
 have hc:=Yq n 5 _ W 0 _ _ _ _ _ hpl hsk hn
 obtain ⟨hp,hr⟩:=Y0 n 5 _ W 0 _ _ _ _ hpl hn
 dsimp only at hp
 subst hp
 obtain ⟨s',cs',h1,h2,_⟩:=Xq hc
 injection h1 with h3 _
 injection h3 with h4
 exact ⟨s,rfl,by rw [h4];exact h2,rfl,fun w' base' sp' hd'=>⟨n,hr w' base' sp' hd'⟩⟩
theorem open_num {t:TypeId} {k:IntKind} (hu:prog.underlying t=some (.int k)) (hv:Value.okWide prog W .any base t v) (h:DataW.Trod enc prog W 0 (fun _=>true) true t v d p) :
  ∃z:Int,v = .int k z∧(Lit.int k z).wf=true∧p=[]∧∀w' base' sp' hd',DataW.Trod enc prog w' base' sp' hd' t v d []:=by
 obtain ⟨z,rfl⟩:=okWide_int hu hv
 obtain ⟨n,hn⟩:=h
 have hpl:plainT prog 5 t=true:=by unfold plainT;rw [hu]
 have hsk:sks prog 5 t=some [.i k]:=by unfold sks;rw [hu]
 have hc:=Yq n 5 _ W 0 _ _ _ _ _ hpl hsk hn
 obtain ⟨hp,hr⟩:=Y0 n 5 _ W 0 _ _ _ _ hpl hn
 dsimp only at hp
 subst hp
 obtain ⟨z',cs',h1,h2,_⟩:=Ya hc
 injection h1 with h3 _
 injection h3 with _ h4
 exact ⟨z,rfl,by rw [h4];exact h2,rfl,fun w' base' sp' hd'=>⟨n,hr w' base' sp' hd'⟩⟩
end
end
section
variable {v:Value}
end
structure It where
 who:UInt8
 nu:UInt8
 tk:UInt8
 ch:UInt8
 tx:ByteArray
def itf (x:It):List Value:=[.int .u8 x.who.toNat,.int .u8 x.nu.toNat,.int .u8 x.tk.toNat,.int .u8 x.ch.toNat,.string x.tx]
def It.v (x:It):Value:=.agg #[.int .u8 x.who.toNat,.int .u8 x.nu.toNat,.int .u8 x.tk.toNat,.int .u8 x.ch.toNat,.string x.tx]
def nm0:ByteArray:=⟨#[49]⟩
def nm1:ByteArray:=⟨#[49,46,50]⟩
def nm2:ByteArray:=⟨#[51]⟩
def who3 (j:Nat):ByteArray:=if j=0 then nm0 else if j=1 then nm1 else nm2
def ito (x:It):Ou:=⟨1+(x.ch.toNat % 4:Nat),⟨#[116]⟩,x.tx.extract 0 (min x.tx.size 20),5⟩
def itn (x:It):Nm:=⟨18,who3 (x.who.toNat % 3),(x.nu.toNat % 4:Nat),(x.tk.toNat % 8:Nat),⟨#[]⟩⟩
def itl (x:It) (p:Nat):Lf:=⟨⟨who3 (x.who.toNat % 3),(x.nu.toNat % 4:Nat),(x.tk.toNat % 8:Nat),ito x⟩,(9+p:Nat),(p / 5:Nat)⟩
def stF (es:Al) (l:List It):Al:=l.foldl (fun es x=>insO (itn x) (oencS (ito x)) es) es
def ldF (l:List It):List Lf:=l.mapIdx fun p x=>itl x p
structure B1 (now:List It) where
 i:Nat
 q:Option Addr
 es:Al
 h1:i≤now.length∧i≤20
 h2:es=stF [] (now.take i)
 h3:es.length≤i
structure B2 (left:List It) where
 i:Nat
 h1:i≤left.length∧i≤20
section
open Go.ChangeShapes Go.WideShapes Go.ChangeAt

end
def kx:It:=⟨1,0,0,0,⟨#[120]⟩⟩
def ky:It:=⟨1,0,0,0,⟨#[121]⟩⟩
def kc:Cq:=⟨3,nm1,0,0,ito ky,0,ito kx,0⟩
def sameC (c:Cq) (y:En):Bool:=decide (c.who=y.who) && (decide (c.nu=y.nu) && (decide (c.newAt=y.tk) && decide (c.new=y.o)))
def Cq.v (c:Cq):Value:=.agg #[.int .i64 c.kind,.string c.who,.int .i64 c.nu,.int .i64 c.place,.int .i64 c.old.ch,.string c.old.tg,.string c.old.tx,.int .i64 c.old.us,.int .i64 c.oldAt,.int .i64 c.new.ch,.string c.new.tg,.string c.new.tx,.int .i64 c.new.us,.int .i64 c.newAt]
def eqq (a b:Cq):Bool:=(a.kind == b.kind) && ((a.who.toList == b.who.toList) && ((a.nu == b.nu) && ((a.place == b.place) && (((a.old.ch == b.old.ch) && ((a.old.tg.toList == b.old.tg.toList) && ((a.old.tx.toList == b.old.tx.toList) && ((a.old.us == b.old.us) && true)))) && ((a.oldAt == b.oldAt) && (((a.new.ch == b.new.ch) && ((a.new.tg.toList == b.new.tg.toList) && ((a.new.tx.toList == b.new.tx.toList) && ((a.new.us == b.new.us) && true)))) && ((a.newAt == b.newAt) && true)))))))
def difE (l:List Cq):List Cq:=l.filter fun c=>decide (c.kind≠1)
def cn (j:Int) (l:List Cq):Nat:=l.countP fun c=>decide (c.kind=j)
def cn0 (l:List Cq):Nat:=l.countP fun c=>decide (c.kind<1∨4<c.kind)
def cntC (l:List Cq):List Value:=[.int .i64 (cn0 l:Int),.int .i64 (cn 1 l:Int),.int .i64 (cn 2 l:Int),.int .i64 (cn 3 l:Int),.int .i64 (cn 4 l:Int)]
structure D1 (l:List Cq) where
 i:Nat
 o:Option Addr
 cap:Nat
 hi:i≤l.length
structure D2 (l:List Cq) where
 i:Nat
 hi:i≤l.length

def i8f (x:Int8):List Value:=[.int .i8 x.toInt]
def kq (c:Cq) (k:Int8) (p:Nat):Cq:={c with kind:=k.toInt,place:=p}
def kqs (c:Cq) (ks:List Int8):List Cq:=ks.mapIdx fun p k=>kq c k p
structure N1 (ks:List Int8) where
 i:Nat
 o:Option Addr
 cap:Nat
 o':Option Addr
 cap':Nat
 hi:i≤ks.length
section
open Go.ChangeShapes Go.WideShapes Go.ChangeAt
theorem plC:plainT prog 5 26=true:=by decide +kernel
theorem skC:sks prog 5 26=some [.i .i64,.s,.i .i64,.i .i64,.i .i64,.s,.s,.i .i64,.i .i64,.i .i64,.s,.s,.i .i64,.i .i64]:=by kernel_rfl
end
section
open Go.ChangeShapes Go.WideShapes Go.ChangeAt
def laidR : List (String × DataW Unit) := [("math/bits.deBruijn32tab", Rows.laid_math_bits_deBruijn32tab), ("math/bits.deBruijn64tab", Rows.laid_math_bits_deBruijn64tab), ("internal/strconv.uint64pow10", Rows.laid_internal_strconv_uint64pow10), ("unicode/utf8.acceptRanges", Rows.laid_unicode_utf8_acceptRanges), ("strconv.ErrRange", Rows.laid_strconv_ErrRange), ("strconv.ErrSyntax", Rows.laid_strconv_ErrSyntax), ("unicode/utf8.first", Rows.laid_unicode_utf8_first)]
theorem tP10:(prog.globals[3]?).map (·.type)=some 218:=by kernel_rfl
theorem plP10:plainT prog 5 218=true:=by decide +kernel
theorem rdP10 (w:World):DataW.trod (fun _=>()) prog w 0 (fun _=>true) false 8 218 (Lib.pow10Tab.map fun z=>Value.int .u64 z)=some (Rows.laid_internal_strconv_uint64pow10,[]):=by kernel_rfl
theorem star_err : "*" ++ "errors.errorString" = "*errors.errorString" := by decide
theorem row_err (u : TypeId) (h : prog.typeName? 3 u = some "*errors.errorString") : u = 242 :=
 typeName_ptr_named (nm := "errors.errorString") (by rw [star_err]; kernel_rfl) (by kernel_rfl) (by decide) u (by rw [star_err]; exact h)
theorem var_one {W:World} {g:Nat} {n:String} {v:Value} (hg:prog.globalNamed n=some g) (h:W.var? prog n=some #[v]):∃T fz,W.heap[g]? = some (.cells #[v] T fz):=by
 simp only [World.var?,hg,Option.bind_some] at h
 split at h
 ·rename_i cs t fr hb
  obtain rfl:=Option.some.inj h
  exact ⟨t,fr,hb⟩
 ·cases h
theorem tabsR {W:World} (h:laidMetH prog laidR W):(ErA.p fun b=>W.heap[b]?)∧P10.p fun b=>W.heap[b]?:=by
 rw [MakeChecks.laidMetH_plain _ _ _ (by kernel_rfl)] at h
 have h3:=h.tail.tail
 have h5:=h3.tail.tail
 have h6:=h5.tail
 refine ⟨?_,?_⟩
 ·obtain ⟨a1, s1, hv1, _⟩ := laid_sentinel h5 (show prog.globalNamed "strconv.ErrRange" = some 7 by kernel_rfl) (show (prog.globals[7]?).map (·.type) = some 84 by kernel_rfl) underlying84 row_err underlying242 underlying244 rfl rfl underlying9 (by kernel_rfl) (by kernel_rfl)
  obtain ⟨a2, s2, hv2, _⟩ := laid_sentinel h6 (show prog.globalNamed "strconv.ErrSyntax" = some 6 by kernel_rfl) (show (prog.globals[6]?).map (·.type) = some 84 by kernel_rfl) underlying84 row_err underlying242 underlying244 rfl rfl underlying9 (by kernel_rfl) (by kernel_rfl)
  obtain ⟨T1, f1, e1⟩ := var_one (show prog.globalNamed "strconv.ErrRange" = some 7 by kernel_rfl) hv1
  obtain ⟨T2, f2, e2⟩ := var_one (show prog.globalNamed "strconv.ErrSyntax" = some 6 by kernel_rfl) hv2
  exact ⟨⟨_,T2,f2,.inr ⟨_,_,rfl⟩,e2⟩,⟨_,T1,f1,.inr ⟨_,_,rfl⟩,e1⟩⟩
 ·obtain ⟨ps,⟨g1,t1,cs1,f1,p1,q1,hg1,ht1,hv1,hd1,_⟩,_⟩:=h3
  obtain rfl := Option.some.inj ((show prog.globalNamed "internal/strconv.uint64pow10" = some 3 by kernel_rfl).symm.trans hg1)
  obtain rfl:=Option.some.inj (tP10.symm.trans ht1)
  have hcs:cs1.toList=Lib.pow10Tab.map fun z=>Value.int .u64 z:=trod_inj (enc':=fun _=>()) _ _ _ _ W W _ _ _ _ _ _ _ _ _ _ plP10 hd1 (rdP10 W) rfl
  unfold World.var? at hv1
  rw [hg1] at hv1
  simp only [Option.bind_some] at hv1
  split at hv1
  ·rename_i cs t fr hb
   obtain rfl:=Option.some.inj hv1
   exact ⟨t,fr,by rw [←hcs];simpa using hb⟩
  ·cases hv1
theorem mxlR {W:World} (h:W.ShapedOpen prog):MxL.p fun b=>W.heap[b]?:=by
 obtain ⟨cs,hh,hs,hr⟩:=h.1 0 #[.int .i64 0] 3 (of_decide_eq_true (by kernel_rfl)) (by kernel_rfl)
 obtain ⟨ts,hts,_,hall⟩:=hr (by kernel_rfl)
 rw [show prog.cellTypes prog.depth 3=some [3] by kernel_rfl] at hts
 cases hts
 have hs:cs.size=1:=hs
 have h1:0<cs.size:=by omega
 obtain ⟨u,hu',hok⟩:=hall 0 cs[0] (by simp [h1])
 have:u=3:=by simpa using hu'.symm
 subst this
 have e:cs = #[cs[0]]:=by
  apply Array.ext
  ·simp [hs]
  ·intro i hi hj
   obtain rfl:i=0:=by simp at hj;omega
   rfl
 unfold Cell.ok at hok
 rw [underlying3] at hok
 cases hv:cs[0]<;>rw [hv] at hok<;>simp at hok
 case int k n=>
  rw [hv,hok.1] at e
  exact ⟨n,3,(0,0),by show W.heap[_]? = _;rw [hh,e]⟩
def bits (l:List Int):List Value:=l.map fun z=>Value.int .u8 z
def b32:List Int:=[0,1,28,2,29,14,24,3,30,22,20,15,25,17,4,8,31,27,13,23,21,19,16,7,26,12,18,6,11,5,10,9]
def b64:List Int:=[0,1,56,2,57,49,28,3,61,58,42,50,38,29,17,4,62,47,59,36,45,43,51,22,53,39,33,30,24,18,12,5,63,55,48,27,60,41,37,16,46,35,44,21,52,32,23,11,54,26,40,15,34,20,31,10,25,14,19,9,13,8,7,6]
noncomputable def laidWorldR (os:Os):World:=
 let N:=(World.settled prog os).heap.size
 let w0:=World.holding prog os ⟨#[.cells #[.string ⟨#[118,97,108,117,101,32,111,117,116,32,111,102,32,114,97,110,103,101]⟩] 244,.cells #[.string ⟨#[105,110,118,97,108,105,100,32,115,121,110,116,97,120]⟩] 244],#[],[]⟩
 let put (h:Array Obj) (g:Nat) (cs:Array Value):Array Obj:=h.modify g fun
  | .cells _ t frozen=>.cells cs t frozen
  | o=>o
 let h1:=put w0.heap 4 (bits b32).toArray
 let h2:=put h1 5 (bits b64).toArray
 let h3:=put h2 3 (Lib.pow10Tab.map fun z=>Value.int .u64 z).toArray
 let h4:=put h3 2 ((List.range 16).flatMap fun i=>[Value.int .u8 (Lib.accLo i),Value.int .u8 (Lib.accHi i)]).toArray
 let h5:=put h4 7 #[.iface 242 (.pointer (some ⟨N,0,none⟩))]
 let h6:=put h5 6 #[.iface 242 (.pointer (some ⟨N+1,0,none⟩))]
 let h7:=put h6 1 (Lib.firstTab.map fun z=>Value.int .u8 z).toArray
 {w0 with heap:=h7}
theorem open_cqw {H:Type} {enc:TypeId×Value→H} {W:World} {base:Nat} {v:Value} {d:DataW H} {p:List MemPlace} (hv:Value.okWide prog W .any base 26 v) (h:DataW.Trod enc prog W 0 (fun _=>true) true 26 v d p) :
  ∃c:Cq,v=cqa c∧CqW c∧p=[]∧∀w' base' sp' hd',DataW.Trod enc prog w' base' sp' hd' 26 v d []:=by
 obtain ⟨cs,rfl,h,hp,hr⟩:=open_agg plC skC (aggS underlying26 hv) h
 obtain ⟨z1,cs,rfl,_,h⟩:=Ya h
 obtain ⟨s2,cs,rfl,_,h⟩:=Xq h
 obtain ⟨z3,cs,rfl,b3,h⟩:=Ya h
 obtain ⟨z4,cs,rfl,_,h⟩:=Ya h
 obtain ⟨z5,cs,rfl,_,h⟩:=Ya h
 obtain ⟨s6,cs,rfl,_,h⟩:=Xq h
 obtain ⟨s7,cs,rfl,_,h⟩:=Xq h
 obtain ⟨z8,cs,rfl,b8,h⟩:=Ya h
 obtain ⟨z9,cs,rfl,b9,h⟩:=Ya h
 obtain ⟨z10,cs,rfl,_,h⟩:=Ya h
 obtain ⟨s11,cs,rfl,_,h⟩:=Xq h
 obtain ⟨s12,cs,rfl,_,h⟩:=Xq h
 obtain ⟨z13,cs,rfl,b13,h⟩:=Ya h
 obtain ⟨z14,cs,rfl,b14,h⟩:=Ya h
 obtain rfl:=cells_nil h
 have i3:=i64_in b3;have i8:=i64_in b8;have i9:=i64_in b9;have i13:=i64_in b13;have i14:=i64_in b14
 exact ⟨⟨z1,s2,z3,z4,⟨z5,s6,s7,z8⟩,z9,⟨z10,s11,s12,z13⟩,z14⟩,rfl,⟨show z3≤_ by omega,show z8≤_ by omega,show z9≤_ by omega,show z13≤_ by omega,show z14≤_ by omega⟩,hp,hr⟩
end
end Go.Proofs.YtodkipbnefngkaaGreatDoor
