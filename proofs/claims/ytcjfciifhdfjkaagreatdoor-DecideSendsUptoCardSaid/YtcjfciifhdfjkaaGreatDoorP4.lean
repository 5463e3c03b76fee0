/-
  Package rule: the table of tests; either, both.
  Package rule: both.
  Package rule: factors of conditions.
  Package rule: terms and conditions.
  Rules for the range over a text, and what a rune is.
  A rule for a scope that no jump leaves.
  strings.IndexRune in the text of both braces.
  strings.IndexAny with both braces.
  strings.Cut at a brace; package rule: subject, value.
  Package rule: divide.
  Package rule: Check, Expand, expandedSize.
  Package rule: actions, rules.
  Package rule: a line.
  The parser of rules: where its errors are; the lines of a text. No program in sight.
  The program's and the model's parser of the language of rules agree: conditions, rules, texts; no program in sight.
  The program's and the model's reading of a text of rules agree; no program in sight.
  What the trees of the model and the conditions of the program say of a consequence is the same; what the actions of parsed rules are. No program in sight.
  Conditions that the parser makes: their shape and the sizes of their texts. No program in sight.
  Books of decisions: what rules decide is permitted.
  Owned memory that stays from now on.
  Contracts of the statements' own functions of layer 39: shortO, short, check, put, value, leave, find, encoding.
  The range over a function that yields two values.
  Contracts of ledgers: Find, Encode.
  Contracts of ledgers: Clone, Equal, Prefix; Get behind the end.
  Owned memory is lent as facts to a call; books in memory.
  The contract of consequence.Equal.
  Books of decisions in memory: equal decisions, lists of them, copies; matters as keys of maps.
  A byte as a text; decimal numerals.
  The statements' model of the language of rules: decimal numerals, subjects, what is possible.
  The contracts of the checks of consequences and actions, in package decide and in the model.
  Lookups in maps to booleans.
  The range over a function, whose rounds leave facts and hand something on.
  strings.SplitSeq at the ends of lines.
  Package rule: Parse.
  How long a template becomes. No program in sight.
  Package rule: the tests of conditions.
  Package rule: what conditions say of a consequence.
  Package rule: Len, Holds, Decide.
  Conditions: those that each theorem states.
-/
import Derived.Test.YtcjfciifhdfjkaaGreatDoorP3
import Derived.Scope
import Derived.Test.YtcjfciifhdfjkaaGreatDoorP1
import Derived.Shelf.Small.Utf8
import Derived.Shelf.Strings.IndexAnyAll
import Derived.Shelf.Strings.Search2
import Derived.Test.YtcjfciifhdfjkaaGreatDoorP2
import Derived.Lib.ItoaNum
import Derived.Shelf.Strings.Prefix
set_option maxRecDepth 10000
namespace Go.Proofs.YtcjfciifhdfjkaaGreatDoor
open Go.RowKit Go.Proofs.Tryz
def tstL:List (ByteArray×Value):=[(⟨#[109,105,115,115,105,110,103]⟩,fnv 160),(⟨#[99,104,97,110,103,101,100]⟩,fnv 160),(⟨#[110,101,119]⟩,fnv 160),(wChan,fnv 161),
 (⟨#[116,97,114,103,101,116]⟩,fnv 162),(⟨#[98,101,102,111,114,101]⟩,fnv 162),(⟨#[97,102,116,101,114]⟩,fnv 162),
 (⟨#[117,115,101,114]⟩,fnv 163),(⟨#[110,117,109,98,101,114]⟩,fnv 163),(⟨#[115,105,122,101]⟩,fnv 163),(⟨#[116,105,99,107]⟩,fnv 163),(wBy,fnv 164)]
theorem mget_ne {w k:ByteArray} {v:Value} {m:List (ByteArray×Value)} (h:w≠k):mget w ((k,v)::m)=mget w m:=by rw [mget,if_neg h]
theorem tst_kind {w:ByteArray} (h:idx w wKinds<3):mget w tstL=some (fnv 160):=by
 have:=Yv.1 h
 simp only [wKinds,List.mem_cons,List.not_mem_nil,or_false] at this
 rcases this with rfl|rfl|rfl<;>rfl
theorem tst_chan:mget wChan tstL=some (fnv 161):=rfl
theorem tst_by:mget wBy tstL=some (fnv 164):=rfl
theorem tst_tx {w:ByteArray} (h:idx w wTxs<3):mget w tstL=some (fnv 162):=by
 have:=Yv.1 h
 simp only [wTxs,List.mem_cons,List.not_mem_nil,or_false] at this
 rcases this with rfl|rfl|rfl<;>rfl
theorem tst_nm {w:ByteArray} (h:idx w wNms<4):mget w tstL=some (fnv 163):=by
 have:=Yv.1 h
 simp only [wNms,List.mem_cons,List.not_mem_nil,or_false] at this
 rcases this with rfl|rfl|rfl|rfl<;>rfl
theorem tst_none {w:ByteArray} (h:isTst w=false):mget w tstL=none:=by
 have e:∀(m:List (ByteArray×Value)),(∀p ∈ m,isTst p.1=true)→mget w m=none:=by
  intro m
  induction m with
  | nil=>intro _;rfl
  | cons p m ih=>
   intro hm
   obtain ⟨k,v⟩:=p
   have hk:=hm (k,v) (.head _)
   rw [mget_ne (by rintro rfl;rw [h] at hk;cases hk)]
   exact ih fun p hp=>hm p (.tail _ hp)
 refine e _ ?_
 intro p hp
 have:∀k ∈ tstL.map (·.1),isTst k=true:=by decide
 exact this _ (List.mem_map_of_mem hp)
set_option maxHeartbeats 2000000 in
theorem ruTests_ok:Enters 129∧Spec prog 129 #[] [] [] ⟨Nat,fun r=>.map (some r),fun _=>True,fun _=>[],fun r=>[Mp skv vid r tstL]⟩:=by
 refine ZE [] func129 ntmps129 fun G w hp=>?_
 repeat' (first|refine Yy (V:=vid) ZZ _ _ ?_|refine Yk ZZ vid (fun r=>?_)|refine ZC ?_|fail)
 exact ZD r rfl trivial
theorem WI {h:H}:∀{l:List Cnd} {vs:List Value} {j:Nat} {c:Cnd} {v:Value},CdsP h l vs→l[j]? = some c→vs[j]? = some v→CdP h c v
 | [],_,_,_,_,_,h1,_=>by simp at h1
 | c::l,vs,j,d,v,hh,h1,h2=>by
  rw [CdsP] at hh
  obtain ⟨u,ws,rfl,h3,h4⟩:=hh
  cases j with
  | zero=>simp at h1 h2;subst h1;subst h2;exact h3
  | succ j=>exact WI (j:=j) h4 (by simpa using h1) (by simpa using h2)
theorem cdP_shape {h:H} {c:Cnd} {v:Value} (hh:CdP h c v):v = .nilIface∨∃T u,v = .iface T u∧((∀l,c≠.any l)→T≠305)∧((∀l,c≠.all l)→T≠319):=by
 cases c with
 | any l=>
  rw [CdP] at hh
  obtain ⟨o,cap,vs,rfl,_⟩:=hh
  exact .inr ⟨_,_,rfl,fun h=>absurd rfl (h l),fun _=>by decide⟩
 | all l=>
  rw [CdP] at hh
  obtain ⟨o,cap,vs,rfl,_⟩:=hh
  exact .inr ⟨_,_,rfl,fun _=>by decide,fun h=>absurd rfl (h l)⟩
 | nt d=>
  rw [CdP] at hh
  obtain ⟨u,rfl,_⟩:=hh
  exact .inr ⟨_,_,rfl,fun _=>by decide,fun _=>by decide⟩
 | nul=>
  rw [CdP] at hh
  exact .inl hh
 | kd w k=>
  rw [CdP] at hh
  obtain ⟨b,rfl,_⟩:=hh
  exact .inr ⟨_,_,rfl,fun _=>by decide,fun _=>by decide⟩
 | ch w k=>
  rw [CdP] at hh
  obtain ⟨b,rfl,_⟩:=hh
  exact .inr ⟨_,_,rfl,fun _=>by decide,fun _=>by decide⟩
 | tx w f k s=>
  rw [CdP] at hh
  obtain ⟨b1,b2,b3,rfl,_⟩:=hh
  exact .inr ⟨_,_,rfl,fun _=>by decide,fun _=>by decide⟩
 | nm w f k n=>
  rw [CdP] at hh
  obtain ⟨b1,b2,b3,rfl,_⟩:=hh
  exact .inr ⟨_,_,rfl,fun _=>by decide,fun _=>by decide⟩
 | by_ w s=>
  rw [CdP] at hh
  obtain ⟨b,rfl,_⟩:=hh
  exact .inr ⟨_,_,rfl,fun _=>by decide,fun _=>by decide⟩
theorem either_one {l:List Cnd} {c:Cnd} (h:l.flatMap anyP=[c]):eitherF l=c:=by unfold eitherF;rw [h]
theorem either_many {l:List Cnd} (h:(l.flatMap anyP).length≠1):eitherF l = .any (l.flatMap anyP):=by
 unfold eitherF
 split
 ·rename_i c hc;rw [hc] at h;exact absurd rfl h
 ·rfl
theorem anyP_not {c:Cnd} (h:∀l,c≠.any l):anyP c=[c]:=by
 cases c<;>first|rfl|exact absurd rfl (h _)
set_option maxHeartbeats 4000000 in
theorem ruEither_ok (o:Option Addr) (cap:Nat) (l:List Cnd) (vs:List IV) (hl:vs.length=l.length) (hbd:(l.flatMap anyP).length≤1000000) (hbl:l.length≤1000000):Enters 212∧Spec prog 212 #[.slice o vs.length cap] [Sl 168 ivl o cap vs,CdsF l (vs.map ivOf)] []
  ⟨IV,fun v=>ivOf v,fun _=>True,fun v=>[CdF (eitherF l) (ivOf v)],fun _=>[]⟩:=by
 refine ZE [_] func212 ntmps212 fun G w hp=>?_
 repeat' (first|refine ZC ?_|fail)
 refine Yw (f:=CdsF [] []) (fun hp=>by show CdsP hp [] [];rw [CdsP]) ?_
 refine ZO (Lx:=[]) (r:=Row 168 1 none 0 0 []) (fun h _=>Zb _ _ h) ?_
 refine Zj (X:={q:Nat×List IV×Option Addr×Nat // q.1≤vs.length∧q.2.1.length=((l.take q.1).flatMap anyP).length}) (fun q=>[(0,.slice o vs.length cap),(3,.slice q.1.2.2.1 q.1.2.1.length q.1.2.2.2),(8,.slice o vs.length cap),(9,.int .i64 (vs.length:Int)),(10,.int .i64 (q.1.1:Int))]) (fun q=>[Sl 168 ivl o cap vs,CdsF l (vs.map ivOf),CdsF ((l.take q.1.1).flatMap anyP) (q.1.2.1.map ivOf)]) (fun q=>[Row 168 1 q.1.2.2.1 q.1.2.1.length q.1.2.2.2 (q.1.2.1.flatMap ivl)]) (fun q=>vs.length - q.1.1) ⟨(0,[],none,0),Nat.zero_le _,rfl⟩ ⟨rfl,rfl,rfl,rfl,rfl,trivial⟩ ?_
 rintro ⟨⟨j,rs,o',cap'⟩,hj,hrl⟩
 dsimp only at hj hrl ⊢
 have hpre:∀i,((l.take i).flatMap anyP).length≤(l.flatMap anyP).length:=fun i=>by
  have:l.flatMap anyP=(l.take i).flatMap anyP++(l.drop i).flatMap anyP:=by rw [←List.flatMap_append,List.take_append_drop]
  rw [this,List.length_append];omega
 have hpj:=hpre j
 by_cases hlt:j<vs.length
 ·have hxj:=List.getElem?_eq_getElem hlt
  have hltc:j<l.length:=by omega
  have hcj:=List.getElem?_eq_getElem hltc
  have htk:=List.take_succ_eq_append_getElem hltc
  generalize hxe:vs[j]=x at *
  generalize hce:l[j]=c at *
  have hfm:(l.take (j+1)).flatMap anyP=(l.take j).flatMap anyP++anyP c:=by rw [htk,List.flatMap_append];simp
  have hpj1:=hpre (j+1)
  rw [hfm,List.length_append] at hpj1
  have w1:=wrapi (z:=(j:Int)+1) (by omega) (by omega)
  obtain ⟨T,u⟩:=x
  refine Zx (F1:=[CdsF l (vs.map ivOf)]) (f:=CdF c (ivOf (T,u))) (fun hp hF=>WI (hF _ (.head _)) hcj (by rw [List.getElem?_map,hxj];rfl)) ?_
  by_cases ha:∃la,c = .any la
  ·obtain ⟨la,rfl⟩:=ha
   refine Zm (X:=Option Addr×Nat×List IV) (Fx:=fun q=>[Sl 168 ivl q.1 q.2.1 q.2.2,CdsF la (q.2.2.map ivOf)]) (p:=fun q=>ivOf (T,u) = .iface 305 (.agg #[.slice q.1 q.2.2.length q.2.1])∧q.2.2.length=la.length) (f:=CdF (.any la) (ivOf (T,u))) .here (fun h hh=>?_) (fun q hq=>?_)
   ·have hh:CdP h (.any la) (ivOf (T,u)):=hh
    rw [CdP] at hh
    obtain ⟨o2,c2,ws,h1,h2,h3⟩:=hh
    exact ⟨(o2,c2,ws),⟨h1,by have:=Wj h3;simpa using this⟩,fun f hf=>by
     simp only [List.mem_cons,List.not_mem_nil,or_false] at hf
     rcases hf with rfl|rfl
     ·exact h2
     ·exact h3⟩
   obtain ⟨o2,c2,ws⟩:=q
   obtain ⟨hq1,hq2⟩:=hq
   dsimp only at hq1 hq2 ⊢
   obtain ⟨rfl,rfl⟩:=Value.iface.inj hq1
   have hwl:(anyP (.any la)).length=la.length:=rfl
   have hroom:(2 * (rs.length+ws.length)+200) * 16≤281474976710656:=by omega
   repeat' (first|refine l_appF (es:=ws) (f:=ivl) (m:=rs.length) (fun o3 cap3=>?_) (hone:=iv_one) (hroom:=hroom)|refine ZC ?_|refine ZH (fun b=>?_)|refine ZU (es:=vs) (f:=ivl) j _ hxj (fun b off=>?_)|refine ZQ ?_|refine l_taY ?_|rw [w1]|(refine ZB (fun hc=>?_) (fun hc=>?_)<;>(try simp at hc)<;>(try omega))|fail)
   have e1:rs.length+ws.length=(rs++ws).length:=by simp
   have e2:rs.flatMap ivl++ws.flatMap ivl=(rs++ws).flatMap ivl:=by simp
   refine Zi (T:=168) (sz:=1) (o:=o3) (cap:=cap3) (m:=rs.length+ws.length) _ _ e1 e2 ?_
   rw [e1]
   refine Zx (F1:=[CdsF ((l.take j).flatMap anyP) (rs.map ivOf),CdsF la (ws.map ivOf)]) (f:=CdsF ((l.take (j+1)).flatMap anyP) ((rs++ws).map ivOf)) (fun hp hF=>?_) ?_
   ·show CdsP hp _ _
    rw [hfm,List.map_append]
    exact XL (hF _ (.head _)) (hF _ (.tail _ (.head _)))
   exact ZJ ⟨(j+1,rs++ws,o3,cap3),by show j+1≤vs.length;omega,by show (rs++ws).length=_;rw [hfm,List.length_append,List.length_append,hrl,hq2];rfl⟩ (by show vs.length - (j+1)<vs.length - j;omega) ⟨rfl,rfl,rfl,rfl,rfl,trivial⟩
  ·have ha:∀la,c≠.any la:=fun la h=>ha ⟨la,h⟩
   have hac:=anyP_not ha
   rw [hac] at hfm hpj1
   refine Zm (X:=Unit) (Fx:=fun _=>[]) (p:=fun _=>T≠305) (f:=CdF c (ivOf (T,u))) .here (fun h hh=>⟨(),?_,fun _ hx=>by cases hx⟩) (fun _ hne=>?_)
   ·rcases cdP_shape hh with h1|⟨T',u',h1,h2,_⟩
    ·cases h1
    ·obtain ⟨rfl,_⟩:=Value.iface.inj h1
     exact h2 ha
   simp only [List.length_cons,List.length_nil] at hpj1
   have hroom:(2 * (rs.length+1)+200) * 16≤281474976710656:=by omega
   have hne':ivOf (T,u) = .nilIface∨∃T' v,ivOf (T,u) = .iface T' v∧T'≠305:=.inr ⟨T,u,rfl,hne⟩
   repeat' (first|refine Zs (m:=rs.length) (m2:=1) (fun o3 cap3=>?_) (hroom:=hroom)|refine ZC ?_|refine ZH (fun b=>?_)|refine ZU (es:=vs) (f:=ivl) j _ hxj (fun b off=>?_)|refine ZQ ?_|refine l_taN hne' ?_|rw [w1]|(refine ZB (fun hc=>?_) (fun hc=>?_)<;>(try simp at hc)<;>(try omega))|fail)
   have e1:rs.length+1=(rs++[(T,u)]).length:=by simp
   have e2:rs.flatMap ivl++[ivOf (T,u)]=(rs++[(T,u)]).flatMap ivl:=by simp
   refine Zi (T:=168) (sz:=1) (o:=o3) (cap:=cap3) (m:=rs.length+1) _ _ e1 e2 ?_
   rw [e1]
   refine Zx (F1:=[CdsF ((l.take j).flatMap anyP) (rs.map ivOf),CdF c (ivOf (T,u))]) (f:=CdsF ((l.take (j+1)).flatMap anyP) ((rs++[(T,u)]).map ivOf)) (fun hp hF=>?_) ?_
   ·show CdsP hp _ _
    rw [hfm,List.map_append]
    exact XL (hF _ (.head _)) (Yx.2 (hF _ (.tail _ (.head _))))
   exact ZJ ⟨(j+1,rs++[(T,u)],o3,cap3),by show j+1≤vs.length;omega,by show (rs++[(T,u)]).length=_;rw [hfm,List.length_append,List.length_append,hrl];rfl⟩ (by show vs.length - (j+1)<vs.length - j;omega) ⟨rfl,rfl,rfl,rfl,rfl,trivial⟩
 ·have htl:l.take j=l:=List.take_of_length_le (show l.length≤j by omega)
  refine Zx (F1:=[CdsF ((l.take j).flatMap anyP) (rs.map ivOf)]) (f:=CdsF (l.flatMap anyP) (rs.map ivOf)) (fun hp hF=>by have:=hF _ (.head _);rwa [htl] at this) ?_
  rw [htl] at hrl
  refine YA (T:=168) (sz:=1) (f:=ivl) (o:=o') (cap:=cap') rs ?_ rfl rfl
  by_cases h1:rs.length=1
  ·obtain ⟨x,rfl⟩:=List.length_eq_one_iff.1 h1
   obtain ⟨c,hc1⟩:=List.length_eq_one_iff.1 (show (l.flatMap anyP).length=1 by rw [←hrl];rfl)
   rw [either_one hc1]
   have hx0:[x][0]? = some x:=rfl
   refine Zx (F1:=[CdsF (l.flatMap anyP) ([x].map ivOf)]) (f:=CdF c (ivOf x)) (fun hp hF=>by have:=hF _ (.head _);rw [hc1] at this;exact Yx.1 this) ?_
   repeat' (first|refine ZC ?_|refine ZM ?_|refine ZU (es:=[x]) (f:=ivl) 0 x hx0 (fun b off=>?_)|refine ZQ ?_|(refine ZB (fun hc=>?_) (fun hc=>?_)<;>(try simp at hc)<;>(try omega))|fail)
   exact ZD x rfl trivial
  ·rw [either_many (by rw [←hrl];exact h1)]
   refine Zx (F1:=[Sl 168 ivl o' cap' rs,CdsF (l.flatMap anyP) (rs.map ivOf)]) (f:=CdF (.any (l.flatMap anyP)) (ivOf (305,.agg #[.slice o' rs.length cap']))) (fun hp hF=>?_) ?_
   ·show CdP hp _ _
    rw [CdP]
    exact ⟨o',cap',rs,rfl,hF _ (.head _),hF _ (.tail _ (.head _))⟩
   repeat' (first|refine ZC ?_|refine ZM ?_|(refine ZB (fun hc=>?_) (fun hc=>?_)<;>(try simp at hc)<;>(try omega))|fail)
   exact ZD (305,.agg #[.slice o' rs.length cap']) rfl trivial
theorem both_one {l:List Cnd} {c:Cnd} (h:l.flatMap allP=[c]):bothF l=c:=by unfold bothF;rw [h]
theorem both_many {l:List Cnd} (h:(l.flatMap allP).length≠1):bothF l = .all (l.flatMap allP):=by
 unfold bothF
 split
 ·rename_i c hc;rw [hc] at h;exact absurd rfl h
 ·rfl
theorem allP_not {c:Cnd} (h:∀l,c≠.all l):allP c=[c]:=by
 cases c<;>first|rfl|exact absurd rfl (h _)
set_option maxHeartbeats 4000000 in
theorem ruBoth_ok (o:Option Addr) (cap:Nat) (l:List Cnd) (vs:List IV) (hl:vs.length=l.length) (hbd:(l.flatMap allP).length≤1000000) (hbl:l.length≤1000000):Enters 224∧Spec prog 224 #[.slice o vs.length cap] [Sl 168 ivl o cap vs,CdsF l (vs.map ivOf)] []
  ⟨IV,fun v=>ivOf v,fun _=>True,fun v=>[CdF (bothF l) (ivOf v)],fun _=>[]⟩:=by
 refine ZE [_] func224 ntmps224 fun G w hp=>?_
 repeat' (first|refine ZC ?_|fail)
 refine Yw (f:=CdsF [] []) (fun hp=>by show CdsP hp [] [];rw [CdsP]) ?_
 refine ZO (Lx:=[]) (r:=Row 168 1 none 0 0 []) (fun h _=>Zb _ _ h) ?_
 refine Zj (X:={q:Nat×List IV×Option Addr×Nat // q.1≤vs.length∧q.2.1.length=((l.take q.1).flatMap allP).length}) (fun q=>[(0,.slice o vs.length cap),(3,.slice q.1.2.2.1 q.1.2.1.length q.1.2.2.2),(8,.slice o vs.length cap),(9,.int .i64 (vs.length:Int)),(10,.int .i64 (q.1.1:Int))]) (fun q=>[Sl 168 ivl o cap vs,CdsF l (vs.map ivOf),CdsF ((l.take q.1.1).flatMap allP) (q.1.2.1.map ivOf)]) (fun q=>[Row 168 1 q.1.2.2.1 q.1.2.1.length q.1.2.2.2 (q.1.2.1.flatMap ivl)]) (fun q=>vs.length - q.1.1) ⟨(0,[],none,0),Nat.zero_le _,rfl⟩ ⟨rfl,rfl,rfl,rfl,rfl,trivial⟩ ?_
 rintro ⟨⟨j,rs,o',cap'⟩,hj,hrl⟩
 dsimp only at hj hrl ⊢
 have hpre:∀i,((l.take i).flatMap allP).length≤(l.flatMap allP).length:=fun i=>by
  have:l.flatMap allP=(l.take i).flatMap allP++(l.drop i).flatMap allP:=by rw [←List.flatMap_append,List.take_append_drop]
  rw [this,List.length_append];omega
 have hpj:=hpre j
 by_cases hlt:j<vs.length
 ·have hxj:=List.getElem?_eq_getElem hlt
  have hltc:j<l.length:=by omega
  have hcj:=List.getElem?_eq_getElem hltc
  have htk:=List.take_succ_eq_append_getElem hltc
  generalize hxe:vs[j]=x at *
  generalize hce:l[j]=c at *
  have hfm:(l.take (j+1)).flatMap allP=(l.take j).flatMap allP++allP c:=by rw [htk,List.flatMap_append];simp
  have hpj1:=hpre (j+1)
  rw [hfm,List.length_append] at hpj1
  have w1:=wrapi (z:=(j:Int)+1) (by omega) (by omega)
  obtain ⟨T,u⟩:=x
  refine Zx (F1:=[CdsF l (vs.map ivOf)]) (f:=CdF c (ivOf (T,u))) (fun hp hF=>WI (hF _ (.head _)) hcj (by rw [List.getElem?_map,hxj];rfl)) ?_
  by_cases ha:∃la,c = .all la
  ·obtain ⟨la,rfl⟩:=ha
   refine Zm (X:=Option Addr×Nat×List IV) (Fx:=fun q=>[Sl 168 ivl q.1 q.2.1 q.2.2,CdsF la (q.2.2.map ivOf)]) (p:=fun q=>ivOf (T,u) = .iface 319 (.agg #[.slice q.1 q.2.2.length q.2.1])∧q.2.2.length=la.length) (f:=CdF (.all la) (ivOf (T,u))) .here (fun h hh=>?_) (fun q hq=>?_)
   ·have hh:CdP h (.all la) (ivOf (T,u)):=hh
    rw [CdP] at hh
    obtain ⟨o2,c2,ws,h1,h2,h3⟩:=hh
    exact ⟨(o2,c2,ws),⟨h1,by have:=Wj h3;simpa using this⟩,fun f hf=>by
     simp only [List.mem_cons,List.not_mem_nil,or_false] at hf
     rcases hf with rfl|rfl
     ·exact h2
     ·exact h3⟩
   obtain ⟨o2,c2,ws⟩:=q
   obtain ⟨hq1,hq2⟩:=hq
   dsimp only at hq1 hq2 ⊢
   obtain ⟨rfl,rfl⟩:=Value.iface.inj hq1
   have hwl:(allP (.all la)).length=la.length:=rfl
   have hroom:(2 * (rs.length+ws.length)+200) * 16≤281474976710656:=by omega
   repeat' (first|refine l_appF (es:=ws) (f:=ivl) (m:=rs.length) (fun o3 cap3=>?_) (hone:=iv_one) (hroom:=hroom)|refine ZC ?_|refine ZH (fun b=>?_)|refine ZU (es:=vs) (f:=ivl) j _ hxj (fun b off=>?_)|refine ZQ ?_|refine l_taY ?_|rw [w1]|(refine ZB (fun hc=>?_) (fun hc=>?_)<;>(try simp at hc)<;>(try omega))|fail)
   have e1:rs.length+ws.length=(rs++ws).length:=by simp
   have e2:rs.flatMap ivl++ws.flatMap ivl=(rs++ws).flatMap ivl:=by simp
   refine Zi (T:=168) (sz:=1) (o:=o3) (cap:=cap3) (m:=rs.length+ws.length) _ _ e1 e2 ?_
   rw [e1]
   refine Zx (F1:=[CdsF ((l.take j).flatMap allP) (rs.map ivOf),CdsF la (ws.map ivOf)]) (f:=CdsF ((l.take (j+1)).flatMap allP) ((rs++ws).map ivOf)) (fun hp hF=>?_) ?_
   ·show CdsP hp _ _
    rw [hfm,List.map_append]
    exact XL (hF _ (.head _)) (hF _ (.tail _ (.head _)))
   exact ZJ ⟨(j+1,rs++ws,o3,cap3),by show j+1≤vs.length;omega,by show (rs++ws).length=_;rw [hfm,List.length_append,List.length_append,hrl,hq2];rfl⟩ (by show vs.length - (j+1)<vs.length - j;omega) ⟨rfl,rfl,rfl,rfl,rfl,trivial⟩
  ·have ha:∀la,c≠.all la:=fun la h=>ha ⟨la,h⟩
   have hac:=allP_not ha
   rw [hac] at hfm hpj1
   refine Zm (X:=Unit) (Fx:=fun _=>[]) (p:=fun _=>T≠319) (f:=CdF c (ivOf (T,u))) .here (fun h hh=>⟨(),?_,fun _ hx=>by cases hx⟩) (fun _ hne=>?_)
   ·rcases cdP_shape hh with h1|⟨T',u',h1,_,h3⟩
    ·cases h1
    ·obtain ⟨rfl,_⟩:=Value.iface.inj h1
     exact h3 ha
   simp only [List.length_cons,List.length_nil] at hpj1
   have hroom:(2 * (rs.length+1)+200) * 16≤281474976710656:=by omega
   have hne':ivOf (T,u) = .nilIface∨∃T' v,ivOf (T,u) = .iface T' v∧T'≠319:=.inr ⟨T,u,rfl,hne⟩
   repeat' (first|refine Zs (m:=rs.length) (m2:=1) (fun o3 cap3=>?_) (hroom:=hroom)|refine ZC ?_|refine ZH (fun b=>?_)|refine ZU (es:=vs) (f:=ivl) j _ hxj (fun b off=>?_)|refine ZQ ?_|refine l_taN hne' ?_|rw [w1]|(refine ZB (fun hc=>?_) (fun hc=>?_)<;>(try simp at hc)<;>(try omega))|fail)
   have e1:rs.length+1=(rs++[(T,u)]).length:=by simp
   have e2:rs.flatMap ivl++[ivOf (T,u)]=(rs++[(T,u)]).flatMap ivl:=by simp
   refine Zi (T:=168) (sz:=1) (o:=o3) (cap:=cap3) (m:=rs.length+1) _ _ e1 e2 ?_
   rw [e1]
   refine Zx (F1:=[CdsF ((l.take j).flatMap allP) (rs.map ivOf),CdF c (ivOf (T,u))]) (f:=CdsF ((l.take (j+1)).flatMap allP) ((rs++[(T,u)]).map ivOf)) (fun hp hF=>?_) ?_
   ·show CdsP hp _ _
    rw [hfm,List.map_append]
    exact XL (hF _ (.head _)) (Yx.2 (hF _ (.tail _ (.head _))))
   exact ZJ ⟨(j+1,rs++[(T,u)],o3,cap3),by show j+1≤vs.length;omega,by show (rs++[(T,u)]).length=_;rw [hfm,List.length_append,List.length_append,hrl];rfl⟩ (by show vs.length - (j+1)<vs.length - j;omega) ⟨rfl,rfl,rfl,rfl,rfl,trivial⟩
 ·have htl:l.take j=l:=List.take_of_length_le (show l.length≤j by omega)
  refine Zx (F1:=[CdsF ((l.take j).flatMap allP) (rs.map ivOf)]) (f:=CdsF (l.flatMap allP) (rs.map ivOf)) (fun hp hF=>by have:=hF _ (.head _);rwa [htl] at this) ?_
  rw [htl] at hrl
  refine YA (T:=168) (sz:=1) (f:=ivl) (o:=o') (cap:=cap') rs ?_ rfl rfl
  by_cases h1:rs.length=1
  ·obtain ⟨x,rfl⟩:=List.length_eq_one_iff.1 h1
   obtain ⟨c,hc1⟩:=List.length_eq_one_iff.1 (show (l.flatMap allP).length=1 by rw [←hrl];rfl)
   rw [both_one hc1]
   have hx0:[x][0]? = some x:=rfl
   refine Zx (F1:=[CdsF (l.flatMap allP) ([x].map ivOf)]) (f:=CdF c (ivOf x)) (fun hp hF=>by have:=hF _ (.head _);rw [hc1] at this;exact Yx.1 this) ?_
   repeat' (first|refine ZC ?_|refine ZM ?_|refine ZU (es:=[x]) (f:=ivl) 0 x hx0 (fun b off=>?_)|refine ZQ ?_|(refine ZB (fun hc=>?_) (fun hc=>?_)<;>(try simp at hc)<;>(try omega))|fail)
   exact ZD x rfl trivial
  ·rw [both_many (by rw [←hrl];exact h1)]
   refine Zx (F1:=[Sl 168 ivl o' cap' rs,CdsF (l.flatMap allP) (rs.map ivOf)]) (f:=CdF (.all (l.flatMap allP)) (ivOf (319,.agg #[.slice o' rs.length cap']))) (fun hp hF=>?_) ?_
   ·show CdP hp _ _
    rw [CdP]
    exact ⟨o',cap',rs,rfl,hF _ (.head _),hF _ (.tail _ (.head _))⟩
   repeat' (first|refine ZC ?_|refine ZM ?_|(refine ZB (fun hc=>?_) (fun hc=>?_)<;>(try simp at hc)<;>(try omega))|fail)
   exact ZD (319,.agg #[.slice o' rs.length cap']) rfl trivial
theorem beqT {a b:ByteArray} (h:a=b):(a.toList == b.toList)=true:=by rw [h];simp
theorem beqF {a b:ByteArray} (h:a≠b):(a.toList == b.toList)=false:=by
 rw [Bool.eq_false_iff];simpa using fun e=>h (UP.1 e)
theorem KdOK.sfx {x y:Ps} (h:KdOK x) (s:Sfx x y):KdOK y:=fun t ht=>h t (List.IsSuffix.subset s ht)
abbrev RdQ (b r:Nat) (y:Cnd×Ps):Post:=⟨IV×Option Addr×Nat,fun q=>ivOf q.1,fun _=>True,fun q=>[CdF y.1 (ivOf q.1),TkS q.2 y.2.tk],fun q=>[Pt b (psC y.2 q.2.1 q.2.2 r),Mp skv vid r tstL]⟩
def OpI (x:Ps):Prop:=0≤x.op∧x.op+(x.tk.length:Int)≤300000
structure PkOK (x:Ps):Prop where
 kd:KdOK x
 op:OpI x
 ln:x.tk.length≤100000
theorem PkOK.sfx {x y:Ps} (h:PkOK x) (s:Sfx x y) (e:Sop x y):PkOK y:=by
 refine ⟨h.kd.sfx s,?_,Nat.le_trans s.len h.ln⟩
 obtain ⟨a,b⟩:=h.op
 have l:=s.len
 unfold Sop at e
 unfold OpI
 rw [e]
 exact ⟨a,by omega⟩
def SpF (F:FuncId) (b r:Nat) (x:Ps) (o:Option Addr) (cap:Nat) (y:Cnd×Ps):Prop:=Enters F∧Spec prog F #[.pointer (some ⟨b,0,none⟩)] [TkS (o,cap) x.tk,ErA,P10] [Pt b (psC x o cap r),Mp skv vid r tstL] (RdQ b r y)
set_option maxHeartbeats 4000000 in
theorem ruFactor_not (n b r:Nat) (x:Ps) (o:Option Addr) (cap:Nat) (hx:PkOK x) (h1:x.peek.kd=1) (h2:x.peek.tx=wNot) (ih:∀o cap,SpF 223 b r x.pass o cap (factorF n x.pass)) :
  SpF 223 b r x o cap (factorF (n+1) x):=by
 have n1:=Y9 b r x o cap hx.kd
 have e:factorF (n+1) x=(.nt (factorF n x.pass).1,(factorF n x.pass).2):=by
  rw [factorF];dsimp only;rw [if_pos ⟨h1,h2⟩]
 rw [e]
 have n2:=fun (q:Option Addr×Nat)=>ih q.1 q.2
 unfold SpF at n2
 generalize factorF n x.pass=y at n2 ⊢
 generalize hp:x.peek=t at *
 obtain ⟨kd,tx,pl⟩:=t
 dsimp only at h1 h2
 subst h1
 have hb:=beqT (a:=tx) (b:=⟨#[110,111,116]⟩) h2
 generalize b=bp at *
 unfold SpF
 refine ZE [_] func223 ntmps223 fun G w hp=>?_
 repeat' (first|refine ZC ?_|refine ZH (fun b=>?_)|refine ZA (n1) (fun _ _=>?_)|refine ZA (n2 _) (fun _ _=>?_)|rw [hb]|fail)
 rename_i q _
 obtain ⟨⟨T,u⟩,q2⟩:=q
 refine Zx (F1:=[CdF y.1 (ivOf (T,u))]) (f:=CdF (.nt y.1) (ivOf (317,.agg #[ivOf (T,u)]))) (fun hp hF=>?_) ?_
 ·show CdP hp _ _
  rw [CdP]
  exact ⟨_,rfl,hF _ (.head _)⟩
 exact ZD ((317,.agg #[ivOf (T,u)]),q2) rfl trivial
theorem factor_bad {n:Nat} {x:Ps} (h1:¬(x.peek.kd=1∧x.peek.tx=wNot)) (h2:¬(x.peek.kd=4∧x.peek.tx=yOpn)) (h3:¬(x.peek.kd=1∧isTst x.peek.tx=true)):factorF (n+1) x=(.nt .nul,x.pass.fail x.peek.pl 30):=by
 rw [factorF];dsimp only;rw [if_neg h1,if_neg h2,if_neg h3]
set_option maxHeartbeats 4000000 in
theorem ruFactor_bad (n b r:Nat) (x:Ps) (o:Option Addr) (cap:Nat) (hx:PkOK x) (h1:¬(x.peek.kd=1∧x.peek.tx=wNot)) (h2:¬(x.peek.kd=4∧x.peek.tx=yOpn)) (h3:¬(x.peek.kd=1∧isTst x.peek.tx=true)) :
  SpF 223 b r x o cap (factorF (n+1) x):=by
 have n1:=Y9 b r x o cap hx.kd
 have n2:=fun (q:Option Addr×Nat)=>Zr b r x.pass q.1 q.2 x.peek.pl 30
 rw [factor_bad h1 h2 h3]
 generalize x.pass.fail x.peek.pl 30=y at n2 ⊢
 generalize hp:x.peek=t at *
 obtain ⟨kd,tx,pl⟩:=t
 dsimp only at h1 h2 h3 n2
 have fin:∀hp:H,CdP hp (.nt .nul) (ivOf (317,.agg #[.nilIface])):=fun hp=>by
  rw [CdP];exact ⟨_,rfl,by rw [CdP]⟩
 generalize b=bp at *
 unfold SpF
 by_cases k1:kd=1
 ·subst k1
  have hb:=beqF (a:=tx) (b:=⟨#[110,111,116]⟩) (fun e=>h1 ⟨rfl,e⟩)
  have hm:=tst_none (w:=tx) (by simpa using fun e=>h3 ⟨rfl,e⟩)
  refine ZE [_] func223 ntmps223 fun G w hp=>?_
  repeat' (first|refine ZC ?_|refine ZH (fun b=>?_)|refine ZA (n1) (fun _ _=>?_)|refine ZA (n2 _) (fun _ _=>?_)|rw [hb]|refine Xq (V:=vid) ZZ tx none hm ?_|refine ZI 13 [] [(0,0),(1,0),(2,0),(3,0),(4,0),(5,0),(6,0),(7,0),(8,0),(9,0),(10,0),(11,0)] [] ?_|fail)
  rename_i q _
  refine Yw (f:=CdF (.nt .nul) (ivOf (317,.agg #[.nilIface]))) fin ?_
  exact ZD ((317,.agg #[.nilIface]),q) rfl trivial
 ·by_cases k4:kd=4
  ·subst k4
   have hb:=beqF (a:=tx) (b:=⟨#[40]⟩) (fun e=>h2 ⟨rfl,e⟩)
   refine ZE [_] func223 ntmps223 fun G w hp=>?_
   repeat' (first|refine ZC ?_|refine ZH (fun b=>?_)|refine ZA (n1) (fun _ _=>?_)|refine ZA (n2 _) (fun _ _=>?_)|rw [hb]|fail)
   rename_i q _
   refine Yw (f:=CdF (.nt .nul) (ivOf (317,.agg #[.nilIface]))) fin ?_
   exact ZD ((317,.agg #[.nilIface]),q) rfl trivial
  ·refine ZE [_] func223 ntmps223 fun G w hp=>?_
   repeat' (first|refine ZC ?_|refine ZH (fun b=>?_)|refine ZA (n1) (fun _ _=>?_)|refine ZA (n2 _) (fun _ _=>?_)|(refine ZG (fun hc=>?_) (fun hc=>?_)<;>(try simp at hc)<;>(try omega))|(refine ZB (fun hc=>?_) (fun hc=>?_)<;>(try simp at hc)<;>(try omega))|fail)
   rename_i q _
   refine Yw (f:=CdF (.nt .nul) (ivOf (317,.agg #[.nilIface]))) fin ?_
   exact ZD ((317,.agg #[.nilIface]),q) rfl trivial
theorem factor_test {n:Nat} {x:Ps} (h1:x.peek.kd=1) (h3:isTst x.peek.tx=true):factorF (n+1) x=testF x.peek.tx x.pass:=by
 rw [factorF];dsimp only
 rw [if_neg (fun h=>(tst_ne h3).2.2 h.2),if_neg (by rintro ⟨h,_⟩;rw [h1] at h;cases h),if_pos ⟨h1,h3⟩]
theorem ruFactor_test (n b r:Nat) (x:Ps) (o:Option Addr) (cap:Nat) (hx:PkOK x) (h1:x.peek.kd=1) (h3:isTst x.peek.tx=true) :
  SpF 223 b r x o cap (factorF (n+1) x):=by
 have n1:=Y9 b r x o cap hx.kd
 rw [factor_test h1 h3]
 have hkd:=hx.kd.pass
 generalize hp:x.peek=t at *
 obtain ⟨kd,tx,pl⟩:=t
 dsimp only at h1 h3 ⊢
 subst h1
 have hb:=beqF (a:=tx) (b:=⟨#[110,111,116]⟩) (tst_ne h3).2.2
 generalize b=bp at *
 unfold SpF
 by_cases c1:idx tx wKinds<3
 ·have hm:=tst_kind c1
  have n2:=ruKind_ok bp tx c1
  have e:testF tx x.pass=(.kd tx ((idx tx wKinds:Nat)+2),x.pass):=by unfold testF;rw [if_pos c1]
  rw [e]
  refine ZE [_] func223 ntmps223 fun G w hp=>?_
  repeat' (first|refine ZC ?_|refine ZH (fun b=>?_)|refine ZA (n1) (fun _ _=>?_)|rw [hb]|refine Xq (V:=vid) ZZ tx _ hm ?_|refine Yh n2 (fun _ _=>?_)|refine ZI 13 [] [(0,0),(1,0),(2,0),(3,0),(4,0),(5,0),(6,0),(7,0),(8,0),(9,0),(10,0),(11,0)] [] ?_|fail)
  rename_i q _ v _
  exact ZD (v,q) rfl trivial
 by_cases c2:tx=wChan
 ·subst c2
  have n2:=fun (q:Option Addr×Nat)=>ruChannel_ok bp r x.pass q.1 q.2 hkd
  have hm:=tst_chan
  generalize testF wChan x.pass=y at n2 ⊢
  refine ZE [_] func223 ntmps223 fun G w hp=>?_
  repeat' (first|refine ZC ?_|refine ZH (fun b=>?_)|refine ZA (n1) (fun _ _=>?_)|rw [hb]|refine Xq (V:=vid) ZZ wChan _ hm ?_|refine Yh (n2 _) (fun _ _=>?_)|refine ZI 13 [] [(0,0),(1,0),(2,0),(3,0),(4,0),(5,0),(6,0),(7,0),(8,0),(9,0),(10,0),(11,0)] [] ?_|fail)
  rename_i q _
  exact ZD q rfl trivial
 by_cases c3:idx tx wTxs<3
 ·have n2:=fun (q:Option Addr×Nat)=>UD bp r tx c3 x.pass q.1 q.2 hkd
  have hm:=tst_tx c3
  generalize testF tx x.pass=y at n2 ⊢
  refine ZE [_] func223 ntmps223 fun G w hp=>?_
  repeat' (first|refine ZC ?_|refine ZH (fun b=>?_)|refine ZA (n1) (fun _ _=>?_)|rw [hb]|refine Xq (V:=vid) ZZ tx _ hm ?_|refine Yh (n2 _) (fun _ _=>?_)|refine ZI 13 [] [(0,0),(1,0),(2,0),(3,0),(4,0),(5,0),(6,0),(7,0),(8,0),(9,0),(10,0),(11,0)] [] ?_|fail)
  rename_i q _
  exact ZD q rfl trivial
 by_cases c4:idx tx wNms<4
 ·have n2:=fun (q:Option Addr×Nat)=>VJ bp r tx c4 x.pass q.1 q.2 hkd
  have hm:=tst_nm c4
  generalize testF tx x.pass=y at n2 ⊢
  refine ZE [_] func223 ntmps223 fun G w hp=>?_
  repeat' (first|refine ZC ?_|refine ZH (fun b=>?_)|refine ZA (n1) (fun _ _=>?_)|rw [hb]|refine Xq (V:=vid) ZZ tx _ hm ?_|refine Yh (n2 _) (fun _ _=>?_)|refine ZI 13 [] [(0,0),(1,0),(2,0),(3,0),(4,0),(5,0),(6,0),(7,0),(8,0),(9,0),(10,0),(11,0)] [] ?_|fail)
  rename_i q _
  exact ZD q rfl trivial
 have c5:tx=wBy:=by
  simp only [isTst,Bool.or_eq_true,decide_eq_true_eq] at h3
  rcases h3 with (((h|h)|h)|h)|h
  ·exact absurd h c1
  ·exact absurd h c2
  ·exact absurd h c3
  ·exact absurd h c4
  ·exact h
 subst c5
 have n2:=fun (q:Option Addr×Nat)=>ruBy_ok bp r x.pass q.1 q.2 hkd
 have hm:=tst_by
 generalize testF wBy x.pass=y at n2 ⊢
 refine ZE [_] func223 ntmps223 fun G w hp=>?_
 repeat' (first|refine ZC ?_|refine ZH (fun b=>?_)|refine ZA (n1) (fun _ _=>?_)|rw [hb]|refine Xq (V:=vid) ZZ wBy _ hm ?_|refine Yh (n2 _) (fun _ _=>?_)|refine ZI 13 [] [(0,0),(1,0),(2,0),(3,0),(4,0),(5,0),(6,0),(7,0),(8,0),(9,0),(10,0),(11,0)] [] ?_|fail)
 rename_i q _
 exact ZD q rfl trivial
set_option maxHeartbeats 4000000 in
theorem ruFactor_par (n b r:Nat) (x:Ps) (o:Option Addr) (cap:Nat) (hx:PkOK x) (h1:x.peek.kd=4) (h2:x.peek.tx=yOpn) (ih:∀q o cap,PkOK q→q.tk.length+1≤x.tk.length→SpF 166 b r q o cap (condF n q)) :
  SpF 223 b r x o cap (factorF (n+1) x):=by
 have n1:=Y9 b r x o cap hx.kd
 have hln:=Xn (p:=x) (by rw [h1];decide)
 have n2:=fun (q:Option Addr×Nat)=>Zr b r x.pass q.1 q.2 x.peek.pl 9
 obtain ⟨p1,p2⟩:=hx.op
 have hk1:=(hx.kd).pass
 have hl:=hx.ln
 rw [factorF];dsimp only
 rw [if_neg (by rw [h1];rintro ⟨h,_⟩;cases h),if_pos ⟨h1,h2⟩]
 have hpo:x.pass.op=x.op:=rfl
 generalize hp:x.peek=t at *
 obtain ⟨kd,tx,pl⟩:=t
 dsimp only at h1 h2 n2 ⊢
 subst h1
 have hb:=beqT (a:=tx) (b:=⟨#[40]⟩) h2
 generalize hxp:x.pass=xp at *
 have key:∀q:Ps,Sfx xp q→Sop xp q→∃hz:PkOK {q with op:=q.op+1},True:=fun q s e=>by
  have l:=s.len
  unfold Sop at e
  refine ⟨⟨hk1.sfx s,⟨by show 0≤q.op+1;omega,?_⟩,by show q.tk.length≤_;omega⟩,trivial⟩
  show q.op+1+(q.tk.length:Int)≤_
  omega
 have key2:∀q:Ps,Sfx xp q→Sop xp q→KdOK (condF n {q with op:=q.op+1}).2∧(((condF n {q with op:=q.op+1}).2.symb yCls).op=xp.op+1):=fun q s e=>by
  have a:=(Yg n).2.2.2.1 {q with op:=q.op+1}
  have b:(condF n {q with op:=q.op+1}).2.op=q.op+1:=(X2 n).2.2.2.1 {q with op:=q.op+1}
  have c:((condF n {q with op:=q.op+1}).2.symb yCls).op=(condF n {q with op:=q.op+1}).2.op:=Sop.symb _ _
  unfold Sop at e
  exact ⟨(hk1.sfx s).sfx a,by rw [c,b,e]⟩
 generalize b=bp at *
 unfold SpF at ih ⊢
 by_cases c:xp.op=32
 ·rw [if_pos c]
  have s0:=Sfx.fail xp pl 9
  have e0:=Sop.fail xp pl 9
  generalize hy0:xp.fail pl 9=y0 at *
  obtain ⟨hz,_⟩:=key y0 s0 e0
  obtain ⟨k1,k2⟩:=key2 y0 s0 e0
  have l0:=s0.len
  have n3:=fun (q:Option Addr×Nat)=>ih {y0 with op:=y0.op+1} q.1 q.2 hz (by show y0.tk.length+1≤_;omega)
  have e0':y0.op=xp.op:=e0
  have w1:=wrapi (z:=y0.op+1) (by omega) (by omega)
  generalize condF n {y0 with op:=y0.op+1}=y at *
  obtain ⟨cy,sy⟩:=y
  dsimp only at k1 k2 n3 ⊢
  have n4:=fun (q:Option Addr×Nat)=>WK bp r sy q.1 q.2 k1 yCls
  generalize sy.symb yCls=s at *
  have w2:=wrapi (z:=s.op - 1) (by omega) (by omega)
  refine ZE [_] func223 ntmps223 fun G w hp=>?_
  repeat' (first|refine ZC ?_|refine ZH (fun b=>?_)|refine ZA (n1) (fun _ _=>?_)|refine ZA (n2 _) (fun _ _=>?_)|refine ZA (n3 _) (fun _ _=>?_)|refine ZA (n4 _) (fun _ _=>?_)|rw [hb]|rw [w1]|rw [w2]|(refine ZB (fun hc=>?_) (fun hc=>?_)<;>(try simp at hc)<;>(try omega))|fail)
  rename_i iv _ q _
  exact ZD (iv.1,q) rfl trivial
 ·rw [if_neg c]
  obtain ⟨hz,_⟩:=key xp (Sfx.refl _) (Sop.refl _)
  obtain ⟨k1,k2⟩:=key2 xp (Sfx.refl _) (Sop.refl _)
  have n3:=fun (q:Option Addr×Nat)=>ih {xp with op:=xp.op+1} q.1 q.2 hz (by show xp.tk.length+1≤_;omega)
  have w1:=wrapi (z:=xp.op+1) (by omega) (by omega)
  generalize condF n {xp with op:=xp.op+1}=y at *
  obtain ⟨cy,sy⟩:=y
  dsimp only at k1 k2 n3 ⊢
  have n4:=fun (q:Option Addr×Nat)=>WK bp r sy q.1 q.2 k1 yCls
  generalize sy.symb yCls=s at *
  have w2:=wrapi (z:=s.op - 1) (by omega) (by omega)
  refine ZE [_] func223 ntmps223 fun G w hp=>?_
  repeat' (first|refine ZC ?_|refine ZH (fun b=>?_)|refine ZA (n1) (fun _ _=>?_)|refine ZA (n3 _) (fun _ _=>?_)|refine ZA (n4 _) (fun _ _=>?_)|rw [hb]|rw [w1]|rw [w2]|(refine ZB (fun hc=>?_) (fun hc=>?_)<;>(try simp at hc)<;>(try omega))|fail)
  rename_i iv _ q _
  exact ZD (iv.1,q) rfl trivial
theorem row_of1 {T b:Nat} {v:Value} {h:H} (hh:Sep [Pt b (.cells #[v] T)] h):Row T 1 (some ⟨b,0,none⟩) 1 1 [v] h:=by
 obtain ⟨h1,_,_,s1,_,hp,_⟩:=hh
 exact .inr ⟨b,[],(0,0),rfl,s1 _ _ hp,rfl,rfl,Nat.le_refl _,.inl rfl⟩
set_option maxHeartbeats 4000000 in
theorem ruTerm_step (n b r:Nat) (ihf:∀m,m≤n→∀x o cap,PkOK x→4 * x.tk.length+1≤m→SpF 223 b r x o cap (factorF m x)) (x:Ps) (o:Option Addr) (cap:Nat) (hx:PkOK x) (hn:4 * x.tk.length+2≤n+1) :
  SpF 211 b r x o cap (termF (n+1) x):=by
 have n0:=ihf n (Nat.le_refl _) x o cap hx (by omega)
 have hlv:=(lv_all n).1 x
 have s0:=(Yg n).1 x
 have hy1:PkOK (factorF n x).2:=hx.sfx s0 ((X2 n).1 x)
 have l0:=s0.len
 have hln:=hx.ln
 rw [termF]
 generalize hfin:termL n [(factorF n x).1] (factorF n x).2=fin
 generalize factorF n x=y1 at *
 obtain ⟨c1,x1⟩:=y1
 obtain ⟨lf,sf⟩:=fin
 dsimp only at hlv hy1 l0 hfin ⊢
 unfold SpF at n0 ⊢
 generalize b=bp at *
 refine ZE [_] func211 ntmps211 fun G w hp=>?_
 repeat' (first|refine ZC ?_|refine ZH (fun b=>?_)|refine ZA (n0) (fun _ _=>?_)|fail)
 rename_i q _
 obtain ⟨⟨T,u⟩,q2⟩:=q
 refine ZO (Lx:=[Pt b (.cells #[ivOf (T,u)] 168)]) (r:=Row 168 1 (some ⟨b,0,none⟩) 1 1 [ivOf (T,u)]) (fun h hh=>row_of1 hh) ?_
 refine Zx (F1:=[CdF c1 (ivOf (T,u))]) (f:=CdsF [c1] [ivOf (T,u)]) (fun hp hF=>Yx.2 (hF _ (.head _))) ?_
 refine Zj (X:={q:(Nat×List Cnd×Ps)×List IV×(Option Addr×Nat)×(Option Addr×Nat) // termL q.1.1 q.1.2.1 q.1.2.2=(lf,sf)∧q.1.1≤n∧4 * q.1.2.2.tk.length+1≤q.1.1∧PkOK q.1.2.2∧q.2.1.length=q.1.2.1.length∧lvs q.1.2.1+3 * q.1.2.2.tk.length≤300010})
  (fun q=>[(0,.pointer (some ⟨bp,0,none⟩)),(3,.slice q.1.2.2.2.1 q.1.2.1.length q.1.2.2.2.2)]) (fun q=>[TkS q.1.2.2.1 q.1.1.2.2.tk,ErA,P10,CdsF q.1.1.2.1 (q.1.2.1.map ivOf)]) (fun q=>[Pt bp (psC q.1.1.2.2 q.1.2.2.1.1 q.1.2.2.1.2 r),Mp skv vid r tstL,Row 168 1 q.1.2.2.2.1 q.1.2.1.length q.1.2.2.2.2 (q.1.2.1.flatMap ivl)]) (fun q=>q.1.1.1)
  ⟨((n,[c1],x1),[(T,u)],q2,(some ⟨b,0,none⟩,1)),hfin,Nat.le_refl _,by show 4 * x1.tk.length+1≤n;omega,hy1,rfl,by show lvs [c1]+3 * x1.tk.length≤_;simp only [lvs];omega⟩ ⟨rfl,rfl,trivial⟩ ?_
 rintro ⟨⟨⟨m,l,s⟩,vs,⟨o1,cap1⟩,⟨o2,cap2⟩⟩,i1,i2,i3,i4,i5,i6⟩
 dsimp only at i1 i2 i3 i4 i5 i6 ⊢
 obtain ⟨m,rfl⟩:∃k,m=k+1:=⟨m - 1,by omega⟩
 have n1:=XZ bp r s o1 cap1 i4.kd 1 wAnd
 have hll:=WB l
 rw [termL] at i1
 cases hi:s.is 1 wAnd with
 | true=>
  rw [hi] at n1 i1
  rw [if_pos rfl] at n1 i1
  have hpl:=is_pass (by decide) hi
  have hps:PkOK s.pass:=i4.sfx (Sfx.pass s) (Sop.pass s)
  have n2:=fun (q:Option Addr×Nat)=>ihf m (by omega) s.pass q.1 q.2 hps (by omega)
  have a1:=(lv_all m).1 s.pass
  have a2:=((Yg m).1 s.pass).len
  have a3:PkOK (factorF m s.pass).2:=hps.sfx ((Yg m).1 s.pass) ((X2 m).1 s.pass)
  unfold SpF at n2
  generalize factorF m s.pass=y at *
  obtain ⟨c,s2⟩:=y
  dsimp only at i1 a1 a2 a3 n2
  have hroom:(2 * (vs.length+1)+200) * 16≤281474976710656:=by omega
  repeat' (first|refine Zs (m:=vs.length) (m2:=1) (fun o3 cap3=>?_) (hroom:=hroom)|refine ZC ?_|refine ZH (fun b=>?_)|refine ZA (n1) (fun _ _=>?_)|refine ZA (n2 _) (fun _ _=>?_)|fail)
  rename_i q0 _ iv _
  obtain ⟨⟨T2,u2⟩,q3⟩:=iv
  have e1:vs.length+1=(vs++[(T2,u2)]).length:=by simp
  have e2:vs.flatMap ivl++[ivOf (T2,u2)]=(vs++[(T2,u2)]).flatMap ivl:=by simp
  refine Zi (T:=168) (sz:=1) (o:=o3) (cap:=cap3) (m:=vs.length+1) _ _ e1 e2 ?_
  rw [e1]
  refine Zx (F1:=[CdsF l (vs.map ivOf),CdF c (ivOf (T2,u2))]) (f:=CdsF (l++[c]) ((vs++[(T2,u2)]).map ivOf)) (fun hp hF=>?_) ?_
  ·show CdsP hp _ _
   rw [List.map_append]
   exact XL (hF _ (.head _)) (Yx.2 (hF _ (.tail _ (.head _))))
  exact ZJ ⟨((m,l++[c],s2),vs++[(T2,u2)],q3,(o3,cap3)),i1,by show m≤n;omega,by show 4 * s2.tk.length+1≤m;omega,a3,by show (vs++[_]).length=(l++[c]).length;simp [i5],by show lvs (l++[c])+3 * s2.tk.length≤_;rw [Xz];simp only [lvs];omega⟩ (Nat.lt_succ_self m) ⟨rfl,rfl,trivial⟩
 | false=>
  rw [hi] at n1 i1
  rw [if_neg (by decide)] at n1 i1
  obtain ⟨rfl,rfl⟩:=Prod.mk.inj i1
  have hb1:=lvs_alls l
  have hb2:=WB (l.flatMap allP)
  have n3:=ruBoth_ok o2 cap2 l vs i5 (by omega) (by omega)
  refine YA (T:=168) (sz:=1) (f:=ivl) (o:=o2) (cap:=cap2) vs ?_ rfl rfl
  repeat' (first|refine ZC ?_|refine ZM ?_|refine ZA (n1) (fun _ _=>?_)|refine ZA (n3) (fun _ _=>?_)|fail)
  rename_i q0 _ iv _
  exact ZD (iv,q0) rfl trivial
set_option maxHeartbeats 4000000 in
theorem ruCond_step (n b r:Nat) (iht:∀m,m≤n→∀x o cap,PkOK x→4 * x.tk.length+2≤m→SpF 211 b r x o cap (termF m x)) (x:Ps) (o:Option Addr) (cap:Nat) (hx:PkOK x) (hn:4 * x.tk.length+3≤n+1) :
  SpF 166 b r x o cap (condF (n+1) x):=by
 have n0:=iht n (Nat.le_refl _) x o cap hx (by omega)
 have hlv:=(lv_all n).2.1 x
 have s0:=(Yg n).2.1 x
 have hy1:PkOK (termF n x).2:=hx.sfx s0 ((X2 n).2.1 x)
 have l0:=s0.len
 have hln:=hx.ln
 rw [condF]
 generalize hfin:condL n [(termF n x).1] (termF n x).2=fin
 generalize termF n x=y1 at *
 obtain ⟨c1,x1⟩:=y1
 obtain ⟨lf,sf⟩:=fin
 dsimp only at hlv hy1 l0 hfin ⊢
 unfold SpF at n0 ⊢
 generalize b=bp at *
 refine ZE [_] func166 ntmps166 fun G w hp=>?_
 repeat' (first|refine ZC ?_|refine ZH (fun b=>?_)|refine ZA (n0) (fun _ _=>?_)|fail)
 rename_i q _
 obtain ⟨⟨T,u⟩,q2⟩:=q
 refine ZO (Lx:=[Pt b (.cells #[ivOf (T,u)] 168)]) (r:=Row 168 1 (some ⟨b,0,none⟩) 1 1 [ivOf (T,u)]) (fun h hh=>row_of1 hh) ?_
 refine Zx (F1:=[CdF c1 (ivOf (T,u))]) (f:=CdsF [c1] [ivOf (T,u)]) (fun hp hF=>Yx.2 (hF _ (.head _))) ?_
 refine Zj (X:={q:(Nat×List Cnd×Ps)×List IV×(Option Addr×Nat)×(Option Addr×Nat) // condL q.1.1 q.1.2.1 q.1.2.2=(lf,sf)∧q.1.1≤n∧4 * q.1.2.2.tk.length+2≤q.1.1∧PkOK q.1.2.2∧q.2.1.length=q.1.2.1.length∧lvs q.1.2.1+3 * q.1.2.2.tk.length≤300010})
  (fun q=>[(0,.pointer (some ⟨bp,0,none⟩)),(3,.slice q.1.2.2.2.1 q.1.2.1.length q.1.2.2.2.2)]) (fun q=>[TkS q.1.2.2.1 q.1.1.2.2.tk,ErA,P10,CdsF q.1.1.2.1 (q.1.2.1.map ivOf)]) (fun q=>[Pt bp (psC q.1.1.2.2 q.1.2.2.1.1 q.1.2.2.1.2 r),Mp skv vid r tstL,Row 168 1 q.1.2.2.2.1 q.1.2.1.length q.1.2.2.2.2 (q.1.2.1.flatMap ivl)]) (fun q=>q.1.1.1)
  ⟨((n,[c1],x1),[(T,u)],q2,(some ⟨b,0,none⟩,1)),hfin,Nat.le_refl _,by show 4 * x1.tk.length+2≤n;omega,hy1,rfl,by show lvs [c1]+3 * x1.tk.length≤_;simp only [lvs];omega⟩ ⟨rfl,rfl,trivial⟩ ?_
 rintro ⟨⟨⟨m,l,s⟩,vs,⟨o1,cap1⟩,⟨o2,cap2⟩⟩,i1,i2,i3,i4,i5,i6⟩
 dsimp only at i1 i2 i3 i4 i5 i6 ⊢
 obtain ⟨m,rfl⟩:∃k,m=k+1:=⟨m - 1,by omega⟩
 have n1:=XZ bp r s o1 cap1 i4.kd 1 wOr
 have hll:=WB l
 rw [condL] at i1
 cases hi:s.is 1 wOr with
 | true=>
  rw [hi] at n1 i1
  rw [if_pos rfl] at n1 i1
  have hpl:=is_pass (by decide) hi
  have hps:PkOK s.pass:=i4.sfx (Sfx.pass s) (Sop.pass s)
  have n2:=fun (q:Option Addr×Nat)=>iht m (by omega) s.pass q.1 q.2 hps (by omega)
  have a1:=(lv_all m).2.1 s.pass
  have a2:=((Yg m).2.1 s.pass).len
  have a3:PkOK (termF m s.pass).2:=hps.sfx ((Yg m).2.1 s.pass) ((X2 m).2.1 s.pass)
  unfold SpF at n2
  generalize termF m s.pass=y at *
  obtain ⟨c,s2⟩:=y
  dsimp only at i1 a1 a2 a3 n2
  have hroom:(2 * (vs.length+1)+200) * 16≤281474976710656:=by omega
  repeat' (first|refine Zs (m:=vs.length) (m2:=1) (fun o3 cap3=>?_) (hroom:=hroom)|refine ZC ?_|refine ZH (fun b=>?_)|refine ZA (n1) (fun _ _=>?_)|refine ZA (n2 _) (fun _ _=>?_)|fail)
  rename_i q0 _ iv _
  obtain ⟨⟨T2,u2⟩,q3⟩:=iv
  have e1:vs.length+1=(vs++[(T2,u2)]).length:=by simp
  have e2:vs.flatMap ivl++[ivOf (T2,u2)]=(vs++[(T2,u2)]).flatMap ivl:=by simp
  refine Zi (T:=168) (sz:=1) (o:=o3) (cap:=cap3) (m:=vs.length+1) _ _ e1 e2 ?_
  rw [e1]
  refine Zx (F1:=[CdsF l (vs.map ivOf),CdF c (ivOf (T2,u2))]) (f:=CdsF (l++[c]) ((vs++[(T2,u2)]).map ivOf)) (fun hp hF=>?_) ?_
  ·show CdsP hp _ _
   rw [List.map_append]
   exact XL (hF _ (.head _)) (Yx.2 (hF _ (.tail _ (.head _))))
  exact ZJ ⟨((m,l++[c],s2),vs++[(T2,u2)],q3,(o3,cap3)),i1,by show m≤n;omega,by show 4 * s2.tk.length+2≤m;omega,a3,by show (vs++[_]).length=(l++[c]).length;simp [i5],by show lvs (l++[c])+3 * s2.tk.length≤_;rw [Xz];simp only [lvs];omega⟩ (Nat.lt_succ_self m) ⟨rfl,rfl,trivial⟩
 | false=>
  rw [hi] at n1 i1
  rw [if_neg (by decide)] at n1 i1
  obtain ⟨rfl,rfl⟩:=Prod.mk.inj i1
  have hb1:=lvs_anys l
  have hb2:=WB (l.flatMap anyP)
  have n3:=ruEither_ok o2 cap2 l vs i5 (by omega) (by omega)
  refine YA (T:=168) (sz:=1) (f:=ivl) (o:=o2) (cap:=cap2) vs ?_ rfl rfl
  repeat' (first|refine ZC ?_|refine ZM ?_|refine ZA (n1) (fun _ _=>?_)|refine ZA (n3) (fun _ _=>?_)|fail)
  rename_i q0 _ iv _
  exact ZD (iv,q0) rfl trivial
theorem ruAll (b r:Nat):∀n:Nat,
  (∀m,m≤n→∀x o cap,PkOK x→4 * x.tk.length+1≤m→SpF 223 b r x o cap (factorF m x))∧
  (∀m,m≤n→∀x o cap,PkOK x→4 * x.tk.length+2≤m→SpF 211 b r x o cap (termF m x))∧
  (∀m,m≤n→∀x o cap,PkOK x→4 * x.tk.length+3≤m→SpF 166 b r x o cap (condF m x))
 | 0=>⟨fun m hm x o cap _ h=>absurd h (by omega),fun m hm x o cap _ h=>absurd h (by omega),fun m hm x o cap _ h=>absurd h (by omega)⟩
 | n+1=>by
  obtain ⟨h1,h2,h3⟩:=ruAll b r n
  refine ⟨fun m hm x o cap hx hl=>?_,fun m hm x o cap hx hl=>?_,fun m hm x o cap hx hl=>?_⟩
  ·by_cases hmn:m≤n
   ·exact h1 m hmn x o cap hx hl
   ·obtain rfl:m=n+1:=by omega
    by_cases c1:x.peek.kd=1∧x.peek.tx=wNot
    ·have hp:=Xn (p:=x) (by rw [c1.1];decide)
     exact ruFactor_not n b r x o cap hx c1.1 c1.2 fun o cap=>h1 n (Nat.le_refl _) x.pass o cap (hx.sfx (Sfx.pass x) (Sop.pass x)) (by omega)
    ·by_cases c2:x.peek.kd=4∧x.peek.tx=yOpn
     ·have hp:=Xn (p:=x) (by rw [c2.1];decide)
      exact ruFactor_par n b r x o cap hx c2.1 c2.2 fun q o cap hq hl=>h3 n (Nat.le_refl _) q o cap hq (by omega)
     ·by_cases c3:x.peek.kd=1∧isTst x.peek.tx=true
      ·exact ruFactor_test n b r x o cap hx c3.1 c3.2
      ·exact ruFactor_bad n b r x o cap hx c1 c2 c3
  ·by_cases hmn:m≤n
   ·exact h2 m hmn x o cap hx hl
   ·obtain rfl:m=n+1:=by omega
    exact ruTerm_step n b r h1 x o cap hx hl
  ·by_cases hmn:m≤n
   ·exact h3 m hmn x o cap hx hl
   ·obtain rfl:m=n+1:=by omega
    exact ruCond_step n b r h2 x o cap hx hl
theorem ruCond_ok (b r:Nat) (x:Ps) (o:Option Addr) (cap:Nat) (hx:PkOK x):SpF 166 b r x o cap (condF (fuP x) x):=
 (ruAll b r (fuP x)).2.2 _ (Nat.le_refl _) x o cap hx (by unfold fuP;omega)
variable {n:Nat} {C:Cx} {Q:Exit→Act→World→Prop} {E E':List (Nat×Value)} {F F' F1 Fs F0:List Pf} {R R' R0 Rs N N' A:List HP} {k k':List Fr} {ops l:List Oper} {L L':List (Nat×Nat)} {Tl:List Nat} {i d:Nat} {t t2 ty0:TypeId} {x y:Operand} {pos:String} {aft:Array Edge} {gd:Option (Nat×Bool)}
section
variable {z:Operand}
theorem l_rngS {s:ByteArray} {rs:TRow} (nx:∀it,Wl n C ops.toArray k Q l ((d,.pointer (some ⟨it,0,none⟩))::E) F (Pt it (.stringIter s 0)::R)) (hw:wantL ops E ⟨some d,.range t x,ty0,pos,aft,gd⟩=some true:=by rfl) (hn:Nat.blt d n=true:=by rfl)
  (hx:ev E x=some (.string s):=by rfl) (hts:lookT tab t=some rs:=by rfl) (hrs:rs.k = .str:=by rfl):Wl n C ops.toArray k Q (⟨some d,.range t x,ty0,pos,aft,gd⟩::l) E F R:=
 Zn (fun t ht=>by cases ht;exact Nat.le_of_ble_eq_true hn) (fun c hc=>by cases hc) hw fun a w ha hsat=>by
  have hu:=XD (w:=w) hts hrs
  have hno:(newObj (.stringIter s 0)).run prog w = .ok w.heap.size (w.alloc (.stringIter s 0)):=rfl
  unfold OpRes
  simp only [execOp,ha.ev (x:=x) (by rw [ZF];exact hx),Instr.range,Sem.run_bind,hu,Result.andThen,Sem.run_pure,hno]
  exact fun a' ha'=>nx w.heap.size a' _ ha' (hsat.alloc (.stringIter s 0))
theorem l_nxtS {s:ByteArray} {it p:Nat} (nx1:p<s.size→Wl n C ops.toArray k Q l ((d,.tuple #[.bool true,.int .i64 (p:Int),.int .i32 ((Utf8.decode s p).1:Int)])::E) F (Pt it (.stringIter s (p+(Utf8.decode s p).2))::R0)) (nx2:¬p<s.size→Wl n C ops.toArray k Q l ((d,.tuple #[.bool false])::E) F (Pt it (.stringIter s p)::R0))
  (hw:wantL ops E ⟨some d,.next x true,ty0,pos,aft,gd⟩=some true:=by rfl) (hn:Nat.blt d n=true:=by rfl) (hx:ev E x=some (.pointer (some ⟨it,0,none⟩)):=by rfl)
  (hs:Sel (Pt it (.stringIter s p)) R R0:=by (repeat (first|exact Sel.here|apply Sel.there));first|done|fail):Wl n C ops.toArray k Q (⟨some d,.next x true,ty0,pos,aft,gd⟩::l) E F R:=
 Zn (fun t ht=>by cases ht;exact Nat.le_of_ble_eq_true hn) (fun c hc=>by cases hc) hw fun a w ha hsat=>by
  have h1:=hsat.sel hs
  have hb:=h1.pt Sel.here
  have hg:(getObj it).run prog w = .ok (.stringIter s p) w:=by simp [getObj,Sem.run,hb]
  have hset:∀o,(setObj it o).run prog w = .ok () {w with heap:=w.heap.setIfInBounds it o}:=fun o=>by simp [setObj,Sem.run,hb]
  unfold OpRes
  by_cases hp:p<s.size
  ·simp only [execOp,ha.ev (x:=x) (by rw [ZF];exact hx),Instr.next,Sem.run_bind,hg,Result.andThen,if_pos hp,hset,Sem.run_pure,goInt]
   exact fun a' ha'=>nx1 hp a' _ ha' (Yi h1)
  ·simp only [execOp,ha.ev (x:=x) (by rw [ZF];exact hx),Instr.next,Sem.run_bind,hg,Result.andThen,if_neg hp,Sem.run_pure]
   exact fun a' ha'=>nx2 hp a' _ ha' h1
theorem l_nxtT {s:ByteArray} {it p c b:Nat} (hp:p<s.size) (hd:Utf8.decode s p=(c,b)) (nx:Wl n C ops.toArray k Q l ((d,.tuple #[.bool true,.int .i64 (p:Int),.int .i32 (c:Int)])::E) F (Pt it (.stringIter s (p+b))::R0))
  (hw:wantL ops E ⟨some d,.next x true,ty0,pos,aft,gd⟩=some true:=by rfl) (hn:Nat.blt d n=true:=by rfl) (hx:ev E x=some (.pointer (some ⟨it,0,none⟩)):=by rfl)
  (hs:Sel (Pt it (.stringIter s p)) R R0:=by (repeat (first|exact Sel.here|apply Sel.there));first|done|fail):Wl n C ops.toArray k Q (⟨some d,.next x true,ty0,pos,aft,gd⟩::l) E F R:=
 l_nxtS (fun _=>by rw [hd];exact nx) (fun h=>absurd hp h) hw hn hx hs
theorem l_nxtE {s:ByteArray} {it p:Nat} (hp:¬p<s.size) (nx:Wl n C ops.toArray k Q l ((d,.tuple #[.bool false])::E) F (Pt it (.stringIter s p)::R0))
  (hw:wantL ops E ⟨some d,.next x true,ty0,pos,aft,gd⟩=some true:=by rfl) (hn:Nat.blt d n=true:=by rfl) (hx:ev E x=some (.pointer (some ⟨it,0,none⟩)):=by rfl)
  (hs:Sel (Pt it (.stringIter s p)) R R0:=by (repeat (first|exact Sel.here|apply Sel.there));first|done|fail):Wl n C ops.toArray k Q (⟨some d,.next x true,ty0,pos,aft,gd⟩::l) E F R:=
 l_nxtS (fun h=>absurd h hp) (fun _=>nx) hw hn hx hs
theorem l_i2s {z:Int} {rs rd:TRow} (nx:Wl n C ops.toArray k Q l ((d,.string (Utf8.encode z))::E) F R) (hw:wantL ops E ⟨some d,.convert t t2 x,ty0,pos,aft,gd⟩=some true:=by rfl) (hn:Nat.blt d n=true:=by rfl)
  (hx:ev E x=some (.int .i32 z):=by rfl) (hts:lookT tab t=some rs:=by rfl) (hrs:rs.k = .int .i32:=by rfl) (htd:lookT tab t2=some rd:=by rfl) (hrd:rd.k = .str:=by rfl):Wl n C ops.toArray k Q (⟨some d,.convert t t2 x,ty0,pos,aft,gd⟩::l) E F R:=
 l_q (fun a w ha=>by
  obtain ⟨d1,hd1,hk1⟩:=ZR.und hts
  rw [hrs] at hk1
  cases d1<;>simp [chkKind] at hk1
  subst hk1
  obtain ⟨d2,hd2,hk2⟩:=ZR.und htd
  rw [hrd] at hk2
  cases d2<;>simp [chkKind] at hk2
  have hu1:(underlying t).run prog w = .ok (.int .i32) w:=by simp [underlying,hd1,go_sem]
  have hu2:(underlying t2).run prog w = .ok .string w:=by simp [underlying,hd2,go_sem]
  have e0:=ha.ev (x:=x) (by rw [ZF];exact hx)
  simp only [execOp,e0,convert,Sem.run_bind,hu1,hu2,Result.andThen,Conv.intToString,Sem.run_pure]) nx (by intro c h;cases h) hw hn
end
theorem get_list {s:ByteArray} {p:Nat} (h:p<s.size):s.data.toList[p]? = some (s.get! p):=by
 have hs:s.data.size=s.size:=rfl
 have e:s.get! p=s.data[p]'(by omega):=by
  show s.data[p]! = _
  rw [getElem!_pos]
 rw [e]
 simp [hs,h]
theorem dec_asc {s:ByteArray} {p:Nat} (h:(s.get! p).toNat<128):Utf8.decode s p=((s.get! p).toNat,1):=by
 simp only [Utf8.decode,Nat.add_zero,h,if_true]
theorem dec_non {s:ByteArray} {p:Nat} (hp:p<s.size) (h:128≤(s.get! p).toNat):128≤(Utf8.decode s p).1∧(Utf8.decode s p).1<1114112∧1≤(Utf8.decode s p).2∧p+(Utf8.decode s p).2≤s.size∧(∀j,p≤j→j<p+(Utf8.decode s p).2→128≤(s.get! j).toNat)∧((Utf8.decode s p).1=65533∨Utf8.valid ((Utf8.decode s p).1:Int)=true):=by
 have hc:∀k,(decide (p+k<s.size) && (s.get! (p+k)).toNat / 64 == 2)=true→p+k<s.size∧128≤(s.get! (p+k)).toNat:=fun k hk=>by
  simp only [Bool.and_eq_true,decide_eq_true_eq,beq_iff_eq] at hk
  exact ⟨hk.1,by omega⟩
 have one:128≤Utf8.runeError∧Utf8.runeError<1114112∧1≤1∧p+1≤s.size∧(∀j,p≤j→j<p+1→128≤(s.get! j).toNat)∧(Utf8.runeError=65533∨Utf8.valid (Utf8.runeError:Int)=true):=
  ⟨by decide,by decide,Nat.le_refl _,by omega,fun j h1 h2=>(by have e:j=p:=(by omega);rw [e];exact h),.inl rfl⟩
 simp only [Utf8.decode,Nat.add_zero]
 rw [if_neg (by omega)]
 split
 ·rename_i h2
  simp only [Bool.and_eq_true,beq_iff_eq] at h2
  have c1:=hc 1 (by simp [h2.2])
  split
  ·rename_i h3
   refine ⟨by omega,by omega,by omega,by omega,fun j h4 h5=>?_,.inr ?_⟩
   ·rcases (show j=p∨j=p+1 by omega) with rfl|rfl
    ·exact h
    ·exact c1.2
   ·simp [Utf8.valid];omega
  ·exact one
 ·split
  ·rename_i h2
   simp only [Bool.and_eq_true,beq_iff_eq] at h2
   have c1:=hc 1 (by simp [h2.1.2])
   have c2:=hc 2 (by simp [h2.2])
   split
   ·rename_i h3
    simp only [Bool.and_eq_true,decide_eq_true_eq] at h3
    refine ⟨by omega,by omega,by omega,by omega,fun j h4 h5=>?_,.inr h3.2⟩
    rcases (show j=p∨j=p+1∨j=p+2 by omega) with rfl|rfl|rfl
    ·exact h
    ·exact c1.2
    ·exact c2.2
   ·exact one
  ·split
   ·rename_i h2
    simp only [Bool.and_eq_true,beq_iff_eq] at h2
    have c1:=hc 1 (by simp [h2.1.1.2])
    have c2:=hc 2 (by simp [h2.1.2])
    have c3:=hc 3 (by simp [h2.2])
    split
    ·rename_i h3
     simp only [Bool.and_eq_true,decide_eq_true_eq] at h3
     have hv:=h3.2
     simp only [Utf8.valid,Bool.or_eq_true,Bool.and_eq_true,decide_eq_true_eq] at hv
     refine ⟨by omega,by omega,by omega,by omega,fun j h4 h5=>?_,.inr h3.2⟩
     rcases (show j=p∨j=p+1∨j=p+2∨j=p+3 by omega) with rfl|rfl|rfl|rfl
     ·exact h
     ·exact c1.2
     ·exact c2.2
     ·exact c3.2
    ·exact one
   ·exact one
theorem Ya {P:Program} {b:Frame} {a:Act} {k:List Item} {cs:List Frame} {w:World} {c:Code}:step P (lone (b.atR a (.code (.scope c)::k)) cs w) = .next (lone (b.atR a (.code c::.inScope c::k)) cs w):=
 step_lone_go (by simp [stepG,stepG.exec,Frame.atR])
theorem stepR_inScope {P:Program} {b:Frame} {a:Act} {k:List Item} {cs:List Frame} {w:World} {c:Code}:step P (lone (b.atR a (.inScope c::k)) cs w) = .next (lone (b.atR a k) cs w):=
 step_lone_go (by simp [stepG,stepG.exec,Frame.atR])
theorem wpIn_scope {F:Fence} {n:Nat} {P:Program} {Q:Exit→Act→World→Prop} {a:Act} {w:World} {c:Code} (h:c.wpIn F n P (Exit.noGoto Q) a w):(Code.scope c).wpIn F n P Q a w:=by
 intro b k cs hro hb hr
 have h0:(lone (b.atR a (.code (.scope c)::k)) cs w).fenced P F:=fenced_calm hb hr rfl
 obtain ⟨e,a₁,w₁,hq,harr⟩:=h b (.inScope c::k) cs hro hb hr
 cases e with
 | normal=>exact ⟨.normal,a₁,w₁,hq,.head h0 Ya (StepsIn.trans harr (.one (fenced_calm hb hr rfl) stepR_inScope))⟩
 | exit id'=>
  have hx:exitTo id' (.inScope c::k)=exitTo id' k:=by simp [exitTo]
  exact ⟨.exit id',a₁,w₁,hq,fun k' hk=>.head h0 Ya (harr.1 k' (by rw [hx];exact hk)),
   fun hr' hk=>let ⟨k₁,h1,h2⟩:=harr.2 hr' (by rw [hx];exact hk);⟨k₁,h1,.head h0 Ya h2⟩⟩
 | goto l=>exact hq.elim
 | ret=>exact ⟨_,a₁,w₁,hq,.of_steps (.one h0 Ya) harr⟩
 | panic ch=>exact ⟨_,a₁,w₁,hq,.of_steps (.one h0 Ya) harr⟩
 | outgrown=>exact ⟨_,a₁,w₁,hq,.of_steps (.one h0 Ya) harr⟩
theorem k_scope {n:Nat} {C:Cx} {Q:Exit→Act→World→Prop} {E:List (Nat×Value)} {F:List Pf} {R:List HP} {k k':List Fr} {c:Code} (t:Wk n C (.c c::k') Q E F R) (h:nf 1000 k = .c (.scope c)::k':=by rfl) (hg:∀l a w,¬after C.r k' Q (.goto l) a w:=by (intro _ _ _ h;exact h)):Wk n C k Q E F R:=fun a w ha hs=>YQ 1000 k (by
 rw [h]
 refine wpIn_scope (wpIn_mono (t a w ha hs) ?_)
 intro e a' w' hx
 cases e with
 | goto l=>exact absurd hx (hg l a' w')
 | _=>exact hx)
end Go.Proofs.YtcjfciifhdfjkaaGreatDoor
set_option maxRecDepth 10000
namespace Go.Proofs
open Go.Shelf
def Tryz.lays119_ren:Go.Shelf.Ren:=⟨fun|119=>215|n=>n,fun|21=>21|4=>4|n=>n,fun|n=>n⟩
theorem Tryz.lays119:Go.Proofs.Lays.n119 Tryz.prog Tryz.lays119_ren:={
 mixed:=by kernel_rfl
 f119:=Tryz.func215.trans (congrArg some (by kernel_rfl))
 t4:=Tryz.underlying4
 a4:=Tryz.isAgg4
 z4:=Tryz.sizeOf4
 v4:=Tryz.zeroValue4
 t21:=Tryz.underlying21
 a21:=Tryz.isAgg21
 z21:=Tryz.sizeOf21
 v21:=Tryz.zeroValue21}
end Go.Proofs
namespace Go.Proofs.YtcjfciifhdfjkaaGreatDoor
open Go.Proofs.Tryz
open Go.RowKit
def brS:ByteArray:=⟨#[123,125]⟩
def ixR (c:Nat):Int:=if c=123 then 0 else if c=125 then 1 else -1
theorem validRune_ok (c:Nat) (hv:Utf8.valid c=true):Enters 215∧Spec prog 215 #[.int .i32 (c:Int)] [] [] (RetV (.bool true)):=by
 refine ⟨enters_of func215 (by kernel_rfl) rfl,fun G w hp hs=>?_⟩
 refine (Any.utf8_ValidRune Tryz.lays119 (c:Int) w).mono ?_
 rintro e w' ⟨rfl,rfl⟩
 have h:Lib.validRune (c:Int)=true:=by
  simp only [Utf8.valid,Bool.or_eq_true,Bool.and_eq_true,decide_eq_true_eq] at hv
  unfold Lib.validRune
  rw [decide_eq_true_eq];omega
 rw [h]
 exact ⟨(),rfl,trivial,hs⟩
theorem u8of {c:Nat} (h:c<256):(UInt8.ofNat c).toNat=c:=by simp;omega
set_option maxHeartbeats 1000000 in
theorem indexRune_asc (c:Nat) (hc0:c<128):Enters 175∧Spec prog 175 #[.string brS,.int .i32 (c:Int)] [] [] (RetV (.int .i64 (ixR c))):=by
 have n1:=X5 brS (UInt8.ofNat c)
 have w1:IntKind.u8.wrap (c:Int)=((UInt8.ofNat c).toNat:Int):=by
  rw [u8of (by omega),wrap_u8];omega
 have e:ixR c=Lib.indexByte brS.data.toList (UInt8.ofNat c):=by
  have e1:brS.data.toList=[123,125]:=rfl
  have h1:(123 == UInt8.ofNat c)=decide (c=123):=by
   rw [Bool.eq_iff_iff];simp only [beq_iff_eq,decide_eq_true_eq,←UInt8.toNat_inj,u8of (show c<256 by omega)];constructor<;>(intro h;simpa using h.symm)
  have h2:(125 == UInt8.ofNat c)=decide (c=125):=by
   rw [Bool.eq_iff_iff];simp only [beq_iff_eq,decide_eq_true_eq,←UInt8.toNat_inj,u8of (show c<256 by omega)];constructor<;>(intro h;simpa using h.symm)
  rw [e1]
  unfold ixR
  simp only [Lib.indexByte,h1,h2,decide_eq_true_eq]
  split
  ·rfl
  ·split<;>rfl
 rw [e]
 refine ZE [_,_] func175 ntmps175 fun G w hp=>?_
 repeat' (first|refine ZC ?_|refine ZA (n1) (fun _ _=>?_)|rw [w1]|(refine ZB (fun hc=>?_) (fun hc=>?_)<;>(try simp at hc)<;>(try omega))|fail)
 exact ZD () rfl trivial
theorem dec_br0:Utf8.decode brS 0=(123,1):=dec_asc (s:=brS) (p:=0) (by decide)
theorem dec_br1:Utf8.decode brS 1=(125,1):=dec_asc (s:=brS) (p:=1) (by decide)
set_option maxHeartbeats 1000000 in
theorem indexRune_err:Enters 175∧Spec prog 175 #[.string brS,.int .i32 65533] [] [] (RetV (.int .i64 (-1))):=by
 refine ZE [_,_] func175 ntmps175 fun G w hp=>?_
 repeat' (first|refine l_rngS (fun it=>?_)|refine ZC ?_|fail)
 refine Zj (X:={p:Nat // p≤2}) (fun _=>[(0,.string brS),(175,.pointer (some ⟨it,0,none⟩))]) (fun _=>[]) (fun p=>[Pt it (.stringIter brS p.1)]) (fun p=>2 - p.1) ⟨0,by decide⟩ ⟨rfl,rfl,trivial⟩ ?_
 rintro ⟨p,hp⟩
 dsimp only
 rcases (show p=0∨p=1∨p=2 by omega) with rfl|rfl|rfl
 ·repeat' (first|refine l_nxtT (c:=123) (b:=1) (by decide) dec_br0 ?_|refine ZC ?_|fail)
  exact ZJ ⟨1,by decide⟩ (by show 2 - 1<2 - 0;decide) ⟨rfl,rfl,trivial⟩
 ·repeat' (first|refine l_nxtT (c:=125) (b:=1) (by decide) dec_br1 ?_|refine ZC ?_|fail)
  exact ZJ ⟨2,by decide⟩ (by show 2 - 2<2 - 1;decide) ⟨rfl,rfl,trivial⟩
 ·repeat' (first|refine l_nxtE (s:=brS) (p:=2) (by decide) ?_|refine ZC ?_|refine ZM ?_|fail)
  exact ZD () rfl trivial
theorem lsz (s:ByteArray):s.data.toList.length=s.size:=by show _=s.data.size;simp
theorem enc_big {c:Nat} (h1:128≤c) (h2:Utf8.valid c=true):2≤(Utf8.encode c).size∧(Utf8.encode c).size≤4∧∀x ∈ (Utf8.encode c).data.toList,128≤x.toNat:=by
 have hv:(if Utf8.valid (c:Int)=true then (c:Int).toNat else Utf8.runeError)=c:=by rw [if_pos h2];simp
 have hc:c≤1114111:=by
  simp only [Utf8.valid,Bool.or_eq_true,Bool.and_eq_true,decide_eq_true_eq] at h2;omega
 have hb:∀k,128≤k→k<256→128≤(UInt8.ofNat k).toNat:=fun k h3 h4=>by rw [u8of h4];exact h3
 unfold Utf8.encode
 dsimp only
 rw [hv,if_neg (by omega)]
 split
 ·refine ⟨Nat.le_of_ble_eq_true rfl,Nat.le_of_ble_eq_true rfl,fun x hx=>?_⟩
  simp only [List.mem_cons,List.not_mem_nil,or_false] at hx
  rcases hx with rfl|rfl
  ·exact hb _ (by omega) (by omega)
  ·exact hb _ (by omega) (by omega)
 ·split
  ·refine ⟨Nat.le_of_ble_eq_true rfl,Nat.le_of_ble_eq_true rfl,fun x hx=>?_⟩
   simp only [List.mem_cons,List.not_mem_nil,or_false] at hx
   rcases hx with rfl|rfl|rfl
   ·exact hb _ (by omega) (by omega)
   ·exact hb _ (by omega) (by omega)
   ·exact hb _ (by omega) (by omega)
  ·refine ⟨Nat.le_of_ble_eq_true rfl,Nat.le_of_ble_eq_true rfl,fun x hx=>?_⟩
   simp only [List.mem_cons,List.not_mem_nil,or_false] at hx
   rcases hx with rfl|rfl|rfl|rfl
   ·exact hb _ (by omega) (by omega)
   ·exact hb _ (by omega) (by omega)
   ·exact hb _ (by omega) (by omega)
   ·exact hb _ (by omega) (by omega)
set_option maxHeartbeats 2000000 in
set_option maxRecDepth 100000 in
theorem indexRune_big (c:Nat) (h1:128≤c) (h2:Utf8.valid c=true) (h3:c≠65533):Enters 175∧Spec prog 175 #[.string brS,.int .i32 (c:Int)] [] [] (RetV (.int .i64 (-1))):=by
 have n1:=validRune_ok c h2
 obtain ⟨e1,e2,e3⟩:=enc_big h1 h2
 have hsz:=lsz (Utf8.encode c)
 generalize hnd:Utf8.encode (c:Int)=nd at *
 have sb:brS.size=2:=rfl
 have hb1:((c:Int) == 65533)=false:=by rw [beq_eq_false_iff_ne];omega
 by_cases s2:nd.size=2
 ·have w1:IntKind.i64.wrap ((nd.size:Int) - 1)=1:=by rw [s2];decide
  have hx:=List.getElem?_eq_getElem (show 1<nd.data.toList.length by omega)
  have hx3:=e3 _ (List.getElem_mem (show 1<nd.data.toList.length by omega))
  generalize nd.data.toList[1]=x at *
  have n2:Enters 159∧Spec prog 159 #[.string ⟨#[]⟩,.int .u8 x.toNat] [] [] (RetV (.int .i64 (-1))):=X5 ⟨#[]⟩ x
  have w2:IntKind.i64.wrap (1+1)=2:=by decide
  have hne:¬(125:Int)=(x.toNat:Int):=by omega
  refine ZE [_,_] func175 ntmps175 fun G w hp=>?_
  repeat' (first|rw [hb1]|refine k_scope ?_|refine l_i2s (z:=(c:Int)) ?_|refine ZC ?_|refine ZA (n1) (fun _ _=>?_)|rw [hnd]|rw [w1]|(refine ZB (fun hc=>?_) (fun hc=>?_)<;>(try simp at hc)<;>(try omega))|fail)
  refine Zj (X:=Unit) (fun _=>[(0,.string brS),(7,.string nd),(8,.int .i64 1),(9,.int .i64 1),(10,.int .i64 0)]) (fun _=>[]) (fun _=>[]) (fun _=>0) () ⟨rfl,rfl,rfl,rfl,rfl,trivial⟩ ?_
  rintro ⟨⟩
  repeat' (first|refine k_scope ?_|refine ZC ?_|refine Vx (n2) (fun _ _=>?_)|refine WG (s:=brS) 1 125 rfl ?_|refine WG (s:=nd) 1 x hx ?_|refine r_sEnd (s:=brS) (u:=⟨#[]⟩) 2 (by decide) rfl ?_|rw [w2]|refine ZI 6 [] [(0,0),(1,0),(2,0),(3,0),(4,0),(5,0),(6,0)] [] ?_|refine ZI 7 [] [(0,0),(1,0),(2,0),(3,0),(4,0),(5,0),(6,0),(7,5),(8,0)] [] ?_|(refine ZB (fun hc=>?_) (fun hc=>?_)<;>(try simp at hc)<;>(try omega))|fail)
  first|exact ZD () rfl trivial|exact Zz (Z5 (Zg () rfl trivial))
 ·have w1:=wrapi (z:=(nd.size:Int) - 1) (by omega) (by omega)
  refine ZE [_,_] func175 ntmps175 fun G w hp=>?_
  repeat' (first|rw [hb1]|refine k_scope ?_|refine l_i2s (z:=(c:Int)) ?_|refine ZC ?_|refine ZA (n1) (fun _ _=>?_)|rw [hnd]|rw [w1]|(refine ZB (fun hc=>?_) (fun hc=>?_)<;>(try simp at hc)<;>(try omega))|fail)
  refine Zj (X:=Unit) (fun _=>[(0,.string brS),(7,.string nd),(8,.int .i64 ((nd.size:Int) - 1)),(9,.int .i64 ((nd.size:Int) - 1)),(10,.int .i64 0)]) (fun _=>[]) (fun _=>[]) (fun _=>0) () ⟨rfl,rfl,rfl,rfl,rfl,trivial⟩ ?_
  rintro ⟨⟩
  repeat' (first|refine ZC ?_|refine ZM ?_|(refine ZB (fun hc=>?_) (fun hc=>?_)<;>(try simp at hc)<;>(try omega))|fail)
  exact ZD () rfl trivial
end Go.Proofs.YtcjfciifhdfjkaaGreatDoor
set_option maxRecDepth 10000
namespace Go.Proofs
open Go.Shelf
def Tryz.lays153_ren:Go.Shelf.Ren:=⟨fun|153=>138|152=>175|226=>176|227=>177|228=>178|137=>159|119=>215|224=>216|225=>217|217=>187|266=>220|n=>n,fun|9=>9|3=>3|4=>4|5=>5|21=>21|117=>272|116=>271|0=>0|46=>221|124=>298|n=>n,fun|n=>n⟩
theorem Tryz.lays153:Go.Proofs.Lays.n153 Tryz.prog Tryz.lays153_ren:={
 mixed:=by kernel_rfl
 f119:=Tryz.func215.trans (congrArg some (by kernel_rfl))
 f137:=Tryz.func159.trans (congrArg some (by kernel_rfl))
 f152:=Tryz.func175.trans (congrArg some (by kernel_rfl))
 f153:=Tryz.func138.trans (congrArg some (by kernel_rfl))
 f217:=Tryz.func187.trans (congrArg some (by kernel_rfl))
 f224:=Tryz.func216.trans (congrArg some (by kernel_rfl))
 f225:=Tryz.func217.trans (congrArg some (by kernel_rfl))
 f226:=Tryz.func176.trans (congrArg some (by kernel_rfl))
 f227:=Tryz.func177.trans (congrArg some (by kernel_rfl))
 f228:=Tryz.func178.trans (congrArg some (by kernel_rfl))
 f266:=Tryz.func220.trans (congrArg some (by kernel_rfl))
 t0:=Tryz.underlying0
 a0:=Tryz.isAgg0
 z0:=Tryz.sizeOf0
 v0:=Tryz.zeroValue0
 t3:=Tryz.underlying3
 a3:=Tryz.isAgg3
 z3:=Tryz.sizeOf3
 v3:=Tryz.zeroValue3
 t4:=Tryz.underlying4
 a4:=Tryz.isAgg4
 z4:=Tryz.sizeOf4
 v4:=Tryz.zeroValue4
 t5:=Tryz.underlying5
 a5:=Tryz.isAgg5
 z5:=Tryz.sizeOf5
 v5:=Tryz.zeroValue5
 t9:=Tryz.underlying9
 a9:=Tryz.isAgg9
 z9:=Tryz.sizeOf9
 v9:=Tryz.zeroValue9
 t21:=Tryz.underlying21
 a21:=Tryz.isAgg21
 z21:=Tryz.sizeOf21
 v21:=Tryz.zeroValue21
 t46:=Tryz.underlying221
 a46:=Tryz.isAgg221
 z46:=Tryz.sizeOf221
 v46:=Tryz.zeroValue221
 t116:=Tryz.underlying271
 a116:=Tryz.isAgg271
 z116:=Tryz.sizeOf271
 t117:=Tryz.underlying272
 a117:=Tryz.isAgg272
 z117:=Tryz.sizeOf272
 v117:=Tryz.zeroValue272
 t124:=Tryz.underlying298
 a124:=Tryz.isAgg298
 z124:=Tryz.sizeOf298
 v124:=Tryz.zeroValue298}
end Go.Proofs
namespace Go.Proofs.YtcjfciifhdfjkaaGreatDoor
open Go.Proofs.Tryz
open Go.RowKit
def ixB (l:List UInt8):Int:=if spanF (fun x=>!isBr x) l=l.length then -1 else (spanF (fun x=>!isBr x) l:Int)
theorem br_con (b:UInt8):([123,125]:List UInt8).contains b=isBr b:=by
 unfold isBr
 simp only [List.contains_cons,List.contains_nil,Bool.or_false]
theorem ixB_any:∀l:List UInt8,Lib.indexAny l [123,125]=ixB l
 | []=>by simp [Lib.indexAny,ixB,spanF]
 | b::l=>by
  have ih:=ixB_any l
  have hle:=YJ (fun x=>!isBr x) l
  rw [Lib.indexAny,br_con,ih]
  unfold ixB
  by_cases hb:isBr b=true
  ·rw [if_pos hb]
   have:spanF (fun x=>!isBr x) (b::l)=0:=by simp [spanF,hb]
   rw [this,if_neg (by simp)];rfl
  ·rw [if_neg hb]
   have hs:spanF (fun x=>!isBr x) (b::l)=spanF (fun x=>!isBr x) l+1:=by simp [spanF,hb]
   rw [hs,List.length_cons]
   by_cases h2:spanF (fun x=>!isBr x) l=l.length
   ·simp [h2]
   ·have e1:((spanF (fun x=>!isBr x) l:Int) == -1)=false:=by rw [beq_eq_false_iff_ne];omega
    rw [if_neg h2,e1]
    simp [h2]
theorem shouldASCII_ok (n:Int):Enters 176∧Spec prog 176 #[.int .i64 n] [] [] (RetV (.bool (decide (8<n)))):=by
 refine ZE [_] func176 ntmps176 fun G w hp=>?_
 repeat' (first|refine ZC ?_|fail)
 exact ZD () rfl trivial
theorem as116:(prog.info? 271).map (fun i=>(i.zero,i.size))=some (some (.agg (Array.replicate 256 (.bool false))),256):=by kernel_rfl
theorem indexAny_long (s:ByteArray) (h8:8<s.size) (hs:s.size≤1000000):Enters 138∧Spec prog 138 #[.string s,.string brS] [] [] (RetV (.int .i64 (ixB s.data.toList))):=by
 refine ⟨enters_of func138 (by kernel_rfl) rfl,fun G w hp hs'=>?_⟩
 have h1:=as116
 have hv:∀w,(zeroValue 271).run prog w = .ok (.agg (Array.replicate 256 (.bool false))) w:=fun w=>by
  obtain ⟨i,hi,he⟩:=Option.map_eq_some_iff.1 h1
  simp [zeroValue,typeInfo,hi,(Prod.mk.inj he).1,go_sem]
 have hz:(prog.info? 271).map (·.size)=some 256:=by
  obtain ⟨i,hi,he⟩:=Option.map_eq_some_iff.1 h1
  rw [hi];exact congrArg some (Prod.mk.inj he).2
 refine (Any.strings_IndexAny_long Tryz.lays153 hv hz s brS w (by decide) h8 (by omega) (by decide) (fun j b hj=>(show ∀b ∈ brS.data.toList,b.toNat<128 by decide) b (List.mem_of_getElem? hj))).mono ?_
 ·rintro e w' ⟨rfl,rfl⟩
  rw [show brS.data.toList=[123,125] from rfl,ixB_any]
  exact ⟨(),rfl,trivial,(hs'.ext (Yq _ _)).ext (Yq _ _)⟩
theorem get_elem {s:ByteArray} {p:Nat} (h:p<s.data.toList.length):s.get! p=s.data.toList[p]:=by
 have h1:=get_list (s:=s) (p:=p) (by rw [←lsz];exact h)
 rw [List.getElem?_eq_getElem h] at h1
 exact (Option.some.inj h1).symm
set_option maxHeartbeats 2000000 in
theorem indexAny_short (s:ByteArray) (h8:s.size≤8):Enters 138∧Spec prog 138 #[.string s,.string brS] [] [] (RetV (.int .i64 (ixB s.data.toList))):=by
 have hsz:=lsz s
 have n0:=shouldASCII_ok (s.size:Int)
 have hd8:decide ((8:Int)<(s.size:Int))=false:=by simp;omega
 rw [hd8] at n0
 have sb:brS.size=2:=rfl
 have hbe:(brS.toList == (⟨#[]⟩:ByteArray).toList)=false:=beqF (by decide)
 refine ZE [_,_] func138 ntmps138 fun G w hp=>?_
 repeat' (first|refine l_rngS (s:=s) (fun it=>?_)|refine ZC ?_|refine ZA (n0) (fun _ _=>?_)|rw [hbe]|fail)
 refine Zj (X:={p:Nat // p≤s.size∧∀x ∈ s.data.toList.take p,(!isBr x)=true}) (fun _=>[(1,.string brS),(45,.pointer (some ⟨it,0,none⟩))]) (fun _=>[]) (fun p=>[Pt it (.stringIter s p.1)]) (fun p=>s.size - p.1) ⟨0,Nat.zero_le _,fun x hx=>by simp at hx⟩ ⟨rfl,rfl,trivial⟩ ?_
 rintro ⟨p,hp1,hp2⟩
 dsimp only
 by_cases hlt:p<s.data.toList.length
 ·have hlt2:p<s.size:=by omega
  have hge:=get_elem hlt
  have htk:=List.take_succ_eq_append_getElem hlt
  by_cases ha:(s.get! p).toNat<128
  ·have hd:=dec_asc ha
   have n1:=indexRune_asc _ ha
   have hst:=WP (p:=fun x=>!isBr x) s.data.toList p hp2 (by omega)
   generalize hce:s.data.toList[p]=c at *
   rw [hge] at hd n1 ha
   have hct:((c.toNat:Nat):Int)=(c.toNat:Int):=rfl
   by_cases hb:isBr c=true
   ·have e:ixB s.data.toList=(p:Int):=by
     unfold ixB
     rw [hst (fun _=>by show (!isBr s.data.toList[p])=false;rw [hce,hb];rfl),if_neg (by omega)]
    have hix:(0:Int)≤ixR c.toNat:=by
     have:c=123∨c=125:=by simpa [isBr] using hb
     rcases this with h|h<;>(rw [h];decide)
    rw [e]
    repeat' (first|refine l_nxtT (s:=s) (p:=p) hlt2 hd ?_|refine ZC ?_|refine ZA (n1) (fun _ _=>?_)|(refine ZB (fun hc=>?_) (fun hc=>?_)<;>(try simp at hc)<;>(try omega))|fail)
    first|exact ZD () rfl trivial|exact Zz (Z5 (Zg () rfl trivial))
   ·have hix:¬(0:Int)≤ixR c.toNat:=by
     have h1:¬c.toNat=123:=fun h=>hb (by rw [show c=123 from UInt8.toNat_inj.1 h];rfl)
     have h2:¬c.toNat=125:=fun h=>hb (by rw [show c=125 from UInt8.toNat_inj.1 h];rfl)
     unfold ixR;rw [if_neg h1,if_neg h2];decide
    repeat' (first|refine l_nxtT (s:=s) (p:=p) hlt2 hd ?_|refine ZC ?_|refine ZA (n1) (fun _ _=>?_)|(refine ZB (fun hc=>?_) (fun hc=>?_)<;>(try simp at hc)<;>(try omega))|fail)
    refine ZJ ⟨p+1,by omega,fun x hx=>?_⟩ (by show s.size - (p+1)<s.size - p;omega) ⟨rfl,rfl,trivial⟩
    rw [htk] at hx
    rcases List.mem_append.1 hx with hx|hx
    ·exact hp2 x hx
    ·rw [List.mem_singleton.1 hx];simpa using hb
  ·obtain ⟨d1,d2,d3,d4,d5,d6⟩:=dec_non hlt2 (by omega)
   generalize hde:Utf8.decode s p=dd at *
   obtain ⟨c,w⟩:=dd
   dsimp only at d1 d2 d3 d4 d5 d6
   have n1:Enters 175∧Spec prog 175 #[.string brS,.int .i32 (c:Int)] [] [] (RetV (.int .i64 (-1))):=by
    by_cases h:c=65533
    ·rw [h];exact indexRune_err
    ·exact indexRune_big c d1 (d6.resolve_left h) h
   repeat' (first|refine l_nxtT (s:=s) (p:=p) hlt2 hde ?_|refine ZC ?_|refine ZA (n1) (fun _ _=>?_)|fail)
   refine ZJ ⟨p+w,d4,fun x hx=>?_⟩ (by show s.size - (p+w)<s.size - p;omega) ⟨rfl,rfl,trivial⟩
   rw [List.take_add] at hx
   rcases List.mem_append.1 hx with hx|hx
   ·exact hp2 x hx
   ·obtain ⟨j,hj,rfl⟩:=List.mem_iff_getElem.1 hx
    simp only [List.length_take,List.length_drop] at hj
    have h5:=d5 (p+j) (by omega) (by omega)
    rw [get_elem (by omega)] at h5
    simp only [List.getElem_take,List.getElem_drop]
    generalize s.data.toList[p+j]=y at *
    have h1:y≠123:=by rintro rfl;revert h5;decide
    have h2:y≠125:=by rintro rfl;revert h5;decide
    simp [isBr,h1,h2]
 ·have hpe:p=s.size:=by omega
  have hst:=WP (p:=fun x=>!isBr x) s.data.toList p hp2 (by omega) (fun h=>absurd h hlt)
  have e:ixB s.data.toList = -1:=by
   unfold ixB;rw [hst,if_pos (by omega)]
  rw [e]
  repeat' (first|refine l_nxtE (s:=s) (p:=p) (by omega) ?_|refine ZC ?_|refine ZM ?_|fail)
  first|exact ZD () rfl trivial|exact Zz (Z5 (Zg () rfl trivial))
theorem indexAny_ok (s:ByteArray) (hs:s.size≤1000000):Enters 138∧Spec prog 138 #[.string s,.string brS] [] [] (RetV (.int .i64 (ixB s.data.toList))):=by
 by_cases h8:8<s.size
 ·exact indexAny_long s h8 hs
 ·exact indexAny_short s (by omega)
end Go.Proofs.YtcjfciifhdfjkaaGreatDoor
set_option maxRecDepth 10000
namespace Go.Proofs
open Go.Shelf
def Tryz.lays219_ren:Go.Shelf.Ren:=⟨fun|219=>185|217=>187|225=>217|224=>216|267=>219|266=>220|314=>230|n=>n,fun|9=>9|3=>3|4=>4|5=>5|46=>221|146=>313|51=>312|n=>n,fun|1=>3|n=>n⟩
theorem Tryz.lays219:Go.Proofs.Lays.n219 Tryz.prog Tryz.lays219_ren:={
 mixed:=by kernel_rfl
 f217:=Tryz.func187.trans (congrArg some (by kernel_rfl))
 f219:=Tryz.func185.trans (congrArg some (by kernel_rfl))
 f224:=Tryz.func216.trans (congrArg some (by kernel_rfl))
 f225:=Tryz.func217.trans (congrArg some (by kernel_rfl))
 f266:=Tryz.func220.trans (congrArg some (by kernel_rfl))
 f267:=Tryz.func219.trans (congrArg some (by kernel_rfl))
 f314:=Tryz.func230.trans (congrArg some (by kernel_rfl))
 t3:=Tryz.underlying3
 a3:=Tryz.isAgg3
 z3:=Tryz.sizeOf3
 v3:=Tryz.zeroValue3
 t4:=Tryz.underlying4
 a4:=Tryz.isAgg4
 z4:=Tryz.sizeOf4
 v4:=Tryz.zeroValue4
 t5:=Tryz.underlying5
 a5:=Tryz.isAgg5
 z5:=Tryz.sizeOf5
 v5:=Tryz.zeroValue5
 t9:=Tryz.underlying9
 a9:=Tryz.isAgg9
 z9:=Tryz.sizeOf9
 v9:=Tryz.zeroValue9
 t46:=Tryz.underlying221
 a46:=Tryz.isAgg221
 z46:=Tryz.sizeOf221
 v46:=Tryz.zeroValue221
 t51:=Tryz.underlying312
 a51:=Tryz.isAgg312
 z51:=Tryz.sizeOf312
 v51:=Tryz.zeroValue312
 t146:=Tryz.underlying313
 a146:=Tryz.isAgg313
 z146:=Tryz.sizeOf313
 v146:=Tryz.zeroValue313
 g1:=by kernel_rfl}
end Go.Proofs
namespace Go.Proofs.YtcjfciifhdfjkaaGreatDoor
open Go.Proofs.Tryz
open Go.RowKit
theorem index1_ok (s:ByteArray) (c:UInt8):Enters 185∧Spec prog 185 #[.string s,.string ⟨#[c]⟩] [] [] (RetV (.int .i64 (Lib.indexByte s.data.toList c))):=by
 refine ⟨enters_of func185 (by kernel_rfl) rfl,fun G w hp hs=>?_⟩
 refine (Any.stringslite_Index_one Tryz.lays219 s c w).mono ?_
 rintro e w' ⟨rfl,rfl⟩
 exact ⟨(),rfl,trivial,hs⟩
theorem ixb_span (c:UInt8):∀l:List UInt8,Lib.indexByte l c=if spanF (fun x=>!(x == c)) l=l.length then -1 else (spanF (fun x=>!(x == c)) l:Int)
 | []=>by simp [Lib.indexByte,spanF]
 | b::l=>by
  have ih:=ixb_span c l
  have hle:=YJ (fun x=>!(x == c)) l
  rw [Lib.indexByte,ih]
  by_cases hb:(b == c)=true
  ·rw [if_pos hb]
   have:spanF (fun x=>!(x == c)) (b::l)=0:=by simp [spanF,hb]
   rw [this,if_neg (by simp)];rfl
  ·rw [if_neg hb]
   have hs:spanF (fun x=>!(x == c)) (b::l)=spanF (fun x=>!(x == c)) l+1:=by simp [spanF,hb]
   rw [hs,List.length_cons]
   by_cases h2:spanF (fun x=>!(x == c)) l=l.length
   ·simp [h2]
   ·have e1:((spanF (fun x=>!(x == c)) l:Int) == -1)=false:=by rw [beq_eq_false_iff_ne];omega
    rw [if_neg h2,e1]
    simp [h2]
def cutV (l:List UInt8) (m:Nat):Value:=if m<l.length then .tuple #[.string (ofL (l.take m)),.string (ofL (l.drop (m+1))),.bool true] else .tuple #[.string (ofL l),.string ⟨#[]⟩,.bool false]
theorem cut0_ok (s:ByteArray) (hs:s.size≤1000000):Enters 179∧Spec prog 179 #[.string s,.string ⟨#[125]⟩] [] [] (RetV (cutV s.data.toList (spanF (fun x=>!(x == 125)) s.data.toList))):=by
 have n1:=index1_ok s 125
 rw [ixb_span] at n1
 have hsz:=lsz s
 have hle:=YJ (fun x=>!(x == 125)) s.data.toList
 generalize spanF (fun x=>!(x == 125)) s.data.toList=m at *
 by_cases h:m=s.data.toList.length
 ·rw [if_pos h] at n1
  have e:cutV s.data.toList m = .tuple #[.string s,.string ⟨#[]⟩,.bool false]:=by
   unfold cutV;rw [if_neg (by omega)]
  rw [e]
  refine ZE [_,_] func179 ntmps179 fun G w hp=>?_
  repeat' (first|refine ZC ?_|refine ZA (n1) (fun _ _=>?_)|fail)
  exact ZD () rfl trivial
 ·rw [if_neg h] at n1
  have e:cutV s.data.toList m = .tuple #[.string (ofL (s.data.toList.take m)),.string (ofL (s.data.toList.drop (m+1))),.bool true]:=by
   unfold cutV;rw [if_pos (by omega)]
  have w1:=wrapi (z:=(m:Int)+1) (by omega) (by omega)
  have sz1:(((⟨#[125]⟩:ByteArray).size:Nat):Int)=1:=rfl
  rw [e]
  refine ZE [_,_] func179 ntmps179 fun G w hp=>?_
  repeat' (first|refine ZC ?_|refine ZA (n1) (fun _ _=>?_)|refine r_sTo (s:=s) (u:=ofL (s.data.toList.take m)) m (by omega) rfl ?_|refine r_sEnd (s:=s) (u:=ofL (s.data.toList.drop (m+1))) (m+1) (by omega) rfl ?_|rw [sz1]|rw [w1]|refine ZI 3 [] [(0,0),(1,0),(2,0),(3,0),(4,0),(5,0),(6,0),(7,0),(8,0),(9,0),(10,0),(11,0)] [] ?_|fail)
  exact ZD () rfl trivial
theorem cut_ok (s:ByteArray) (hs:s.size≤1000000):Enters 139∧Spec prog 139 #[.string s,.string ⟨#[125]⟩] [] [] (RetV (cutV s.data.toList (spanF (fun x=>!(x == 125)) s.data.toList))):=by
 have n1:=cut0_ok s hs
 unfold cutV at n1 ⊢
 split at n1
 ·rename_i h
  rw [if_pos h]
  refine ZE [_,_] func139 ntmps139 fun G w hp=>?_
  repeat' (first|refine ZC ?_|refine ZA (n1) (fun _ _=>?_)|fail)
  exact ZD () rfl trivial
 ·rename_i h
  rw [if_neg h]
  refine ZE [_,_] func139 ntmps139 fun G w hp=>?_
  repeat' (first|refine ZC ?_|refine ZA (n1) (fun _ _=>?_)|fail)
  exact ZD () rfl trivial
def cqa (c:Cq):Value:=.agg (cqf c).toArray
theorem X8 (c:Cq):Enters 140∧Spec prog 140 #[cqa c] [] [] (RetV (.tuple #[(subO c).v,.int .i64 (subT c)])):=by
 by_cases h:c.kind=4
 ·have e1:subO c=c.new:=if_pos h
  have e2:subT c=c.newAt:=if_pos h
  rw [e1,e2]
  refine ZE [_] func140 ntmps140 fun G w hp=>?_
  repeat' (first|refine ZC ?_|refine ZH (fun b=>?_)|refine ZI 2 [Pt _ (.cells _ 38 _)] [(0,0),(1,0),(2,0),(3,0),(4,4),(5,0)] [] ?_|(refine ZB (fun hc=>?_) (fun hc=>?_)<;>(try simp at hc)<;>(try omega))|fail)
  exact ZD () rfl trivial
 ·have e1:subO c=c.old:=if_neg h
  have e2:subT c=c.oldAt:=if_neg h
  rw [e1,e2]
  refine ZE [_] func140 ntmps140 fun G w hp=>?_
  repeat' (first|refine ZC ?_|refine ZH (fun b=>?_)|refine ZI 3 [Pt _ (.cells _ 38 _)] [(0,0),(1,0),(2,0),(3,0),(4,4),(5,0)] [] ?_|(refine ZB (fun hc=>?_) (fun hc=>?_)<;>(try simp at hc)<;>(try omega))|fail)
  exact ZD () rfl trivial
structure CqI (c:Cq):Prop where
 n0 : -9223372036854775808≤c.nu
 n1:c.nu≤9223372036854775807
 u0 : -9223372036854775808≤(subO c).us
 u1:(subO c).us≤9223372036854775807
 t0 : -9223372036854775808≤subT c
 t1:subT c≤9223372036854775807
set_option maxHeartbeats 4000000 in
theorem VZ (n:ByteArray) (c:Cq) (hc0:CqI c):Enters 116∧Spec prog 116 #[.string n,cqa c] [P10] [] (RetV (.tuple #[.string (valF n c),.bool (decide (idx n wFlds<7))])):=by
 have n1:=X8 c
 have i1:=itoa_ok (subO c).us hc0.u0 hc0.u1
 have i2:=itoa_ok (subT c) hc0.t0 hc0.t1
 have i3:=itoa_ok c.nu hc0.n0 hc0.n1
 generalize hv:valF n c=v
 unfold valF at hv
 dsimp only at hv
 generalize hso:subO c=so at *
 generalize hst:subT c=st at *
 by_cases c1:n=⟨#[116,97,114,103,101,116]⟩
 ·subst c1
  rw [show idx _ wFlds=0 from rfl] at hv ⊢
  subst hv
  have b1:=beqT (a:=⟨#[116,97,114,103,101,116]⟩) (b:=⟨#[116,97,114,103,101,116]⟩) rfl
  refine ZE [_,_] func116 ntmps116 fun G w hp=>?_
  repeat' (first|rw [b1]|refine ZC ?_|refine ZH (fun b=>?_)|refine ZA (n1) (fun _ _=>?_)|fail)
  exact ZD () rfl trivial
 have b1:=beqF c1
 by_cases c2:n=⟨#[117,115,101,114]⟩
 ·subst c2
  rw [show idx _ wFlds=1 from rfl] at hv ⊢
  subst hv
  have b2:=beqT (a:=⟨#[117,115,101,114]⟩) (b:=⟨#[117,115,101,114]⟩) rfl
  refine ZE [_,_] func116 ntmps116 fun G w hp=>?_
  repeat' (first|rw [b2]|rw [b1]|refine ZC ?_|refine ZH (fun b=>?_)|refine ZA (n1) (fun _ _=>?_)|refine ZA (i1) (fun _ _=>?_)|fail)
  exact ZD () rfl trivial
 have b2:=beqF c2
 by_cases c3:n=⟨#[116,105,99,107]⟩
 ·subst c3
  rw [show idx _ wFlds=2 from rfl] at hv ⊢
  subst hv
  have b3:=beqT (a:=⟨#[116,105,99,107]⟩) (b:=⟨#[116,105,99,107]⟩) rfl
  refine ZE [_,_] func116 ntmps116 fun G w hp=>?_
  repeat' (first|rw [b3]|rw [b2]|rw [b1]|refine ZC ?_|refine ZH (fun b=>?_)|refine ZA (n1) (fun _ _=>?_)|refine ZA (i2) (fun _ _=>?_)|fail)
  exact ZD () rfl trivial
 have b3:=beqF c3
 by_cases c4:n=⟨#[98,121]⟩
 ·subst c4
  rw [show idx _ wFlds=3 from rfl] at hv ⊢
  subst hv
  have b4:=beqT (a:=⟨#[98,121]⟩) (b:=⟨#[98,121]⟩) rfl
  refine ZE [_,_] func116 ntmps116 fun G w hp=>?_
  repeat' (first|rw [b4]|rw [b3]|rw [b2]|rw [b1]|refine ZC ?_|refine ZH (fun b=>?_)|refine ZA (n1) (fun _ _=>?_)|fail)
  exact ZD () rfl trivial
 have b4:=beqF c4
 by_cases c5:n=⟨#[110,117,109,98,101,114]⟩
 ·subst c5
  rw [show idx _ wFlds=4 from rfl] at hv ⊢
  subst hv
  have b5:=beqT (a:=⟨#[110,117,109,98,101,114]⟩) (b:=⟨#[110,117,109,98,101,114]⟩) rfl
  refine ZE [_,_] func116 ntmps116 fun G w hp=>?_
  repeat' (first|rw [b5]|rw [b4]|rw [b3]|rw [b2]|rw [b1]|refine ZC ?_|refine ZH (fun b=>?_)|refine ZA (n1) (fun _ _=>?_)|refine ZA (i3) (fun _ _=>?_)|fail)
  exact ZD () rfl trivial
 have b5:=beqF c5
 by_cases c6:n=⟨#[111,108,100]⟩
 ·subst c6
  rw [show idx _ wFlds=5 from rfl] at hv ⊢
  subst hv
  have b6:=beqT (a:=⟨#[111,108,100]⟩) (b:=⟨#[111,108,100]⟩) rfl
  refine ZE [_,_] func116 ntmps116 fun G w hp=>?_
  repeat' (first|rw [b6]|rw [b5]|rw [b4]|rw [b3]|rw [b2]|rw [b1]|refine ZC ?_|refine ZH (fun b=>?_)|refine ZA (n1) (fun _ _=>?_)|fail)
  exact ZD () rfl trivial
 have b6:=beqF c6
 by_cases c7:n=⟨#[110,101,119]⟩
 ·subst c7
  rw [show idx _ wFlds=6 from rfl] at hv ⊢
  subst hv
  have b7:=beqT (a:=⟨#[110,101,119]⟩) (b:=⟨#[110,101,119]⟩) rfl
  refine ZE [_,_] func116 ntmps116 fun G w hp=>?_
  repeat' (first|rw [b7]|rw [b6]|rw [b5]|rw [b4]|rw [b3]|rw [b2]|rw [b1]|refine ZC ?_|refine ZH (fun b=>?_)|refine ZA (n1) (fun _ _=>?_)|fail)
  exact ZD () rfl trivial
 have b7:=beqF c7
 have hi:idx n wFlds=7:=by simp [wFlds,idx,Ne.symm c1,Ne.symm c2,Ne.symm c3,Ne.symm c4,Ne.symm c5,Ne.symm c6,Ne.symm c7]
 rw [hi] at hv ⊢
 subst hv
 refine ZE [_,_] func116 ntmps116 fun G w hp=>?_
 repeat' (first|rw [b7]|rw [b6]|rw [b5]|rw [b4]|rw [b3]|rw [b2]|rw [b1]|refine ZC ?_|refine ZH (fun b=>?_)|refine ZA (n1) (fun _ _=>?_)|fail)
 exact ZD () rfl trivial
end Go.Proofs.YtcjfciifhdfjkaaGreatDoor
namespace Go.Proofs.YtcjfciifhdfjkaaGreatDoor
open Go.RowKit Go.Proofs.Tryz
theorem Xp:∀(f:Nat) (L:List UInt8) (i:Nat) (acc:List Seg),acc <+: (divF f L i acc).1
 | 0,_,_,acc=>by rw [divF];exact List.prefix_rfl
 | f+1,[],_,acc=>by rw [divF];exact List.prefix_rfl
 | f+1,c::r,i,acc=>by
  rw [divF]
  dsimp only
  split
  ·exact List.prefix_append _ _
  ·split
   ·exact (List.prefix_append _ _).trans (Xp f _ _ _)
   ·split
    ·exact (List.prefix_append _ _).trans (Xp f _ _ _)
    ·split
     ·exact (List.prefix_append _ _).trans (Xp f _ _ _)
     ·exact List.prefix_rfl
def tplV (s:ByteArray):Int:=match (tplF s).2 with
 | none=>-1
 | some i=>(i:Int)
def cq0:Cq:=⟨0,⟨#[]⟩,0,0,⟨0,⟨#[]⟩,⟨#[]⟩,0⟩,0,⟨0,⟨#[]⟩,⟨#[]⟩,0⟩,0⟩
theorem cq0_i:CqI cq0:=by constructor<;>decide
theorem Xw (l:List UInt8):(ofL l).size=l.length:=by show l.toArray.size=_;simp
theorem WJ (l:List UInt8):(ofL l).data.toList=l:=by show l.toArray.toList=_;simp
theorem hd_ix {c d:UInt8} {l:List UInt8} (h:l.head? = some d):(c::l)[1]? = some d:=by cases l<;>simp_all
set_option maxHeartbeats 8000000 in
theorem UC (s:ByteArray) (hs:s.size≤1000000) (lf ff:Value) (J:List Seg→HP)
  (hl:∀acc t,acc++[.lit t] <+: (tplF s).1→SpecV lf [.string t] [P10] [J acc] ⟨Unit,fun _=>.tuple #[],fun _=>True,fun _=>[],fun _=>[J (acc++[.lit t])]⟩)
  (hf:∀acc n,acc++[.fld n] <+: (tplF s).1→SpecV ff [.string n] [P10] [J acc] ⟨Unit,fun _=>.tuple #[],fun _=>True,fun _=>[],fun _=>[J (acc++[.fld n])]⟩) :
  Enters 113∧Spec prog 113 #[.string s,lf,ff] [P10] [J []] ⟨Unit,fun _=>.int .i64 (tplV s),fun _=>True,fun _=>[],fun _=>[J (tplF s).1]⟩:=by
 have hsz:=lsz s
 obtain ⟨V,hV⟩:∃V,tplV s=V:=⟨_,rfl⟩
 obtain ⟨T,hT⟩:∃T,tplF s=T:=⟨_,rfl⟩
 rw [hT] at hl hf ⊢
 rw [hV]
 unfold tplV at hV
 rw [hT] at hV
 refine ZE [_,_,_] func113 ntmps113 fun G w hp=>?_
 repeat' (first|refine ZC ?_|fail)
 refine Zj (X:={q:Nat×List Seg // q.1≤s.size∧∃f,(s.data.toList.drop q.1).length<f∧T=divF f (s.data.toList.drop q.1) q.1 q.2}) (fun q=>[(0,.string s),(1,lf),(2,ff),(7,.int .i64 (q.1.1:Int))]) (fun _=>[P10]) (fun q=>[J q.1.2]) (fun q=>s.size - q.1.1) ⟨(0,[]),Nat.zero_le _,s.size+1,by simp,hT.symm⟩ ⟨rfl,rfl,rfl,rfl,trivial⟩ ?_
 rintro ⟨⟨i,acc⟩,hi,f,hfu,ht⟩
 dsimp only at hi hfu ht ⊢
 have hdl:(s.data.toList.drop i).length=s.size - i:=by rw [List.length_drop];omega
 obtain ⟨L,hL'⟩:∃L,L=s.data.toList.drop i:=⟨_,rfl⟩
 rw [←hL'] at hfu ht hdl
 have hL:=hL'.symm
 clear hL'
 have hLs:(ofL L).size=L.length:=Xw L
 have hLl:(ofL L).data.toList=L:=WJ L
 cases hLc:L with
 | nil=>
  subst hLc
  simp only [List.length_nil] at hdl
  have e1:T=(acc,none):=by rw [ht];cases f<;>rfl
  subst e1 hV
  repeat' (first|refine ZC ?_|refine ZM ?_|(refine ZB (fun hc=>?_) (fun hc=>?_)<;>(try simp at hc)<;>(try omega))|fail)
  exact ZD () rfl trivial
 | cons c r=>
  obtain ⟨f,rfl⟩:∃g,f=g+1:=⟨f - 1,by omega⟩
  have hll:L.length=r.length+1:=by rw [hLc];rfl
  have hlt:i<s.size:=by omega
  have hix:=indexAny_ok (ofL L) (by omega)
  rw [hLl] at hix
  unfold ixB at hix
  have hkl:=YJ (fun x=>!isBr x) L
  rw [hLc] at ht
  rw [divF] at ht
  dsimp only at ht
  rw [←hLc] at ht
  generalize hk:spanF (fun x=>!isBr x) L=k at *
  by_cases c1:k=L.length
  ·rw [if_pos c1] at hix ht
   subst ht hV
   have n1:=hl acc (ofL L) List.prefix_rfl
   dsimp only
   repeat' (first|refine ZC ?_|refine ZA (hix) (fun _ _=>?_)|refine Z3 (s:=s) (u:=ofL L) i (by omega) (by rw [hL,hLl]) ?_|refine YN n1 (fun _ _=>?_)|(refine ZB (fun hc=>?_) (fun hc=>?_)<;>(try simp at hc)<;>(try omega))|fail)
   first|exact ZD () rfl trivial|exact Zz (Z5 (Zg () rfl trivial))
  ·rw [if_neg c1] at hix ht
   by_cases c2:k=0
   ·rw [if_neg (by simpa using c2)] at ht
    subst c2
    by_cases c3:r.head? = some c
    ·rw [if_pos c3] at ht
     have hr1:1≤r.length:=by cases r with|nil=>simp at c3|cons=>simp
     have n1:=hl acc (ofL [c]) (by rw [ht];exact Xp _ _ _ _)
     have w1:=wrapi (z:=(i:Int)+2) (by omega) (by omega)
     have h0:(ofL L).data.toList[0]? = some c:=by rw [hLl,hLc];rfl
     have h1:(ofL L).data.toList[1]? = some c:=by rw [hLl,hLc];exact hd_ix c3
     have hrl:((ofL L).size:Int)=(r.length:Int)+1:=by omega
     repeat' (first|refine ZC ?_|refine ZA (hix) (fun _ _=>?_)|refine Z3 (s:=s) (u:=ofL L) i (by omega) (by rw [hL,hLl]) ?_|refine WG (s:=ofL L) 0 c h0 ?_|refine WG (s:=ofL L) 1 c h1 ?_|refine l_sTo (s:=ofL L) (u:=ofL [c]) 1 (by omega) (by rw [hLl,hLc,WJ];rfl) ?_|refine YN n1 (fun _ _=>?_)|rw [w1]|(refine ZS (fun hc=>?_) (fun hc=>?_)<;>(try simp at hc)<;>(try omega))|refine ZI 17 [] [(0,0),(1,0),(2,0),(3,0),(4,0),(5,0),(6,0),(7,0),(8,0),(9,0),(10,0)] [] ?_|(refine ZB (fun hc=>?_) (fun hc=>?_)<;>(try simp at hc)<;>(try omega))|fail)
     have e1:r.drop 1=s.data.toList.drop (i+2):=by rw [show i+2=i+(1+1) from rfl,←List.drop_drop,hL,hLc];rfl
     refine ZJ ⟨(i+2,acc++[.lit (ofL [c])]),by show i+2≤s.size;omega,f,?_,?_⟩ (by show s.size - (i+2)<s.size - i;omega) ⟨rfl,rfl,rfl,rfl,trivial⟩
     ·show (s.data.toList.drop (i+2)).length<f
      rw [←e1,List.length_drop];omega
     ·show T=divF f (s.data.toList.drop (i+2)) (i+2) _
      rw [ht,e1]
    ·rw [if_neg c3] at ht
     have h0:(ofL L).data.toList[0]? = some c:=by rw [hLl,hLc];rfl
     have hrz:(ofL r).size=r.length:=Xw r
     have hrl:(ofL r).data.toList=r:=WJ r
     have hdr:(ofL L).data.toList.drop 1=(ofL r).data.toList:=by rw [hLl,hrl,hLc];rfl
     have hLz:((ofL L).size:Int)=(r.length:Int)+1:=by omega
     have hcut:=cut_ok (ofL r) (by omega)
     rw [hrl] at hcut
     have hm:=YJ (fun x=>!(x == 125)) r
     generalize spanF (fun x=>!(x == 125)) r=m at *
     by_cases c4:m<r.length
     ·have ecv:cutV r m = .tuple #[.string (ofL (r.take m)),.string (ofL (r.drop (m+1))),.bool true]:=if_pos c4
      rw [ecv] at hcut
      have hv:=VZ (ofL (r.take m)) cq0 cq0_i
      have hrm:((ofL (r.take m)).size:Int)=(m:Int):=by rw [Xw,List.length_take];omega
      obtain ⟨d,hd⟩:∃d,r.head? = some d:=by cases r with|nil=>simp at c4|cons d r=>exact ⟨d,rfl⟩
      have h1:(ofL L).data.toList[1]? = some d:=by rw [hLl,hLc];exact hd_ix hd
      have hdc:¬(d.toNat:Int)=(c.toNat:Int):=fun h=>c3 (by rw [hd];congr 1;exact UInt8.toNat_inj.1 (by omega))
      by_cases c5:idx (ofL (r.take m)) wFlds<7
      ·rw [decide_eq_true c5] at hv
       by_cases c6:c=123
       ·rw [if_pos ⟨c6,c4,c5⟩] at ht
        have k6:(c.toNat:Int)=123:=by rw [c6];rfl
        have n1:=hf acc (ofL (r.take m)) (by rw [ht];exact Xp _ _ _ _)
        have w1:=wrapi (z:=(m:Int)+2) (by omega) (by omega)
        have w2:=wrapi (z:=(i:Int)+((m:Int)+2)) (by omega) (by omega)
        repeat' (first|refine ZC ?_|refine ZA (hix) (fun _ _=>?_)|refine ZA (hcut) (fun _ _=>?_)|refine ZA (hv) (fun _ _=>?_)|refine Z3 (s:=s) (u:=ofL L) i (by omega) (by rw [hL,hLl]) ?_|refine WG (s:=ofL L) 0 c h0 ?_|refine WG (s:=ofL L) 1 d h1 ?_|refine Z3 (s:=ofL L) (u:=ofL r) 1 (by omega) hdr ?_|refine Zu (s:=ofL L) 0 c h0 ?_|refine YN n1 (fun _ _=>?_)|rw [hrm]|rw [w1]|rw [w2]|(refine ZG (fun hc=>?_) (fun hc=>?_)<;>(try simp at hc)<;>(try omega))|(refine ZS (fun hc=>?_) (fun hc=>?_)<;>(try simp at hc)<;>(try omega))|refine ZI 17 [] [(0,0),(1,0),(2,0),(3,0),(4,0),(5,0),(6,0),(7,0),(8,0),(9,0),(10,0)] [] ?_|(refine ZB (fun hc=>?_) (fun hc=>?_)<;>(try simp at hc)<;>(try omega))|fail)
        have e1:r.drop (m+1)=s.data.toList.drop (i+m+2):=by
         have e0:s.data.toList.drop (i+m+2)=L.drop (m+2):=by rw [←hL,List.drop_drop];rfl
         rw [e0,hLc];rfl
        refine ZJ ⟨(i+m+2,acc++[.fld (ofL (r.take m))]),by show i+m+2≤s.size;omega,f,?_,?_⟩ (by show s.size - (i+m+2)<s.size - i;omega) ⟨rfl,rfl,rfl,by rw [show (i:Int)+((m:Int)+2)=((i+m+2:Nat):Int) by omega];rfl,trivial⟩
        ·show (s.data.toList.drop (i+m+2)).length<f
         rw [←e1,List.length_drop];omega
        ·show T=divF f (s.data.toList.drop (i+m+2)) (i+m+2) _
         rw [ht,e1]
       ·rw [if_neg (fun h=>c6 h.1)] at ht
        have k6:¬(c.toNat:Int)=123:=fun h=>c6 ((u8i (k:=123) (by decide)).2 h)
        subst ht hV
        repeat' (first|refine ZC ?_|refine ZA (hix) (fun _ _=>?_)|refine ZA (hcut) (fun _ _=>?_)|refine ZA (hv) (fun _ _=>?_)|refine Z3 (s:=s) (u:=ofL L) i (by omega) (by rw [hL,hLl]) ?_|refine WG (s:=ofL L) 0 c h0 ?_|refine WG (s:=ofL L) 1 d h1 ?_|refine Z3 (s:=ofL L) (u:=ofL r) 1 (by omega) hdr ?_|refine Zu (s:=ofL L) 0 c h0 ?_|(refine ZG (fun hc=>?_) (fun hc=>?_)<;>(try simp at hc)<;>(try omega))|(refine ZS (fun hc=>?_) (fun hc=>?_)<;>(try simp at hc)<;>(try omega))|refine ZI 17 [] [(0,0),(1,0),(2,0),(3,0),(4,0),(5,0),(6,0),(7,0),(8,0),(9,0),(10,0)] [] ?_|(refine ZB (fun hc=>?_) (fun hc=>?_)<;>(try simp at hc)<;>(try omega))|fail)
        first|exact ZD () rfl trivial|exact Zz (Z5 (Zg () rfl trivial))
      ·rw [decide_eq_false c5] at hv
       rw [if_neg (fun h=>c5 h.2.2)] at ht
       subst ht hV
       repeat' (first|refine ZC ?_|refine ZA (hix) (fun _ _=>?_)|refine ZA (hcut) (fun _ _=>?_)|refine ZA (hv) (fun _ _=>?_)|refine Z3 (s:=s) (u:=ofL L) i (by omega) (by rw [hL,hLl]) ?_|refine WG (s:=ofL L) 0 c h0 ?_|refine WG (s:=ofL L) 1 d h1 ?_|refine Z3 (s:=ofL L) (u:=ofL r) 1 (by omega) hdr ?_|refine Zu (s:=ofL L) 0 c h0 ?_|(refine ZG (fun hc=>?_) (fun hc=>?_)<;>(try simp at hc)<;>(try omega))|(refine ZS (fun hc=>?_) (fun hc=>?_)<;>(try simp at hc)<;>(try omega))|refine ZI 17 [] [(0,0),(1,0),(2,0),(3,0),(4,0),(5,0),(6,0),(7,0),(8,0),(9,0),(10,0)] [] ?_|(refine ZB (fun hc=>?_) (fun hc=>?_)<;>(try simp at hc)<;>(try omega))|fail)
       all_goals first|exact ZD () rfl trivial|exact Zz (Z5 (Zg () rfl trivial))
     ·have ecv:cutV r m = .tuple #[.string (ofL r),.string ⟨#[]⟩,.bool false]:=if_neg c4
      rw [ecv] at hcut
      have hv:=VZ (ofL r) cq0 cq0_i
      rw [if_neg (fun h=>c4 h.2.1)] at ht
      subst ht hV
      by_cases c7:r=[]
      ·have hr0:(r.length:Int)=0:=by rw [c7];rfl
       repeat' (first|refine ZC ?_|refine ZA (hix) (fun _ _=>?_)|refine ZA (hcut) (fun _ _=>?_)|refine ZA (hv) (fun _ _=>?_)|refine Z3 (s:=s) (u:=ofL L) i (by omega) (by rw [hL,hLl]) ?_|refine Z3 (s:=ofL L) (u:=ofL r) 1 (by omega) hdr ?_|refine Zu (s:=ofL L) 0 c h0 ?_|(refine ZG (fun hc=>?_) (fun hc=>?_)<;>(try simp at hc)<;>(try omega))|(refine ZS (fun hc=>?_) (fun hc=>?_)<;>(try simp at hc)<;>(try omega))|refine ZI 17 [] [(0,0),(1,0),(2,0),(3,0),(4,0),(5,0),(6,0),(7,0),(8,0),(9,0),(10,0)] [] ?_|(refine ZB (fun hc=>?_) (fun hc=>?_)<;>(try simp at hc)<;>(try omega))|fail)
       all_goals first|exact ZD () rfl trivial|exact Zz (Z5 (Zg () rfl trivial))
      ·obtain ⟨d,hd⟩:∃d,r.head? = some d:=by cases r with|nil=>exact absurd rfl c7|cons d r=>exact ⟨d,rfl⟩
       have hr0:0<r.length:=List.length_pos_iff.2 c7
       have h1:(ofL L).data.toList[1]? = some d:=by rw [hLl,hLc];exact hd_ix hd
       have hdc:¬(d.toNat:Int)=(c.toNat:Int):=fun h=>c3 (by rw [hd];congr 1;exact UInt8.toNat_inj.1 (by omega))
       repeat' (first|refine ZC ?_|refine ZA (hix) (fun _ _=>?_)|refine ZA (hcut) (fun _ _=>?_)|refine ZA (hv) (fun _ _=>?_)|refine Z3 (s:=s) (u:=ofL L) i (by omega) (by rw [hL,hLl]) ?_|refine WG (s:=ofL L) 0 c h0 ?_|refine WG (s:=ofL L) 1 d h1 ?_|refine Z3 (s:=ofL L) (u:=ofL r) 1 (by omega) hdr ?_|refine Zu (s:=ofL L) 0 c h0 ?_|(refine ZG (fun hc=>?_) (fun hc=>?_)<;>(try simp at hc)<;>(try omega))|(refine ZS (fun hc=>?_) (fun hc=>?_)<;>(try simp at hc)<;>(try omega))|refine ZI 17 [] [(0,0),(1,0),(2,0),(3,0),(4,0),(5,0),(6,0),(7,0),(8,0),(9,0),(10,0)] [] ?_|(refine ZB (fun hc=>?_) (fun hc=>?_)<;>(try simp at hc)<;>(try omega))|fail)
       all_goals first|exact ZD () rfl trivial|exact Zz (Z5 (Zg () rfl trivial))
   ·rw [if_pos (by simpa using c2)] at ht
    have n1:=hl acc (ofL (L.take k)) (by rw [ht];exact Xp _ _ _ _)
    have w1:=wrapi (z:=(i:Int)+(k:Int)) (by omega) (by omega)
    have e1:(L.drop k)=s.data.toList.drop (i+k):=by rw [←hL,List.drop_drop]
    repeat' (first|refine ZC ?_|refine ZA (hix) (fun _ _=>?_)|refine Z3 (s:=s) (u:=ofL L) i (by omega) (by rw [hL,hLl]) ?_|refine l_sTo (s:=ofL L) (u:=ofL (L.take k)) k (by omega) (by rw [hLl,WJ]) ?_|refine YN n1 (fun _ _=>?_)|rw [w1]|(refine ZB (fun hc=>?_) (fun hc=>?_)<;>(try simp at hc)<;>(try omega))|fail)
    refine ZJ ⟨(i+k,acc++[.lit (ofL (L.take k))]),by show i+k≤s.size;omega,f,?_,?_⟩ (by show s.size - (i+k)<s.size - i;omega) ⟨rfl,rfl,rfl,rfl,trivial⟩
    ·show (s.data.toList.drop (i+k)).length<f
     rw [←e1,List.length_drop];omega
    ·show T=divF f (s.data.toList.drop (i+k)) (i+k) _
     rw [ht,e1]
theorem Zc {f:FuncId} {cs:Array Value} {vs:List Value} {F:List Pf} {R:List HP} {post:Post} (spec:Enters f∧Spec prog f (vs.toArray++cs) F R post):SpecV (.func (.func f) #[] cs) vs F R post:=by
 intro G w hp hsat
 unfold CallsV OpRes
 have e1:(invoke (.fn (.func f) cs) (#[]++vs.toArray)).run prog w = .ok (.enter f (vs.toArray++cs)) w:=by
  simp only [invoke]
  rw [show (#[]++vs.toArray:Array Value)=vs.toArray by rw [←Array.toList_inj];simp]
  exact spec.1 _ w
 simp only [e1]
 refine Calls.mono (spec.2 G w hp hsat) ?_
 rintro e w' ⟨x,rfl,hx,hs⟩
 exact ⟨x,rfl,hx,hs⟩
theorem check1_ok (t:ByteArray) (r:HP):Enters 225∧Spec prog 225 #[.string t] [P10] [r] ⟨Unit,fun _=>.tuple #[],fun _=>True,fun _=>[],fun _=>[r]⟩:=by
 refine ZE [_] func225 ntmps225 fun G w hp=>?_
 repeat' (first|fail)
 exact Zw () rfl trivial
def Nil0:HP:=fun _=>True
theorem tplV_ge (s:ByteArray) (i:Nat) (h:(tplF s).2=some i):tplV s=(i:Int):=by unfold tplV;rw [h]
theorem tplV_no (s:ByteArray) (h:(tplF s).2=none):tplV s = -1:=by unfold tplV;rw [h]
theorem ruCheck_ok (s:ByteArray) (hs:s.size≤1000000):Enters 213∧Spec prog 213 #[.string s] [P10] [] (RetV (.tuple #[.int .i64 (if (tplF s).2.isSome then tplV s else 0),.int .i64 (if (tplF s).2.isSome then 3 else 0)])):=by
 have n1:=UC s hs (fnv 225) (fnv 225) (fun _=>Nil0) (fun acc t _=>Zc (check1_ok t _)) (fun acc n _=>Zc (check1_ok n _))
 cases h:(tplF s).2 with
 | none=>
  rw [tplV_no s h] at n1 ⊢
  simp only [Option.isSome_none,Bool.false_eq_true,if_false]
  refine ZE [_] func213 ntmps213 fun G w hp=>?_
  refine ZO (Lx:=[]) (r:=Nil0) (fun _ _=>trivial) ?_
  repeat' (first|refine ZC ?_|refine ZA (n1) (fun _ _=>?_)|fail)
  exact ZD () rfl trivial
 | some i=>
  rw [tplV_ge s i h] at n1 ⊢
  simp only [Option.isSome_some,if_true]
  refine ZE [_] func213 ntmps213 fun G w hp=>?_
  refine ZO (Lx:=[]) (r:=Nil0) (fun _ _=>trivial) ?_
  repeat' (first|refine ZC ?_|refine ZA (n1) (fun _ _=>?_)|fail)
  exact ZD () rfl trivial
theorem pt_both {a b:Nat} {o u:Obj} {h:H} (hh:Sep [Pt b u,Pt a o] h):both (Pt a o) (Pt b u) h:=by
 obtain ⟨h1,h2,dj,s1,s2,hp,k1,k2,_,t1,_,hq,_⟩:=hh
 exact ⟨h2,h1,fun x=>(dj x).symm,s2,s1,t1 _ _ hq,h1,emp,fun _=>.inr rfl,fun _ _ e=>e,fun _ _ e=>(by cases e),hp,trivial⟩
theorem bd_both {a b:Nat} {o:Obj} {h:H} (hh:Sep [Pt b (.cells #[.pointer none,.slice none 0 0] 205),Pt a o] h):both (Pt a o) (Bdr b []) h:=by
 obtain ⟨h1,h2,dj,s1,s2,hp,k1,k2,_,t1,_,hq,_⟩:=hh
 exact ⟨h2,h1,fun x=>(dj x).symm,s2,s1,t1 _ _ hq,h1,emp,fun _=>.inr rfl,fun _ _ e=>e,fun _ _ e=>(by cases e),bd_new ⟨h1,emp,fun _=>.inr rfl,fun _ _ e=>e,fun _ _ e=>(by cases e),hp,trivial⟩,trivial⟩
theorem expand1_ok (b a:Nat) (bs:List UInt8) (t:ByteArray) (c:Cq) (h1:bs.length≤1000000000) (h2:t.size≤1000000000):Enters 117∧Spec prog 117 #[.string t,.pointer (some ⟨b,0,none⟩)] [P10] [both (Pt a (.cells (cqf c).toArray 40)) (Bdr b bs)]
  ⟨Unit,fun _=>.tuple #[],fun _=>True,fun _=>[],fun _=>[both (Pt a (.cells (cqf c).toArray 40)) (Bdr b (bs++t.data.toList))]⟩:=by
 have n1:=Yr b bs t h1 h2
 generalize b=bp at *
 generalize a=ap at *
 refine ZE [_,_] func117 ntmps117 fun G w hp=>?_
 refine Zq (X:=Unit) (Lx:=fun _=>[Pt ap (.cells (cqf c).toArray 40),Bdr bp bs]) (p:=fun _=>True) (r:=both (Pt ap (.cells (cqf c).toArray 40)) (Bdr bp bs)) .here (fun h hh=>⟨(),trivial,hh⟩) (fun _ _=>?_)
 repeat' (first|refine ZC ?_|refine ZA (n1) (fun _ _=>?_)|fail)
 refine ZO (Lx:=[Pt ap (.cells (cqf c).toArray 40),Bdr bp (bs++t.data.toList)]) (r:=both (Pt ap (.cells (cqf c).toArray 40)) (Bdr bp (bs++t.data.toList))) (fun h hh=>hh) ?_
 exact Zw () rfl trivial
theorem expand2_ok (b a:Nat) (bs:List UInt8) (n:ByteArray) (c:Cq) (hc:CqI c) (h1:bs.length≤1000000000) (h2:(valF n c).size≤1000000000):Enters 119∧Spec prog 119 #[.string n,.pointer (some ⟨a,0,none⟩),.pointer (some ⟨b,0,none⟩)] [P10] [both (Pt a (.cells (cqf c).toArray 40)) (Bdr b bs)]
  ⟨Unit,fun _=>.tuple #[],fun _=>True,fun _=>[],fun _=>[both (Pt a (.cells (cqf c).toArray 40)) (Bdr b (bs++(valF n c).data.toList))]⟩:=by
 have n0:=VZ n c hc
 have n1:=Yr b bs (valF n c) h1 h2
 generalize valF n c=z at *
 generalize b=bp at *
 generalize a=ap at *
 refine ZE [_,_,_] func119 ntmps119 fun G w hp=>?_
 refine Zq (X:=Unit) (Lx:=fun _=>[Pt ap (.cells (cqf c).toArray 40),Bdr bp bs]) (p:=fun _=>True) (r:=both (Pt ap (.cells (cqf c).toArray 40)) (Bdr bp bs)) .here (fun h hh=>⟨(),trivial,hh⟩) (fun _ _=>?_)
 repeat' (first|refine ZC ?_|refine ZA (n0) (fun _ _=>?_)|refine ZA (n1) (fun _ _=>?_)|fail)
 refine ZO (Lx:=[Pt ap (.cells (cqf c).toArray 40),Bdr bp (bs++z.data.toList)]) (r:=both (Pt ap (.cells (cqf c).toArray 40)) (Bdr bp (bs++z.data.toList))) (fun h hh=>hh) ?_
 exact Zw () rfl trivial
def flat (c:Cq) (l:List Seg):List UInt8:=l.flatMap fun x=>(segF c x).data.toList
theorem W6 (c:Cq) (a b:List Seg):flat c (a++b)=flat c a++flat c b:=List.flatMap_append
theorem Vz (c:Cq) (x:Seg):flat c [x]=(segF c x).data.toList:=by simp [flat]
theorem flt_pre {c:Cq} {a:List Seg} {x:Seg} {l:List Seg} (h:a++[x] <+: l):(flat c a).length+(segF c x).size≤(flat c l).length:=by
 obtain ⟨r,rfl⟩:=h
 have:=lsz (segF c x)
 rw [W6,W6,Vz,List.length_append,List.length_append]
 omega
theorem expF_flat (s:ByteArray) (c:Cq):expF s c=ofL (flat c (tplF s).1):=rfl
theorem expF_sz (s:ByteArray) (c:Cq):(expF s c).size=(flat c (tplF s).1).length:=by rw [expF_flat,Xw]
set_option maxHeartbeats 1000000 in
theorem ruExpand_ok (s:ByteArray) (c:Cq) (hs:s.size≤1000000) (hc:CqI c) (he:(expF s c).size≤1000000000):Enters 91∧Spec prog 91 #[.string s,cqa c] [P10] [] (RetV (.tuple #[.string (if (tplF s).2.isSome then ⟨#[]⟩ else expF s c),.int .i64 (if (tplF s).2.isSome then 3 else 0)])):=by
 rw [expF_sz] at he
 have n0:=fun (ap bp:Nat)=>UC s hs (.func (.func 117) #[] #[.pointer (some ⟨bp,0,none⟩)]) (.func (.func 119) #[] #[.pointer (some ⟨ap,0,none⟩),.pointer (some ⟨bp,0,none⟩)]) (fun acc=>both (Pt ap (.cells (cqf c).toArray 40)) (Bdr bp (flat c acc)))
  (fun acc t h=>by
   have:=flt_pre (c:=c) h
   have h2:=expand1_ok bp ap (flat c acc) t c (by omega) (by simp only [segF] at this;omega)
   rw [show flat c acc++t.data.toList=flat c (acc++[.lit t]) by rw [W6,Vz];rfl] at h2
   exact Zc h2)
  (fun acc n h=>by
   have:=flt_pre (c:=c) h
   have h2:=expand2_ok bp ap (flat c acc) n c hc (by omega) (by simp only [segF] at this;omega)
   rw [show flat c acc++(valF n c).data.toList=flat c (acc++[.fld n]) by rw [W6,Vz];rfl] at h2
   exact Zc h2)
 obtain ⟨V,hV⟩:∃V,tplV s=V:=⟨_,rfl⟩
 rw [expF_flat]
 have hV':=hV
 unfold tplV at hV'
 simp only [hV] at n0
 generalize tplF s=T at *
 obtain ⟨L,o⟩:=T
 dsimp only at *
 have hn:flat c []=[]:=rfl
 simp only [hn] at n0
 have n1:=fun (ap bp:Nat)=>UH (L:=[Pt bp (.cells #[.pointer none,.slice none 0 0] 205),Pt ap (.cells (cqf c).toArray 40)]) (fun _ hh=>bd_both hh) (n0 ap bp)
 have n2:=fun (bp:Nat)=>Wh bp (flat c L) (by omega)
 cases o with
 | none=>
  subst hV'
  simp only [Option.isSome_none,Bool.false_eq_true,if_false]
  refine ZE [_,_] func91 ntmps91 fun G w hp=>?_
  repeat' (first|refine Zq (X:=Unit) (Lx:=fun _=>[Pt _ (.cells (cqf c).toArray 40),Bdr _ (flat c L)]) (p:=fun _=>True) (r:=both (Pt _ (.cells (cqf c).toArray 40)) (Bdr _ (flat c L))) .here (fun h hh=>⟨(),trivial,hh⟩) (fun _ _=>?_)|refine ZC ?_|refine ZH (fun b=>?_)|refine ZA (n1 _ _) (fun _ _=>?_)|refine ZA (n2 _) (fun _ _=>?_)|fail)
  exact ZD () rfl trivial
 | some i=>
  subst hV'
  simp only [Option.isSome_some,if_true]
  refine ZE [_,_] func91 ntmps91 fun G w hp=>?_
  repeat' (first|refine ZC ?_|refine ZH (fun b=>?_)|refine ZA (n1 _ _) (fun _ _=>?_)|fail)
  exact ZD () rfl trivial
theorem esize1_ok (b a:Nat) (z:Nat) (t:ByteArray) (c:Cq) (h1:z+t.size≤1000000000000):Enters 114∧Spec prog 114 #[.string t,.pointer (some ⟨b,0,none⟩)] [P10] [both (Pt a (.cells (cqf c).toArray 40)) (Pt b (.cells #[.int .i64 z] 3))]
  ⟨Unit,fun _=>.tuple #[],fun _=>True,fun _=>[],fun _=>[both (Pt a (.cells (cqf c).toArray 40)) (Pt b (.cells #[.int .i64 ((z+t.size:Nat):Int)] 3))]⟩:=by
 have w1:=wrapi (z:=(z:Int)+(t.size:Int)) (by omega) (by omega)
 rw [←Int.natCast_add] at w1
 generalize b=bp at *
 generalize a=ap at *
 refine ZE [_,_] func114 ntmps114 fun G w hp=>?_
 refine Zq (X:=Unit) (Lx:=fun _=>[Pt ap (.cells (cqf c).toArray 40),Pt bp (.cells #[.int .i64 z] 3)]) (p:=fun _=>True) (r:=both (Pt ap (.cells (cqf c).toArray 40)) (Pt bp (.cells #[.int .i64 z] 3))) .here (fun h hh=>⟨(),trivial,hh⟩) (fun _ _=>?_)
 repeat' (first|refine ZC ?_|rw [←Int.natCast_add]|rw [w1]|fail)
 refine ZO (Lx:=[Pt ap (.cells (cqf c).toArray 40),Pt bp (.cells #[.int .i64 ((z+t.size:Nat):Int)] 3)]) (r:=both (Pt ap (.cells (cqf c).toArray 40)) (Pt bp (.cells #[.int .i64 ((z+t.size:Nat):Int)] 3))) (fun h hh=>hh) ?_
 exact Zw () rfl trivial
theorem esize2_ok (b a:Nat) (z:Nat) (n:ByteArray) (c:Cq) (hc:CqI c) (h1:z+(valF n c).size≤1000000000000):Enters 115∧Spec prog 115 #[.string n,.pointer (some ⟨a,0,none⟩),.pointer (some ⟨b,0,none⟩)] [P10] [both (Pt a (.cells (cqf c).toArray 40)) (Pt b (.cells #[.int .i64 z] 3))]
  ⟨Unit,fun _=>.tuple #[],fun _=>True,fun _=>[],fun _=>[both (Pt a (.cells (cqf c).toArray 40)) (Pt b (.cells #[.int .i64 ((z+(valF n c).size:Nat):Int)] 3))]⟩:=by
 have n0:=VZ n c hc
 generalize valF n c=t at *
 have w1:=wrapi (z:=(z:Int)+(t.size:Int)) (by omega) (by omega)
 rw [←Int.natCast_add] at w1
 generalize b=bp at *
 generalize a=ap at *
 refine ZE [_,_,_] func115 ntmps115 fun G w hp=>?_
 refine Zq (X:=Unit) (Lx:=fun _=>[Pt ap (.cells (cqf c).toArray 40),Pt bp (.cells #[.int .i64 z] 3)]) (p:=fun _=>True) (r:=both (Pt ap (.cells (cqf c).toArray 40)) (Pt bp (.cells #[.int .i64 z] 3))) .here (fun h hh=>⟨(),trivial,hh⟩) (fun _ _=>?_)
 repeat' (first|refine ZC ?_|refine ZA (n0) (fun _ _=>?_)|rw [←Int.natCast_add]|rw [w1]|fail)
 refine ZO (Lx:=[Pt ap (.cells (cqf c).toArray 40),Pt bp (.cells #[.int .i64 ((z+t.size:Nat):Int)] 3)]) (r:=both (Pt ap (.cells (cqf c).toArray 40)) (Pt bp (.cells #[.int .i64 ((z+t.size:Nat):Int)] 3))) (fun h hh=>hh) ?_
 exact Zw () rfl trivial
set_option maxHeartbeats 1000000 in
theorem ruSize_ok (s:ByteArray) (c:Cq) (hs:s.size≤1000000) (hc:CqI c) (he:(expF s c).size≤1000000000000):Enters 90∧Spec prog 90 #[.string s,cqa c] [P10] [] (RetV (.int .i64 ((expF s c).size:Nat))):=by
 rw [expF_sz] at he ⊢
 have n0:=fun (ap bp:Nat)=>UC s hs (.func (.func 114) #[] #[.pointer (some ⟨bp,0,none⟩)]) (.func (.func 115) #[] #[.pointer (some ⟨ap,0,none⟩),.pointer (some ⟨bp,0,none⟩)]) (fun acc=>both (Pt ap (.cells (cqf c).toArray 40)) (Pt bp (.cells #[.int .i64 ((flat c acc).length:Nat)] 3)))
  (fun acc t h=>by
   have:=flt_pre (c:=c) h
   have ht:=lsz t
   have h2:=esize1_ok bp ap (flat c acc).length t c (by simp only [segF] at this;omega)
   rw [show (flat c acc).length+t.size=(flat c (acc++[.lit t])).length by rw [W6,Vz,List.length_append];simp only [segF];omega] at h2
   exact Zc h2)
  (fun acc n h=>by
   have:=flt_pre (c:=c) h
   have ht:=lsz (valF n c)
   have h2:=esize2_ok bp ap (flat c acc).length n c hc (by simp only [segF] at this;omega)
   rw [show (flat c acc).length+(valF n c).size=(flat c (acc++[.fld n])).length by rw [W6,Vz,List.length_append];simp only [segF];omega] at h2
   exact Zc h2)
 generalize (flat c (tplF s).1).length=m at *
 generalize tplV s=V at *
 have hn:(((flat c []).length:Nat):Int)=0:=rfl
 simp only [hn] at n0
 have n1:=fun (ap bp:Nat)=>UH (L:=[Pt bp (.cells #[.int .i64 0] 3),Pt ap (.cells (cqf c).toArray 40)]) (fun _ hh=>pt_both hh) (n0 ap bp)
 refine ZE [_,_] func90 ntmps90 fun G w hp=>?_
 repeat' (first|refine Zq (X:=Unit) (Lx:=fun _=>[Pt _ (.cells (cqf c).toArray 40),Pt _ (.cells #[.int .i64 (m:Nat)] 3)]) (p:=fun _=>True) (r:=both (Pt _ (.cells (cqf c).toArray 40)) (Pt _ (.cells #[.int .i64 (m:Nat)] 3))) .here (fun h hh=>⟨(),trivial,hh⟩) (fun _ _=>?_)|refine ZC ?_|refine ZH (fun b=>?_)|refine ZA (n1 _ _) (fun _ _=>?_)|fail)
 exact ZD () rfl trivial
theorem mget_act (w:ByteArray):(mget w (mset (⟨#[97,115,107]⟩:ByteArray) (5:Int) (mset (⟨#[104,111,108,100]⟩:ByteArray) (4:Int) (mset (⟨#[115,101,110,100]⟩:ByteArray) 3 (mset (⟨#[99,111,109,112,101,110,115,97,116,101]⟩:ByteArray) 2 (mset (⟨#[107,101,101,112]⟩:ByteArray) 1 []))))))=if idx w wActs<5 then some ((idx w wActs:Nat)+1:Int) else none:=by
 have e:(mset (⟨#[97,115,107]⟩:ByteArray) (5:Int) (mset (⟨#[104,111,108,100]⟩:ByteArray) (4:Int) (mset (⟨#[115,101,110,100]⟩:ByteArray) 3 (mset (⟨#[99,111,109,112,101,110,115,97,116,101]⟩:ByteArray) 2 (mset (⟨#[107,101,101,112]⟩:ByteArray) 1 [])))))=[(⟨#[107,101,101,112]⟩,1),(⟨#[99,111,109,112,101,110,115,97,116,101]⟩,2),(⟨#[115,101,110,100]⟩,3),(⟨#[104,111,108,100]⟩,4),(⟨#[97,115,107]⟩,5)]:=by decide
 rw [e]
 by_cases h1:w=⟨#[107,101,101,112]⟩
 ·subst h1;decide
 by_cases h2:w=⟨#[99,111,109,112,101,110,115,97,116,101]⟩
 ·subst h2;decide
 by_cases h3:w=⟨#[115,101,110,100]⟩
 ·subst h3;decide
 by_cases h4:w=⟨#[104,111,108,100]⟩
 ·subst h4;decide
 by_cases h5:w=⟨#[97,115,107]⟩
 ·subst h5;decide
 have e2:idx w wActs=5:=by simp [wActs,idx,Ne.symm h1,Ne.symm h2,Ne.symm h3,Ne.symm h4,Ne.symm h5]
 rw [e2]
 simp [mget,h1,h2,h3,h4,h5]
abbrev acV (a:Ac):Value:=.agg #[.int .i64 a.k,.string a.t]
set_option maxHeartbeats 2000000 in
theorem Uc (b r:Nat) (x:Ps) (o:Option Addr) (cap:Nat) (hk:KdOK x):Enters 168∧Spec prog 168 #[.pointer (some ⟨b,0,none⟩)] [TkS (o,cap) x.tk,P10] [Pt b (psC x o cap r)] (PsP (acV (actF x).1) b r (actF x).2):=by
 have n1:=YZ b r x o cap hk 1
 have n2:=fun (q:Option Addr×Nat)=>Zr b r (x.need 1) q.1 q.2 x.peek.pl 30
 have hg:=mget_act x.peek.tx
 have hk1:=hk.need 1
 unfold actF
 generalize x.need 1=x1 at *
 generalize hp:x.peek=t at *
 obtain ⟨kd,tx,pl⟩:=t
 dsimp only at hg ⊢
 generalize b=bp at *
 by_cases hi:idx tx wActs<5
 ·rw [if_pos hi] at hg
  by_cases h1:idx tx wActs=1
  ·rw [if_pos h1,if_pos hi]
   rw [h1] at hg
   have n3:=fun (q:Option Addr×Nat)=>YZ bp r x1 q.1 q.2 hk1 3
   have hz:=hk1.peek
   have n4:=ruCheck_ok x1.peek.tx (by omega)
   have n5:=fun (q:Option Addr×Nat)=>Zr bp r (x1.need 3) q.1 q.2 x1.peek.pl 3
   generalize x1.peek=u at *
   obtain ⟨kd2,tx2,pl2⟩:=u
   dsimp only at n4 n5 ⊢
   generalize x1.need 3=x3 at *
   generalize tplV tx2=V at *
   cases ho:(tplF tx2).2.isSome with
   | true=>
    rw [ho] at n4
    rw [if_pos rfl,if_pos rfl] at n4
    rw [if_pos rfl]
    refine ZE [_] func168 ntmps168 fun G w hp=>?_
    repeat' (first|refine Zy (V:=ivv) ZZ tx (some 2) hg ?_|refine Yy ZZ _ _ ?_|refine Yk ZZ ivv (fun r=>?_)|refine ZC ?_|refine ZH (fun b=>?_)|refine ZA (n1) (fun _ _=>?_)|refine ZA (n3 _) (fun _ _=>?_)|refine ZA (n4) (fun _ _=>?_)|refine ZA (n5 _) (fun _ _=>?_)|fail)
    rename_i q _
    exact ZD q rfl trivial
   | false=>
    rw [ho] at n4
    rw [if_neg (by decide),if_neg (by decide)] at n4
    rw [if_neg (by decide)]
    refine ZE [_] func168 ntmps168 fun G w hp=>?_
    repeat' (first|refine Zy (V:=ivv) ZZ tx (some 2) hg ?_|refine Yy ZZ _ _ ?_|refine Yk ZZ ivv (fun r=>?_)|refine ZC ?_|refine ZH (fun b=>?_)|refine ZA (n1) (fun _ _=>?_)|refine ZA (n3 _) (fun _ _=>?_)|refine ZA (n4) (fun _ _=>?_)|fail)
    rename_i q _ _ _
    exact ZD q rfl trivial
  ·rw [if_neg h1,if_pos hi,if_pos hi]
   have hz2:¬((idx tx wActs:Nat)+1:Int)=2:=by omega
   generalize ((idx tx wActs:Nat)+1:Int)=z at hg hz2 ⊢
   refine ZE [_] func168 ntmps168 fun G w hp=>?_
   repeat' (first|refine Zy (V:=ivv) ZZ tx (some z) hg ?_|refine Yy ZZ _ _ ?_|refine Yk ZZ ivv (fun r=>?_)|refine ZC ?_|refine ZH (fun b=>?_)|refine ZA (n1) (fun _ _=>?_)|(refine ZB (fun hc=>?_) (fun hc=>?_)<;>(try simp at hc)<;>(try omega))|fail)
   rename_i q _
   exact ZD q rfl trivial
 ·rw [if_neg hi] at hg
  rw [if_neg (show ¬idx tx wActs=1 by omega),if_neg hi,if_neg hi]
  refine ZE [_] func168 ntmps168 fun G w hp=>?_
  repeat' (first|refine Zy (V:=ivv) ZZ tx none hg ?_|refine Yy ZZ _ _ ?_|refine Yk ZZ ivv (fun r=>?_)|refine ZC ?_|refine ZH (fun b=>?_)|refine ZA (n1) (fun _ _=>?_)|refine ZA (n2 _) (fun _ _=>?_)|fail)
  rename_i q _
  exact ZD q rfl trivial
abbrev ovl (x:Option IV):Value:=match x with
 | none=>.nilIface
 | some i=>ivOf i
def OcP (h:H) (c:Option Cnd) (x:Option IV):Prop:=match c,x with
 | none,none=>True
 | some c,some i=>CdP h c (ivOf i)
 | _,_=>False
def OcF (c:Option Cnd) (x:Option IV):Pf:=⟨fun h=>OcP h c x,fun h k s hh=>by
 unfold OcP at *
 split
 ·trivial
 ·exact Vg s _ _ hh
 ·rename_i a b
  revert hh
  split
  ·exact fun _=>a rfl rfl
  ·exact fun _=>b _ _ rfl rfl
  ·exact id⟩
abbrev ruV (i:Option IV) (a:Ac):Value:=.agg #[ovl i,.int .i64 a.k,.string a.t]
abbrev RlQ (b r:Nat) (y:Ru×Ps):Post:=⟨Option IV×Option Addr×Nat,fun q=>ruV q.1 y.1.a,fun _=>True,fun q=>[OcF y.1.c q.1,TkS q.2 y.2.tk],fun q=>[Pt b (psC y.2 q.2.1 q.2.2 r),Mp skv vid r tstL]⟩
set_option maxHeartbeats 4000000 in
theorem ruRule_ok (b r:Nat) (x:Ps) (o:Option Addr) (cap:Nat) (hx:PkOK x):Enters 130∧Spec prog 130 #[.pointer (some ⟨b,0,none⟩)] [TkS (o,cap) x.tk,ErA,P10] [Pt b (psC x o cap r),Mp skv vid r tstL] (RlQ b r (ruleF x)):=by
 have n1:=XZ b r x o cap hx.kd 1 wIf
 unfold ruleF
 dsimp only
 cases hi:x.is 1 wIf with
 | true=>
  rw [hi] at n1
  rw [if_pos rfl] at n1 ⊢
  have hps:PkOK x.pass:=hx.sfx (Sfx.pass x) (Sop.pass x)
  have n2:=fun (q:Option Addr×Nat)=>ruCond_ok b r x.pass q.1 q.2 hps
  have k1:KdOK (condF (fuP x.pass) x.pass).2:=(hps.sfx ((Yg _).2.2.2.1 x.pass) ((X2 _).2.2.2.1 x.pass)).kd
  unfold SpF at n2
  generalize condF (fuP x.pass) x.pass=y at *
  obtain ⟨c,y⟩:=y
  dsimp only at n2 k1 ⊢
  have n3:=fun (q:Option Addr×Nat)=>WK b r y q.1 q.2 k1 yCol
  have k2:=k1.symb yCol
  generalize y.symb yCol=s at *
  have n4:=fun (q:Option Addr×Nat)=>Uc b r s q.1 q.2 k2
  generalize actF s=z at *
  obtain ⟨⟨ak,atx⟩,z⟩:=z
  dsimp only at n4 ⊢
  have n5:=fun (q:Option Addr×Nat)=>Xh b r z q.1 q.2
  have n6:=fun (q:Option Addr×Nat)=>Zr b r z q.1 q.2 z.peek.pl 30
  generalize z.peek=t at *
  obtain ⟨kd,tx,pl⟩:=t
  dsimp only at n6 ⊢
  generalize b=bp at *
  by_cases h0:kd=0
  ·rw [if_neg (by simpa using h0)]
   refine ZE [_] func130 ntmps130 fun G w hp=>?_
   repeat' (first|refine ZC ?_|refine ZH (fun b=>?_)|refine ZA (n1) (fun _ _=>?_)|refine ZA (n2 _) (fun _ _=>?_)|refine ZA (n3 _) (fun _ _=>?_)|refine ZA (n4 _) (fun _ _=>?_)|refine ZA (n5 _) (fun _ _=>?_)|(refine ZB (fun hc=>?_) (fun hc=>?_)<;>(try simp at hc)<;>(try omega))|fail)
   rename_i iv _ _ _ q _ _ _
   refine Zx (F1:=[CdF c (ivOf iv.1)]) (f:=OcF (some c) (some iv.1)) (fun hp hF=>hF _ (.head _)) ?_
   exact ZD (some iv.1,q) rfl trivial
  ·rw [if_pos h0]
   refine ZE [_] func130 ntmps130 fun G w hp=>?_
   repeat' (first|refine ZC ?_|refine ZH (fun b=>?_)|refine ZA (n1) (fun _ _=>?_)|refine ZA (n2 _) (fun _ _=>?_)|refine ZA (n3 _) (fun _ _=>?_)|refine ZA (n4 _) (fun _ _=>?_)|refine ZA (n5 _) (fun _ _=>?_)|refine ZA (n6 _) (fun _ _=>?_)|(refine ZB (fun hc=>?_) (fun hc=>?_)<;>(try simp at hc)<;>(try omega))|fail)
   rename_i iv _ _ _ _ _ _ _ q _
   refine Zx (F1:=[CdF c (ivOf iv.1)]) (f:=OcF (some c) (some iv.1)) (fun hp hF=>hF _ (.head _)) ?_
   exact ZD (some iv.1,q) rfl trivial
 | false=>
  rw [hi] at n1
  rw [if_neg (by decide)] at n1 ⊢
  have n4:=fun (q:Option Addr×Nat)=>Uc b r x q.1 q.2 hx.kd
  dsimp only
  generalize actF x=z at *
  obtain ⟨⟨ak,atx⟩,z⟩:=z
  dsimp only at n4 ⊢
  have n5:=fun (q:Option Addr×Nat)=>Xh b r z q.1 q.2
  have n6:=fun (q:Option Addr×Nat)=>Zr b r z q.1 q.2 z.peek.pl 30
  generalize z.peek=t at *
  obtain ⟨kd,tx,pl⟩:=t
  dsimp only at n6 ⊢
  generalize b=bp at *
  by_cases h0:kd=0
  ·rw [if_neg (by simpa using h0)]
   refine ZE [_] func130 ntmps130 fun G w hp=>?_
   repeat' (first|refine ZC ?_|refine ZH (fun b=>?_)|refine ZA (n1) (fun _ _=>?_)|refine ZA (n4 _) (fun _ _=>?_)|refine ZA (n5 _) (fun _ _=>?_)|(refine ZB (fun hc=>?_) (fun hc=>?_)<;>(try simp at hc)<;>(try omega))|fail)
   rename_i q _ _ _
   refine Yw (f:=OcF none none) (fun _=>trivial) ?_
   exact ZD (none,q) rfl trivial
  ·rw [if_pos h0]
   refine ZE [_] func130 ntmps130 fun G w hp=>?_
   repeat' (first|refine ZC ?_|refine ZH (fun b=>?_)|refine ZA (n1) (fun _ _=>?_)|refine ZA (n4 _) (fun _ _=>?_)|refine ZA (n5 _) (fun _ _=>?_)|refine ZA (n6 _) (fun _ _=>?_)|(refine ZB (fun hc=>?_) (fun hc=>?_)<;>(try simp at hc)<;>(try omega))|fail)
   rename_i q _
   refine Yw (f:=OcF none none) (fun _=>trivial) ?_
   exact ZD (none,q) rfl trivial
theorem unq_sz:∀(l:List UInt8) (i:Nat) (acc t:List UInt8) (k:Nat),unqF l i acc=some (t,k)→t.length≤acc.length+l.length
 | [],_,_,_,_,h=>by simp [unqF] at h
 | [c],i,acc,t,k,h=>by
  rw [unqF] at h
  split at h
  ·cases h;simp
  ·cases h
 | c::d::r,i,acc,t,k,h=>by
  rw [unqF] at h
  simp only [List.length_cons]
  split at h
  ·cases h;omega
  ·split at h
   ·split at h
    ·have:=unq_sz r _ _ _ _ h;simp only [List.length_append,List.length_cons,List.length_nil] at this;omega
    ·split at h
     ·have:=unq_sz r _ _ _ _ h;simp only [List.length_append,List.length_cons,List.length_nil] at this;omega
     ·cases h
   ·have:=unq_sz (d::r) _ _ _ _ h
    simp only [List.length_append,List.length_cons,List.length_nil] at this;omega
theorem VY (l:List UInt8):(ofL l).size=l.length:=Xw l
theorem scan_sz:∀(n:Nat) (l:List UInt8) (i:Nat) (acc:List Tk) (M:Nat),l.length≤M→(∀t ∈ acc,t.kd≠0∧t.tx.size≤M)→(∀t ∈ (scanF n l i acc).1,t.kd≠0∧t.tx.size≤M)∧(scanF n l i acc).1.length≤acc.length+l.length
 | 0,_,_,acc,_,_,h=>⟨h,by show acc.length≤_;omega⟩
 | _+1,[],_,acc,_,_,h=>⟨h,by show acc.length≤_;omega⟩
 | n+1,c::r,i,acc,M,hM,h=>by
  have add:∀t:Tk,(t.kd≠0∧t.tx.size≤M)→∀x ∈ acc++[t],x.kd≠0∧x.tx.size≤M:=fun t ht x hx=>by
   rcases List.mem_append.1 hx with hx|hx
   ·exact h x hx
   ·rcases List.mem_singleton.1 hx with rfl
    exact ht
  have hM':r.length+1≤M:=by simpa using hM
  have key:∀(l':List UInt8) (i':Nat) (t:Tk),l'.length+1≤(c::r).length→(t.kd≠0∧t.tx.size≤M)→(∀x ∈ (scanF n l' i' (acc++[t])).1,x.kd≠0∧x.tx.size≤M)∧(scanF n l' i' (acc++[t])).1.length≤acc.length+(c::r).length:=fun l' i' t hl ht=>by
   obtain ⟨a,b⟩:=scan_sz n l' i' (acc++[t]) M (by simp only [List.length_cons] at hl;omega) (add t ht)
   refine ⟨a,?_⟩
   rw [List.length_append] at b
   simp only [List.length_cons,List.length_nil] at b hl ⊢
   omega
  unfold scanF
  split
  ·exact ⟨h,by show acc.length≤_;omega⟩
  ·split
   ·obtain ⟨a,b⟩:=scan_sz n r (i+1) acc M (by omega) h
    exact ⟨a,by simp only [List.length_cons];omega⟩
   ·split
    ·rename_i hd
     have e:spanF isLet (c::r)=spanF isLet r+1:=by simp [spanF,hd]
     exact key _ _ _ (by rw [e];simp only [List.drop_succ_cons,List.length_drop,List.length_cons];omega) ⟨show (1:Int)≠0 by decide,by show (ofL _).size≤M;rw [VY,List.length_take];simp only [List.length_cons];omega⟩
    ·split
     ·rename_i hd
      have e:spanF inNum (c::r)=spanF inNum r+1:=by simp [spanF,inNum,hd]
      exact key _ _ _ (by rw [e];simp only [List.drop_succ_cons,List.length_drop,List.length_cons];omega) ⟨show (2:Int)≠0 by decide,by show (ofL _).size≤M;rw [VY,List.length_take];simp only [List.length_cons];omega⟩
     ·split
      ·split
       ·rename_i t k hu
        have u1:=unq_le _ _ _ _ _ hu
        have u2:=unq_sz _ _ _ _ _ hu
        exact key _ _ _ (by simp only [List.length_drop,List.length_cons];omega) ⟨show (3:Int)≠0 by decide,by show (ofL _).size≤M;rw [VY];simp only [List.length_nil] at u2;omega⟩
       ·exact ⟨fun t ht=>(by cases ht),Nat.zero_le _⟩
      ·split
       ·exact key _ _ _ (by simp) ⟨show (4:Int)≠0 by decide,by show (ofL _).size≤M;rw [VY];simp;omega⟩
       ·exact ⟨fun t ht=>(by cases ht),Nat.zero_le _⟩
abbrev RI:=Option IV×Ac
abbrev rul (x:RI):List Value:=[ovl x.1,.int .i64 x.2.k,.string x.2.t]
def RusP (h:H):List Ru→List RI→Prop
 | [],[]=>True
 | x::l,y::ys=>(OcP h x.c y.1∧x.a=y.2)∧RusP h l ys
 | _,_=>False
theorem UK {h k:H} (s:Sub h k):∀(l:List Ru) (xs:List RI),RusP h l xs→RusP k l xs
 | [],[],_=>trivial
 | x::l,y::ys,hh=>⟨⟨(OcF x.c y.1).m _ _ s hh.1.1,hh.1.2⟩,UK s l ys hh.2⟩
 | [],_::_,hh=>hh.elim
 | _::_,[],hh=>hh.elim
def RusF (l:List Ru) (xs:List RI):Pf:=⟨fun h=>RusP h l xs,fun _ _ s hh=>UK s l xs hh⟩
theorem rusP_len {h:H}:∀{l:List Ru} {xs:List RI},RusP h l xs→xs.length=l.length
 | [],[],_=>rfl
 | x::l,y::ys,hh=>by simp [rusP_len hh.2]
 | [],_::_,hh=>hh.elim
 | _::_,[],hh=>hh.elim
theorem rusP_add {h:H} {x:Ru} {y:RI}:∀{l:List Ru} {xs:List RI},RusP h l xs→OcP h x.c y.1→x.a=y.2→RusP h (l++[x]) (xs++[y])
 | [],[],_,h1,h2=>⟨⟨h1,h2⟩,trivial⟩
 | _::_,_::_,hh,h1,h2=>⟨hh.1,rusP_add hh.2 h1 h2⟩
 | [],_::_,hh,_,_=>hh.elim
 | _::_,[],hh,_,_=>hh.elim
theorem rusP_get {h:H}:∀{l:List Ru} {xs:List RI} {j:Nat} {x:Ru} {y:RI},RusP h l xs→l[j]? = some x→xs[j]? = some y→OcP h x.c y.1∧x.a=y.2
 | [],[],j,_,_,_,h1,_=>by simp at h1
 | _::_,_::_,0,_,_,hh,h1,h2=>by simp at h1 h2;subst h1 h2;exact hh.1
 | _::_,_::_,j+1,_,_,hh,h1,h2=>rusP_get (j:=j) hh.2 (by simpa using h1) (by simpa using h2)
 | [],_::_,_,_,_,hh,_,_=>hh.elim
 | _::_,[],_,_,_,hh,_,_=>hh.elim
def addF (s:List UInt8) (l:List Ru):List Ru:=match (lineF s l.length).1 with
 | some x=>l++[x]
 | none=>l
abbrev RlR (b:Nat) (xs:List RI) (o:Option Addr) (cap:Nat):List HP:=[Pt b (.cells #[.slice o xs.length cap] 173),Row 170 3 o xs.length cap (xs.flatMap rul)]
abbrev AdP (b:Nat) (s:List UInt8) (l:List Ru):Post:=⟨List RI×Option Addr×Nat,fun _=>.tuple #[.int .i64 (lineF s l.length).2.1,.int .i64 (lineF s l.length).2.2],fun q=>q.1.length=(addF s l).length,fun q=>[RusF (addF s l) q.1],fun q=>RlR b q.1 q.2.1 q.2.2⟩
set_option maxHeartbeats 4000000 in
theorem ruAdd_ok (b:Nat) (s:ByteArray) (hs:s.size≤70000) (l:List Ru) (xs:List RI) (o:Option Addr) (cap:Nat) (hl:xs.length=l.length) (hn:l.length≤256):Enters 101∧Spec prog 101 #[.pointer (some ⟨b,0,none⟩),.string s] [RusF l xs,ErA,P10] (RlR b xs o cap) (AdP b s.data.toList l):=by
 have n1:=ruScan_ok s hs
 have hsz:=lsz s
 obtain ⟨hk,hkl⟩:=scan_sz (s.data.toList.length+1) s.data.toList 0 [] 100000 (by omega) (fun t ht=>by cases ht)
 obtain ⟨L,hL⟩:∃L,lineF s.data.toList l.length=L:=⟨_,rfl⟩
 unfold AdP addF
 rw [hL]
 unfold lineF at hL
 dsimp only at hL
 generalize scanF (s.data.toList.length+1) s.data.toList 0 []=r at *
 obtain ⟨tk,en,is⟩:=r
 dsimp only at *
 generalize b=bp at *
 cases is with
 | false=>
  rw [if_pos rfl] at hL
  subst hL
  refine ZE [_,_] func101 ntmps101 fun G w hp=>?_
  repeat' (first|refine ZC ?_|refine ZA (n1) (fun _ _=>?_)|fail)
  exact ZD (xs,o,cap) rfl hl
 | true=>
  rw [if_neg (by decide)] at hL
  cases tk with
  | nil=>
   dsimp only at hL
   subst hL
   refine ZE [_,_] func101 ntmps101 fun G w hp=>?_
   repeat' (first|refine ZC ?_|refine ZA (n1) (fun _ _=>?_)|fail)
   exact ZD (xs,o,cap) rfl hl
  | cons t tk=>
   dsimp only at hL
   by_cases h256:l.length=256
   ·rw [if_pos h256] at hL
    subst hL
    have h0:(t::tk)[0]? = some t:=rfl
    refine ZE [_,_] func101 ntmps101 fun G w hp=>?_
    repeat' (first|refine ZC ?_|refine ZA (n1) (fun _ _=>?_)|refine ZU (es:=t::tk) (f:=tkf) 0 t h0 (fun b off=>?_)|refine ZQ ?_|(refine ZB (fun hc=>?_) (fun hc=>?_)<;>(try simp at hc)<;>(try omega))|fail)
    exact ZD (xs,o,cap) rfl hl
   ·rw [if_neg h256] at hL
    have hpk:PkOK ⟨t::tk,(en:Int),0,0,0⟩:=⟨hk,⟨Int.le_refl 0,by simp only [List.length_nil] at hkl;show (0:Int)+((t::tk).length:Int)≤_;omega⟩,by simp only [List.length_nil] at hkl;show (t::tk).length≤_;omega⟩
    have n2:=ruTests_ok
    have n3:=fun (b r:Nat) (q:Option Addr×Nat)=>ruRule_ok b r ⟨t::tk,(en:Int),0,0,0⟩ q.1 q.2 hpk
    generalize ruleF ⟨t::tk,(en:Int),0,0,0⟩=y at *
    obtain ⟨⟨yc,ya⟩,yp⟩:=y
    dsimp only at hL n3
    by_cases he:yp.e≠0
    ·rw [if_pos he] at hL
     subst hL
     refine ZE [_,_] func101 ntmps101 fun G w hp=>?_
     repeat' (first|refine ZC ?_|refine ZH (fun b=>?_)|refine ZA (n1) (fun _ _=>?_)|refine ZA (n2) (fun _ _=>?_)|refine ZA (n3 _ _ _) (fun _ _=>?_)|(refine ZB (fun hc=>?_) (fun hc=>?_)<;>(try simp at hc)<;>(try omega))|fail)
     rename_i rr _ b1 q _
     obtain ⟨oc,q2,q3⟩:=q
     obtain _|⟨T,u⟩:=oc
     ·repeat' (first|refine ZC ?_|refine ZI 11 [] [(0,0),(1,0),(2,0),(3,0),(4,0),(5,0),(6,0),(7,0),(8,0),(9,0)] [] ?_|(refine ZB (fun hc=>?_) (fun hc=>?_)<;>(try simp at hc)<;>(try omega))|fail)
      exact ZD (xs,o,cap) rfl hl
     ·repeat' (first|refine ZC ?_|refine ZI 11 [] [(0,0),(1,0),(2,0),(3,0),(4,0),(5,0),(6,0),(7,0),(8,0),(9,0)] [] ?_|(refine ZB (fun hc=>?_) (fun hc=>?_)<;>(try simp at hc)<;>(try omega))|fail)
      exact ZD (xs,o,cap) rfl hl
    ·rw [if_neg he] at hL
     subst hL
     have he:yp.e=0:=by simpa using he
     refine ZE [_,_] func101 ntmps101 fun G w hp=>?_
     repeat' (first|refine ZC ?_|refine ZH (fun b=>?_)|refine ZA (n1) (fun _ _=>?_)|refine ZA (n2) (fun _ _=>?_)|refine ZA (n3 _ _ _) (fun _ _=>?_)|(refine ZB (fun hc=>?_) (fun hc=>?_)<;>(try simp at hc)<;>(try omega))|fail)
     rename_i rr _ b1 q _
     obtain ⟨oc,q2,q3⟩:=q
     dsimp only
     have hroom:(2 * (xs.length+1)+200) * 40≤281474976710656:=by omega
     have e1:∀oc:Option IV,xs.length+1=(xs++[(oc,ya)]).length:=fun oc=>by simp
     have e2:∀oc:Option IV,xs.flatMap rul++rul (oc,ya)=(xs++[(oc,ya)]).flatMap rul:=fun oc=>by simp
     obtain _|⟨T,u⟩:=oc
     ·repeat' (first|refine ZC ?_|refine ZH (fun b=>?_)|refine Xd (fun o' cap'=>?_)|refine ZI 12 [Row _ _ _ _ _ _] [(0,0),(1,0),(2,0),(3,0),(4,0),(5,0),(6,1),(7,4),(8,0),(9,0)] [10] ?_|(refine ZB (fun hc=>?_) (fun hc=>?_)<;>(try simp at hc)<;>(try omega))|fail)
      refine Zi (T:=170) (sz:=3) (o:=o') (cap:=cap') (m:=xs.length+1) _ _ (e1 none) (e2 none) ?_
      rw [e1 none]
      refine Zx (F1:=[OcF yc none,RusF l xs]) (f:=RusF (l++[Ru.mk yc ya]) (xs++[(none,ya)])) (fun hp hF=>rusP_add (x:=Ru.mk yc ya) (y:=(none,ya)) (hF _ (.tail _ (.head _))) (hF _ (.head _)) rfl) ?_
      exact ZD (xs++[(none,ya)],o',cap') rfl (by show (xs++[_]).length=(l++[_]).length;simp [hl])
     ·repeat' (first|refine ZC ?_|refine ZH (fun b=>?_)|refine Xd (fun o' cap'=>?_)|refine ZI 12 [Row _ _ _ _ _ _] [(0,0),(1,0),(2,0),(3,0),(4,0),(5,0),(6,1),(7,4),(8,0),(9,0)] [10] ?_|(refine ZB (fun hc=>?_) (fun hc=>?_)<;>(try simp at hc)<;>(try omega))|fail)
      refine Zi (T:=170) (sz:=3) (o:=o') (cap:=cap') (m:=xs.length+1) _ _ (e1 (some (T,u))) (e2 (some (T,u))) ?_
      rw [e1 (some (T,u))]
      refine Zx (F1:=[OcF yc (some (T,u)),RusF l xs]) (f:=RusF (l++[Ru.mk yc ya]) (xs++[((some (T,u)),ya)])) (fun hp hF=>rusP_add (x:=Ru.mk yc ya) (y:=(some (T,u),ya)) (hF _ (.tail _ (.head _))) (hF _ (.head _)) rfl) ?_
      exact ZD (xs++[((some (T,u)),ya)],o',cap') rfl (by show (xs++[_]).length=(l++[_]).length;simp [hl])
section
structure PB (M:Int) (x:Ps):Prop where
 t:∀t ∈ x.tk,0≤t.pl∧t.pl≤M
 n:0≤x.en∧x.en≤M
 p:0≤x.pl∧x.pl≤M
namespace PB
variable {M:Int} {x:Ps}
theorem peek (h:PB M x):0≤x.peek.pl∧x.peek.pl≤M:=by
 unfold Ps.peek
 split
 ·exact h.n
 ·rename_i t l ht;exact h.t t (by rw [ht];exact .head _)
theorem pass (h:PB M x):PB M x.pass:=⟨fun t ht=>h.t t (List.mem_of_mem_tail ht),h.n,h.p⟩
theorem fail (h:PB M x) {i:Int} (hi:0≤i∧i≤M) (e:Int):PB M (x.fail i e):=by
 unfold Ps.fail
 split
 ·exact ⟨fun t ht=>(by cases ht),h.n,hi⟩
 ·exact h
theorem need (h:PB M x) (k:Int):PB M (x.need k):=by
 unfold Ps.need
 split
 ·exact h.pass
 ·exact h.pass.fail h.peek _
theorem symb (h:PB M x) (s:ByteArray):PB M (x.symb s):=by
 unfold Ps.symb
 split
 ·exact h.pass
 ·exact h.fail h.peek _
theorem ite {c:Prop} [Decidable c] {q r:Ps} (h:PB M q) (k:PB M r):PB M (if c then q else r):=by split<;>assumption
theorem num (h:PB M x):PB M (numF x).2:=by
 unfold numF
 dsimp only
 have a:=h.need 2
 exact ite ((ite (a.fail h.peek _) a).fail h.peek _) (ite (a.fail h.peek _) a)
theorem test (h:PB M x) (w:ByteArray):PB M (testF w x).2:=by
 unfold testF
 split
 ·exact h
 ·split
  ·dsimp only
   exact ite (h.need 1) ((h.need 1).fail h.peek _)
  ·split
   ·dsimp only
    exact (ite (h.need 1) ((h.need 1).fail h.peek _)).need 3
   ·split
    ·dsimp only
     exact (ite (h.need 4) ((h.need 4).fail h.peek _)).num
    ·dsimp only
     exact ite (h.need 2) ((h.need 2).fail h.peek _)
theorem op (h:PB M x) (d:Int):PB M {x with op:=d}:=⟨h.t,h.n,h.p⟩
end PB
theorem pb_all (M:Int):∀n:Nat,(∀p,PB M p→PB M (factorF n p).2)∧(∀p,PB M p→PB M (termF n p).2)∧(∀l p,PB M p→PB M (termL n l p).2)∧(∀p,PB M p→PB M (condF n p).2)∧(∀l p,PB M p→PB M (condL n l p).2)
 | 0=>⟨fun _ h=>h.fail h.peek _,fun _ h=>h.fail h.peek _,fun _ _ h=>h.fail h.peek _,fun _ h=>h.fail h.peek _,fun _ _ h=>h.fail h.peek _⟩
 | n+1=>by
  obtain ⟨h1,h2,h3,h4,h5⟩:=pb_all M n
  refine ⟨fun p h=>?_,fun p h=>?_,fun l p h=>?_,fun p h=>?_,fun l p h=>?_⟩
  ·unfold factorF
   dsimp only
   split
   ·exact h1 _ h.pass
   ·split
    ·have a:PB M (if p.pass.op=32 then p.pass.fail p.peek.pl 9 else p.pass):=PB.ite (h.pass.fail h.peek _) h.pass
     generalize (if p.pass.op=32 then p.pass.fail p.peek.pl 9 else p.pass)=q at a
     exact ((h4 _ (a.op _)).symb _).op _
    ·split
     ·exact h.pass.test _
     ·exact h.pass.fail h.peek _
  ·exact h3 _ _ (h1 p h)
  ·unfold termL
   split
   ·exact h3 _ _ (h1 _ h.pass)
   ·exact h
  ·exact h5 _ _ (h2 p h)
  ·unfold condL
   split
   ·exact h5 _ _ (h2 _ h.pass)
   ·exact h
theorem PB.act {M:Int} {x:Ps} (h:PB M x):PB M (actF x).2:=by
 unfold actF
 dsimp only
 have a:PB M (if idx x.peek.tx wActs<5 then x.need 1 else (x.need 1).fail x.peek.pl 30):=PB.ite (h.need 1) ((h.need 1).fail h.peek _)
 generalize (if idx x.peek.tx wActs<5 then x.need 1 else (x.need 1).fail x.peek.pl 30)=q at a ⊢
 split
 ·exact PB.ite ((a.need 3).fail a.peek _) (a.need 3)
 ·exact a
theorem PB.rule {M:Int} {x:Ps} (h:PB M x):PB M (ruleF x).2:=by
 unfold ruleF
 dsimp only
 have a:PB M (if x.is 1 wIf=true then ((some (condF (fuP x.pass) x.pass).1:Option Cnd),(condF (fuP x.pass) x.pass).2.symb yCol) else (none,x)).2:=by
  split
  ·exact ((pb_all M _).2.2.2.1 _ h.pass).symb _
  ·exact h
 exact PB.ite (a.act.fail a.act.peek _) a.act
theorem scan_pl:∀(n:Nat) (l:List UInt8) (i:Nat) (acc:List Tk) (M:Int),(i:Int)+l.length≤M→(∀t ∈ acc,0≤t.pl∧t.pl≤M)→(∀t ∈ (scanF n l i acc).1,0≤t.pl∧t.pl≤M)∧((scanF n l i acc).2.1:Int)≤M
 | 0,_,i,acc,M,hM,h=>⟨h,by show (i:Int)≤M;omega⟩
 | _+1,[],i,acc,M,hM,h=>⟨h,by show (i:Int)≤M;simp at hM;omega⟩
 | n+1,c::r,i,acc,M,hM,h=>by
  have add:∀t:Tk,(0≤t.pl∧t.pl≤M)→∀x ∈ acc++[t],0≤x.pl∧x.pl≤M:=fun t ht x hx=>by
   rcases List.mem_append.1 hx with hx|hx
   ·exact h x hx
   ·rcases List.mem_singleton.1 hx with rfl
    exact ht
  have hM':(i:Int)+r.length+1≤M:=by simp at hM;omega
  have key:∀(k:Nat) (t:Tk),1≤k→k≤(c::r).length→t.pl=(i:Int)→(∀x ∈ (scanF n ((c::r).drop k) (i+k) (acc++[t])).1,0≤x.pl∧x.pl≤M)∧((scanF n ((c::r).drop k) (i+k) (acc++[t])).2.1:Int)≤M:=fun k t h1 h2 ht=>
   scan_pl n _ _ _ M (by rw [List.length_drop];simp only [List.length_cons] at h2 ⊢;omega) (add t (by rw [ht];omega))
  unfold scanF
  split
  ·exact ⟨h,by show (i:Int)≤M;omega⟩
  ·split
   ·exact scan_pl n r (i+1) acc M (by omega) h
   ·split
    ·rename_i hd
     have e:spanF isLet (c::r)=spanF isLet r+1:=by simp [spanF,hd]
     exact key _ _ (by omega) (YJ _ _) rfl
    ·split
     ·rename_i hd
      have e:spanF inNum (c::r)=spanF inNum r+1:=by simp [spanF,inNum,hd]
      exact key _ _ (by omega) (YJ _ _) rfl
     ·split
      ·split
       ·rename_i t k hu
        have u1:=unq_le _ _ _ _ _ hu
        exact key _ _ (by omega) (by simp only [List.length_cons];omega) rfl
       ·exact ⟨fun t ht=>(by cases ht),by show (i:Int)≤M;omega⟩
      ·split
       ·exact key 1 _ (by omega) (by simp) rfl
       ·exact ⟨fun t ht=>(by cases ht),by show (i:Int)≤M;omega⟩
theorem lineF_pl (s:List UInt8) (n:Nat):0≤(lineF s n).2.1∧(lineF s n).2.1≤s.length:=by
 obtain ⟨h1,h2⟩:=scan_pl (s.length+1) s 0 [] s.length (by omega) (fun t ht=>by cases ht)
 unfold lineF
 dsimp only
 generalize scanF (s.length+1) s 0 []=r at *
 obtain ⟨tk,en,is⟩:=r
 dsimp only at *
 split
 ·exact ⟨by show (0:Int)≤(en:Int);omega,h2⟩
 ·split
  ·exact ⟨by show (0:Int)≤0;omega,by show (0:Int)≤_;omega⟩
  ·rename_i t tk
   split
   ·exact h1 t (.head _)
   ·have hp:PB s.length (⟨t::tk,(en:Int),0,0,0⟩:Ps):=⟨h1,⟨by show (0:Int)≤(en:Int);omega,h2⟩,⟨Int.le_refl 0,by show (0:Int)≤_;omega⟩⟩
    split
    ·exact hp.rule.p
    ·exact ⟨by show (0:Int)≤0;omega,by show (0:Int)≤_;omega⟩
theorem lineF_ok {s:List UInt8} {n:Nat} {x:Ru} (h:(lineF s n).1=some x):(lineF s n).2.2=0∧n≠256:=by
 revert h
 unfold lineF
 dsimp only
 generalize scanF (s.length+1) s 0 []=r
 obtain ⟨tk,en,is⟩:=r
 dsimp only
 split
 ·intro h;cases h
 ·split
  ·intro h;cases h
  ·split
   ·intro h;cases h
   ·rename_i hn
    split
    ·intro h;cases h
    ·intro _;exact ⟨rfl,hn⟩
theorem addF_len {s:List UInt8} {l:List Ru} (h:l.length≤256):(addF s l).length≤256:=by
 unfold addF
 split
 ·rename_i x hx
  have:=(lineF_ok hx).2
  simp only [List.length_append,List.length_cons,List.length_nil];omega
 ·exact h
theorem rows_step {s:List UInt8} {rest:List (List UInt8)} {i:Nat} {acc:List Ru} (h:(lineF s acc.length).2.2=0):rowsF (s::rest) i acc=rowsF rest (i+1) (addF s acc):=by
 unfold addF
 generalize hq:lineF s acc.length=q at *
 obtain ⟨o,a,e⟩:=q
 dsimp only at h
 cases o with
 | some x=>simp [rowsF,hq]
 | none=>simp [rowsF,hq,h]
theorem rows_bad {s:List UInt8} {rest:List (List UInt8)} {i:Nat} {acc:List Ru} (h:(lineF s acc.length).2.2≠0):rowsF (s::rest) i acc = .error ((i:Int)+1,(lineF s acc.length).2.1+1,(lineF s acc.length).2.2):=by
 generalize hq:lineF s acc.length=q at *
 obtain ⟨o,a,e⟩:=q
 dsimp only at h
 cases o with
 | some x=>
  have:=lineF_ok (s:=s) (n:=acc.length) (x:=x) (by rw [hq])
  rw [hq] at this
  exact absurd this.1 h
 | none=>simp [rowsF,hq,h]
theorem lines_sz:∀(l:List UInt8),(linesF l).length≤l.length+1∧∀x ∈ linesF l,x.length≤l.length
 | []=>⟨by simp [linesF],fun x hx=>by simp [linesF] at hx;subst hx;simp⟩
 | c::r=>by
  obtain ⟨h1,h2⟩:=lines_sz r
  rw [linesF]
  split
  ·refine ⟨by simp;omega,fun x hx=>?_⟩
   rcases List.mem_cons.1 hx with rfl|hx
   ·simp
   ·have:=h2 x hx;simp;omega
  ·generalize linesF r=m at *
   cases m with
   | nil=>exact ⟨by simp,fun x hx=>by simp at hx;subst hx;simp⟩
   | cons y m=>
    refine ⟨by simp at h1 ⊢;omega,fun x hx=>?_⟩
    rcases List.mem_cons.1 hx with rfl|hx
    ·have:=h2 y (.head _);simp;omega
    ·have:=h2 x (.tail _ hx);simp;omega
end
def SimT (r:Cnd×Ps) (q:Tr5×Mq):Prop:=Sim r.2 q.2∧(r.2.e=0→r.1=toC q.1∧WfT q.1)
def SimL (r:List Cnd×Ps) (q:List Tr5×Mq):Prop:=Sim r.2 q.2∧(r.2.e=0→r.1=toCs q.1∧WfTs q.1∧q.1≠[])
theorem sim_word {p:Ps} {m:Mq} (h:Sim p m) (w:ByteArray):p.is 1 w=m.word w:=by
 by_cases he:p.e=0
 ·obtain ⟨h1,h2,h3⟩:=h.ok he
  unfold Ps.is Mq.word Mq.has Mq.isW Ps.peek
  rw [h1,←h2]
  cases p.tk with
  | nil=>simp
  | cons t l=>simp
 ·obtain ⟨h1,h2,h3⟩:=h.err he
  rw [pis_err h3 (by decide),Wu (by rw [←h1];exact he)]
theorem V7 {p:Ps} {m:Mq} (h:Sim p m):Sim p.pass m.pass:=by
 refine ⟨fun t ht=>h.1 t (List.mem_of_mem_tail ht),h.2.1,?_⟩
 rcases h.2.2 with ⟨h1,h2,h3,h4⟩|⟨h1,h2,h3,h4⟩
 ·exact .inl ⟨h1,h2,by simp [Ps.pass,Mq.pass,h3],h4⟩
 ·exact .inr ⟨h1,h2,h3,by simp [Ps.pass,h4]⟩
theorem sim_symb {p:Ps} {m:Mq} (h:Sim p m) (s:ByteArray):Sim (p.symb s) (m.take (Mq.isS s)).2:=by
 by_cases he:p.e=0
 ·obtain ⟨h1,h2,h3⟩:=h.ok he
  have e:p.is 4 s=m.has (Mq.isS s):=by
   unfold Ps.is Mq.has Mq.isS Ps.peek
   rw [←h2]
   cases p.tk<;>simp
  unfold Ps.symb Mq.take
  by_cases hs:m.has (Mq.isS s)=true
  ·rw [if_pos (by rw [e];exact hs),if_neg (by rw [h1,hs];simp)]
   exact V7 h
  ·have hs':m.has (Mq.isS s)=false:=by simpa using hs
   rw [if_neg (by rw [e];exact hs),if_pos (.inr hs')]
   exact ZY he h1 h.2.1 (h.pl he) (by decide)
 ·obtain ⟨h1,h2,h3⟩:=h.err he
  rw [W2 he h3,UF (by rw [←h1];exact he)]
  exact h
theorem sim_op {p:Ps} {m:Mq} (h:Sim p m) (d:Int):Sim {p with op:=p.op+d} {m with op:=m.op+d}:=by
 refine ⟨h.1,h.2.1,?_⟩
 rcases h.2.2 with ⟨h1,h2,h3,h4⟩|⟨h1,h2,h3,h4⟩
 ·exact .inl ⟨h1,h2,h3,by show p.op+d=m.op+d;rw [h4]⟩
 ·exact .inr ⟨h1,h2,h3,h4⟩
theorem toC_or (l:List Tr5) (a b:ByteArray) (n:Int):toC (.mk wOr l a b n)=eitherF (toCs l):=by rw [toC,if_pos rfl]
theorem toC_and (l:List Tr5) (a b:ByteArray) (n:Int):toC (.mk wAnd l a b n)=bothF (toCs l):=by rw [toC,if_neg (by decide),if_pos rfl]
theorem toC_not (t:Tr5) (a b:ByteArray) (n:Int):toC (.mk wNot [t] a b n) = .nt (toC t):=by rw [toC,if_neg (by decide),if_neg (by decide),if_pos rfl];rfl
theorem sim_all:∀n:Nat,
  (∀p m,Sim p m→SimT (factorF n p) (factorM n m))∧
  (∀p m,Sim p m→SimT (termF n p) (termM n m))∧
  (∀p m l k,Sim p m→(p.e=0→l=toCs k∧WfTs k∧k≠[])→SimL (termL n l p) (termN n k m))∧
  (∀p m,Sim p m→SimT (condF n p) (condM n m))∧
  (∀p m l k,Sim p m→(p.e=0→l=toCs k∧WfTs k∧k≠[])→SimL (condL n l p) (condN n k m))
 | 0=>by
  have key:∀p m,Sim p m→Sim (p.fail p.peek.pl 99) (m.fail 99)∧(p.fail p.peek.pl 99).e≠0:=fun p m h=>by
   refine ⟨?_,Zl (by decide)⟩
   by_cases he:p.e=0
   ·exact ZY he (h.ok he).1 h.2.1 (h.pl he) (by decide)
   ·rw [Ze he,XC (by rw [←h.e0];exact he)];exact h
  exact ⟨fun p m h=>⟨(key p m h).1,fun hz=>absurd hz (key p m h).2⟩,fun p m h=>⟨(key p m h).1,fun hz=>absurd hz (key p m h).2⟩,fun p m _ _ h _=>⟨(key p m h).1,fun hz=>absurd hz (key p m h).2⟩,fun p m h=>⟨(key p m h).1,fun hz=>absurd hz (key p m h).2⟩,fun p m _ _ h _=>⟨(key p m h).1,fun hz=>absurd hz (key p m h).2⟩⟩
 | n+1=>by
  obtain ⟨ihf,iht,ihl,ihc,ihd⟩:=sim_all n
  refine ⟨fun p m h=>?_,fun p m h=>?_,fun p m l k h hk=>?_,fun p m h=>?_,fun p m l k h hk=>?_⟩
  ·-- factor
   by_cases he:p.e≠0
   ·obtain ⟨h1,h2,h3⟩:=h.err he
    have hm:m.e≠0:=by rw [←h1];exact he
    refine ⟨by rw [WX he h3,factorM_err hm];exact h,fun hz=>absurd hz (by rw [WX he h3];exact he)⟩
   have he:p.e=0:=by omega
   obtain ⟨h1,h2,h3⟩:=h.ok he
   obtain ⟨ts,en,op,pl,e⟩:=p
   obtain ⟨tk,en2,op2,e2,cl⟩:=m
   have h4:=h.2.1
   have h0:=h.1
   dsimp only at he h1 h2 h3 h4 h0
   subst he;subst h1;subst h2;subst h3;subst h4
   cases ts with
   | nil=>
    unfold factorF factorM
    have e1:(⟨[],en+1,op,0,cl⟩:Mq).word wNot=false:=by simp [Mq.word,Mq.has]
    have e2:∀q,(⟨[],en+1,op,0,cl⟩:Mq).has q=false:=fun q=>rfl
    simp only [XE,e1,e2,Bool.false_eq_true,and_false,if_false]
    have a1:((0:Int)=1∧ofL []=wNot)=False:=eq_false (by decide)
    have a2:((0:Int)=4∧ofL []=yOpn)=False:=eq_false (by decide)
    have a3:((0:Int)=1∧isTst (ofL [])=true)=False:=eq_false (by decide)
    simp only [a1,a2,a3,if_false]
    exact ⟨ZY rfl rfl rfl rfl (by decide),fun h=>absurd h (Zl (by decide))⟩
   | cons t ts=>
    have h0':∀t ∈ ts,TkOK t:=fun t ht=>h0 t (.tail _ ht)
    have ep:(⟨t::ts,en,op,pl,0⟩:Ps).pass=⟨ts,en,op,pl,0⟩:=rfl
    have em:(⟨t::ts,en+1,op,0,cl⟩:Mq).pass=⟨ts,en+1,op,0,cl⟩:=rfl
    have sp:Sim (⟨ts,en,op,pl,0⟩:Ps) (⟨ts,en+1,op,0,cl⟩:Mq):=X6 h0'
    unfold factorF factorM
    simp only [YX,ep,em]
    by_cases c1:t.kd=1∧t.tx=wNot
    ·have e1:(⟨t::ts,en+1,op,0,cl⟩:Mq).word wNot=true:=by simp [Mq.word,Mq.has,Mq.isW,c1]
     simp only [eq_true c1,eq_true e1,if_true]
     have ih:=ihf _ _ sp
     refine ⟨ih.1,fun hz=>?_⟩
     obtain ⟨i1,i2⟩:=ih.2 hz
     refine ⟨by show Cnd.nt _=_;rw [toC_not,i1],?_⟩
     show WfT (.mk wNot [_] eB eB 0)
     rw [WfT,if_neg (by decide),if_pos rfl]
     exact ⟨⟨_,rfl⟩,i2,trivial⟩
    ·have e1:¬(⟨t::ts,en+1,op,0,cl⟩:Mq).word wNot=true:=by simpa [Mq.word,Mq.has,Mq.isW] using c1
     simp only [eq_false c1,eq_false e1,if_false]
     by_cases c2:t.kd=4∧t.tx=yOpn
     ·have e2:(⟨t::ts,en+1,op,0,cl⟩:Mq).has (Mq.isS yOpn)=true:=by simp [Mq.has,Mq.isS,c2]
      simp only [eq_true c2,e2,and_self,if_true]
      by_cases c3:op=32
      ·simp only [eq_true c3,if_true]
       have he:((⟨ts,en,op,pl,0⟩:Ps).fail t.pl 9).e≠0:=Zl (by decide)
       have ht:((⟨ts,en,op,pl,0⟩:Ps).fail t.pl 9).tk=[]:=W9 rfl
       generalize hq:(⟨ts,en,op,pl,0⟩:Ps).fail t.pl 9=q at he ht
       have s:Sim q ((⟨t::ts,en+1,op,0,cl⟩:Mq).fail 9):=by rw [←hq];exact ZY rfl rfl rfl rfl (by decide)
       have he':({q with op:=q.op+1}:Ps).e≠0:=he
       have ht':({q with op:=q.op+1}:Ps).tk=[]:=ht
       have g:=condF_err he' ht' n
       simp only [g,W2 he' ht']
       refine ⟨⟨s.1,s.2.1,?_⟩,fun hz=>absurd hz he⟩
       rcases s.2.2 with s3|s3
       ·exact absurd s3.1 he
       ·exact .inr s3
      ·simp only [eq_false c3,if_false]
       have s1:Sim (⟨ts,en,op+1,pl,0⟩:Ps) (⟨ts,en+1,op+1,0,cl⟩:Mq):=X6 h0'
       have ih:=ihc _ _ s1
       have s2:=sim_symb ih.1 yCls
       refine ⟨sim_op s2 (-1),fun hz=>ih.2 ?_⟩
       have hz':((condF n ⟨ts,en,op+1,pl,0⟩).2.symb yCls).e=0:=hz
       by_cases hc:(condF n ⟨ts,en,op+1,pl,0⟩).2.e=0
       ·exact hc
       ·rw [W2 hc (ih.1.err hc).2.2] at hz'
        exact absurd hz' hc
     ·have e2:(⟨t::ts,en+1,op,0,cl⟩:Mq).has (Mq.isS yOpn)=false:=by simpa [Mq.has,Mq.isS] using c2
      simp only [eq_false c2,e2,Bool.false_eq_true,and_false,if_false]
      by_cases c3:t.kd=1∧isTst t.tx=true
      ·have e3:(⟨t::ts,en+1,op,0,cl⟩:Mq).has (fun t=>decide (t.kd=1) && isTst t.tx)=true:=by simp [Mq.has,c3]
       simp only [eq_true c3,e3,and_self,if_true]
       exact sim_test c3.2 h0'
      ·have e3:(⟨t::ts,en+1,op,0,cl⟩:Mq).has (fun t=>decide (t.kd=1) && isTst t.tx)=false:=by simpa [Mq.has] using c3
       simp only [eq_false c3,e3,Bool.false_eq_true,and_false,if_false]
       exact ⟨ZY rfl rfl rfl rfl (by decide),fun h=>absurd h (Zl (by decide))⟩
  ·-- term
   have ih:=ihf p m h
   have ih2:=ihl _ _ [(factorF n p).1] [(factorM n m).1] ih.1 (fun hz=>by
    obtain ⟨i1,i2⟩:=ih.2 hz
    exact ⟨by rw [i1];rfl,⟨i2,trivial⟩,by simp⟩)
   refine ⟨ih2.1,fun hz=>?_⟩
   obtain ⟨i1,i2,i3⟩:=ih2.2 hz
   refine ⟨by show bothF _=toC (.mk wAnd _ eB eB 0);rw [toC_and,i1],?_⟩
   show WfT (.mk wAnd _ eB eB 0)
   rw [WfT,if_pos (.inr rfl)]
   exact ⟨i3,i2⟩
  ·-- more terms
   unfold termL termN
   rw [sim_word h]
   by_cases hw:m.word wAnd=true
   ·rw [if_pos hw,if_pos hw]
    have ih:=ihf _ _ (V7 h)
    refine ihl _ _ _ _ ih.1 fun hz=>?_
    obtain ⟨i1,i2⟩:=ih.2 hz
    have hz0:p.e=0:=by
     by_cases he:p.e=0
     ·exact he
     ·rw [Wu (by rw [←h.e0];exact he)] at hw;cases hw
    obtain ⟨k1,k2,k3⟩:=hk hz0
    exact ⟨by rw [toCs_app,k1,i1];rfl,by rw [WfTs_app];exact ⟨k2,i2,trivial⟩,by simp⟩
   ·rw [if_neg hw,if_neg hw]
    exact ⟨h,hk⟩
  ·-- cond
   have ih:=iht p m h
   have ih2:=ihd _ _ [(termF n p).1] [(termM n m).1] ih.1 (fun hz=>by
    obtain ⟨i1,i2⟩:=ih.2 hz
    exact ⟨by rw [i1];rfl,⟨i2,trivial⟩,by simp⟩)
   refine ⟨ih2.1,fun hz=>?_⟩
   obtain ⟨i1,i2,i3⟩:=ih2.2 hz
   refine ⟨by show eitherF _=toC (.mk wOr _ eB eB 0);rw [toC_or,i1],?_⟩
   show WfT (.mk wOr _ eB eB 0)
   rw [WfT,if_pos (.inl rfl)]
   exact ⟨i3,i2⟩
  ·unfold condL condN
   rw [sim_word h]
   by_cases hw:m.word wOr=true
   ·rw [if_pos hw,if_pos hw]
    have ih:=iht _ _ (V7 h)
    refine ihd _ _ _ _ ih.1 fun hz=>?_
    obtain ⟨i1,i2⟩:=ih.2 hz
    have hz0:p.e=0:=by
     by_cases he:p.e=0
     ·exact he
     ·rw [Wu (by rw [←h.e0];exact he)] at hw;cases hw
    obtain ⟨k1,k2,k3⟩:=hk hz0
    exact ⟨by rw [toCs_app,k1,i1];rfl,by rw [WfTs_app];exact ⟨k2,i2,trivial⟩,by simp⟩
   ·rw [if_neg hw,if_neg hw]
    exact ⟨h,hk⟩
theorem Wv:∀(n:Nat) (l:List UInt8) (i:Nat) (acc:List Tk),(∀t ∈ acc,TkOK t)→∀t ∈ (scanF n l i acc).1,TkOK t
 | 0,_,_,_,h=>h
 | _+1,[],_,_,h=>h
 | n+1,c::r,i,acc,h=>by
  have add:∀t,TkOK t→∀x ∈ acc++[t],TkOK x:=fun t ht x hx=>by
   rcases List.mem_append.1 hx with hx|hx
   ·exact h x hx
   ·rcases List.mem_singleton.1 hx with rfl
    exact ht
  unfold scanF
  split
  ·exact h
  ·split
   ·exact Wv n _ _ _ h
   ·split
    ·exact Wv n _ _ _ (add _ ⟨.inl rfl,fun h=>absurd h (by show ¬(1:Int)=2;decide)⟩)
    ·split
     ·rename_i hd
      refine Wv n _ _ _ (add _ ⟨.inr (.inl rfl),fun _=>⟨?_,?_⟩⟩)
      ·have:spanF inNum (c::r)=spanF inNum r+1:=by simp [spanF,inNum,hd]
       show (ofL ((c::r).take (spanF inNum (c::r)))).data.toList≠[]
       rw [this];simp
      ·intro x hx
       exact spanF_take inNum (c::r) x (by simpa using hx)
     ·split
      ·split
       ·exact Wv n _ _ _ (add _ ⟨.inr (.inr (.inl rfl)),fun h=>absurd h (by show ¬(3:Int)=2;decide)⟩)
       ·intro t ht;cases ht
      ·split
       ·exact Wv n _ _ _ (add _ ⟨.inr (.inr (.inr rfl)),fun h=>absurd h (by show ¬(4:Int)=2;decide)⟩)
       ·intro t ht;cases ht
def ruC (x:RuM):Ru:=⟨x.c.map toC,x.a⟩
def WfR (x:RuM):Prop:=∀t,x.c=some t→WfT t
def actM (m1:Mq):Ac×Mq:=
 if m1.e=0∧m1.has (fun t=>decide (t.kd=1) && decide (idx t.tx wActs<5))=true then
  let k:=idx m1.hd wActs
  let m2:=m1.pass
  let y:ByteArray×Mq:=if k=1 then (let m3:=if m2.has (fun t=>decide (t.kd=3) && (tplF t.tx).2.isSome) then m2.fail 3 else m2;m3.take (fun t=>decide (t.kd=3))) else (eB,m2)
  (⟨(k:Int)+1,y.1⟩,if y.2.tk≠[] then y.2.fail 30 else y.2)
 else (⟨0,eB⟩,m1.fail 30)
def actE (p:Ps):Ac×Ps:=let y:=actF p;(y.1,if y.2.peek.kd≠0 then y.2.fail y.2.peek.pl 30 else y.2)
theorem end_ok {ts:List Tk} {en op pl cl:Int} (h:∀t ∈ ts,TkOK t) :
  Sim (if (⟨ts,en,op,pl,0⟩:Ps).peek.kd≠0 then (⟨ts,en,op,pl,0⟩:Ps).fail (⟨ts,en,op,pl,0⟩:Ps).peek.pl 30 else ⟨ts,en,op,pl,0⟩) (if (⟨ts,en+1,op,0,cl⟩:Mq).tk≠[] then (⟨ts,en+1,op,0,cl⟩:Mq).fail 30 else ⟨ts,en+1,op,0,cl⟩):=by
 cases ts with
 | nil=>exact X6 h
 | cons t ts=>
  have h1:=(h t (.head _)).1
  have h2:t.kd≠0:=by omega
  rw [if_pos (show (⟨t::ts,en,op,pl,0⟩:Ps).peek.kd≠0 from h2),if_pos (by simp)]
  exact ZY rfl rfl rfl rfl (by decide)
theorem end_err {p:Ps} {m:Mq} (h:Sim p m) (he:p.e≠0):Sim (if p.peek.kd≠0 then p.fail p.peek.pl 30 else p) (if m.tk≠[] then m.fail 30 else m):=by
 obtain ⟨h1,h2,h3⟩:=h.err he
 rw [YY h3]
 simp only [ne_eq,not_true_eq_false,if_false]
 rw [XC (by rw [←h1];exact he)]
 simpa using h
theorem end_e {p:Ps} (he:p.e≠0):(if p.peek.kd≠0 then p.fail p.peek.pl 30 else p).e≠0:=by
 rw [Ze he,ite_self];exact he
theorem sim_act {p:Ps} {m:Mq} (h:Sim p m):Sim (actE p).2 (actM m).2∧((actE p).2.e=0→(actE p).1=(actM m).1):=by
 by_cases he:p.e≠0
 ·obtain ⟨h1,h2,h3⟩:=h.err he
  have hm:m.e≠0:=by rw [←h1];exact he
  have e1:(actF p).2=p:=by
   unfold actF
   simp only [YY h3,Yt he h3,Ze he,ite_self]
   rw [if_neg (by decide)]
  have e2:actM m=(⟨0,eB⟩,m):=by
   unfold actM
   rw [if_neg (fun h=>hm h.1),XC hm]
  unfold actE
  simp only [e1,e2,YY h3]
  exact ⟨h,fun hz=>absurd hz he⟩
 have he:p.e=0:=by omega
 obtain ⟨h1,h2,h3⟩:=h.ok he
 obtain ⟨ts,en,op,pl,e⟩:=p
 obtain ⟨tk,en2,op2,e2,cl⟩:=m
 have h4:=h.2.1
 have h0:=h.1
 dsimp only at he h1 h2 h3 h4 h0
 subst he;subst h1;subst h2;subst h3;subst h4
 have bad:∀{q:Ps} {a:Ac} {i:Int} {m':Mq},actF ⟨ts,en,op,pl,0⟩=(a,q.fail i 30)→Sim (q.fail i 30) m'→(actM ⟨ts,en+1,op,0,cl⟩).2=m'→Sim (actE ⟨ts,en,op,pl,0⟩).2 (actM ⟨ts,en+1,op,0,cl⟩).2∧((actE ⟨ts,en,op,pl,0⟩).2.e=0→(actE ⟨ts,en,op,pl,0⟩).1=(actM ⟨ts,en+1,op,0,cl⟩).1):=by
  intro q a i m' g1 g2 g3
  have hz:(q.fail i 30).e≠0:=Zl (by decide)
  obtain ⟨_,_,k3⟩:=g2.err hz
  unfold actE
  rw [g1,g3]
  simp only [YY k3]
  exact ⟨g2,fun h=>absurd h hz⟩
 cases ts with
 | nil=>
  refine bad (a:=⟨0,ofL []⟩) (q:=⟨[],en,op,pl,0⟩) (i:=en) (m':=(⟨[],en+1,op,0,cl⟩:Mq).fail 30) ?_ (ZY rfl rfl rfl rfl (by decide)) ?_
  ·unfold actF
   simp only [XE,XH (show (1:Int)≠0 by decide),ff (show (30:Int)≠0 by decide),ite_self]
   rfl
  ·unfold actM
   rw [if_neg (by simp [Mq.has])]
 | cons t ts=>
  by_cases hk:t.kd=1
  ·by_cases hi:idx t.tx wActs<5
   ·have e3:(⟨t::ts,en+1,op,0,cl⟩:Mq).has (fun t=>decide (t.kd=1) && decide (idx t.tx wActs<5))=true:=by simp [Mq.has,hk,hi]
    have em:(⟨t::ts,en+1,op,0,cl⟩:Mq).pass=⟨ts,en+1,op,0,cl⟩:=rfl
    have eh:(⟨t::ts,en+1,op,0,cl⟩:Mq).hd=t.tx:=rfl
    unfold actE actF actM
    rw [Xb hk]
    simp only [YX,e3,em,eh,hi,and_self,if_true]
    by_cases hc:idx t.tx wActs=1
    ·simp only [hc,if_true]
     cases ts with
     | nil=>
      rw [XH (by decide)]
      have q1:(⟨[],en+1,op,0,cl⟩:Mq).has (fun t=>decide (t.kd=3) && (tplF t.tx).2.isSome)=false:=rfl
      have q2:(⟨[],en+1,op,0,cl⟩:Mq).take (fun t=>decide (t.kd=3))=(eB,(⟨[],en+1,op,0,cl⟩:Mq).fail 30):=by simp [Mq.take,Mq.has]
      simp only [q1,Bool.false_eq_true,if_false,q2,XE]
      have q3:(tplF (ofL [])).2.isSome=false:=by decide
      simp only [q3,Bool.false_eq_true,if_false]
      have s:Sim ((⟨[],en,op,pl,0⟩:Ps).fail en 30) ((⟨[],en+1,op,0,cl⟩:Mq).fail 30):=ZY rfl rfl rfl rfl (by decide)
      exact ⟨end_err s (Zl (by decide)),fun hz=>absurd hz (end_e (Zl (by decide)))⟩
     | cons u ts=>
      by_cases hu:u.kd=3
      ·rw [Xb hu]
       simp only [YX]
       by_cases hq:(tplF u.tx).2.isSome=true
       ·have q1:(⟨u::ts,en+1,op,0,cl⟩:Mq).has (fun t=>decide (t.kd=3) && (tplF t.tx).2.isSome)=true:=by simp [Mq.has,hu,hq]
        have q0:((⟨u::ts,en+1,op,0,cl⟩:Mq).fail 3).e≠0:=by simp [Mq.fail]
        simp only [q1,hq,if_true,UF q0]
        have s:Sim ((⟨ts,en,op,pl,0⟩:Ps).fail u.pl 3) ((⟨u::ts,en+1,op,0,cl⟩:Mq).fail 3):=ZY rfl rfl rfl rfl (by decide)
        exact ⟨end_err s (Zl (by decide)),fun hz=>absurd hz (end_e (Zl (by decide)))⟩
       ·have hq:(tplF u.tx).2.isSome=false:=by simpa using hq
        have q1:(⟨u::ts,en+1,op,0,cl⟩:Mq).has (fun t=>decide (t.kd=3) && (tplF t.tx).2.isSome)=false:=by simp [Mq.has,hq]
        have q2:(⟨u::ts,en+1,op,0,cl⟩:Mq).take (fun t=>decide (t.kd=3))=(u.tx,⟨ts,en+1,op,0,cl⟩):=by simp [Mq.take,Mq.has,hu,Mq.hd,Mq.pass]
        simp only [q1,hq,Bool.false_eq_true,if_false,q2]
        exact ⟨end_ok fun t ht=>h0 t (.tail _ (.tail _ ht)),fun _=>rfl⟩
      ·rw [Xy hu]
       have q1:(⟨u::ts,en+1,op,0,cl⟩:Mq).has (fun t=>decide (t.kd=3) && (tplF t.tx).2.isSome)=false:=by simp [Mq.has,hu]
       have q2:(⟨u::ts,en+1,op,0,cl⟩:Mq).take (fun t=>decide (t.kd=3))=(eB,(⟨u::ts,en+1,op,0,cl⟩:Mq).fail 30):=by simp [Mq.take,Mq.has,hu]
       simp only [q1,q2,Bool.false_eq_true,if_false,ff (show (30:Int)≠0 by decide),ite_self]
       have s:Sim ((⟨ts,en,op,pl,0⟩:Ps).fail u.pl 30) ((⟨u::ts,en+1,op,0,cl⟩:Mq).fail 30):=ZY rfl rfl rfl rfl (by decide)
       exact ⟨end_err s (Zl (by decide)),fun hz=>absurd hz (by first|exact Zl (by decide)|exact end_e (Zl (by decide)))⟩
    ·simp only [eq_false hc,if_false]
     refine ⟨end_ok fun t ht=>h0 t (.tail _ ht),fun _=>rfl⟩
   ·refine bad (a:=⟨0,ofL []⟩) (q:=⟨ts,en,op,pl,0⟩) (i:=t.pl) (m':=(⟨t::ts,en+1,op,0,cl⟩:Mq).fail 30) ?_ (ZY rfl rfl rfl rfl (by decide)) ?_
    ·unfold actF
     rw [Xb hk]
     have hc:¬idx t.tx wActs=1:=by omega
     simp only [YX,eq_false hi,eq_false hc,if_false]
    ·unfold actM
     rw [if_neg (by simp [Mq.has,hi])]
  ·have hf:((⟨ts,en,op,pl,0⟩:Ps).fail t.pl 30).e≠0:=Zl (by decide)
   have ht:((⟨ts,en,op,pl,0⟩:Ps).fail t.pl 30).tk=[]:=W9 rfl
   have e1:(actF ⟨t::ts,en,op,pl,0⟩).2=(⟨ts,en,op,pl,0⟩:Ps).fail t.pl 30:=by
    unfold actF
    rw [Xy hk]
    simp only [Ze hf,ite_self,Yt hf ht]
    split<;>rfl
   refine bad (a:=(actF ⟨t::ts,en,op,pl,0⟩).1) (q:=⟨ts,en,op,pl,0⟩) (i:=t.pl) (m':=(⟨t::ts,en+1,op,0,cl⟩:Mq).fail 30) (by rw [←e1]) (ZY rfl rfl rfl rfl (by decide)) ?_
   unfold actM
   rw [if_neg (by simp [Mq.has,hk])]
theorem rule_eq (p:Ps):ruleF p=(let x:Option Cnd×Ps:=if p.is 1 wIf then let r:=condF (fuP p.pass) p.pass;(some r.1,r.2.symb yCol) else (none,p);(⟨x.1,(actE x.2).1⟩,(actE x.2).2)):=rfl
theorem ruleM_eq (m:Mq):ruleM m=(let x:Option Tr5×Mq:=if m.word wIf then let r:=condM (fuM m.pass) m.pass;(some r.1,(r.2.take (Mq.isS yCol)).2) else (none,m);(⟨x.1,(actM x.2).1⟩,(actM x.2).2)):=by
 unfold ruleM actM
 dsimp only
 generalize (if m.word wIf=true then (some (condM (fuM m.pass) m.pass).1,((condM (fuM m.pass) m.pass).2.take (Mq.isS yCol)).2) else (none,m))=x
 by_cases hc:x.2.e=0∧x.2.has (fun t=>decide (t.kd=1) && decide (idx t.tx wActs<5))=true
 ·rw [if_pos hc,if_pos hc]
 ·rw [if_neg hc,if_neg hc]
theorem act_err {p:Ps} (he:p.e≠0) (ht:p.tk=[]):(actE p).2=p:=by
 unfold actE actF
 simp only [YY ht,Yt he ht,Ze he,ite_self]
 rw [if_neg (show ¬idx (ofL []) wActs=1 by decide)]
 simp only [YY ht,ne_eq,not_true_eq_false,if_false]
theorem sim_rule {p:Ps} {m:Mq} (h:Sim p m) (he:p.e=0):Sim (ruleF p).2 (ruleM m).2∧((ruleF p).2.e=0→(ruleF p).1=ruC (ruleM m).1∧WfR (ruleM m).1):=by
 rw [rule_eq,ruleM_eq,sim_word h]
 by_cases hw:m.word wIf=true
 ·simp only [hw,if_true]
  have hp:=V7 h
  have ef:fuP p.pass=fuM m.pass:=by
   unfold fuP fuM Ps.pass Mq.pass
   rw [(h.ok he).2.1]
  rw [ef]
  have ih:=(sim_all (fuM m.pass)).2.2.2.1 _ _ hp
  have s:=sim_symb ih.1 yCol
  have g:=sim_act s
  refine ⟨g.1,fun hz=>?_⟩
  have h1:=g.2 hz
  have h2:(condF (fuM m.pass) p.pass).2.e=0:=by
   by_cases hc:(condF (fuM m.pass) p.pass).2.e=0
   ·exact hc
   ·have ht:=(ih.1.err hc).2.2
    have hz':(actE ((condF (fuM m.pass) p.pass).2.symb yCol)).2.e=0:=hz
    rw [W2 hc ht,act_err hc ht] at hz'
    exact absurd hz' hc
  obtain ⟨i1,i2⟩:=ih.2 h2
  refine ⟨?_,fun t ht=>?_⟩
  ·show (⟨some _,_⟩:Ru)=_
   rw [i1,h1];rfl
  ·cases ht;exact i2
 ·simp only [eq_false hw,if_false]
  have g:=sim_act h
  refine ⟨g.1,fun hz=>⟨?_,fun t ht=>by cases ht⟩⟩
  show (⟨none,_⟩:Ru)=_
  rw [g.2 hz];rfl
theorem sim_line (s:List UInt8) (n:Nat):match lineF s n,lineM s n with
  | (some x,_,_),(some y,_,_)=>x=ruC y∧WfR y
  | (none,a,e),(none,b,f)=>e=f∧(e≠0→a+1=b)
  | _,_=>False:=by
 unfold lineF lineM
 have htk:=Wv (s.length+1) s 0 [] (fun t ht=>by cases ht)
 generalize scanF (s.length+1) s 0 []=r at *
 obtain ⟨ts,e,ok⟩:=r
 dsimp only at htk ⊢
 by_cases hb:ok=false
 ·simp only [hb,if_true]
  exact ⟨trivial,fun _=>trivial⟩
 ·have hb:ok=true:=by simpa using hb
  simp only [hb,Bool.true_eq_false,if_false]
  cases ts with
  | nil=>exact ⟨rfl,fun h=>absurd rfl h⟩
  | cons t ts=>
   dsimp only
   by_cases hn:n=256
   ·simp only [hn,if_true]
    exact ⟨trivial,fun _=>trivial⟩
   ·simp only [hn,if_false]
    have g:=sim_rule (p:=⟨t::ts,(e:Int),0,0,0⟩) (m:=⟨t::ts,(e:Int)+1,0,0,0⟩) (X6 htk) rfl
    generalize ruleF ⟨t::ts,(e:Int),0,0,0⟩=p at *
    generalize ruleM ⟨t::ts,(e:Int)+1,0,0,0⟩=m at *
    have g0:=g.1.e0
    by_cases hz:p.2.e=0
    ·have hz2:m.2.e=0:=by rw [←g0];exact hz
     simp only [hz,hz2,ne_eq,not_true_eq_false,if_false]
     exact g.2 hz
    ·have hz2:m.2.e≠0:=by rw [←g0];exact hz
     simp only [hz,hz2,ne_eq,not_false_eq_true,if_true]
     exact ⟨g0,fun _=>(g.1.err hz).2.1⟩
theorem sim_rows:∀(l:List (List UInt8)) (i:Nat) (acc:List RuM),(∀x ∈ acc,WfR x)→match rowsF l i (acc.map ruC),rowsM l i acc with
  | .ok a,.ok b=>a=b.map ruC∧∀x ∈ b,WfR x
  | .error a,.error b=>a=b
  | _,_=>False
 | [],_,acc,h=>⟨rfl,h⟩
 | s::l,i,acc,h=>by
  have g:=sim_line s acc.length
  unfold rowsF rowsM
  rw [List.length_map]
  generalize lineF s acc.length=a at *
  generalize lineM s acc.length=b at *
  obtain ⟨a1,a2,a3⟩:=a
  obtain ⟨b1,b2,b3⟩:=b
  cases a1 with
  | some x=>cases b1 with
   | none=>exact g.elim
   | some y=>
    obtain ⟨rfl,g2⟩:=g
    have:=sim_rows l (i+1) (acc++[y]) (fun z hz=>by
     rcases List.mem_append.1 hz with hz|hz
     ·exact h z hz
     ·rcases List.mem_singleton.1 hz with rfl
      exact g2)
    rw [List.map_append] at this
    exact this
  | none=>cases b1 with
   | some y=>exact g.elim
   | none=>
    obtain ⟨rfl,g2⟩:=g
    by_cases hz:a3=0
    ·simp only [hz,if_true]
     exact sim_rows l (i+1) acc h
    ·simp only [hz,if_false]
     rw [g2 hz]
theorem par_sim (s:ByteArray):match parF s,parM s with
  | .ok a,.ok b=>a=b.map ruC∧∀x ∈ b,WfR x
  | .error a,.error b=>a=b
  | _,_=>False:=by
 unfold parF parM
 by_cases h:65536<s.size
 ·simp only [h,if_true]
 ·simp only [h,if_false]
  exact sim_rows _ 0 [] (fun x hx=>by cases hx)
mutual
def holM (c:Cq):Tr5→Bool
 | .mk op args rel tx n=>
  if op=wOr then anyM c args else if op=wAnd then allM c args else if op=wNot then !headM c args
  else if idx op wKinds<3 then c.kind == ((idx op wKinds:Nat)+2:Int)
  else if op=wChan then (subO c).ch == n
  else if op=wBy then lwith c.who tx
  else if idx op wTxs<3 then cmpB (idx rel wCts) (fldT (idx op wTxs) c) tx
  else cmpZ (idx rel yCns) (fldN (idx op wNms) c) n
def anyM (c:Cq):List Tr5→Bool
 | []=>false
 | t::l=>holM c t || anyM c l
def allM (c:Cq):List Tr5→Bool
 | []=>true
 | t::l=>holM c t && allM c l
def headM (c:Cq):List Tr5→Bool
 | []=>false
 | t::_=>holM c t
end
def AcOK (a:Ac):Prop:=1≤a.k∧a.k≤5∧(a.k=2→(tplF a.t).2=none)∧(a.k≠2→a.t=ofL [])
theorem act_tpl {p:Ps} (h:(actE p).2.e=0):AcOK (actE p).1:=by
 have h1:(actF p).2.e=0:=by
  by_cases hz:(actF p).2.e=0
  ·exact hz
  ·exact absurd h (end_e hz)
 show AcOK (actF p).1
 unfold actF at h1 ⊢
 dsimp only at h1 ⊢
 by_cases hk:idx p.peek.tx wActs=1
 ·simp only [hk,if_true] at h1 ⊢
  refine ⟨show (1:Int)≤2 by decide,show (2:Int)≤5 by decide,fun _=>?_,fun h=>absurd rfl h⟩
  by_cases hq:(tplF (if 1<5 then p.need 1 else (p.need 1).fail p.peek.pl 30).peek.tx).2.isSome=true
  ·rw [if_pos hq] at h1
   exact absurd h1 (Zl (by decide))
  ·simpa using hq
 ·simp only [eq_false hk,if_false] at h1 ⊢
  by_cases h5:idx p.peek.tx wActs<5
  ·simp only [h5,if_true]
   exact ⟨show (1:Int)≤(idx p.peek.tx wActs:Int)+1 by omega,show (idx p.peek.tx wActs:Int)+1≤5 by omega,fun h=>absurd (show (idx p.peek.tx wActs:Int)+1=2 from h) (by omega),fun _=>rfl⟩
  ·simp only [h5,if_false] at h1
   exact absurd h1 (Zl (by decide))
theorem rule_ac {p:Ps} (h:(ruleF p).2.e=0):AcOK (ruleF p).1.a:=by
 rw [rule_eq] at h ⊢
 exact act_tpl h
theorem line_ac {s:List UInt8} {n:Nat} {x:Ru} {a e:Int} (h:lineF s n=(some x,a,e)):AcOK x.a:=by
 unfold lineF at h
 dsimp only at h
 split at h
 ·cases h
 ·split at h
  ·cases h
  ·split at h
   ·cases h
   ·split at h
    ·cases h
    ·rename_i hz
     cases h
     exact rule_ac (by omega)
theorem rows_ac:∀(l:List (List UInt8)) (i:Nat) (acc:List Ru),(∀x ∈ acc,AcOK x.a)→∀r,rowsF l i acc = .ok r→∀x ∈ r,AcOK x.a
 | [],_,acc,h,r,hr=>by cases hr;exact h
 | s::l,i,acc,h,r,hr=>by
  unfold rowsF at hr
  split at hr
  ·rename_i x a e hx
   refine rows_ac l (i+1) _ (fun z hz=>?_) r hr
   rcases List.mem_append.1 hz with hz|hz
   ·exact h z hz
   ·rcases List.mem_singleton.1 hz with rfl
    exact line_ac hx
  ·split at hr
   ·exact rows_ac l (i+1) acc h r hr
   ·cases hr
theorem par_ac {s:ByteArray} {r:List Ru} (h:parF s = .ok r):∀x ∈ r,AcOK x.a:=by
 unfold parF at h
 split at h
 ·cases h
 ·exact rows_ac _ 0 [] (fun x hx=>by cases hx) r h
section
mutual
def WfC:Cnd→Prop
 | .any l=>WfCs l
 | .all l=>WfCs l
 | .nt c=>WfC c
 | .nul=>False
 | .kd _ _=>True
 | .ch _ _=>True
 | .tx _ f k _=>f<3∧k<3
 | .nm _ f k _=>f<4∧k<3
 | .by_ _ _=>True
def WfCs:List Cnd→Prop
 | []=>True
 | c::l=>WfC c∧WfCs l
end
theorem XO:∀l:List Cnd,WfCs l↔∀c ∈ l,WfC c
 | []=>by simp [WfCs]
 | c::l=>by simp [WfCs,XO l]
theorem wf_anyP {c:Cnd} (h:WfC c):∀x ∈ anyP c,WfC x:=by
 cases c with
 | any l=>intro x hx;rw [WfC] at h;exact (XO l).1 h x hx
 | _=>intro x hx;rcases List.mem_singleton.1 hx with rfl;exact h
theorem wf_allP {c:Cnd} (h:WfC c):∀x ∈ allP c,WfC x:=by
 cases c with
 | all l=>intro x hx;rw [WfC] at h;exact (XO l).1 h x hx
 | _=>intro x hx;rcases List.mem_singleton.1 hx with rfl;exact h
theorem wf_either {l:List Cnd} (h:WfCs l):WfC (eitherF l):=by
 have k:∀x ∈ l.flatMap anyP,WfC x:=fun x hx=>by
  obtain ⟨c,hc,hx⟩:=List.mem_flatMap.1 hx
  exact wf_anyP ((XO l).1 h c hc) x hx
 unfold eitherF
 split
 ·rename_i c hc;exact k c (by rw [hc];exact .head _)
 ·rw [WfC];exact (XO _).2 k
theorem wf_both {l:List Cnd} (h:WfCs l):WfC (bothF l):=by
 have k:∀x ∈ l.flatMap allP,WfC x:=fun x hx=>by
  obtain ⟨c,hc,hx⟩:=List.mem_flatMap.1 hx
  exact wf_allP ((XO l).1 h c hc) x hx
 unfold bothF
 split
 ·rename_i c hc;exact k c (by rw [hc];exact .head _)
 ·rw [WfC];exact (XO _).2 k
mutual
theorem wf_tree:∀t:Tr5,WfT t→WfC (toC t)
 | .mk op args rel tx n,h=>by
  rw [WfT] at h
  rw [toC]
  by_cases h1:op=wOr
  ·rw [if_pos (.inl h1)] at h
   rw [if_pos h1];exact wf_either (wf_trees args h.2)
  rw [if_neg h1]
  by_cases h2:op=wAnd
  ·rw [if_pos (.inr h2)] at h
   rw [if_pos h2];exact wf_both (wf_trees args h.2)
  rw [if_neg h2]
  by_cases h3:op=wNot
  ·rw [if_neg (by rintro (h|h);exact h1 h;exact h2 h),if_pos h3] at h
   rw [if_pos h3]
   obtain ⟨⟨t,rfl⟩,h4,_⟩:=h
   show WfC (.nt (toC t))
   rw [WfC];exact wf_tree t h4
  rw [if_neg h3]
  rw [if_neg (by rintro (h|h);exact h1 h;exact h2 h),if_neg h3] at h
  obtain ⟨_,_,h6,h7⟩:=h
  split
  ·rw [WfC];trivial
  ·split
   ·rw [WfC];trivial
   ·split
    ·rename_i a;rw [WfC];exact ⟨a,h6 a⟩
    ·split
     ·rename_i a;rw [WfC];exact ⟨a,h7 a⟩
     ·rw [WfC];trivial
theorem wf_trees:∀l:List Tr5,WfTs l→WfCs (toCs l)
 | [],_=>by simp [toCs,WfCs]
 | t::l,h=>by rw [WfTs] at h;rw [toCs,WfCs];exact ⟨wf_tree t h.1,wf_trees l h.2⟩
end
mutual
def SzC (M:Nat):Cnd→Prop
 | .any l=>SzCs M l
 | .all l=>SzCs M l
 | .nt c=>SzC M c
 | .nul=>True
 | .kd w _=>w.size≤4 * M+400
 | .ch w _=>w.size≤4 * M+400
 | .tx w _ _ s=>w.size≤4 * M+400∧s.size≤M
 | .nm w _ _ _=>w.size≤4 * M+400
 | .by_ w s=>w.size≤4 * M+400∧s.size≤M
def SzCs (M:Nat):List Cnd→Prop
 | []=>True
 | c::l=>SzC M c∧SzCs M l
end
theorem Yf (M:Nat):∀l:List Cnd,SzCs M l↔∀c ∈ l,SzC M c
 | []=>by simp [SzCs]
 | c::l=>by simp [SzCs,Yf M l]
theorem sz_anyP {M:Nat} {c:Cnd} (h:SzC M c):∀x ∈ anyP c,SzC M x:=by
 cases c with
 | any l=>intro x hx;rw [SzC] at h;exact (Yf M l).1 h x hx
 | _=>intro x hx;rcases List.mem_singleton.1 hx with rfl;exact h
theorem sz_allP {M:Nat} {c:Cnd} (h:SzC M c):∀x ∈ allP c,SzC M x:=by
 cases c with
 | all l=>intro x hx;rw [SzC] at h;exact (Yf M l).1 h x hx
 | _=>intro x hx;rcases List.mem_singleton.1 hx with rfl;exact h
theorem sz_either {M:Nat} {l:List Cnd} (h:SzCs M l):SzC M (eitherF l):=by
 have k:∀x ∈ l.flatMap anyP,SzC M x:=fun x hx=>by
  obtain ⟨c,hc,hx⟩:=List.mem_flatMap.1 hx
  exact sz_anyP ((Yf M l).1 h c hc) x hx
 unfold eitherF
 split
 ·rename_i c hc;exact k c (by rw [hc];exact .head _)
 ·rw [SzC];exact (Yf M _).2 k
theorem sz_both {M:Nat} {l:List Cnd} (h:SzCs M l):SzC M (bothF l):=by
 have k:∀x ∈ l.flatMap allP,SzC M x:=fun x hx=>by
  obtain ⟨c,hc,hx⟩:=List.mem_flatMap.1 hx
  exact sz_allP ((Yf M l).1 h c hc) x hx
 unfold bothF
 split
 ·rename_i c hc;exact k c (by rw [hc];exact .head _)
 ·rw [SzC];exact (Yf M _).2 k
theorem szs_add {M:Nat} {l:List Cnd} {c:Cnd} (h:SzCs M l) (k:SzC M c):SzCs M (l++[c]):=(Yf M _).2 fun x hx=>by
 rcases List.mem_append.1 hx with hx|hx
 ·exact (Yf M l).1 h x hx
 ·rcases List.mem_singleton.1 hx with rfl;exact k
def TB (M:Nat) (p:Ps):Prop:=∀t ∈ p.tk,t.tx.size≤M
namespace TB
variable {M:Nat} {x:Ps}
theorem peek (h:TB M x):x.peek.tx.size≤M:=by
 unfold Ps.peek
 split
 ·exact Nat.zero_le _
 ·rename_i t l ht;exact h t (by rw [ht];exact .head _)
theorem sfx {y:Ps} (h:TB M x) (s:Sfx x y):TB M y:=fun t ht=>h t (s.subset ht)
end TB
theorem Y0 (a b:ByteArray):(a++b).size=a.size+b.size:=by
 have h:=congrArg List.length (ba_app a b)
 rw [List.length_append,lsz,lsz,lsz] at h
 exact h
theorem wSp_sz:wSp.size=1:=rfl
theorem sz_test {M:Nat} {x:Ps} (h:TB M x) {w:ByteArray} (hw:w.size≤M):SzC M (testF w x).1:=by
 unfold testF
 have hp:=h.peek
 split
 ·rw [SzC];omega
 ·split
  ·dsimp only
   rw [SzC,Y0,Y0,wSp_sz];omega
  ·split
   ·dsimp only
    have a:TB M (if idx x.peek.tx wCts<3 then x.need 1 else (x.need 1).fail x.peek.pl 30):=h.sfx (Sfx.ite (Sfx.need _ _) ((Sfx.need _ _).trans (Sfx.fail _ _ _)))
    have b:=a.peek
    have c:=quo_size (if idx x.peek.tx wCts<3 then x.need 1 else (x.need 1).fail x.peek.pl 30).peek.tx
    rw [SzC,Y0,Y0,Y0,Y0,wSp_sz]
    exact ⟨by omega,b⟩
   ·split
    ·dsimp only
     have b:=numF_bd (if idx x.peek.tx yCns<3 then x.need 4 else (x.need 4).fail x.peek.pl 30)
     have c:=V0 _ b.1 b.2
     rw [SzC,Y0,Y0,Y0,Y0,wSp_sz]
     omega
    ·dsimp only
     rw [SzC,Y0,Y0,wSp_sz]
     exact ⟨by omega,hp⟩
theorem sz_all (M:Nat):∀n:Nat,(∀p,TB M p→SzC M (factorF n p).1)∧(∀p,TB M p→SzC M (termF n p).1)∧(∀l p,TB M p→SzCs M l→SzCs M (termL n l p).1)∧(∀p,TB M p→SzC M (condF n p).1)∧(∀l p,TB M p→SzCs M l→SzCs M (condL n l p).1)
 | 0=>by
  have a:SzC M (.nt .nul):=by rw [SzC,SzC];trivial
  exact ⟨fun _ _=>a,fun _ _=>a,fun _ _ _ h=>h,fun _ _=>a,fun _ _ _ h=>h⟩
 | n+1=>by
  obtain ⟨h1,h2,h3,h4,h5⟩:=sz_all M n
  obtain ⟨g1,g2,_,_,_⟩:=Yg n
  refine ⟨fun p h=>?_,fun p h=>?_,fun l p h hl=>?_,fun p h=>?_,fun l p h hl=>?_⟩
  ·have hq:TB M p.pass:=h.sfx (Sfx.pass _)
   unfold factorF
   dsimp only
   split
   ·rw [SzC];exact h1 _ hq
   ·split
    ·exact h4 _ (h.sfx (Sfx.ite ((Sfx.pass _).trans (Sfx.fail _ _ _)) (Sfx.pass _)))
    ·split
     ·exact sz_test hq h.peek
     ·rw [SzC,SzC];trivial
  ·unfold termF
   dsimp only
   exact sz_both (h3 _ _ (h.sfx (g1 p)) (by rw [SzCs,SzCs];exact ⟨h1 p h,trivial⟩))
  ·unfold termL
   split
   ·exact h3 _ _ (h.sfx ((Sfx.pass _).trans (g1 _))) (szs_add hl (h1 _ (h.sfx (Sfx.pass _))))
   ·exact hl
  ·unfold condF
   dsimp only
   exact sz_either (h5 _ _ (h.sfx (g2 p)) (by rw [SzCs,SzCs];exact ⟨h2 p h,trivial⟩))
  ·unfold condL
   split
   ·exact h5 _ _ (h.sfx ((Sfx.pass _).trans (g2 _))) (szs_add hl (h2 _ (h.sfx (Sfx.pass _))))
   ·exact hl
structure RuOK (M:Nat) (x:Ru):Prop where
 a:AcOK x.a
 t:x.a.t.size≤M
 c:∀d,x.c=some d→WfC d∧SzC M d∧lv d≤3 * M+10
def RuSz (M:Nat) (x:Ru):Prop:=x.a.t.size≤M∧∀d,x.c=some d→SzC M d∧lv d≤3 * M+10
theorem act_sz {M:Nat} {x:Ps} (h:TB M x):(actF x).1.t.size≤M:=by
 unfold actF
 dsimp only
 have a:TB M (if idx x.peek.tx wActs<5 then x.need 1 else (x.need 1).fail x.peek.pl 30):=h.sfx (Sfx.ite (Sfx.need _ _) ((Sfx.need _ _).trans (Sfx.fail _ _ _)))
 generalize (if idx x.peek.tx wActs<5 then x.need 1 else (x.need 1).fail x.peek.pl 30)=q at a ⊢
 split
 ·exact a.peek
 ·exact Nat.zero_le _
theorem rule_sz {M:Nat} {x:Ps} (h:TB M x) (hn:x.tk.length≤M):RuSz M (ruleF x).1:=by
 unfold ruleF
 dsimp only
 have hp:TB M x.pass:=h.sfx (Sfx.pass _)
 split
 ·exact ⟨act_sz (hp.sfx (((Yg _).2.2.2.1 _).trans (Sfx.symb _ _))),fun d hd=>by
   cases hd
   have h1:=(lv_all (fuP x.pass)).2.2.2.1 x.pass
   have h2:x.pass.tk.length≤x.tk.length:=(Sfx.pass x).len
   exact ⟨(sz_all M _).2.2.2.1 _ hp,by omega⟩⟩
 ·exact ⟨act_sz h,fun d hd=>by cases hd⟩
theorem line_sz {s:List UInt8} {n M:Nat} (hM:s.length≤M) {x:Ru} {a e:Int} (h:lineF s n=(some x,a,e)):RuSz M x:=by
 obtain ⟨g,g2⟩:=scan_sz (s.length+1) s 0 [] M hM (fun t ht=>by cases ht)
 unfold lineF at h
 dsimp only at h
 split at h
 ·cases h
 ·split at h
  ·cases h
  ·split at h
   ·cases h
   ·split at h
    ·cases h
    ·cases h
     exact rule_sz (fun t ht=>(g t ht).2) (by simp only [List.length_nil] at g2;show (scanF _ _ _ _).1.length≤M;omega)
theorem rows_szs {M:Nat}:∀(l:List (List UInt8)) (i:Nat) (acc:List Ru),(∀x ∈ l,x.length≤M)→(∀x ∈ acc,RuSz M x)→∀r,rowsF l i acc = .ok r→∀x ∈ r,RuSz M x
 | [],_,acc,_,h,r,hr=>by cases hr;exact h
 | s::l,i,acc,hl,h,r,hr=>by
  have hl':∀x ∈ l,x.length≤M:=fun x hx=>hl x (.tail _ hx)
  unfold rowsF at hr
  split at hr
  ·rename_i x a e hx
   refine rows_szs l (i+1) _ hl' (fun z hz=>?_) r hr
   rcases List.mem_append.1 hz with hz|hz
   ·exact h z hz
   ·rcases List.mem_singleton.1 hz with rfl
    exact line_sz (hl s (.head _)) hx
  ·split at hr
   ·exact rows_szs l (i+1) acc hl' h r hr
   ·cases hr
theorem par_ok {s:ByteArray} {r:List Ru} (h:parF s = .ok r):r.length≤256∧∀x ∈ r,RuOK s.size x:=by
 have h1:=par_ac h
 have h2:=par_sim s
 rw [h] at h2
 cases hm:parM s with
 | error e=>rw [hm] at h2;exact absurd h2 id
 | ok b=>
  rw [hm] at h2
  obtain ⟨h3,h4⟩:=h2
  have h0:rowsF (linesF s.data.toList) 0 [] = .ok r:=by
   unfold parF at h
   split at h
   ·cases h
   ·exact h
  have h5:=rows_szs (M:=s.size) (linesF s.data.toList) 0 [] (fun x hx=>by rw [←lsz];exact (lines_sz _).2 x hx) (fun x hx=>by cases hx) r h0
  refine ⟨?_,fun x hx=>⟨h1 x hx,(h5 x hx).1,fun d hd=>⟨?_,(h5 x hx).2 d hd⟩⟩⟩
  ·have go:∀(l:List (List UInt8)) (i:Nat) (acc:List Ru),acc.length≤256→∀r,rowsF l i acc = .ok r→r.length≤256:=by
    intro l
    induction l with
    | nil=>intro i acc ha r hr;cases hr;exact ha
    | cons s l ih=>
     intro i acc ha r hr
     unfold rowsF at hr
     split at hr
     ·rename_i x a e hx
      refine ih _ _ ?_ r hr
      have:=(lineF_ok (x:=x) (by rw [hx])).2
      rw [List.length_append,List.length_singleton];omega
     ·split at hr
      ·exact ih _ _ ha r hr
      ·cases hr
   exact go _ _ _ (by decide) r h0
  ·subst h3
   obtain ⟨y,hy,rfl⟩:=List.mem_map.1 hx
   have hd:y.c.map toC=some d:=hd
   cases hc:y.c with
   | none=>rw [hc] at hd;cases hd
   | some t=>
    rw [hc] at hd
    obtain rfl:toC t=d:=Option.some.inj hd
    exact wf_tree t (h4 y hy t hc)
end
theorem decF_ok (c:Cq):∀(l:List Ru) (i:Nat),(∀x ∈ l,x.a.k≠2→isE x.a.t=true)→(decF c l i).1.k≠5→permF (decF c l i).1 c=0∧-1≤(decF c l i).2∧(decF c l i).2<(i:Int)+l.length
 | [],i,_,h5=>by rw [decF] at h5;exact absurd rfl h5
 | x::l,i,h,h5=>by
  rw [decF] at h5 ⊢
  by_cases h1:posF x.a.k c.kind=false∨condH c x=false
  ·rw [if_pos h1] at h5 ⊢
   obtain ⟨a1,a2,a3⟩:=decF_ok c l (i+1) (fun y hy=>h y (List.mem_cons_of_mem _ hy)) h5
   exact ⟨a1,a2,by rw [List.length_cons];omega⟩
  ·rw [if_neg h1] at h5 ⊢
   by_cases h2:x.a.k≠2
   ·rw [if_pos h2] at h5 ⊢
    refine ⟨?_,by dsimp only;omega,by dsimp only;rw [List.length_cons];omega⟩
    unfold permF
    dsimp only at h5 ⊢
    rw [if_neg (fun h3=>h3.elim h5 fun h3=>h1 (.inl h3)),if_neg (fun h3=>h2 h3.1),if_neg (fun h3=>by rw [h x List.mem_cons_self h2] at h3;cases h3.2)]
   ·rw [if_neg h2] at h5 ⊢
    have hk:x.a.k=2:=by omega
    by_cases h3:4096<(expF x.a.t c).size
    ·rw [if_pos h3] at h5;exact absurd rfl h5
    ·rw [if_neg h3] at h5 ⊢
     refine ⟨?_,by dsimp only;omega,by dsimp only;rw [List.length_cons];omega⟩
     unfold permF
     dsimp only
     rw [if_neg (fun h4=>h4.elim (by decide) fun h4=>h1 (.inl (by rw [hk];exact h4))),if_neg (fun h4=>h3 h4.2),if_neg (fun h4=>h4.1 rfl)]
theorem ruD_ok {l:List Ru} (h:∀x ∈ l,x.a.k≠2→isE x.a.t=true) (hn:l.length≤256):RuD l:=fun c hq hc h5=>by
 obtain ⟨k1,k2,-⟩:=Wt hq
 have hk:c.kind≠1:=by
  unfold cnts at hc
  simp only [Bool.and_eq_true,decide_eq_true_eq] at hc
  exact hc.1
 have hp:posF 5 c.kind=true:=by
  unfold posF
  rw [if_neg (by omega),if_neg (by omega),if_neg (by omega),if_pos rfl]
  exact decide_eq_true (by omega)
 unfold decideF at h5 ⊢
 rw [if_neg (by rw [hp];decide)] at h5 ⊢
 obtain ⟨a1,a2,a3⟩:=decF_ok c l 0 h h5
 exact ⟨a1,a2,by omega⟩
variable {n:Nat} {C:Cx} {Q:Exit→Act→World→Prop} {E:List (Nat×Value)} {F:List Pf} {R R0:List HP} {k:List Fr}
section
theorem Sat.frzP {P:HP} {f:Pf} {G:H} {w0 w:World} {hp0:H} (hP:∀h,P h→f.p h) (hsat:Sat G w0 hp0 F (P::R) w):Sat G w0 hp0 (f::F) R w:=by
 obtain ⟨hp,hr,t⟩:=hsat
 obtain ⟨h1,h2,d,s1,s2,hx,hR⟩:=t.r
 have s3:Sub hp (un hp h1):=ZL _ _
 refine ⟨un hp h1,h2,In.un t.inp (t.inr.sub s1),t.inr.sub s2,t.ing,Zh.2 ⟨(t.d1.symm.sub s2).symm,d⟩,Zh.2 ⟨t.d2,t.d3.sub s1⟩,t.d3.sub s2,t.sub.trans s3,
  fun x hx'=>?_,hR,t.same⟩
 rcases List.mem_cons.1 hx' with e|e
 ·subst e;exact x.m _ _ (ZN (t.d1.symm.sub s1).symm) (hP _ hx)
 ·exact x.m _ _ s3 (t.f x e)
theorem k_frzP {P:HP} {f:Pf} (hP:∀h,P h→f.p h) (t:Wk n C k Q E (f::F) R0) (hs:Sel P R R0:=by (repeat (first|exact Sel.here|apply Sel.there));first|done|fail):Wk n C k Q E F R:=
 fun a w ha hsat=>t a w ha (Sat.frzP hP (hsat.sel hs))
end
def shO (o:Ou):Ou:=⟨o.ch,cutS o.tg 80,cutS o.tx 4200,o.us⟩
def shL (x:Lf):Lf:=⟨⟨cutS x.e.who 80,x.e.nu,x.e.tk,shO x.e.o⟩,x.tm,x.rd⟩
def mleaveE (ls:List Lf) (x:Lf):Int:=if lchk x≠0 then lchk x else if late ls x then 32 else 0
def MLv (o:Option Addr) (cap:Nat) (ls:List Lf) (e:Int):Post:=⟨Unit,fun _=>.int .i64 e,fun _=>True,fun _=>[],fun _=>[Row 52 9 o ls.length cap (ls.flatMap lff)]⟩
def idq (x:Lf) (w:ByteArray) (nu tk:Int):Bool:=decide (x.e.who=w) && (decide (x.e.nu=nu) && decide (x.e.tk=tk))
def lfind (ls:List Lf) (w:ByteArray) (nu tk:Int):Nat→Option Nat
 | 0=>none
 | m+1=>match ls[m]? with|some x=>if idq x w nu tk then some m else lfind ls w nu tk m|none=>lfind ls w nu tk m
def fndv (r:Option Nat):Int:=match r with|some j=>(j:Int)|none=>-1
def lenc (x:Lf):List UInt8:=venc x.e.who.size++x.e.who.data.toList++venc x.e.nu.toNat++venc x.e.tk.toNat++oenc x.e.o++venc x.tm.toNat++venc x.rd.toNat
def lencs (ls:List Lf):List UInt8:=venc ls.length++ls.flatMap lenc
variable {E':List (Nat×Value)} {F' F1 Fs F0:List Pf} {R' Rs N N' A:List HP} {k':List Fr} {ops l:List Oper} {L L':List (Nat×Nat)} {Tl:List Nat} {i d:Nat} {t ty0:TypeId} {x y:Operand} {pos:String} {aft:Array Edge} {gd:Option (Nat×Bool)}
section
theorem yield2_ok {α:Type} {enc1 enc2:α→Value} {q:LR} {l p1 p2:Nat} {J Jx:List α→HP} {pre:List α} {e:α} (hps:q.ps = #[p1,p2]) (hpn1:p1<n) (hpn2:p2<n) (hag:∀a:Act,a.tmps=q.tmps→a.defers=[]→Agree n [] (look E) a)
  (hbody:∀G w0 hp0,Wk n ⟨some l,G,w0,hp0,[]⟩ [.c q.assign,.r l,.c q.body] (RQ q l G w0 hp0 (J (pre++[e])) (Jx (pre++[e]))) ((p2,enc2 e)::(p1,enc1 e)::E) F [Pt l (.loop (rcd q .ready none)),J pre]) :
  SpecV (.func (.yield l) #[] #[]) [enc1 e,enc2 e] [⟨fun h=>∀f ∈ F,f.p h,fun _ _ s h f hf=>f.m _ _ s (h f hf)⟩] [both (Pt l (.loop (rcd q .ready none))) (J pre)]
   (YPost (fun pre=>both (Pt l (.loop (rcd q .ready none))) (J pre)) (fun pre=>both (Pt l (.loop (rcd q .done (some .ret)))) (Jx pre)) pre e):=by
 intro G w hp hsat
 have h1:Sat G w hp F [both (Pt l (.loop (rcd q .ready none))) (J pre)] w:=hsat.facts fun hp hF=>hF _ (List.mem_cons_self ..)
 obtain ⟨_,h2⟩:=h1.open' (X:=Unit) (L:=fun _=>[Pt l (.loop (rcd q .ready none)),J pre]) fun _ hh=>⟨(),hh⟩
 have hl:=h2.pt Sel.here
 unfold CallsV OpRes
 have hy:=run_yield (P:=prog) (args:=#[enc1 e,enc2 e]) hl (by simp [rcd,hps])
 have hi:(invoke (.fn (.yield l) #[]) (#[]++[enc1 e,enc2 e].toArray)).run prog w=(Instr.yield l #[enc1 e,enc2 e]).run prog w:=by simp [invoke]
 simp only [hi,hy]
 refine roundIn_of_wpIn trivial ?_
 have ha:Agree n [] (look ((p2,enc2 e)::(p1,enc1 e)::E)) ({tmps:=((rcd q .ready none).params.zip #[enc1 e,enc2 e]).foldl (fun tmps (x:Tmp×Value)=>tmps.setIfInBounds x.1 x.2) (rcd q .ready none).tmps,defers:=[]}:Act):=by
  have:=((hag ⟨q.tmps,[]⟩ rfl rfl).put (d:=some p1) (fun t ht=>by cases ht;exact hpn1) (enc1 e)).put (d:=some p2) (fun t ht=>by cases ht;exact hpn2) (enc2 e)
  rw [Yn,Yn]
  simpa [rcd,hps,Act.put] using this
 have hb:=hbody G w hp _ w ha h2
 refine wpIn_mono (show q.assign.wpIn (fz (some l)) 0 prog (after (some l) [.r l,.c q.body] (RQ q l G w hp (J (pre++[e])) (Jx (pre++[e])))) _ w from hb) ?_
 rintro ex a1 w1 hx
 cases ex with
 | normal=>
  obtain ⟨w2,g1,g2⟩:=hx
  refine ⟨w2,g1,?_⟩
  have g3:q.body.wpIn (fz (some l)) 0 prog (after (some l) [] (RQ q l G w hp (J (pre++[e])) (Jx (pre++[e])))) a1 w2:=g2
  rw [UM] at g3
  refine wpIn_mono g3 (XR ?_)
  rintro e' w' ⟨b,rfl,hs'⟩
  exact ⟨b,rfl,trivial,hs'⟩
 | _=>exact hx.elim
def Iter2 {α:Type} (gf:FuncId) (lb:List Value) (enc1 enc2:α→Value) (xs:List α) (Fg:List Pf) (A:List HP):Prop:=
 ∀(v:Value) (Y:Pf) (I Ix:List α→HP),(∀pre e,pre++[e] <+: xs→SpecV v [enc1 e,enc2 e] [Y] [I pre] (YPost I Ix pre e))→
  Enters gf∧Spec prog gf (v::lb).toArray (Y::Fg) (I []::A) ⟨Option (List α),fun _=>.tuple #[],fun r=>∀pre,r=some pre→pre <+: xs,fun _=>[],fun r=>[match r with|none=>I xs|some pre=>Ix pre]⟩
theorem k_range2 {α:Type} {g:Operand} {p1 p2:Nat} {assign body:Code} {gf:FuncId} {lb:Array Value} {enc1 enc2:α→Value} {xs:List α} {Fg:List Pf} {G:H} {w0:World} {hp0:H} {ds:List Deferred} (J Jx:List α→HP) (hit:Iter2 gf lb.toList enc1 enc2 xs Fg A)
  (hbody:∀(q:LR) (l:Nat) (pre:List α) (e:α),pre++[e] <+: xs→∀G w0 hp0,Wk n ⟨some l,G,w0,hp0,[]⟩ [.c assign,.r l,.c body] (RQ q l G w0 hp0 (J (pre++[e])) (Jx (pre++[e]))) ((p2,enc2 e)::(p1,enc1 e)::E) F [Pt l (.loop (rcd q .ready none)),J pre])
  (hdone:∀D,Wk n ⟨none,G,w0,hp0,{target:=.collected D,args:=#[]}::ds⟩ k' Q E F (J xs::Pt D (.deferred (some []))::R'))
  (hstop:∀D pre,pre <+: xs→Wret n ⟨none,G,w0,hp0,{target:=.collected D,args:=#[]}::ds⟩ Q E F (Jx pre::Pt D (.deferred (some []))::R'))
  (h:nf 1000 k = .c (.rangeFunc g #[p1,p2] assign body)::k':=by rfl) (hg:ev E g=some (.func (.func gf) #[] lb):=by rfl) (hpn1:Nat.blt p1 n=true:=by rfl) (hpn2:Nat.blt p2 n=true:=by rfl) (hnr:noR k'=true:=by rfl)
  (sel:Sels (J []::A) R R':=by (repeat (first|exact Sels.nil|exact Sel.here|apply Sel.there|apply Sels.cons));first|done|fail) (hFg:EntF F Fg:=by (repeat (first|exact trivial|exact Sel.here|apply Sel.there|apply EntF.cons));first|done|fail):Wk n ⟨none,G,w0,hp0,ds⟩ k Q E F R:=fun a w ha hs=>YQ 1000 k (by
 rw [h]
 show (Code.rangeFunc g #[p1,p2] assign body).wpIn (fz none) 0 prog (after none k' Q) a w
 refine wpIn_rangeFunc fun fn hfn=>?_
 let q:LR:=⟨fn,a.tmps,#[p1,p2],assign,body,w.heap.size⟩
 let lo:Obj:=.loop (rcd q .ready none)
 have hs1:Sat G w0 hp0 F (Pt (w.heap.size+1) lo::Pt w.heap.size (.deferred (some []))::J []::(A++R')) ((w.alloc (.deferred (some []))).alloc lo):=by
  have:=((hs.sels sel).alloc (.deferred (some []))).alloc lo
  simpa using this
 have hs2:Sat G w0 hp0 F (both (Pt (w.heap.size+1) lo) (J [])::Pt w.heap.size (.deferred (some []))::(A++R')) ((w.alloc (.deferred (some []))).alloc lo):=
  (hs1.sels (A:=[Pt (w.heap.size+1) lo,J []]) (.cons .here (.cons (.there .here) .nil))).shut (x:=both _ _) fun _ hh=>hh
 have hy:∀pre e,pre++[e] <+: xs→SpecV (.func (.yield (w.heap.size+1)) #[] #[]) [enc1 e,enc2 e] _ _ _:=fun pre e hpre=>
  yield2_ok (n:=n) (E:=E) (F:=F) (enc1:=enc1) (enc2:=enc2) (q:=q) (l:=w.heap.size+1) (p1:=p1) (p2:=p2) (J:=J) (Jx:=Jx) (pre:=pre) (e:=e) rfl (Nat.le_of_ble_eq_true hpn1) (Nat.le_of_ble_eq_true hpn2)
   (fun b hb hd=>⟨by rw [hb];exact ha.size,hd,fun t v hv=>by rw [hb];exact ha.slots t v hv⟩) (fun G w0 hp0=>hbody q _ pre e hpre G w0 hp0)
 obtain ⟨eg,hsp⟩:=hit _ _ _ _ hy
 have hev:=ha.ev (x:=g) (by rw [ZF];exact hg)
 refine ⟨w.heap.size+1,[{target:=.collected w.heap.size,args:=#[]}],(w.alloc (.deferred (some []))).alloc lo,{target:=.fn (.func gf) lb,args:=#[.func (.yield (w.heap.size+1)) #[] #[]]},(w.alloc (.deferred (some []))).alloc lo,gf,#[.func (.yield (w.heap.size+1)) #[] #[]]++lb,(w.alloc (.deferred (some []))).alloc lo,run_enterLoop_outer _ _ _ _ _,?_,fun _ _=>trivial,?_,(fun hx=>by cases hx),?_⟩
 ·simp only [resolve,hev]
  simp [go_sem,Deferred.ofValue,Act.eval]
 ·simp only [invoke]
  exact eg _ _
 ·have e1 : #[Value.func (.yield (w.heap.size+1)) #[] #[]]++lb=(Value.func (.yield (w.heap.size+1)) #[] #[]::lb.toList).toArray:=by rw [←Array.toList_inj];simp
  rw [e1]
  refine Xx (YU hsp hs2 (.cons .here (WN A _ R')) (fun hp hF f hf=>?_) fun r w' hr hs3=>?_)
  ·rcases List.mem_cons.1 hf with rfl|hf
   ·exact hF
   ·exact hFg.all hp hF f hf
  ·have hds:({a with defers:=[{target:=.collected w.heap.size,args:=#[]}]++a.defers}:Act).defers={target:=.collected w.heap.size,args:=#[]}::ds:=by simp [ha.defers]
   have ha':Agree n ({target:=.collected w.heap.size,args:=#[]}::ds) (look E) {a with defers:=[{target:=.collected w.heap.size,args:=#[]}]++a.defers}:=⟨ha.size,hds,ha.slots⟩
   cases r with
   | none=>
    obtain ⟨_,h4⟩:=(show Sat G w0 hp0 F (both (Pt (w.heap.size+1) lo) (J xs)::Pt w.heap.size (.deferred (some []))::R') w' from hs3).open' (X:=Unit) (L:=fun _=>[Pt (w.heap.size+1) lo,J xs]) fun _ hh=>⟨(),hh⟩
    refine ⟨none,_,run_endLoop (h4.pt Sel.here) (by simp [rcd]),?_⟩
    have h5:=Zf (o':=.loop (rcd q .exhausted none)) h4
    exact hdone w.heap.size _ _ ha' (h5.res fun _ hh=>XU hh)
   | some pre=>
    obtain ⟨_,h4⟩:=(show Sat G w0 hp0 F (both (Pt (w.heap.size+1) (.loop (rcd q .done (some .ret)))) (Jx pre)::Pt w.heap.size (.deferred (some []))::R') w' from hs3).open' (X:=Unit) (L:=fun _=>[Pt (w.heap.size+1) (.loop (rcd q .done (some .ret))),Jx pre]) fun _ hh=>⟨(),hh⟩
    refine ⟨some .ret,_,run_endLoop (h4.pt Sel.here) (by simp [rcd]),?_⟩
    have h5:=Zf (o':=.loop (rcd q .exhausted (some .ret))) h4
    refine wpIn_ret ?_
    rw [Yl hnr]
    exact hstop w.heap.size pre (hr pre rfl) _ _ ha' (h5.res fun _ hh=>XU hh))
end
theorem backward_ok (o:Option Addr) (cap m:Nat):Enters 72∧Spec prog 72 #[.slice o m cap] [] []
  ⟨Nat,fun b=>.func (.func 99) #[] #[.pointer (some ⟨b,0,none⟩)],fun _=>True,fun b=>[Blk b (.cells #[.slice o m cap] 91)],fun _=>[]⟩:=by
 refine ZE [_] func72 ntmps72 fun G w hp=>?_
 repeat' (first|refine ZC ?_|refine ZH (fun b=>?_)|fail)
 refine Y7 ?_
 exact ZD b rfl trivial
def bkw (ls:List Lf):Nat→List (Nat×Lf)
 | 0=>[]
 | m+1=>match ls[m]? with|some x=>(m,x)::bkw ls m|none=>bkw ls m
def ixv (p:Nat×Lf):Value:=.int .i64 (p.1:Int)
def lfv2 (p:Nat×Lf):Value:=p.2.v
theorem backward_iter (b:Nat) (o:Option Addr) (cap:Nat) (ls:List Lf) (hl:ls.length≤1099511627776):Iter2 99 [.pointer (some ⟨b,0,none⟩)] ixv lfv2 (bkw ls ls.length) [Blk b (.cells #[.slice o ls.length cap] 91),Sl 52 lff o cap ls] []:=by
 intro v Y I Ix hy
 refine ZE [_,_] func99 ntmps99 fun G w hp=>?_
 repeat' (first|refine ZC ?_|fail)
 rw [wrapi (z:=(ls.length:Int) - 1) (by omega) (by omega)]
 refine Zj (X:={q:(Nat×Int)×List (Nat×Lf) // q.1.1≤ls.length∧q.1.2=(q.1.1:Int) - 1∧q.2++bkw ls q.1.1=bkw ls ls.length}) (fun q=>[(0,v),(1,.pointer (some ⟨b,0,none⟩)),(3,.int .i64 q.1.1.2)]) (fun _=>[Y,Blk b (.cells #[.slice o ls.length cap] 91),Sl 52 lff o cap ls]) (fun q=>[I q.1.2]) (fun q=>q.1.1.1) ⟨((ls.length,(ls.length:Int) - 1),[]),by simp,rfl,rfl⟩ ⟨rfl,rfl,rfl,trivial⟩ ?_
 rintro ⟨⟨⟨m,z⟩,pre⟩,hm,hz,he⟩
 dsimp only at hm hz he ⊢
 cases m with
 | zero=>
  have hz':z = -1:=by omega
  subst hz'
  have hpre:pre=bkw ls ls.length:=by rw [←he];simp [bkw]
  subst hpre
  repeat' (first|refine ZC ?_|refine ZM ?_|fail)
  exact Zw none rfl (fun q hq=>by cases hq)
 | succ m=>
  have hz':z=(m:Int):=by omega
  subst hz'
  obtain ⟨x,hx⟩:∃x,ls[m]? = some x:=⟨_,List.getElem?_eq_getElem (by omega)⟩
  rw [bkw,hx] at he
  dsimp only at he
  have hpre:pre++[(m,x)] <+: bkw ls ls.length:=⟨bkw ls m,by rw [←he];simp⟩
  repeat' (first|refine ZC ?_|refine ZU (es:=ls) m x hx (fun b off=>?_)|refine ZQ ?_|fail)
  refine YN (hy pre (m,x) hpre) (fun bb _=>?_)
  cases bb with
  | false=>
   repeat' (first|refine ZC ?_|fail)
   exact Zz (Z5 (Zg (some (pre++[(m,x)])) rfl (fun q hq=>by cases hq;exact hpre)))
  | true=>
   repeat' (first|refine ZC ?_|fail)
   rw [wrapi (z:=(m:Int) - 1) (by omega) (by omega)]
   exact ZJ ⟨((m,(m:Int) - 1),pre++[(m,x)]),by dsimp only;omega,rfl,by rw [←he];simp⟩ (by show m<m+1;omega) ⟨rfl,rfl,rfl,trivial⟩
abbrev JFL (b5 b6 b7 b8 b9:Nat) (wn:ByteArray) (nu tk i:Int) (ok:Bool):List HP:=[Pt b5 (.cells #[.string wn] 36),Pt b6 (.cells #[.int .i64 nu] 3),Pt b7 (.cells #[.int .i64 tk] 3),Pt b8 (.cells #[.int .i64 i] 3),Pt b9 (.cells #[.bool ok] 4)]
def JF (b5 b6 b7 b8 b9:Nat) (wn:ByteArray) (nu tk:Int) (pre:List (Nat×Lf)):HP:=fun h=>(∀x ∈ pre,idq x.2 wn nu tk=false)∧Sep (JFL b5 b6 b7 b8 b9 wn nu tk 0 false) h
def JFx (b5 b6 b7 b8 b9:Nat) (wn:ByteArray) (nu tk:Int) (pre:List (Nat×Lf)):HP:=fun h=>∃q:List (Nat×Lf)×(Nat×Lf),(pre=q.1++[q.2]∧(∀x ∈ q.1,idq x.2 wn nu tk=false)∧idq q.2.2 wn nu tk=true)∧Sep (JFL b5 b6 b7 b8 b9 wn nu tk (q.2.1:Int) true) h
theorem bkw_none {ls:List Lf} {wn:ByteArray} {nu tk:Int}:∀m,(∀x ∈ bkw ls m,idq x.2 wn nu tk=false)→lfind ls wn nu tk m=none
 | 0,_=>rfl
 | m+1,h=>by
  rw [lfind]
  rw [bkw] at h
  cases hx:ls[m]? with
  | none=>rw [hx] at h;exact bkw_none m h
  | some x=>
   rw [hx] at h
   dsimp only at h ⊢
   rw [if_neg (by simp [h (m,x) (by simp)])]
   exact bkw_none m fun y hy=>h y (by simp [hy])
theorem bkw_some {ls:List Lf} {wn:ByteArray} {nu tk:Int}:∀(m:Nat) (pre:List (Nat×Lf)) (p:Nat×Lf),pre++[p] <+: bkw ls m→(∀x ∈ pre,idq x.2 wn nu tk=false)→idq p.2 wn nu tk=true→lfind ls wn nu tk m=some p.1
 | 0,pre,p,h,_,_=>by
  obtain ⟨t,ht⟩:=h
  simp [bkw] at ht
 | m+1,pre,p,h,h0,h1=>by
  rw [lfind]
  rw [bkw] at h
  cases hx:ls[m]? with
  | none=>rw [hx] at h;exact bkw_some m pre p h h0 h1
  | some x=>
   rw [hx] at h
   dsimp only at h ⊢
   obtain ⟨t,ht⟩:=h
   cases pre with
   | nil=>
    simp only [List.nil_append,List.cons_append,List.cons.injEq] at ht
    obtain ⟨rfl,_⟩:=ht
    rw [if_pos h1]
   | cons a pre=>
    simp only [List.cons_append,List.cons.injEq] at ht
    obtain ⟨rfl,ht⟩:=ht
    have:=h0 (m,x) (by simp)
    rw [if_neg (by simp only at this;simp [this])]
    exact bkw_some m pre p ⟨t,by simpa using ht⟩ (fun y hy=>h0 y (by simp [hy])) h1
def fndP (r:Option Nat):Value:=.tuple #[.int .i64 ((r.getD 0:Nat):Int),.bool r.isSome]
theorem idq_id (x:Lf) (wn:ByteArray) (nu tk:Int):idq x wn nu tk=decide (x.e.id=⟨wn,nu,tk⟩):=by
 rw [Bool.eq_iff_iff]
 simp [idq,En.id]
theorem eqId (a b:Idn):eqC eqS 20 151 a.v b.v=some (decide (a=b)):=by
 rw [show eqC eqS 20 151 a.v b.v=some ((a.who.toList == b.who.toList) && ((a.nu == b.nu) && ((a.tk == b.tk) && true))) from rfl]
 congr 1
 obtain ⟨a1,a2,a3⟩:=a
 obtain ⟨b1,b2,b3⟩:=b
 simp only [beqSw,beqIw,Idn.mk.injEq]
 rw [Bool.eq_iff_iff];simp
set_option maxHeartbeats 1000000 in
theorem lgFind_ok (b:Nat) (ls:List Lf) (wn:ByteArray) (nu tk:Int) (hl:ls.length≤1099511627776):Enters 43∧Spec prog 43 #[.pointer (some ⟨b,0,none⟩),.string wn,.int .i64 nu,.int .i64 tk] [LgF b ls] []
  (RetV (fndP (lfind ls wn nu tk ls.length))):=by
 refine ⟨enters_of func43 (by kernel_rfl) rfl,Wb (vs:=[_,_,_,_]) func43 rfl ntmps43 rfl fun G w hp=>?_⟩
 repeat' (first|refine ZC ?_|refine ZH (fun b=>?_)|refine ZA (lgAll_ok _ ls) (fun _ _=>?_)|refine ZA (backward_ok _ _ _) (fun _ _=>?_)|fail)
 rename_i b5 b6 b7 b8 q _ bb _
 obtain ⟨o,cap⟩:=q
 generalize b=b9
 refine ZO (r:=JF b5 b6 b7 b8 b9 wn nu tk []) (Lx:=JFL b5 b6 b7 b8 b9 wn nu tk 0 false) (fun h hh=>⟨fun x hx=>(by cases hx),hh⟩) ?_
 refine k_range2 (α:=Nat×Lf) (enc1:=ixv) (enc2:=lfv2) (xs:=bkw ls ls.length) (JF b5 b6 b7 b8 b9 wn nu tk) (JFx b5 b6 b7 b8 b9 wn nu tk) (backward_iter bb o cap ls hl) ?_ ?_ ?_
 ·intro lr l pre e hpre G w0 hp0
  obtain ⟨i,x⟩:=e
  have n1:=identity_ok x.e
  refine Zq (X:=Unit) (Lx:=fun _=>JFL b5 b6 b7 b8 b9 wn nu tk 0 false) (p:=fun _=>∀x ∈ pre,idq x.2 wn nu tk=false) (r:=JF b5 b6 b7 b8 b9 wn nu tk pre) (.there .here) (fun h hh=>⟨(),hh.1,hh.2⟩) (fun _ hall=>?_)
  have hq:=eqId x.e.id ⟨wn,nu,tk⟩
  rw [←idq_id] at hq
  cases hi:idq x wn nu tk with
  | true=>
   rw [hi] at hq
   repeat' (first|refine ZC ?_|refine ZH (fun b=>?_)|refine ZK (n1) (fun _ _=>?_)|refine k_beg ?_|refine r_seq (b:=true) ?_ (he:=hq)|refine ZI 4 [] [(0,0),(1,0),(3,0),(4,0),(5,0),(6,0),(2,4),(7,0)] [] ?_|fail)
   refine ZO (Lx:=JFL b5 b6 b7 b8 b9 wn nu tk (i:Int) true) (r:=JFx b5 b6 b7 b8 b9 wn nu tk (pre++[(i,x)])) (fun h hh=>⟨(pre,(i,x)),⟨rfl,hall,hi⟩,hh⟩) ?_
   exact k_rr
  | false=>
   rw [hi] at hq
   repeat' (first|refine ZC ?_|refine ZH (fun b=>?_)|refine ZK (n1) (fun _ _=>?_)|refine k_beg ?_|refine r_seq (b:=false) ?_ (he:=hq)|refine ZI 4 [] [(0,0),(1,0),(3,0),(4,0),(5,0),(6,0),(2,4),(7,0)] [] ?_|fail)
   refine ZO (Lx:=JFL b5 b6 b7 b8 b9 wn nu tk 0 false) (r:=JF b5 b6 b7 b8 b9 wn nu tk (pre++[(i,x)])) (fun h hh=>⟨fun y hy=>?_,hh⟩) ?_
   ·rcases List.mem_append.1 hy with hy|hy
    ·exact hall y hy
    ·simp at hy;subst hy;exact hi
   exact k_rn
 ·intro D
  refine Zq (X:=Unit) (Lx:=fun _=>JFL b5 b6 b7 b8 b9 wn nu tk 0 false) (p:=fun _=>∀x ∈ bkw ls ls.length,idq x.2 wn nu tk=false) (r:=JF b5 b6 b7 b8 b9 wn nu tk (bkw ls ls.length)) .here (fun h hh=>⟨(),hh.1,hh.2⟩) (fun _ hall=>?_)
  rw [bkw_none _ hall]
  repeat' (first|refine ZC ?_|fail)
  exact k_retM () rfl trivial
 ·intro D pre hpre
  refine w_open (X:=List (Nat×Lf)×(Nat×Lf)) (Lx:=fun q=>JFL b5 b6 b7 b8 b9 wn nu tk (q.2.1:Int) true) (r:=JFx b5 b6 b7 b8 b9 wn nu tk pre) .here (fun h hh=>hh) (fun q hq=>?_)
  obtain ⟨rfl,h1,h2⟩:=hq
  rw [bkw_some _ _ _ hpre h1 h2]
  exact w_retM () rfl trivial
def pre_eq (us ws:List Lf) (i:Nat):Prop:=∀j,j<i→us[j]? = ws[j]?
def without (h k:H):H:=fun c=>match k c with
 | some _=>none
 | none=>h c
theorem WW (h k:H):Sub (without h k) h:=fun c o e=>by
 unfold without at e
 split at e
 ·cases e
 ·exact e
theorem without_no {h k:H} {c:Nat} (e:k c=none):without h k c=h c:=by
 unfold without
 rw [e]
theorem without_dj (h k:H):Dj k (without h k):=fun c=>by
 unfold without
 cases k c with
 | none=>exact .inl rfl
 | some o=>exact .inr rfl
theorem Spec.lendL {P:Program} {f:FuncId} {args:Array Value} {F:List Pf} {A L:List HP} {post:Post} {g:Pf} (hr:∀h,Sep L h→g.p h) (s:Spec P f args (g::F) A post) :
  Spec P f args F (L++A) ⟨post.X,post.val,post.pure,fun _=>[],fun x=>L++post.R x⟩:=fun G w hp0 hs=>by
 obtain ⟨hp,hh,t⟩:=hs
 obtain ⟨h1,h2,d,s1,s2,hx,hR⟩:=YV t.r
 have dp1:Dj hp h1:=(t.d1.symm.sub s1).symm
 have pre:Sat G w (un hp h1) (g::F) A w:=⟨un hp h1,h2,In.un t.inp (t.inr.sub s1),t.inr.sub s2,t.ing,Zh.2 ⟨(t.d1.symm.sub s2).symm,d⟩,Zh.2 ⟨t.d2,t.d3.sub s1⟩,t.d3.sub s2,Sub.refl _,fun x hx'=>by
  rcases List.mem_cons.1 hx' with e|e
  ·subst e;exact x.m _ _ (ZN dp1) (hr _ hx)
  ·exact x.m _ _ (ZL _ _) (t.f x e),hR,Same.refl _⟩
 refine (s G w _ pre).mono ?_
 rintro e w' ⟨x,rfl,hx2,hp',hr',t'⟩
 have s3:Sub h1 hp':=(ZN dp1).trans t'.sub
 have d4:Dj h1 hr':=t'.d1.sub s3
 refine ⟨x,rfl,hx2,without hp' h1,un h1 hr',t'.inp.sub (WW _ _),In.un (t'.inp.sub s3) t'.inr,t'.ing,(Zh.2 ⟨without_dj _ _,(t'.d1.sub (WW _ _)).symm⟩).symm,t'.d2.sub (WW _ _),Zh.2 ⟨t'.d2.sub s3,t'.d3⟩,fun c o e=>?_,fun y hy=>(by cases hy),YI d4 (ZL _ _) (ZN d4) hx t'.r,t.same.trans t'.same⟩
 have e1:=t.sub c o e
 have e2:h1 c=none:=by
  rcases dp1 c with e3|e3
  ·rw [e1] at e3;cases e3
  ·exact e3
 rw [without_no e2]
 exact t'.sub c o (ZL _ _ c o e1)
theorem sep_oneL {r:HP} {h:H} (hh:Sep [r] h):∃k,Sub k h∧r k:=by
 obtain ⟨h1,h2,_,s1,_,hx,_⟩:=hh
 exact ⟨h1,s1,hx⟩
theorem Spec.lend {P:Program} {f:FuncId} {args:Array Value} {F:List Pf} {A:List HP} {post:Post} {r:HP} {g:Pf} (hr:∀h,r h→g.p h) (s:Spec P f args (g::F) A post) :
  Spec P f args F (r::A) ⟨post.X,post.val,post.pure,fun _=>[],fun x=>r::post.R x⟩:=
 Spec.lendL (L:=[r]) (fun h hh=>by
  obtain ⟨k,hs,hx⟩:=sep_oneL hh
  exact g.m _ _ hs (hr _ hx)) s
theorem lendE {f:FuncId} {args:Array Value} {F:List Pf} {A:List HP} {post:Post} {r:HP} {g:Pf} (hr:∀h,r h→g.p h) (s:Enters f∧Spec prog f args (g::F) A post) :
  Enters f∧Spec prog f args F (r::A) ⟨post.X,post.val,post.pure,fun _=>[],fun x=>r::post.R x⟩:=⟨s.1,s.2.lend hr⟩
theorem lendLE {f:FuncId} {args:Array Value} {F:List Pf} {A L:List HP} {post:Post} {g:Pf} (hr:∀h,Sep L h→g.p h) (s:Enters f∧Spec prog f args (g::F) A post) :
  Enters f∧Spec prog f args F (L++A) ⟨post.X,post.val,post.pure,fun _=>[],fun x=>L++post.R x⟩:=⟨s.1,s.2.lendL hr⟩
def allF (l:List Pf):Pf:=⟨fun h=>∀x ∈ l,x.p h,fun _ _ s hh x hx=>x.m _ _ s (hh x hx)⟩
theorem Spec.allF {P:Program} {f:FuncId} {args:Array Value} {F l:List Pf} {A:List HP} {post:Post} (s:Spec P f args (l++F) A post):Spec P f args (allF l::F) A post:=fun G w hp hs=>
 (s G w hp (hs.facts fun hp hF x hx=>by
  rcases List.mem_append.1 hx with h|h
  ·exact hF (Go.Proofs.YtcjfciifhdfjkaaGreatDoor.allF l) List.mem_cons_self x h
  ·exact hF x (List.mem_cons_of_mem _ h)))
theorem row_sl {α:Type} {T sz:Nat} {f:α→List Value} {o:Option Addr} {m cap:Nat} {xs:List Value} {es:List α} (hx:xs=es.flatMap f) (hm:m=es.length) {h:H} (hh:Row T sz o m cap xs h):(Sl T f o cap es).p h:=by
 subst hx hm
 rcases hh with ⟨rfl,h3,rfl,h4⟩|⟨bb,rest,fz,rfl,hb,hxl,hcl,hmc,hfz⟩
 ·have h5:es=[]:=List.eq_nil_of_length_eq_zero h3
  exact ⟨by rw [h5];exact Nat.le_refl _,.inl h5⟩
 ·exact ⟨hmc,.inr ⟨bb,_,(T,fz),[],rest,rfl,hb,by simp⟩⟩
theorem lg_f {b:Nat} {ls:List Lf} {h:H} (hh:Lg b ls h):(LgF b ls).p h:=by
 obtain ⟨q,-,h1,h2,d,s1,s2,hx,k1,k2,d',t1,t2,hy,-⟩:=hh
 exact ⟨q,s1 _ _ hx,Pf.m _ _ _ (t1.trans s2) (row_sl rfl rfl hy)⟩
def dcf (d:Dc):List Value:=[.int .i64 d.rd,.int .i64 d.at',.int .i64 d.c.kind,.string d.c.who,.int .i64 d.c.nu,.int .i64 d.c.place,.int .i64 d.c.old.ch,.string d.c.old.tg,.string d.c.old.tx,.int .i64 d.c.old.us,.int .i64 d.c.oldAt,.int .i64 d.c.new.ch,.string d.c.new.tg,.string d.c.new.tx,.int .i64 d.c.new.us,.int .i64 d.c.newAt,.int .i64 d.a.k,.string d.a.t,.int .i64 d.ru]
def Dc.v (d:Dc):Value:=.agg #[.int .i64 d.rd,.int .i64 d.at',.int .i64 d.c.kind,.string d.c.who,.int .i64 d.c.nu,.int .i64 d.c.place,.int .i64 d.c.old.ch,.string d.c.old.tg,.string d.c.old.tx,.int .i64 d.c.old.us,.int .i64 d.c.oldAt,.int .i64 d.c.new.ch,.string d.c.new.tg,.string d.c.new.tx,.int .i64 d.c.new.us,.int .i64 d.c.newAt,.int .i64 d.a.k,.string d.a.t,.int .i64 d.ru]
def Dc.z:Dc:=⟨0,0,⟨0,⟨#[]⟩,0,0,Ou.z,0,Ou.z,0⟩,⟨0,⟨#[]⟩⟩,0⟩
theorem dcf_len (d:Dc):(dcf d).length=19:=rfl
theorem cqfs_len (l:List Cq):(l.flatMap cqf).length=l.length * 14:=Za (f:=cqf) (sz:=14) (fun _=>rfl) l
abbrev Bq:=(Option Addr×Nat)×(Option Addr×Nat)
abbrev BkL (T b:Nat) (B:Bk) (q:Bq):List HP:=[Pt b (.cells #[.int .i64 B.rd,.int .i64 B.si,.slice q.1.1 B.dn.length q.1.2,.slice q.2.1 B.op.length q.2.2] T),Row 44 19 q.1.1 B.dn.length q.1.2 (B.dn.flatMap dcf),Row 40 14 q.2.1 B.op.length q.2.2 (B.op.flatMap cqf)]
def BkR (T b:Nat) (B:Bk):HP:=fun h=>∃q,True∧Sep (BkL T b B q) h
def BkF (T b:Nat) (B:Bk):Pf:=⟨fun h=>∃q:Bq,(Blk b (.cells #[.int .i64 B.rd,.int .i64 B.si,.slice q.1.1 B.dn.length q.1.2,.slice q.2.1 B.op.length q.2.2] T)).p h∧(Sl 44 dcf q.1.1 q.1.2 B.dn).p h∧(Sl 40 cqf q.2.1 q.2.2 B.op).p h,
 fun _ _ s ⟨q,h1,h2,h3⟩=>⟨q,Pf.m _ _ _ s h1,Pf.m _ _ _ s h2,Pf.m _ _ _ s h3⟩⟩
theorem bk_f {T b:Nat} {B:Bk} (h:H) (hh:BkR T b B h):(BkF T b B).p h:=by
 obtain ⟨q,-,h1,h2,d,s1,s2,hx,k1,k2,d',t1,t2,hy,l1,l2,d2,u1,u2,hz,-⟩:=hh
 exact ⟨q,s1 _ _ hx,Pf.m _ _ _ (t1.trans s2) (row_sl rfl rfl hy),Pf.m _ _ _ (u1.trans (t2.trans s2)) (row_sl rfl rfl hz)⟩
theorem bkL_f {T b:Nat} {B:Bk} {q:Bq} (h:H) (hh:Sep (BkL T b B q) h):(BkF T b B).p h:=bk_f h ⟨q,trivial,hh⟩
section
theorem k_bk {T b:Nat} {B:Bk} (t:∀q,Wk n C k Q E F (BkL T b B q++R0)) (hs:Sel (BkR T b B) R R0:=by (repeat (first|exact Sel.here|apply Sel.there));first|done|fail):Wk n C k Q E F R:=
 Zq (X:=Bq) (Lx:=fun q=>BkL T b B q) (p:=fun _=>True) (r:=BkR T b B) hs (fun _h hh=>hh) (fun q _=>t q)
theorem Y4 {T b m1 m2:Nat} {B:Bk} {rd si:Int} {xs ys:List Value} {o p:Option Addr} {c1 c2:Nat} (t:Wk n C k Q E F (BkR T b B::R0)) (h1:rd=B.rd) (h2:si=B.si) (hm:m1=B.dn.length) (hx:xs=B.dn.flatMap dcf) (hm2:m2=B.op.length) (hy:ys=B.op.flatMap cqf)
  (hs:Sels [Pt b (.cells #[.int .i64 rd,.int .i64 si,.slice o m1 c1,.slice p m2 c2] T),Row 44 19 o m1 c1 xs,Row 40 14 p m2 c2 ys] R R0:=by (repeat (first|exact Sels.nil|exact Sel.here|apply Sel.there|apply Sels.cons));first|done|fail):Wk n C k Q E F R:=by
 subst h1 h2 hm hx hm2 hy
 exact ZO (fun h hh=>⟨((o,c1),(p,c2)),trivial,hh⟩) t hs
theorem Ye {T b:Nat} {B:Bk} (t:∀q:Bq,Wk n C k Q E (Blk b (.cells #[.int .i64 B.rd,.int .i64 B.si,.slice q.1.1 B.dn.length q.1.2,.slice q.2.1 B.op.length q.2.2] T)::Sl 44 dcf q.1.1 q.1.2 B.dn::Sl 40 cqf q.2.1 q.2.2 B.op::F) R) (hs:Sel (BkF T b B) F F0:=by (repeat (first|exact Sel.here|apply Sel.there));first|done|fail):Wk n C k Q E F R:=
 Zm (X:=Bq) (Fx:=fun q=>[Blk b (.cells #[.int .i64 B.rd,.int .i64 B.si,.slice q.1.1 B.dn.length q.1.2,.slice q.2.1 B.op.length q.2.2] T),Sl 44 dcf q.1.1 q.1.2 B.dn,Sl 40 cqf q.2.1 q.2.2 B.op]) (p:=fun _=>True) (f:=BkF T b B) hs (fun h ⟨q,h1,h2,h3⟩=>⟨q,trivial,fun f hf=>by
  simp only [List.mem_cons,List.not_mem_nil,or_false] at hf
  rcases hf with rfl|rfl|rfl
  ·exact h1
  ·exact h2
  ·exact h3⟩) (fun q _=>t q)
end
abbrev bkT:Nat:=83
abbrev moT:Nat:=106
abbrev dcT:Nat:=44
abbrev cqT:Nat:=40
abbrev RowD (q:Option Addr×Nat) (l:List Dc):HP:=Row 44 19 q.1 l.length q.2 (l.flatMap dcf)
abbrev RowQ (q:Option Addr×Nat) (l:List Cq):HP:=Row 40 14 q.1 l.length q.2 (l.flatMap cqf)
abbrev SlD (q:Option Addr×Nat) (l:List Dc):Pf:=Sl 44 dcf q.1 q.2 l
abbrev SlQ (q:Option Addr×Nat) (l:List Cq):Pf:=Sl 40 cqf q.1 q.2 l
def Cq.v (c:Cq):Value:=.agg #[.int .i64 c.kind,.string c.who,.int .i64 c.nu,.int .i64 c.place,.int .i64 c.old.ch,.string c.old.tg,.string c.old.tx,.int .i64 c.old.us,.int .i64 c.oldAt,.int .i64 c.new.ch,.string c.new.tg,.string c.new.tx,.int .i64 c.new.us,.int .i64 c.newAt]
def eqq (a b:Cq):Bool:=(a.kind == b.kind) && ((a.who.toList == b.who.toList) && ((a.nu == b.nu) && ((a.place == b.place) && (((a.old.ch == b.old.ch) && ((a.old.tg.toList == b.old.tg.toList) && ((a.old.tx.toList == b.old.tx.toList) && ((a.old.us == b.old.us) && true)))) && ((a.oldAt == b.oldAt) && (((a.new.ch == b.new.ch) && ((a.new.tg.toList == b.new.tg.toList) && ((a.new.tx.toList == b.new.tx.toList) && ((a.new.us == b.new.us) && true)))) && ((a.newAt == b.newAt) && true)))))))
theorem eqq_iff (a b:Cq):eqq a b=decide (a=b):=by
 obtain ⟨a1,a2,a3,a4,⟨a5,a6,a7,a8⟩,a9,⟨a10,a11,a12,a13⟩,a14⟩:=a
 obtain ⟨b1,b2,b3,b4,⟨b5,b6,b7,b8⟩,b9,⟨b10,b11,b12,b13⟩,b14⟩:=b
 unfold eqq
 simp only [beqS,beqI,Cq.mk.injEq,Ou.mk.injEq]
 rw [Bool.eq_iff_iff]
 simp [and_assoc]
theorem equalC_ok (a b:Cq):Enters 10∧Spec prog 10 #[a.v,b.v] [] [] (RetV (.bool (decide (a=b)))):=by
 rw [←eqq_iff]
 generalize b=b' at *
 refine ZE [_,_] func10 ntmps10 fun G w hp=>?_
 repeat' (first|refine ZC ?_|refine ZH (fun b=>?_)|refine l_seq ?_|fail)
 exact ZD () rfl trivial
theorem eqD (a b:Dc):eqC eqS 20 44 a.v b.v=some (decide (a=b)):=by
 rw [show eqC eqS 20 44 a.v b.v=some ((a.rd == b.rd) && ((a.at' == b.at') && (eqq a.c b.c && (((a.a.k == b.a.k) && ((a.a.t.toList == b.a.t.toList) && true)) && ((a.ru == b.ru) && true))))) from rfl]
 congr 1
 rw [eqq_iff]
 obtain ⟨a1,a2,a3,⟨a4,a5⟩,a6⟩:=a
 obtain ⟨b1,b2,b3,⟨b4,b5⟩,b6⟩:=b
 simp only [beqS,beqI,Dc.mk.injEq,Ac.mk.injEq]
 rw [Bool.eq_iff_iff];simp [and_assoc]
def mtv (m:Mt):Value:=.agg #[.int .i64 m.1,.string m.2.who,.int .i64 m.2.nu,.int .i64 m.2.tk,.int .i64 m.2.o.ch,.string m.2.o.tg,.string m.2.o.tx,.int .i64 m.2.o.us]
theorem eqMt (a b:Mt):eqC eqS 20 87 (mtv a) (mtv b)=some (decide (a=b)):=by
 rw [show eqC eqS 20 87 (mtv a) (mtv b)=some ((a.1 == b.1) && (((a.2.who.toList == b.2.who.toList) && ((a.2.nu == b.2.nu) && ((a.2.tk == b.2.tk) && (((a.2.o.ch == b.2.o.ch) && ((a.2.o.tg.toList == b.2.o.tg.toList) && ((a.2.o.tx.toList == b.2.o.tx.toList) && ((a.2.o.us == b.2.o.us) && true)))) && true)))) && true)) from rfl]
 congr 1
 obtain ⟨a1,⟨a2,a3,a4,⟨a5,a6,a7,a8⟩⟩⟩:=a
 obtain ⟨b1,⟨b2,b3,b4,⟨b5,b6,b7,b8⟩⟩⟩:=b
 simp only [beqS,beqI,Prod.mk.injEq,En.mk.injEq,Ou.mk.injEq]
 rw [Bool.eq_iff_iff];simp
theorem VE:KeyOK 87 mtv where
 eq a b w:=equal_ok (t:=87) (x:=mtv a) (y:=mtv b) (eqMt a b) w
 chk a em w:=ckC_ok Y3 em 20 10000 _ _ w (by omega) rfl
 bits a:=by simp [mtv,Instr.sameBits,beq_toListBytes]
 now:=⟨_,rfl,fun a b=>.inl rfl⟩
def pre_eP {α:Type} (us ws:List α) (i:Nat):Prop:=∀j,j<i→us[j]? = ws[j]?
theorem eq_of_peP {α:Type} {us ws:List α} (hl:us.length=ws.length) (h:pre_eP us ws us.length):us=ws:=by
 apply List.ext_getElem?
 intro j
 by_cases hj:j<us.length
 ·exact h j hj
 ·rw [List.getElem?_eq_none (by omega),List.getElem?_eq_none (by omega)]
theorem cloneD_ok (o:Option Addr) (cap:Nat) (us:List Dc) (hl:us.length≤1000000):Enters 29∧Spec prog 29 #[.slice o us.length cap] [Sl 44 dcf o cap us] []
  ⟨Option Addr×Nat,fun q=>.slice q.1 us.length q.2,fun _=>True,fun _=>[],fun q=>[Row 44 19 q.1 us.length q.2 (us.flatMap dcf)]⟩:=by
 refine ZE [_] func29 ntmps29 fun G w hp=>?_
 cases o with
 | none=>
  refine Zm (X:=Unit) (p:=fun _=>us=[]) (Fx:=fun _=>[Sl 44 dcf none cap us]) (f:=Sl 44 dcf none cap us) Sel.here (fun h hh=>⟨(),?_,fun g hg=>by simp only [List.mem_cons,List.not_mem_nil,or_false] at hg;subst hg;exact hh⟩) (fun _ hb=>?_)
  ·rcases hh.2 with h1|⟨_,_,_,_,_,h1,_⟩
   ·exact h1
   ·cases h1
  subst hb
  repeat' (first|refine ZC ?_|refine ZH (fun b=>?_)|refine ZM ?_|(refine ZG (fun hc=>?_) (fun hc=>?_)<;>(try simp at hc))|(refine ZB (fun hc=>?_) (fun hc=>?_)<;>(try simp at hc)))
  refine ZO (Lx:=[]) (r:=Row 44 19 none 0 0 []) (fun h _=>Zb _ _ h) ?_
  exact ZD (none,0) rfl trivial
 | some a=>
  repeat' (first|refine ZC ?_|refine ZH (fun b=>?_)|refine ZM ?_|refine l_shut (row_zero (sz:=19)) ?_|refine l_appF (es:=us) (fun o' cap'=>?_)|(refine ZG (fun hc=>?_) (fun hc=>?_)<;>(try simp at hc))|(refine ZB (fun hc=>?_) (fun hc=>?_)<;>(try simp at hc)))
  rw [Nat.zero_add]
  exact ZD (o',cap') rfl trivial
theorem cloneQ_ok (o:Option Addr) (cap:Nat) (us:List Cq) (hl:us.length≤2000000000):Enters 60∧Spec prog 60 #[.slice o us.length cap] [Sl 40 cqf o cap us] []
  ⟨Option Addr×Nat,fun q=>.slice q.1 us.length q.2,fun _=>True,fun _=>[],fun q=>[Row 40 14 q.1 us.length q.2 (us.flatMap cqf)]⟩:=by
 refine ZE [_] func60 ntmps60 fun G w hp=>?_
 cases o with
 | none=>
  refine Zm (X:=Unit) (p:=fun _=>us=[]) (Fx:=fun _=>[Sl 40 cqf none cap us]) (f:=Sl 40 cqf none cap us) Sel.here (fun h hh=>⟨(),?_,fun g hg=>by simp only [List.mem_cons,List.not_mem_nil,or_false] at hg;subst hg;exact hh⟩) (fun _ hb=>?_)
  ·rcases hh.2 with h1|⟨_,_,_,_,_,h1,_⟩
   ·exact h1
   ·cases h1
  subst hb
  repeat' (first|refine ZC ?_|refine ZH (fun b=>?_)|refine ZM ?_|(refine ZG (fun hc=>?_) (fun hc=>?_)<;>(try simp at hc))|(refine ZB (fun hc=>?_) (fun hc=>?_)<;>(try simp at hc)))
  refine ZO (Lx:=[]) (r:=Row 40 14 none 0 0 []) (fun h _=>Zb _ _ h) ?_
  exact ZD (none,0) rfl trivial
 | some a=>
  repeat' (first|refine ZC ?_|refine ZH (fun b=>?_)|refine ZM ?_|refine l_shut (row_zero (sz:=14)) ?_|refine l_appF (es:=us) (fun o' cap'=>?_)|(refine ZG (fun hc=>?_) (fun hc=>?_)<;>(try simp at hc))|(refine ZB (fun hc=>?_) (fun hc=>?_)<;>(try simp at hc)))
  rw [Nat.zero_add]
  exact ZD (o',cap') rfl trivial
variable {t2:TypeId}
section
variable {b:Nat} {td:TypeId}
end
theorem pos_iff (a k:Int):posF a k=true↔((a=1∨a=2)∧(k=2∨k=3))∨(a=3∧(k=3∨k=4))∨(a=4∧k=4)∨(a=5∧(k=2∨k=3∨k=4)):=by
 unfold posF
 split
 ·rw [decide_eq_true_iff];omega
 split
 ·rw [decide_eq_true_iff];omega
 split
 ·rw [decide_eq_true_iff];omega
 split
 ·rw [decide_eq_true_iff];omega
 ·constructor
  ·intro h;cases h
  ·omega
set_option maxHeartbeats 4000000 in
theorem Yd (a k:Int):Enters 79∧Spec prog 79 #[.int .i64 a,.int .i64 k] [] [] (RetV (.bool (posF a k))):=by
 have hpz:=pos_iff a k
 refine ZE [_,_] func79 ntmps79 fun G w hp=>?_
 repeat' (first|refine ZC ?_|(refine ZG (fun hc=>?_) (fun hc=>?_)<;>(try simp at hc)<;>(try omega))|(refine ZB (fun hc=>?_) (fun hc=>?_)<;>(try simp at hc)<;>(try omega))|fail)
 all_goals refine ZD () ?_ trivial
 all_goals show Value.bool _=Value.bool _
 all_goals congr 1
 all_goals rw [Bool.eq_iff_iff,hpz]
 all_goals first|(simp;omega)|omega
theorem eqO5 (a b:Ou):eqC eqS 20 38 a.v b.v=some (decide (a=b)):=by
 rw [show eqC eqS 20 38 a.v b.v=some ((a.ch == b.ch) && ((a.tg.toList == b.tg.toList) && ((a.tx.toList == b.tx.toList) && ((a.us == b.us) && true)))) from rfl]
 congr 1
 obtain ⟨a1,a2,a3,a4⟩:=a
 obtain ⟨b1,b2,b3,b4⟩:=b
 simp only [beqS,beqI,Ou.mk.injEq]
 rw [Bool.eq_iff_iff];simp
theorem inTk_ok (z:Int):Enters 63∧Spec prog 63 #[.int .i64 z] [] [] (RetV (.bool (tkF z))):=by
 generalize hr:tkF z=r
 unfold tkF at hr
 refine ZE [_] func63 ntmps63 fun G w hp=>?_
 repeat' (first|refine ZC ?_|(refine ZG (fun hc=>?_) (fun hc=>?_)<;>(try simp at hc)<;>(try omega))|fail)
 all_goals
  refine ZD () ?_ trivial
  subst hr
  show Value.bool _=Value.bool _
  congr 1
  simp
  omega
def q1 (c:Cq):Bool:=lvalid c.who.data.toList && decide (0≤c.nu∧c.nu≤1048576) && tkF c.oldAt && tkF c.newAt
def q2 (c:Cq):Bool:=if c.kind=4 then decide (c.place = -1∧c.old=Ou.z∧c.oldAt=0) else decide (0≤c.place∧c.place<100000∧ochk c.old=0)
def q3 (c:Cq):Bool:=if c.kind=2 then decide (c.new=Ou.z∧c.newAt=0) else decide (ochk c.new=0)
theorem qok_q (c:Cq):qok c=(q1 c && q2 c && q3 c):=rfl
set_option maxHeartbeats 2000000 in
theorem UR (c:Cq) (hw:c.who.size≤1099511627776):Enters 30∧Spec prog 30 #[cqa c] [] [] (RetV (.int .i64 (qchk c))):=by
 have n1:=Zt c.who hw
 have n2:=inTk_ok c.oldAt
 have n3:=inTk_ok c.newAt
 have n4:=YK c.old
 have n5:=YK c.new
 obtain ⟨r1,hr1⟩:∃r,q1 c=r:=⟨_,rfl⟩
 have hq1:=hr1
 unfold q1 at hq1
 obtain ⟨r2,hr2⟩:∃r,q2 c=r:=⟨_,rfl⟩
 have hq2:=hr2
 unfold q2 at hq2
 obtain ⟨r3,hr3⟩:∃r,q3 c=r:=⟨_,rfl⟩
 have hq3:=hr3
 unfold q3 at hq3
 have hres:qchk c=if c.kind<1∨4<c.kind then 11 else if r1 && r2 && r3 then 0 else 3:=by
  unfold qchk
  rw [qok_q,hr1,hr2,hr3]
 clear hr1 hr2 hr3
 generalize lvalid c.who.data.toList=lv at *
 generalize tkF c.oldAt=ta at *
 generalize tkF c.newAt=tb at *
 rw [hres]
 by_cases hk:c.kind<1∨4<c.kind
 ·rw [if_pos hk]
  refine ZE [_] func30 ntmps30 fun G w hp=>?_
  repeat' (first|refine ZC ?_|refine ZH (fun b=>?_)|(refine ZG (fun hc=>?_) (fun hc=>?_)<;>(try simp at hc)<;>(try omega))|(refine ZB (fun hc=>?_) (fun hc=>?_)<;>(try simp at hc)<;>(try omega))|fail)
  all_goals exact ZD () rfl trivial
 ·rw [if_neg hk]
  refine ZE [_] func30 ntmps30 fun G w hp=>?_
  refine XJ (Y:=Nat×{r:Bool // r1=r}) 4 (fun y=>[(1,.pointer (some ⟨y.1,0,none⟩)),(4,.bool y.2.1)]) (fun _=>[]) (fun y=>[Pt y.1 (.cells (cqf c).toArray 40)]) ?_ ?_
  ·rintro ⟨bc,_,rfl⟩
   refine XJ (Y:={r:Bool // (r1 && r2)=r}) 1 (fun y=>[(1,.pointer (some ⟨bc,0,none⟩)),(4,.bool y.1)]) (fun _=>[]) (fun y=>[Pt bc (.cells (cqf c).toArray 40)]) ?_ ?_
   ·rintro ⟨_,rfl⟩
    clear n1 n2 n3 n4 hq1 hq2
    generalize (r1 && r2)=r12 at *
    repeat' (first|refine l_seq (b:=decide (c.new=Ou.z)) ?_ (he:=eqO5 c.new Ou.z)|refine ZC ?_|refine ZA (n5) (fun _ _=>?_)|(refine ZG (fun hc=>?_) (fun hc=>?_)<;>(try simp at hc)<;>(try omega))|(refine ZB (fun hc=>?_) (fun hc=>?_)<;>(try simp at hc)<;>(try omega))|fail)
    all_goals (refine ZD () ?_ trivial;show Value.int _ _=Value.int _ _;congr 1;subst hq3;simp_all)
   ·intro hx2
    clear n1 n2 n3 n5 hq1 hq3
    repeat' (first|refine k_to hx2 ⟨_,?_⟩ ⟨rfl,rfl,trivial⟩|refine l_seq (b:=decide (c.old=Ou.z)) ?_ (he:=eqO5 c.old Ou.z)|refine ZC ?_|refine ZA (n4) (fun _ _=>?_)|(refine ZG (fun hc=>?_) (fun hc=>?_)<;>(try simp at hc)<;>(try omega))|(refine ZB (fun hc=>?_) (fun hc=>?_)<;>(try simp at hc)<;>(try omega))|fail)
    all_goals (clear hx2;subst hq2;rw [Bool.eq_iff_iff];first|(simp_all;done)|(simp_all;omega))
  ·intro hx
   clear n4 n5 hq2 hq3
   repeat' (first|refine Wf ?_|refine k_to hx (_,⟨_,?_⟩) ⟨rfl,rfl,trivial⟩|refine ZC ?_|refine ZH (fun b=>?_)|refine ZA (n1) (fun _ _=>?_)|refine Yh n2 (fun _ _=>?_)|refine Yh n3 (fun _ _=>?_)|(refine ZG (fun hc=>?_) (fun hc=>?_)<;>(try simp at hc)<;>(try omega))|(refine ZB (fun hc=>?_) (fun hc=>?_)<;>(try simp at hc)<;>(try omega))|fail)
   all_goals (clear hx;subst hq1;rw [Bool.eq_iff_iff];first|(simp_all;done)|(simp_all;omega))
theorem dcounts_ok (c:Cq):Enters 31∧Spec prog 31 #[cqa c] [] [] (RetV (.bool (cnts c))):=by
 generalize hr:cnts c=r
 unfold cnts at hr
 refine ZE [_] func31 ntmps31 fun G w hp=>?_
 repeat' (first|refine ZC ?_|refine ZH (fun b=>?_)|(refine ZG (fun hc=>?_) (fun hc=>?_)<;>(try simp at hc)<;>(try omega))|fail)
 all_goals (refine ZD () ?_ trivial;subst hr;show Value.bool _=Value.bool _;congr 1;simp_all [isE])
theorem dwould_ok (c:Cq):Enters 37∧Spec prog 37 #[cqa c] [] [] (RetV (wou c).v):=by
 refine ZE [_] func37 ntmps37 fun G w hp=>?_
 repeat' (first|refine ZC ?_|refine ZH (fun b=>?_)|fail)
 exact ZD () rfl trivial
theorem WC (c:Cq):Enters 32∧Spec prog 32 #[cqa c] [] [] (RetV (mtv (mtr c))):=by
 have n1:=dwould_ok c
 by_cases hk:c.kind=4
 ·rw [show mtr c=(-1,wou c) from if_neg (by simp [hk])]
  refine ZE [_] func32 ntmps32 fun G w hp=>?_
  repeat' (first|refine ZC ?_|refine ZH (fun b=>?_)|refine ZA (n1) (fun _ _=>?_)|(refine ZB (fun hc=>?_) (fun hc=>?_)<;>(try simp at hc)<;>(try omega))|fail)
  all_goals exact ZD () rfl trivial
 ·rw [show mtr c=(c.place,En.z) from if_pos hk]
  refine ZE [_] func32 ntmps32 fun G w hp=>?_
  repeat' (first|refine ZC ?_|refine ZH (fun b=>?_)|(refine ZB (fun hc=>?_) (fun hc=>?_)<;>(try simp at hc)<;>(try omega))|fail)
  all_goals exact ZD () rfl trivial
theorem dpermit_ok (a:Ac) (c:Cq):Enters 61∧Spec prog 61 #[acV a,cqa c] [] [] (RetV (.int .i64 (permF a c))):=by
 have n1:=Yd a.k c.kind
 generalize hr:permF a c=r
 unfold permF at hr
 generalize posF a.k c.kind=pf at *
 refine ZE [_,_] func61 ntmps61 fun G w hp=>?_
 repeat' (first|refine ZC ?_|refine ZH (fun b=>?_)|refine ZA (n1) (fun _ _=>?_)|(refine ZG (fun hc=>?_) (fun hc=>?_)<;>(try simp at hc)<;>(try omega))|(refine ZB (fun hc=>?_) (fun hc=>?_)<;>(try simp at hc)<;>(try omega))|fail)
 all_goals (refine ZD () ?_ trivial;subst hr;show Value.int _ _=Value.int _ _;congr 1;simp_all [isE]<;>omega)
theorem mcounts_ok (c:Cq):Enters 77∧Spec prog 77 #[cqa c] [] [] (RetV (.bool (cnts c))):=by
 generalize hr:cnts c=r
 unfold cnts at hr
 refine ZE [_] func77 ntmps77 fun G w hp=>?_
 repeat' (first|refine ZC ?_|refine ZH (fun b=>?_)|(refine ZG (fun hc=>?_) (fun hc=>?_)<;>(try simp at hc)<;>(try omega))|fail)
 all_goals (refine ZD () ?_ trivial;subst hr;show Value.bool _=Value.bool _;congr 1;simp_all [isE])
section
variable {n:Nat} {C:Cx} {Q:Exit→Act→World→Prop} {E E':List (Nat×Value)} {F F' F1 Fs F0:List Pf} {R R' R0 Rs N N' A:List HP} {k k':List Fr} {ops l:List Oper} {L L':List (Nat×Nat)} {Tl:List Nat} {i d:Nat} {t ty0:TypeId} {x y:Operand} {pos:String} {aft:Array Edge} {gd:Option (Nat×Bool)} {α:Type} [DecidableEq α] {K:α→Value}
theorem bvD (o:Option Bool):(o.map bv).getD (.bool false) = .bool (o.getD false):=by cases o<;>rfl
theorem l_mgetB {kt et r:Nat} {rs te:TRow} {m:List (α×Bool)} (hk:KeyOK kt K) (a:α) (z:Bool) (ho:(mget a m).getD false=z) (nx:Wl n C ops.toArray k Q l ((d,.bool z)::E) F R) (hw:wantL ops E ⟨some d,.lookup t x y false,ty0,pos,aft,gd⟩=some true:=by rfl) (hn:Nat.blt d n=true:=by rfl)
  (hx:ev E x=some (.map (some r)):=by rfl) (hy:ev E y=some (K a):=by rfl) (hts:lookT tab t=some rs:=by rfl) (hrs:rs.k = .map kt et:=by rfl) (hte:lookT tab et=some te:=by rfl) (hzv:zval te=some (.bool false):=by rfl)
  (hs:Sel (Mp K bv r m) R R0:=by (repeat (first|exact Sel.here|apply Sel.there));first|done|fail):Wl n C ops.toArray k Q (⟨some d,.lookup t x y false,ty0,pos,aft,gd⟩::l) E F R:=
 l_mget (V:=bv) (zv:=.bool false) hk a (by rw [bvD,ho];exact nx) hw hn hx hy hts hrs hte hzv hs
theorem r_mgetB {kt et r:Nat} {rs te:TRow} {m:List (α×Bool)} (hk:KeyOK kt K) (a:α) (z:Bool) (ho:(mget a m).getD false=z) (nx:Wr n C ops k Q Tl Fs R L ((d,.bool z)::E) F N)
  (hop:nth ops i=some ⟨some d,.lookup t x y false,ty0,pos,aft,gd⟩:=by rfl) (hw:wantL ops E ⟨some d,.lookup t x y false,ty0,pos,aft,gd⟩=some true:=by rfl)
  (hx:ev E x=some (.map (some r)):=by rfl) (hy:ev E y=some (K a):=by rfl) (hts:lookT tab t=some rs:=by rfl) (hrs:rs.k = .map kt et:=by rfl) (hte:lookT tab et=some te:=by rfl) (hzv:zval te=some (.bool false):=by rfl)
  (hs:Sel (Mp K bv r m) R R0:=by (repeat (first|exact Sel.here|apply Sel.there));first|done|fail):Wr n C ops k Q Tl Fs R ((i,0)::L) E F N:=
 VU (V:=bv) (zv:=.bool false) hk a _ rfl (by rw [bvD,ho];exact nx) hop hw hx hy hts hrs hte hzv hs
end
section
variable {γ:Type}
def RQG (q:LR) (l:Nat) (G:H) (w0:World) (hp0:H) (Ft:γ→Pf) (Jt Jx:γ→HP):Exit→Act→World→Prop:=
 roundPost prog l fun e w'=>∃(b:Bool) (g:γ),e = .returned (.bool b)∧Sat G w0 hp0 (if b then [Ft g] else []) [if b then both (Pt l (.loop (rcd q .ready none))) (Jt g) else both (Pt l (.loop (rcd q .done (some .ret)))) (Jx g)] w'
theorem k_rnG {q:LR} {l:Nat} {r:Option Nat} {G:H} {w0:World} {hp0:H} {ds:List Deferred} {Ft:γ→Pf} {Jt Jx:γ→HP} (g:γ) (hs:Sels [Pt l (.loop (rcd q .busy none)),Jt g] R R0:=by (repeat (first|exact Sels.nil|exact Sel.here|apply Sel.there|apply Sels.cons));first|done|fail) (hF:EntF F [Ft g]:=by (repeat (first|exact trivial|exact Sel.here|apply Sel.there|apply EntF.cons));first|done|fail) (h:nf 1000 k=[]:=by rfl) :
  Wk n ⟨r,G,w0,hp0,ds⟩ k (RQG q l G w0 hp0 Ft Jt Jx) E F R:=fun a w ha hsat=>YQ 1000 k (by
 rw [h]
 have h1:=hsat.sels hs
 refine ⟨_,_,run_endRound none (h1.pt Sel.here),true,g,rfl,?_⟩
 have h2:=Zf (o':=.loop (rcd q .ready none)) h1
 exact ((h2.shut (x:=both _ _) fun _ hh=>hh).facts (F':=[Ft g]) hF.all).res fun _ hh=>YL (A:=[_]) hh)
theorem k_rrG {q:LR} {l:Nat} {r:Option Nat} {G:H} {w0:World} {hp0:H} {ds:List Deferred} {Ft:γ→Pf} {Jt Jx:γ→HP} (g:γ) (hs:Sels [Pt l (.loop (rcd q .busy none)),Jx g] R R0:=by (repeat (first|exact Sels.nil|exact Sel.here|apply Sel.there|apply Sels.cons));first|done|fail) (h:nf 1000 k = .c .ret::k':=by rfl) (hn:noR k'=true:=by rfl) :
  Wk n ⟨r,G,w0,hp0,ds⟩ k (RQG q l G w0 hp0 Ft Jt Jx) E F R:=Zz (fun a w ha hsat=>by
 have h1:=hsat.sels hs
 refine ⟨_,_,run_endRound (some .ret) (h1.pt Sel.here),false,g,rfl,?_⟩
 have h2:=Zf (o':=.loop (rcd q .done (some .ret))) h1
 exact ((h2.shut (x:=both _ _) fun _ hh=>hh).facts (F':=[]) (fun _ _ _ hx=>by cases hx)).res fun _ hh=>YL (A:=[_]) hh) h hn
def YPostG {α:Type} (FI:List α→γ→Pf) (I Ix:List α→γ→HP) (pre:List α) (e:α):Post:=⟨Bool×γ,fun b=>.bool b.1,fun _=>True,fun b=>if b.1 then [FI (pre++[e]) b.2] else [],fun b=>[if b.1 then I (pre++[e]) b.2 else Ix (pre++[e]) b.2]⟩
theorem yield_okG {α:Type} {FJ:List α→γ→Pf} {enc:α→Value} {q:LR} {l p:Nat} {J Jx:List α→γ→HP} {pre:List α} {gz:γ} {e:α} (hps:q.ps = #[p]) (hpn:p<n) (hag:∀a:Act,a.tmps=q.tmps→a.defers=[]→Agree n [] (look E) a)
  (hbody:∀G w0 hp0,Wk n ⟨some l,G,w0,hp0,[]⟩ [.c q.assign,.r l,.c q.body] (RQG q l G w0 hp0 (FJ (pre++[e])) (J (pre++[e])) (Jx (pre++[e]))) ((p,enc e)::E) (FJ pre gz::F) [Pt l (.loop (rcd q .ready none)),J pre gz]) :
  SpecV (.func (.yield l) #[] #[]) [enc e] [⟨fun h=>∀f ∈ F,f.p h,fun _ _ s h f hf=>f.m _ _ s (h f hf)⟩,FJ pre gz] [both (Pt l (.loop (rcd q .ready none))) (J pre gz)]
   (YPostG FJ (fun pre g=>both (Pt l (.loop (rcd q .ready none))) (J pre g)) (fun pre g=>both (Pt l (.loop (rcd q .done (some .ret)))) (Jx pre g)) pre e):=by
 intro G w hp hsat
 have h1:Sat G w hp (FJ pre gz::F) [both (Pt l (.loop (rcd q .ready none))) (J pre gz)] w:=hsat.facts fun hp hF f hf=>by
  rcases List.mem_cons.1 hf with rfl|hf
  ·exact hF _ (.tail _ (.head _))
  ·exact hF _ (List.mem_cons_self ..) f hf
 obtain ⟨_,h2⟩:=h1.open' (X:=Unit) (L:=fun _=>[Pt l (.loop (rcd q .ready none)),J pre gz]) fun _ hh=>⟨(),hh⟩
 have hl:=h2.pt Sel.here
 unfold CallsV OpRes
 have hy:=run_yield (P:=prog) (args:=#[enc e]) hl (by simp [rcd,hps])
 have hi:(invoke (.fn (.yield l) #[]) (#[]++[enc e].toArray)).run prog w=(Instr.yield l #[enc e]).run prog w:=by simp [invoke]
 simp only [hi,hy]
 refine roundIn_of_wpIn trivial ?_
 have ha:Agree n [] (look ((p,enc e)::E)) ({tmps:=((rcd q .ready none).params.zip #[enc e]).foldl (fun tmps (x:Tmp×Value)=>tmps.setIfInBounds x.1 x.2) (rcd q .ready none).tmps,defers:=[]}:Act):=by
  have:=(hag ⟨q.tmps,[]⟩ rfl rfl).put (d:=some p) (fun t ht=>by cases ht;exact hpn) (enc e)
  rw [Yn]
  simpa [rcd,hps,Act.put] using this
 have hb:=hbody G w hp _ w ha h2
 refine wpIn_mono (show q.assign.wpIn (fz (some l)) 0 prog (after (some l) [.r l,.c q.body] (RQG q l G w hp (FJ (pre++[e])) (J (pre++[e])) (Jx (pre++[e])))) _ w from hb) ?_
 rintro ex a1 w1 hx
 cases ex with
 | normal=>
  obtain ⟨w2,g1,g2⟩:=hx
  refine ⟨w2,g1,?_⟩
  have g3:q.body.wpIn (fz (some l)) 0 prog (after (some l) [] (RQG q l G w hp (FJ (pre++[e])) (J (pre++[e])) (Jx (pre++[e])))) a1 w2:=g2
  rw [UM] at g3
  refine wpIn_mono g3 (XR ?_)
  rintro e' w' ⟨b,g,rfl,hs'⟩
  exact ⟨(b,g),rfl,trivial,hs'⟩
 | _=>exact hx.elim
def IterG {α:Type} (gf:FuncId) (lb:List Value) (enc:α→Value) (xs:List α) (Fg:List Pf) (A:List HP):Prop:=
 ∀(γ:Type) (v:Value) (Y:Pf) (FI:List α→γ→Pf) (I Ix:List α→γ→HP) (g0:γ),(∀pre g e,pre++[e] <+: xs→SpecV v [enc e] [Y,FI pre g] [I pre g] (YPostG FI I Ix pre e))→
  Enters gf∧Spec prog gf (v::lb).toArray (Y::FI [] g0::Fg) (I [] g0::A) ⟨Option (List α)×γ,fun _=>.tuple #[],fun r=>∀pre,r.1=some pre→pre <+: xs,fun r=>(match r.1 with|none=>[FI xs r.2]|some _=>[]),fun r=>[match r.1 with|none=>I xs r.2|some pre=>Ix pre r.2]⟩
theorem k_rangeG {α:Type} {g:Operand} {p:Nat} {assign body:Code} {gf:FuncId} {lb:Array Value} {enc:α→Value} {xs:List α} {Fg:List Pf} {G:H} {w0:World} {hp0:H} {ds:List Deferred} (FJ:List α→γ→Pf) (J Jx:List α→γ→HP) (g0:γ) (hit:IterG gf lb.toList enc xs Fg A)
  (hbody:∀(q:LR) (l:Nat) (pre:List α) (gz:γ) (e:α),pre++[e] <+: xs→∀G w0 hp0,Wk n ⟨some l,G,w0,hp0,[]⟩ [.c assign,.r l,.c body] (RQG q l G w0 hp0 (FJ (pre++[e])) (J (pre++[e])) (Jx (pre++[e]))) ((p,enc e)::E) (FJ pre gz::F) [Pt l (.loop (rcd q .ready none)),J pre gz])
  (hdone:∀D g,Wk n ⟨none,G,w0,hp0,{target:=.collected D,args:=#[]}::ds⟩ k' Q E (FJ xs g::F) (J xs g::Pt D (.deferred (some []))::R'))
  (hstop:∀D pre g,pre <+: xs→Wret n ⟨none,G,w0,hp0,{target:=.collected D,args:=#[]}::ds⟩ Q E F (Jx pre g::Pt D (.deferred (some []))::R'))
  (h:nf 1000 k = .c (.rangeFunc g #[p] assign body)::k':=by rfl) (hg:ev E g=some (.func (.func gf) #[] lb):=by rfl) (hpn:Nat.blt p n=true:=by rfl) (hnr:noR k'=true:=by rfl)
  (sel:Sels (J [] g0::A) R R':=by (repeat (first|exact Sels.nil|exact Sel.here|apply Sel.there|apply Sels.cons));first|done|fail) (hF0:EntF F [FJ [] g0]:=by (repeat (first|exact trivial|exact Sel.here|apply Sel.there|apply EntF.cons));first|done|fail) (hFg:EntF F Fg:=by (repeat (first|exact trivial|exact Sel.here|apply Sel.there|apply EntF.cons));first|done|fail):Wk n ⟨none,G,w0,hp0,ds⟩ k Q E F R:=fun a w ha hs=>YQ 1000 k (by
 rw [h]
 show (Code.rangeFunc g #[p] assign body).wpIn (fz none) 0 prog (after none k' Q) a w
 refine wpIn_rangeFunc fun fn hfn=>?_
 let q:LR:=⟨fn,a.tmps,#[p],assign,body,w.heap.size⟩
 let lo:Obj:=.loop (rcd q .ready none)
 have hs1:Sat G w0 hp0 F (Pt (w.heap.size+1) lo::Pt w.heap.size (.deferred (some []))::J [] g0::(A++R')) ((w.alloc (.deferred (some []))).alloc lo):=by
  have:=((hs.sels sel).alloc (.deferred (some []))).alloc lo
  simpa using this
 have hs2:Sat G w0 hp0 F (both (Pt (w.heap.size+1) lo) (J [] g0)::Pt w.heap.size (.deferred (some []))::(A++R')) ((w.alloc (.deferred (some []))).alloc lo):=
  (hs1.sels (A:=[Pt (w.heap.size+1) lo,J [] g0]) (.cons .here (.cons (.there .here) .nil))).shut (x:=both _ _) fun _ hh=>hh
 have hy:∀pre g e,pre++[e] <+: xs→SpecV (.func (.yield (w.heap.size+1)) #[] #[]) [enc e] _ _ _:=fun pre g e hpre=>
  yield_okG (n:=n) (E:=E) (F:=F) (enc:=enc) (q:=q) (l:=w.heap.size+1) (p:=p) (FJ:=FJ) (J:=J) (Jx:=Jx) (pre:=pre) (gz:=g) (e:=e) rfl (Nat.le_of_ble_eq_true hpn)
   (fun b hb hd=>⟨by rw [hb];exact ha.size,hd,fun t v hv=>by rw [hb];exact ha.slots t v hv⟩) (fun G w0 hp0=>hbody q _ pre g e hpre G w0 hp0)
 obtain ⟨eg,hsp⟩:=hit _ _ _ _ _ _ g0 hy
 have hev:=ha.ev (x:=g) (by rw [ZF];exact hg)
 refine ⟨w.heap.size+1,[{target:=.collected w.heap.size,args:=#[]}],(w.alloc (.deferred (some []))).alloc lo,{target:=.fn (.func gf) lb,args:=#[.func (.yield (w.heap.size+1)) #[] #[]]},(w.alloc (.deferred (some []))).alloc lo,gf,#[.func (.yield (w.heap.size+1)) #[] #[]]++lb,(w.alloc (.deferred (some []))).alloc lo,run_enterLoop_outer _ _ _ _ _,?_,fun _ _=>trivial,?_,(fun hx=>by cases hx),?_⟩
 ·simp only [resolve,hev]
  simp [go_sem,Deferred.ofValue,Act.eval]
 ·simp only [invoke]
  exact eg _ _
 ·have e1 : #[Value.func (.yield (w.heap.size+1)) #[] #[]]++lb=(Value.func (.yield (w.heap.size+1)) #[] #[]::lb.toList).toArray:=by rw [←Array.toList_inj];simp
  rw [e1]
  refine Xx (YU hsp hs2 (.cons .here (WN A _ R')) (fun hp hF f hf=>?_) fun r w' hr hs3=>?_)
  ·rcases List.mem_cons.1 hf with rfl|hf
   ·exact hF
   ·rcases List.mem_cons.1 hf with rfl|hf
    ·exact hF0.all hp hF _ (.head _)
    ·exact hFg.all hp hF f hf
  ·have hds:({a with defers:=[{target:=.collected w.heap.size,args:=#[]}]++a.defers}:Act).defers={target:=.collected w.heap.size,args:=#[]}::ds:=by simp [ha.defers]
   have ha':Agree n ({target:=.collected w.heap.size,args:=#[]}::ds) (look E) {a with defers:=[{target:=.collected w.heap.size,args:=#[]}]++a.defers}:=⟨ha.size,hds,ha.slots⟩
   obtain ⟨r,gr⟩:=r
   cases r with
   | none=>
    obtain ⟨_,h4⟩:=(show Sat G w0 hp0 (FJ xs gr::F) (both (Pt (w.heap.size+1) lo) (J xs gr)::Pt w.heap.size (.deferred (some []))::R') w' from hs3).open' (X:=Unit) (L:=fun _=>[Pt (w.heap.size+1) lo,J xs gr]) fun _ hh=>⟨(),hh⟩
    refine ⟨none,_,run_endLoop (h4.pt Sel.here) (by simp [rcd]),?_⟩
    have h5:=Zf (o':=.loop (rcd q .exhausted none)) h4
    exact hdone w.heap.size gr _ _ ha' (h5.res fun _ hh=>XU hh)
   | some pre=>
    obtain ⟨_,h4⟩:=(show Sat G w0 hp0 F (both (Pt (w.heap.size+1) (.loop (rcd q .done (some .ret)))) (Jx pre gr)::Pt w.heap.size (.deferred (some []))::R') w' from hs3).open' (X:=Unit) (L:=fun _=>[Pt (w.heap.size+1) (.loop (rcd q .done (some .ret))),Jx pre gr]) fun _ hh=>⟨(),hh⟩
    refine ⟨some .ret,_,run_endLoop (h4.pt Sel.here) (by simp [rcd]),?_⟩
    have h5:=Zf (o':=.loop (rcd q .exhausted (some .ret))) h4
    refine wpIn_ret ?_
    rw [Yl hnr]
    exact hstop w.heap.size pre gr (hr pre rfl) _ _ ha' (h5.res fun _ hh=>XU hh))
end
def nlS:ByteArray:=⟨#[10]⟩
theorem lines_one:∀(l:List UInt8),spanF (fun x=>!(x == 10)) l=l.length→linesF l=[l]
 | [],_=>rfl
 | c::r,h=>by
  by_cases hc:c=10
  ·subst hc;simp [spanF] at h
  ·have e:spanF (fun x=>!(x == 10)) (c::r)=spanF (fun x=>!(x == 10)) r+1:=by simp [spanF,hc]
   rw [linesF,if_neg (by simpa using hc),lines_one r (by rw [e] at h;simpa using h)]
theorem lines_more:∀(l:List UInt8),spanF (fun x=>!(x == 10)) l<l.length→linesF l=l.take (spanF (fun x=>!(x == 10)) l)::linesF (l.drop (spanF (fun x=>!(x == 10)) l+1))
 | [],h=>by simp at h
 | c::r,h=>by
  by_cases hc:c=10
  ·subst hc
   have e:spanF (fun x=>!(x == 10)) ((10:UInt8)::r)=0:=by simp [spanF]
   rw [e,linesF];simp
  ·have e:spanF (fun x=>!(x == 10)) (c::r)=spanF (fun x=>!(x == 10)) r+1:=by simp [spanF,hc]
   rw [e] at h ⊢
   rw [linesF,if_neg (by simpa using hc),lines_more r (by simpa using h)]
   simp
theorem sIndex_ok (s:ByteArray) (c:UInt8):Enters 153∧Spec prog 153 #[.string s,.string ⟨#[c]⟩] [] [] (RetV (.int .i64 (Lib.indexByte s.data.toList c))):=by
 have n1:=index1_ok s c
 generalize Lib.indexByte s.data.toList c=z at *
 refine ZE [_,_] func153 ntmps153 fun G w hp=>?_
 repeat' (first|refine ZC ?_|refine ZA (n1) (fun _ _=>?_)|fail)
 exact ZD () rfl trivial
abbrev spl (b1 b2 b3:Nat):List Value:=[pv0 b1,pv0 b2,pv0 b3]
abbrev SpR (b1 b2 b3:Nat) (L:List UInt8):List HP:=[Pt b1 (.cells #[.string nlS] 9),Pt b2 (.cells #[.string (ofL L)] 9),Pt b3 (.cells #[.int .i64 0] 3)]
theorem splitSeq_ok (L:List UInt8):Enters 100∧Spec prog 100 #[.string (ofL L),.string nlS] [] [] ⟨Nat×Nat×Nat,fun q=>.func (.func 151) #[] #[pv0 q.1,pv0 q.2.1,pv0 q.2.2],fun _=>True,fun _=>[],fun q=>SpR q.1 q.2.1 q.2.2 L⟩:=by
 have n1:Enters 127∧Spec prog 127 #[.string (ofL L),.string nlS,.int .i64 0] [] [] ⟨Nat×Nat×Nat,fun q=>.func (.func 151) #[] #[pv0 q.1,pv0 q.2.1,pv0 q.2.2],fun _=>True,fun _=>[],fun q=>SpR q.1 q.2.1 q.2.2 L⟩:=by
  refine ZE [_,_,_] func127 ntmps127 fun G w hp=>?_
  repeat' (first|refine ZC ?_|refine ZH (fun b=>?_)|fail)
  rename_i b1 b2
  exact ZD (b2,b1,b) rfl trivial
 refine ZE [_,_] func100 ntmps100 fun G w hp=>?_
 repeat' (first|refine ZC ?_|refine ZA (n1) (fun _ _=>?_)|fail)
 rename_i q _
 exact ZD q rfl trivial
set_option maxHeartbeats 4000000 in
theorem split_iter (b1 b2 b3:Nat) (L:List UInt8) (hL:L.length≤1000000):IterG 151 (spl b1 b2 b3) (fun l=>.string (ofL l)) (linesF L) [] (SpR b1 b2 b3 L):=by
 intro γ v Y FI I Ix g0 hy
 obtain ⟨XS,hXS⟩:∃XS,linesF L=XS:=⟨_,rfl⟩
 rw [hXS] at hy ⊢
 have sz1:(((nlS).size:Nat):Int)=1:=rfl
 generalize b1=c1,b2=c2,b3=c3 at *
 show Enters 151∧Spec prog 151 #[v,pv0 c1,pv0 c2,pv0 c3] _ _ _
 refine ZE [_,_,_,_] func151 ntmps151 fun G w hp=>?_
 repeat' (first|refine ZC ?_|fail)
 refine Zj (X:={q:List (List UInt8)×List UInt8×γ // q.1++linesF q.2.1=XS∧q.2.1.length≤1000000}) (fun _=>[(0,v),(1,pv0 c1),(2,pv0 c2),(3,pv0 c3)]) (fun q=>[Y,FI q.1.1 q.1.2.2]) (fun q=>I q.1.1 q.1.2.2::SpR c1 c2 c3 q.1.2.1) (fun q=>q.1.2.1.length) ⟨([],L,g0),hXS,hL⟩ ⟨rfl,rfl,rfl,rfl,trivial⟩ ?_
 rintro ⟨⟨pre,l,gz⟩,hp,hl⟩
 dsimp only at hp hl ⊢
 have n1:=sIndex_ok (ofL l) 10
 rw [WJ,ixb_span] at n1
 have hm:=YJ (fun x=>!(x == 10)) l
 have hone:=lines_one l
 have hmore:=lines_more l
 have hsz:=Xw l
 have hll:=WJ l
 generalize spanF (fun x=>!(x == 10)) l=m at *
 by_cases c:m=l.length
 ·rw [if_pos c] at n1
  have e:=hone c
  rw [e] at hp
  have y1:=hy pre gz l (by rw [hp];exact List.prefix_rfl)
  repeat' (first|refine ZC ?_|refine ZM ?_|refine ZA (n1) (fun _ _=>?_)|refine YN y1 (fun _ _=>?_)|fail)
  rename_i b _
  obtain ⟨b,gy⟩:=b
  subst hp
  cases b with
  | true=>exact Zw (none,gy) rfl (fun _ h=>by cases h)
  | false=>exact Zw (some (pre++[l]),gy) rfl (fun _ h=>by cases h;exact List.prefix_rfl)
 ·rw [if_neg c] at n1
  have hlt:m<l.length:=by omega
  have e:=hmore hlt
  rw [e] at hp
  have hp2:pre++[l.take m]++linesF (l.drop (m+1))=XS:=by rw [←hp];simp
  have y1:=hy pre gz (l.take m) (by rw [←hp2];exact List.prefix_append _ _)
  have w1:=wrapi (z:=(m:Int)+0) (by omega) (by omega)
  have w2:=wrapi (z:=(m:Int)+1) (by omega) (by omega)
  repeat' (first|refine ZC ?_|refine ZA (n1) (fun _ _=>?_)|refine YN y1 (fun _ _=>?_)|rw [sz1]|rw [w1]|rw [w2]|refine l_sTo (s:=ofL l) (u:=ofL (l.take m)) m (by omega) (by rw [WJ,WJ]) ?_|refine Z3 (s:=ofL l) (u:=ofL (l.drop (m+1))) (m+1) (by omega) (by rw [WJ,WJ]) ?_|(refine ZB (fun hc=>?_) (fun hc=>?_)<;>(try simp at hc)<;>(try omega))|fail)
  all_goals rename_i b _
  all_goals obtain ⟨b,gy⟩:=b
  ·cases b with
   | true=>cases hc
   | false=>exact Zz (Z5 (Zg (some (pre++[l.take m]),gy) rfl (fun _ h=>by cases h;rw [←hp2];exact List.prefix_append _ _)))
  ·cases b with
   | false=>cases hc
   | true=>exact ZJ ⟨(pre++[l.take m],l.drop (m+1),gy),hp2,by show (l.drop (m+1)).length≤_;rw [List.length_drop];omega⟩ (by show (l.drop (m+1)).length<l.length;rw [List.length_drop];omega) ⟨rfl,rfl,rfl,rfl,trivial⟩
section
variable {b off:Nat} {ty:TypeId} {z:Operand} {v:Value} {cs:Array Value}
theorem r_stI (nx:Wr n C ops k Q Tl Fs R L E F N) (ho:nth ops i=some ⟨none,.store t x y,ty0,pos,aft,gd⟩:=by rfl) (hw:wantL ops E ⟨none,.store t x y,ty0,pos,aft,gd⟩=some true:=by rfl)
  (hx:ev E x=some (.pointer (some ⟨b,off,none⟩)):=by rfl) (hy:ev E y=some v:=by rfl) (hs:Sel (Pt b (.cells cs ty (0,0))) R R0:=by (repeat (first|exact Sel.here|apply Sel.there));first|done|fail) (hv:stv t cs.toList off v=some cs.toList:=by rfl) :
  Wr n C ops k Q Tl Fs R ((i,4)::L) E F N:=
 Z6 ho fun hp hr w st hz sb=>by
  simp only [ZW hw]
  refine ⟨⟨Unit,fun _=>undef,fun _=>True,fun _=>F,fun _=>N⟩,fun a G w1 hp' ha hsub hsat=>?_,fun _ _=>nx hp hr w st hz sb⟩
  obtain ⟨h1,h2,_,s1,_,hpt,_⟩:=hs.sep st.r
  have hb:w1.heap[b]? = some (.cells cs ty (0,0)):=hsat.stat hsub b _ (sb b _ (ZL _ _ _ _ (s1 _ _ hpt)))
  obtain ⟨w',g1,g2,g3,g4⟩:=stv_ok hb hv
  have hh:∀c,w'.heap[c]? = w1.heap[c]?:=fun c=>by
   by_cases hc:c=b
   ·rw [hc,g2,hb]
   ·exact g4 c hc
  unfold OpRes
  simp only [execOp,Instr.storeAt,ha.ev (x:=x) (by rw [ZF];exact hx),ha.ev (x:=y) (by rw [ZF];exact hy),Instr.sureAddr,Sem.run_bind,Sem.run_pure,Result.andThen,g1]
  obtain ⟨hp2,hr2,s⟩:=hsat
  exact ⟨(),trivial,trivial,hp2,hr2,fun c o e=>(hh c).trans (s.inp c o e),fun c o e=>(hh c).trans (s.inr c o e),fun c o e=>(hh c).trans (s.ing c o e),s.d1,s.d2,s.d3,s.sub,s.f,s.r,s.same.trans g3⟩
end
def RlsF (b:Nat) (l:List Ru):Pf:=⟨fun h=>∃(xs:List RI) (o:Option Addr) (cap:Nat),(Blk b (.cells #[.slice o xs.length cap] 173)).p h∧(Sl 170 rul o cap xs).p h∧RusP h l xs,
 fun _ _ s ⟨xs,o,cap,h1,h2,h3⟩=>⟨xs,o,cap,(Blk b _).m _ _ s h1,(Sl _ _ o cap xs).m _ _ s h2,UK s l xs h3⟩⟩
abbrev PaP (r:Except (Int×Int×Int) (List Ru)):Post:=match r with
 | .ok l=>⟨Nat,fun b=>.tuple #[.pointer (some ⟨b,0,none⟩),.int .i64 0,.int .i64 0,.int .i64 0],fun _=>True,fun b=>[RlsF b l],fun _=>[]⟩
 | .error x=>⟨Unit,fun _=>.tuple #[.pointer none,.int .i64 x.1,.int .i64 x.2.1,.int .i64 x.2.2],fun _=>True,fun _=>[],fun _=>[]⟩
abbrev PG:=List Ru×List RI×Option Addr×Nat
def PaJ (_:ByteArray) (b2 b3 b4 b5 br:Nat) (pre:List (List UInt8)) (g:PG):HP:=fun h=>((∀rest,rowsF (pre++rest) 0 []=rowsF rest pre.length g.1)∧g.2.1.length=g.1.length∧g.1.length≤256)∧
 Sep ([Pt b2 (.cells #[.pointer (some ⟨br,0,none⟩)] 109),Pt b3 (.cells #[.int .i64 (pre.length:Nat)] 3),Pt b4 (.cells #[.int .i64 0] 3),Pt b5 (.cells #[.int .i64 0] 53)]++RlR br g.2.1 g.2.2.1 g.2.2.2) h
def PaX (s:ByteArray) (b2 b3 b4 b5:Nat) (_:List (List UInt8)) (_:PG):HP:=fun h=>∃x:Int×Int×Int,rowsF (linesF s.data.toList) 0 [] = .error x∧
 Sep [Pt b2 (.cells #[.pointer none] 109),Pt b3 (.cells #[.int .i64 x.1] 3),Pt b4 (.cells #[.int .i64 x.2.1] 3),Pt b5 (.cells #[.int .i64 x.2.2] 53)] h
set_option maxHeartbeats 4000000 in
theorem ruParse_ok (s:ByteArray) (hs:s.size≤1000000000):Enters 75∧Spec prog 75 #[.string s] [ErA,P10] [] (PaP (parF s)):=by
 have hsz:=lsz s
 by_cases hb:65536<s.size
 ·have e:parF s = .error (0,0,5):=if_pos hb
  rw [e]
  refine ZE [_] func75 ntmps75 fun G w hp=>?_
  repeat' (first|refine ZC ?_|refine ZH (fun b=>?_)|(refine ZB (fun hc=>?_) (fun hc=>?_)<;>(try simp at hc)<;>(try omega))|fail)
  exact ZD () rfl trivial
 ·have e0:parF s=rowsF (linesF s.data.toList) 0 []:=if_neg hb
  rw [e0]
  obtain ⟨hl1,hl2⟩:=lines_sz s.data.toList
  have n0:=splitSeq_ok s.data.toList
  have es:ofL s.data.toList=s:=XN rfl
  rw [es] at n0
  have hit:=fun (a b c:Nat)=>split_iter a b c s.data.toList (by omega)
  obtain ⟨R,hR⟩:∃R,rowsF (linesF s.data.toList) 0 []=R:=⟨_,rfl⟩
  rw [hR]
  refine ⟨enters_of func75 (by kernel_rfl) rfl,Wb (vs:=[_]) func75 rfl ntmps75 rfl fun G w hp=>?_⟩
  repeat' (first|refine ZC ?_|refine ZH (fun b=>?_)|refine ZA (n0) (fun _ _=>?_)|(refine ZB (fun hc=>?_) (fun hc=>?_)<;>(try simp at hc)<;>(try omega))|fail)
  rename_i b2 b3 b4 b5 q _
  obtain ⟨q1,q2,q3⟩:=q
  generalize b=br at *
  refine ZO (Lx:=[]) (r:=Row 170 3 none 0 0 []) (fun h _=>Zb _ _ h) ?_
  refine Yw (f:=RusF [] []) (fun _=>trivial) ?_
  refine ZO (Lx:=[Pt b2 (.cells #[.pointer (some ⟨br,0,none⟩)] 109),Pt b3 (.cells #[.int .i64 0] 3),Pt b4 (.cells #[.int .i64 0] 3),Pt b5 (.cells #[.int .i64 0] 53)]++RlR br [] none 0) (r:=PaJ s b2 b3 b4 b5 br [] ([],[],none,0)) (fun h hh=>⟨⟨fun rest=>rfl,rfl,by decide⟩,hh⟩) ?_
  refine k_rangeG (α:=List UInt8) (enc:=fun l=>.string (ofL l)) (xs:=linesF s.data.toList) (fun pre g=>RusF g.1 g.2.1) (PaJ s b2 b3 b4 b5 br) (PaX s b2 b3 b4 b5) ([],[],none,0) (hit q1 q2 q3) ?_ ?_ ?_
  ·intro lr l pre g e hpre G w0 hp0
   obtain ⟨acc,xs,o,cap⟩:=g
   dsimp only
   refine Zq (X:=Unit) (Lx:=fun _=>[Pt b2 (.cells #[.pointer (some ⟨br,0,none⟩)] 109),Pt b3 (.cells #[.int .i64 (pre.length:Nat)] 3),Pt b4 (.cells #[.int .i64 0] 3),Pt b5 (.cells #[.int .i64 0] 53)]++RlR br xs o cap) (p:=fun _=>(∀rest,rowsF (pre++rest) 0 []=rowsF rest pre.length acc)∧xs.length=acc.length∧acc.length≤256) (r:=PaJ s b2 b3 b4 b5 br pre (acc,xs,o,cap)) (.there .here) (fun h hh=>⟨(),hh.1,hh.2⟩) (fun _ hpu=>?_)
   obtain ⟨p1,p2,p3⟩:=hpu
   have hel:e.length≤s.data.toList.length:=hl2 e (hpre.subset (by simp))
   have hpl:pre.length+1≤s.data.toList.length+1:=by
    have:=hpre.length_le
    simp only [List.length_append,List.length_singleton] at this;omega
   have n1:=ruAdd_ok br (ofL e) (by rw [Xw];omega) acc xs o cap p2 p3
   rw [WJ] at n1
   delta AdP at n1
   have w1:IntKind.i64.wrap ((pre.length:Int)+1)=(((pre++[e]).length:Nat):Int):=by
    rw [wrapi (by omega) (by omega)];simp
   obtain ⟨a1,a2⟩:=lineF_pl e acc.length
   have w2:=wrapi (z:=(lineF e acc.length).2.1+1) (by omega) (by omega)
   have hlen:=addF_len (s:=e) p3
   by_cases he:(lineF e acc.length).2.2=0
   ·have hst:=fun rest=>rows_step (rest:=rest) (i:=pre.length) he
    rw [he] at n1
    generalize (lineF e acc.length).2.1=a at *
    generalize addF e acc=acc2 at *
    repeat' (first|refine ZC ?_|refine ZA (n1) (fun _ _=>?_)|refine k_beg ?_|rw [w1]|fail)
    rename_i q hq
    obtain ⟨xs2,o2,cap2⟩:=q
    dsimp only at hq
    refine ZO (Lx:=[Pt b2 (.cells #[.pointer (some ⟨br,0,none⟩)] 109),Pt b3 (.cells #[.int .i64 ((pre++[e]).length:Nat)] 3),Pt b4 (.cells #[.int .i64 0] 3),Pt b5 (.cells #[.int .i64 0] 53)]++RlR br xs2 o2 cap2) (r:=PaJ s b2 b3 b4 b5 br (pre++[e]) (acc2,xs2,o2,cap2)) (fun h hh=>⟨⟨fun rest=>(by rw [List.append_assoc,List.singleton_append,p1,hst,List.length_append];rfl),hq,hlen⟩,hh⟩) ?_
    exact k_rnG (acc2,xs2,o2,cap2)
   ·have hbad:=fun rest=>rows_bad (rest:=rest) (i:=pre.length) he
    obtain ⟨rest,hrest⟩:=hpre
    have hx:=p1 (e::rest)
    rw [hbad,show pre++e::rest=linesF s.data.toList by rw [←hrest];simp] at hx
    generalize (lineF e acc.length).2.1=a at *
    generalize (lineF e acc.length).2.2=er at *
    generalize addF e acc=acc2 at *
    have hne:¬er=0:=he
    repeat' (first|refine r_stI ?_|refine ZC ?_|refine ZA (n1) (fun _ _=>?_)|refine k_beg ?_|rw [w1]|rw [w2]|refine ZI 9 [Pt b2 _,Pt b4 _] [(0,0),(1,0),(2,0),(3,0),(4,4),(5,4),(6,4)] [7] ?_|(refine ZB (fun hc=>?_) (fun hc=>?_)<;>(try simp at hc)<;>(try omega))|fail)
    have e1:((pre.length:Int)+1)=(((pre++[e]).length:Nat):Int):=by simp
    rw [e1] at hx
    refine ZO (Lx:=[Pt b2 (.cells #[.pointer none] 109),Pt b3 (.cells #[.int .i64 ((pre++[e]).length:Nat)] 3),Pt b4 (.cells #[.int .i64 (a+1)] 3),Pt b5 (.cells #[.int .i64 er] 53)]) (r:=PaX s b2 b3 b4 b5 (pre++[e]) (acc,xs,o,cap)) (fun h hh=>⟨_,hx,hh⟩) ?_
    exact k_rrG (acc,xs,o,cap)
  ·intro D g
   obtain ⟨acc,xs,o,cap⟩:=g
   dsimp only
   refine Zq (X:=Unit) (Lx:=fun _=>[Pt b2 (.cells #[.pointer (some ⟨br,0,none⟩)] 109),Pt b3 (.cells #[.int .i64 ((linesF s.data.toList).length:Nat)] 3),Pt b4 (.cells #[.int .i64 0] 3),Pt b5 (.cells #[.int .i64 0] 53)]++RlR br xs o cap) (p:=fun _=>(∀rest,rowsF (linesF s.data.toList++rest) 0 []=rowsF rest (linesF s.data.toList).length acc)∧xs.length=acc.length∧acc.length≤256) (r:=PaJ s b2 b3 b4 b5 br (linesF s.data.toList) (acc,xs,o,cap)) .here (fun h hh=>⟨(),hh.1,hh.2⟩) (fun _ hpu=>?_)
   obtain ⟨p1,p2,p3⟩:=hpu
   have hRa:=p1 []
   rw [List.append_nil,hR] at hRa
   obtain rfl:R = .ok acc:=hRa
   refine YA (f:=rul) xs ?_ rfl rfl
   refine Y7 (b:=br) ?_
   refine Zx (F1:=[Blk br (.cells #[.slice o xs.length cap] 173),Sl 170 rul o cap xs,RusF acc xs]) (f:=RlsF br acc) (fun hp hF=>⟨xs,o,cap,hF _ (.head _),hF _ (.tail _ (.head _)),hF _ (.tail _ (.tail _ (.head _)))⟩) ?_
   repeat' (first|refine ZC ?_|fail)
   exact k_retM br rfl trivial
  ·intro D pre g hpre
   refine w_open (X:=Int×Int×Int) (Lx:=fun x=>[Pt b2 (.cells #[.pointer none] 109),Pt b3 (.cells #[.int .i64 x.1] 3),Pt b4 (.cells #[.int .i64 x.2.1] 3),Pt b5 (.cells #[.int .i64 x.2.2] 53)]) (p:=fun x=>rowsF (linesF s.data.toList) 0 [] = .error x) (r:=PaX s b2 b3 b4 b5 pre g) .here (fun h hh=>hh) (fun x hx=>?_)
   obtain rfl:R = .error x:=by rw [←hR,hx]
   exact w_retM () rfl trivial
structure CqS (c:Cq):Prop where
 ot:c.old.tg.size≤5000
 ox:c.old.tx.size≤5000
 nt:c.new.tg.size≤5000
 nx:c.new.tx.size≤5000
 wh:c.who.size≤5000
theorem CqS.tg {c:Cq} (h:CqS c):(subO c).tg.size≤5000:=by
 unfold subO;split
 ·exact h.nt
 ·exact h.ot
theorem CqS.fld {c:Cq} (h:CqS c) (f:Nat):(fldT f c).size≤5000:=by
 unfold fldT;split
 ·exact h.tg
 ·split
  ·exact h.ox
  ·exact h.nx
theorem CqS.val {c:Cq} (h:CqS c) (hi:CqI c) (n:ByteArray):(valF n c).size≤5000:=by
 have i1:=V0 (subO c).us hi.u0 hi.u1
 have i2:=V0 (subT c) hi.t0 hi.t1
 have i3:=V0 c.nu hi.n0 hi.n1
 unfold valF
 dsimp only
 split
 ·exact h.tg
 split
 ·omega
 split
 ·omega
 split
 ·exact h.wh
 split
 ·omega
 split
 ·exact h.ox
 split
 ·exact h.nx
 ·exact Nat.zero_le _
theorem divF_sz:∀(n:Nat) (l:List UInt8) (i:Nat) (acc:List Seg) (M:Nat),l.length≤M→1≤M→(∀t,Seg.lit t ∈ acc→t.size≤M)→
  (∀t,Seg.lit t ∈ (divF n l i acc).1→t.size≤M)∧(divF n l i acc).1.length≤acc.length+n
 | 0,_,i,acc,M,_,_,h=>⟨h,by show acc.length≤_;omega⟩
 | n+1,[],i,acc,M,_,_,h=>⟨h,by show acc.length≤_;omega⟩
 | n+1,c::r,i,acc,M,hM,h1,h=>by
  have add:∀s:Seg,(∀t,s = .lit t→t.size≤M)→∀t,Seg.lit t ∈ acc++[s]→t.size≤M:=fun s hs t ht=>by
   rcases List.mem_append.1 ht with ht|ht
   ·exact h t ht
   ·exact hs t (List.mem_singleton.1 ht).symm
  have len:∀s:Seg,(acc++[s]).length=acc.length+1:=fun s=>by simp
  have go:∀(l:List UInt8) (i:Nat) (s:Seg),l.length≤M→(∀t,s = .lit t→t.size≤M)→(∀t,Seg.lit t ∈ (divF n l i (acc++[s])).1→t.size≤M)∧(divF n l i (acc++[s])).1.length≤acc.length+(n+1):=fun l i s hl hs=>by
   obtain ⟨a,b⟩:=divF_sz n l i (acc++[s]) M hl h1 (add s hs)
   exact ⟨a,by rw [len] at b;omega⟩
  rw [divF]
  dsimp only
  split
  ·refine ⟨add _ fun t ht=>?_,by rw [len];omega⟩
   obtain rfl:=Seg.lit.inj ht
   rw [Xw];exact hM
  ·split
   ·refine go _ _ _ (by rw [List.length_drop];omega) fun t ht=>?_
    obtain rfl:=Seg.lit.inj ht
    rw [Xw,List.length_take];omega
   ·split
    ·refine go _ _ _ (by rw [List.length_drop];simp only [List.length_cons] at hM;omega) fun t ht=>?_
     obtain rfl:=Seg.lit.inj ht
     exact h1
    ·split
     ·exact go _ _ _ (by rw [List.length_drop];simp only [List.length_cons] at hM;omega) (fun t ht=>by cases ht)
     ·exact ⟨h,by show acc.length≤_;omega⟩
theorem flat_le (c:Cq) (K:Nat):∀l:List Seg,(∀x ∈ l,(segF c x).size≤K)→(flat c l).length≤l.length * K
 | [],_=>by simp [flat]
 | x::l,h=>by
  have ih:=flat_le c K l fun y hy=>h y (.tail _ hy)
  have hx:=h x (.head _)
  have e:flat c (x::l)=(segF c x).data.toList++flat c l:=rfl
  rw [e,List.length_append,lsz,List.length_cons,Nat.succ_mul]
  omega
theorem exp_sz {s:ByteArray} {c:Cq} {M:Nat} (hs:s.size≤M) (h:CqS c) (hi:CqI c):(expF s c).size≤(M+1) * (M+5000):=by
 obtain ⟨a,b⟩:=divF_sz (s.size+1) s.data.toList 0 [] (s.size+1) (by rw [lsz];omega) (by omega) (fun t ht=>by cases ht)
 rw [expF_sz]
 refine Nat.le_trans (flat_le c (M+5000) _ fun x hx=>?_) (Nat.mul_le_mul_right _ ?_)
 ·cases x with
  | lit t=>have:=a t hx;show t.size≤_;omega
  | fld n=>have:=h.val hi n;show (valF n c).size≤_;omega
 ·simp only [List.length_nil] at b
  show (divF (s.size+1) s.data.toList 0 []).1.length≤_
  omega
end Go.Proofs.YtcjfciifhdfjkaaGreatDoor
set_option maxRecDepth 10000
namespace Go.Proofs
open Go.Shelf
def Tryz.lays99_ren:Go.Shelf.Ren:=⟨fun|99=>196|206=>221|n=>n,fun|9=>9|4=>4|3=>3|n=>n,fun|n=>n⟩
theorem Tryz.lays99:Go.Proofs.Lays.n99 Tryz.prog Tryz.lays99_ren:={
 mixed:=by kernel_rfl
 f99:=Tryz.func196.trans (congrArg some (by kernel_rfl))
 f206:=Tryz.func221.trans (congrArg some (by kernel_rfl))
 t3:=Tryz.underlying3
 a3:=Tryz.isAgg3
 z3:=Tryz.sizeOf3
 v3:=Tryz.zeroValue3
 t4:=Tryz.underlying4
 a4:=Tryz.isAgg4
 z4:=Tryz.sizeOf4
 v4:=Tryz.zeroValue4
 t9:=Tryz.underlying9
 a9:=Tryz.isAgg9
 z9:=Tryz.sizeOf9
 v9:=Tryz.zeroValue9}
end Go.Proofs
namespace Go.Proofs.YtcjfciifhdfjkaaGreatDoor
open Go.Proofs.Tryz
open Go.RowKit
variable {n:Nat} {C:Cx} {Q:Exit→Act→World→Prop} {E E':List (Nat×Value)} {F F' F1 Fs F0:List Pf} {R R' R0 Rs N N' A:List HP} {k k':List Fr} {ops l:List Oper} {L L':List (Nat×Nat)} {Tl:List Nat} {i d:Nat} {t t2 ty0:TypeId} {x y:Operand} {pos:String} {aft:Array Edge} {gd:Option (Nat×Bool)}
section
variable {z:Operand}
theorem r_callV {v:Value} {args:Array Operand} {tys:Array TypeId} {vs:List Value} {post:Post} (spec:SpecV v vs F1 A post)
  (nx:∀x,post.pure x→Wr n C ops k Q Tl Fs R L ((d,post.val x)::E) (post.F x++F) (post.R x++N')) (ho:nth ops i=some ⟨some d,.call ⟨.value x,args,tys⟩,ty0,pos,aft,gd⟩:=by rfl)
  (hw:wantL ops E ⟨some d,.call ⟨.value x,args,tys⟩,ty0,pos,aft,gd⟩=some true:=by rfl) (hx:ev E x=some v:=by rfl) (hargs:evs (ev E) args.toList some=some vs:=by rfl)
  (sel:Sels A N N':=by (repeat (first|exact Sels.nil|exact Sel.here|apply Sel.there|apply Sels.cons));first|done|fail)
  (hF:EntF F F1:=by (repeat (first|exact trivial|exact Sel.here|apply Sel.there|apply EntF.cons));first|done|fail):Wr n C ops k Q Tl Fs R ((i,4)::L) E F N:=
 Z6 ho fun hp hr w st hz sb=>by
  simp only [ZW hw]
  refine ⟨⟨post.X,post.val,post.pure,fun x=>post.F x++F,fun x=>post.R x++N'⟩,fun a G w hp' ha hsub hsat=>?_,fun x hx=>nx x hx hp hr w st hz sb⟩
  obtain ⟨G',hp2,h1,h2⟩:=W1 hsat sel hF.all
  have h3:=spec G' w hp2 h1
  obtain ⟨us,_,e2,e3⟩:=X3 _ _ _ hargs
  obtain rfl:=Option.some.inj e2
  have e1:=e3 a.eval fun x _ u hu=>ha.ev (by rw [ZF];exact hu)
  have e4:args.map a.eval=us.toArray:=by rw [←Array.toList_inj];simpa using e1
  have e5:(args.map fun x=>a.eval x)=us.toArray:=e4
  have e0:=ha.ev (x:=x) (by rw [ZF];exact hx)
  unfold CallsV at h3
  split at h3
  ·rename_i fn fs cs
   have h4:=h3.mono (R':=fun v w'=>∃x,v=post.val x∧post.pure x∧Sat G w hp' (post.F x++F) (post.R x++N') w') (by
    rintro v w' ⟨x,rfl,hx,hs⟩
    exact ⟨x,rfl,hx,h2 _ _ _ hs⟩)
   unfold OpRes at h4 ⊢
   have er:(execOp a.eval ⟨some d,.call ⟨.value x,args,tys⟩,ty0,pos,aft,gd⟩).run prog w=(invoke (.fn fn cs) (fs++us.toArray)).run prog w:=by
    simp only [execOp,resolve,e0,Deferred.ofValue,Sem.run_bind,Sem.run_pure,Result.andThen]
    rw [e5]
   rw [er]
   exact h4
  ·exact h3.elim
end
theorem sPrefix_ok (s p:ByteArray):Enters 196∧Spec prog 196 #[.string s,.string p] [] [] (RetV (.bool (Lib.hasPrefix s.data.toList p.data.toList))):=by
 refine ⟨enters_of func196 (by kernel_rfl) rfl,fun G w hp hs=>?_⟩
 refine (Any.strings_HasPrefix Tryz.lays99 s p w).mono ?_
 rintro e w' ⟨rfl,rfl⟩
 exact ⟨(),rfl,trivial,hs⟩
def MxL:Pf:=⟨fun h=>∃m T fz,h 3=some (.cells #[.int .i64 m] T fz),fun _ _ s ⟨m,T,fz,h1⟩=>⟨m,T,fz,s _ _ h1⟩⟩
theorem sContains_ok (s u:ByteArray) (hs:s.size≤1000000):Enters 195∧Spec prog 195 #[.string s,.string u] [MxL] [] (RetV (.bool (Lib.contains s.data.toList u.data.toList))):=by
 refine ⟨enters_of func195 (by kernel_rfl) rfl,fun G w hp hs0=>?_⟩
 obtain ⟨hp',hr,st⟩:=hs0
 obtain ⟨m,T,fz,h1⟩:=st.f MxL (by simp)
 refine (Any.strings_Contains Tryz.lays144 s u m w (by omega) (cell_of (st.inp _ _ h1))).mono ?_
 rintro e w' ⟨rfl,rfl⟩
 exact ⟨(),rfl,trivial,(show Sat G _ hp [MxL] [] _ from ⟨hp',hr,st⟩).facts fun _ _ x hx=>by cases hx⟩
theorem ruWithin_ok (s a:ByteArray) (hs:s.size≤1000000) (ha:a.size≤1000000):Enters 209∧Spec prog 209 #[.string s,.string a] [] [] (RetV (.bool (lwith s a))):=by
 have n1:=Zt s (by omega)
 have n2:=Zt a (by omega)
 have e:(a++(⟨#[46]⟩:ByteArray)).data.toList=a.data.toList++[46]:=ba_app _ _
 have n3:=sPrefix_ok s (a++⟨#[46]⟩)
 rw [e] at n3
 obtain ⟨R,hR⟩:∃R,lwith s a=R:=⟨_,rfl⟩
 rw [hR]
 unfold lwith isE at hR
 generalize lvalid s.data.toList=v1 at *
 generalize lvalid a.data.toList=v2 at *
 generalize Lib.hasPrefix s.data.toList (a.data.toList++[46])=v3 at *
 cases v1
 ·obtain rfl:R=false:=by rw [←hR];rfl
  refine ZE [_,_] func209 ntmps209 fun G w hp=>?_
  repeat' (first|refine ZC ?_|refine ZA (n1) (fun _ _=>?_)|fail)
  all_goals exact ZD () rfl trivial
 cases v2
 ·obtain rfl:R=false:=by rw [←hR];rfl
  refine ZE [_,_] func209 ntmps209 fun G w hp=>?_
  repeat' (first|refine ZC ?_|refine ZA (n1) (fun _ _=>?_)|refine ZA (n2) (fun _ _=>?_)|fail)
  all_goals exact ZD () rfl trivial
 by_cases h1:s=a
 ·have b1:=beqT h1
  obtain rfl:R=true:=by rw [←hR,b1];rfl
  refine ZE [_,_] func209 ntmps209 fun G w hp=>?_
  repeat' (first|rw [b1]|refine ZC ?_|refine ZA (n1) (fun _ _=>?_)|refine ZA (n2) (fun _ _=>?_)|fail)
  all_goals exact ZD () rfl trivial
 have b1:=beqF h1
 by_cases h2:a=⟨#[]⟩
 ·have b2:=beqT h2
  obtain rfl:R=true:=by rw [←hR,b1,b2];rfl
  refine ZE [_,_] func209 ntmps209 fun G w hp=>?_
  repeat' (first|rw [b2]|rw [b1]|refine ZC ?_|refine ZA (n1) (fun _ _=>?_)|refine ZA (n2) (fun _ _=>?_)|fail)
  all_goals exact ZD () rfl trivial
 ·have b2:=beqF h2
  obtain rfl:R=v3:=by rw [←hR,b1,b2];cases v3<;>rfl
  refine ZE [_,_] func209 ntmps209 fun G w hp=>?_
  repeat' (first|rw [b2]|rw [b1]|refine ZC ?_|refine ZA (n1) (fun _ _=>?_)|refine ZA (n2) (fun _ _=>?_)|refine ZA (n3) (fun _ _=>?_)|refine WR ?_|fail)
  all_goals exact ZD () rfl trivial
section
variable {c:Cq}
theorem kind1_ok (c:Cq) (b:Nat) (k:Int):Enters 188∧Spec prog 188 #[cqa c,pv0 b] [Blk b (.cells #[.int .i64 k] 3)] [] (RetV (.bool (c.kind == k))):=by
 refine ZE [_,_] func188 ntmps188 fun G w hp=>?_
 repeat' (first|refine ZC ?_|refine ZH (fun b=>?_)|fail)
 exact ZD () rfl trivial
theorem channel1_ok (c:Cq) (b:Nat) (k:Int):Enters 190∧Spec prog 190 #[cqa c,pv0 b] [Blk b (.cells #[.int .i64 k] 3)] [] (RetV (.bool ((subO c).ch == k))):=by
 have n1:=X8 c
 refine ZE [_,_] func190 ntmps190 fun G w hp=>?_
 repeat' (first|refine ZC ?_|refine ZH (fun b=>?_)|refine ZA (n1) (fun _ _=>?_)|fail)
 exact ZD () rfl trivial
theorem by1_ok (c:Cq) (hc:CqS c) (b:Nat) (a:ByteArray) (ha:a.size≤1000000):Enters 208∧Spec prog 208 #[cqa c,pv0 b] [Blk b (.cells #[.string a] 36)] [] (RetV (.bool (lwith c.who a))):=by
 have n1:=ruWithin_ok c.who a (by have:=hc.wh;omega) ha
 refine ZE [_,_] func208 ntmps208 fun G w hp=>?_
 repeat' (first|refine ZC ?_|refine ZH (fun b=>?_)|refine ZA (n1) (fun _ _=>?_)|fail)
 exact ZD () rfl trivial
theorem fldT_ok (c:Cq) (f:Nat) (hf:f<3):SpecV (fdT f) [cqa c] [] [] (RetV (.string (fldT f c))):=by
 have n1:=X8 c
 match f,hf with
 | 0,_=>
  refine Zc (f:=191) ?_
  refine ZE [_] func191 ntmps191 fun G w hp=>?_
  repeat' (first|refine ZC ?_|refine ZH (fun b=>?_)|refine ZA (n1) (fun _ _=>?_)|fail)
  exact ZD () rfl trivial
 | 1,_=>
  refine Zc (f:=192) ?_
  refine ZE [_] func192 ntmps192 fun G w hp=>?_
  repeat' (first|refine ZC ?_|refine ZH (fun b=>?_)|fail)
  exact ZD () rfl trivial
 | 2,_=>
  refine Zc (f:=193) ?_
  refine ZE [_] func193 ntmps193 fun G w hp=>?_
  repeat' (first|refine ZC ?_|refine ZH (fun b=>?_)|fail)
  exact ZD () rfl trivial
theorem fldN_ok (c:Cq) (f:Nat) (hf:f<4):SpecV (fdN f) [cqa c] [] [] (RetV (.int .i64 (fldN f c))):=by
 have n1:=X8 c
 match f,hf with
 | 0,_=>
  refine Zc (f:=199) ?_
  refine ZE [_] func199 ntmps199 fun G w hp=>?_
  repeat' (first|refine ZC ?_|refine ZH (fun b=>?_)|refine ZA (n1) (fun _ _=>?_)|fail)
  exact ZD () rfl trivial
 | 1,_=>
  refine Zc (f:=200) ?_
  refine ZE [_] func200 ntmps200 fun G w hp=>?_
  repeat' (first|refine ZC ?_|refine ZH (fun b=>?_)|fail)
  exact ZD () rfl trivial
 | 2,_=>
  refine Zc (f:=201) ?_
  refine ZE [_] func201 ntmps201 fun G w hp=>?_
  repeat' (first|refine ZC ?_|refine ZH (fun b=>?_)|refine ZA (n1) (fun _ _=>?_)|fail)
  exact ZD () rfl trivial
 | 3,_=>
  refine Zc (f:=202) ?_
  refine ZE [_] func202 ntmps202 fun G w hp=>?_
  repeat' (first|refine ZC ?_|refine ZH (fun b=>?_)|refine ZA (n1) (fun _ _=>?_)|fail)
  exact ZD () rfl trivial
theorem cmpT_ok (k:Nat) (hk:k<3) (s u:ByteArray) (hs:s.size≤1000000):SpecV (cmT k) [.string s,.string u] [MxL] [] (RetV (.bool (cmpB k s u))):=by
 match k,hk with
 | 0,_=>
  refine Zc (f:=194) ?_
  refine ZE [_,_] func194 ntmps194 fun G w hp=>?_
  repeat' (first|refine ZC ?_|fail)
  exact ZD () rfl trivial
 | 1,_=>exact Zc (f:=195) (sContains_ok s u hs)
 | 2,_=>exact Zc (f:=196) ((sPrefix_ok s u).imp_right fun h G w hp hs=>h G w hp (hs.facts fun _ _ x hx=>by cases hx))
theorem cmpN_ok (k:Nat) (hk:k<3) (n m:Int):SpecV (cmN k) [.int .i64 n,.int .i64 m] [] [] (RetV (.bool (cmpZ k n m))):=by
 match k,hk with
 | 0,_=>
  refine Zc (f:=203) ?_
  refine ZE [_,_] func203 ntmps203 fun G w hp=>?_
  repeat' (first|refine ZC ?_|fail)
  exact ZD () rfl trivial
 | 1,_=>
  refine Zc (f:=204) ?_
  refine ZE [_,_] func204 ntmps204 fun G w hp=>?_
  repeat' (first|refine ZC ?_|fail)
  exact ZD () rfl trivial
 | 2,_=>
  refine Zc (f:=205) ?_
  refine ZE [_,_] func205 ntmps205 fun G w hp=>?_
  repeat' (first|refine ZC ?_|fail)
  exact ZD () rfl trivial
theorem text5_ok (c:Cq) (hc:CqS c) (f k:Nat) (hf:f<3) (hk:k<3) (b1 b2 b3:Nat) (s:ByteArray):Enters 198∧Spec prog 198 #[cqa c,pv0 b1,pv0 b2,pv0 b3]
  [Blk b1 (.cells #[cmT k] 286),Blk b2 (.cells #[fdT f] 284),Blk b3 (.cells #[.string s] 9),MxL] [] (RetV (.bool (cmpB k (fldT f c) s))):=by
 have n1:=fldT_ok c f hf
 have n2:=cmpT_ok k hk (fldT f c) s (by have:=hc.fld f;omega)
 obtain ⟨v1,e1⟩:∃v,cmT k=v:=⟨_,rfl⟩
 obtain ⟨v2,e2⟩:∃v,fdT f=v:=⟨_,rfl⟩
 rw [e1] at n2 ⊢
 rw [e2] at n1 ⊢
 refine ZE [_,_,_,_] func198 ntmps198 fun G w hp=>?_
 repeat' (first|refine ZC ?_|refine ZH (fun b=>?_)|refine r_callV n1 (fun _ _=>?_)|refine r_callV n2 (fun _ _=>?_)|refine ZI 1 [] [(0,0),(1,0),(2,0),(4,0),(3,4),(5,4),(6,0)] [] ?_|fail)
 exact ZD () rfl trivial
theorem number8_ok (c:Cq) (f k:Nat) (hf:f<4) (hk:k<3) (b1 b2 b3:Nat) (m:Int):Enters 207∧Spec prog 207 #[cqa c,pv0 b1,pv0 b2,pv0 b3]
  [Blk b1 (.cells #[cmN k] 156),Blk b2 (.cells #[fdN f] 290),Blk b3 (.cells #[.int .i64 m] 3)] [] (RetV (.bool (cmpZ k (fldN f c) m))):=by
 have n1:=fldN_ok c f hf
 have n2:=cmpN_ok k hk (fldN f c) m
 obtain ⟨v1,e1⟩:∃v,cmN k=v:=⟨_,rfl⟩
 obtain ⟨v2,e2⟩:∃v,fdN f=v:=⟨_,rfl⟩
 rw [e1] at n2 ⊢
 rw [e2] at n1 ⊢
 refine ZE [_,_,_,_] func207 ntmps207 fun G w hp=>?_
 repeat' (first|refine ZC ?_|refine ZH (fun b=>?_)|refine r_callV n1 (fun _ _=>?_)|refine r_callV n2 (fun _ _=>?_)|refine ZI 1 [] [(0,0),(1,0),(2,0),(4,0),(3,4),(5,4),(6,0)] [] ?_|fail)
 exact ZD () rfl trivial
end
end Go.Proofs.YtcjfciifhdfjkaaGreatDoor
namespace Go.Proofs.YtcjfciifhdfjkaaGreatDoor
open Go.RowKit Go.Proofs.Tryz
theorem sat_fact {G:H} {w0 w:World} {hp0:H} {F:List Pf} {R:List HP} {X:Type} {f:Pf} {Fx:X→List Pf} {p:X→Prop} (hs:Sat G w0 hp0 (f::F) R w) (h:∀hp,f.p hp→∃x,p x∧∀g ∈ Fx x,g.p hp):∃x,p x∧Sat G w0 hp0 (Fx x++F) R w:=by
 obtain ⟨hp,hr,st⟩:=hs
 obtain ⟨x,hpx,hfx⟩:=h hp (st.f f (.head _))
 refine ⟨x,hpx,hp,hr,st.inp,st.inr,st.ing,st.d1,st.d2,st.d3,st.sub,fun g hg=>?_,st.r,st.same⟩
 rcases List.mem_append.1 hg with h|h
 ·exact hfx g h
 ·exact st.f g (.tail _ h)
theorem YH {v:Value} {name:String} {vs:List Value} {F:List Pf} {R:List HP} {post:Post} {X:Type} {f:Pf} {Fx:X→List Pf} {p:X→Prop} (h:∀hp,f.p hp→∃x,p x∧∀g ∈ Fx x,g.p hp)
  (s:∀x,p x→SpecI v name vs (Fx x++F) R post):SpecI v name vs (f::F) R post:=fun G w hp hs=>by
 obtain ⟨x,hx,hs⟩:=sat_fact hs h
 exact s x hx G w hp hs
theorem specMore {P:Program} {f:FuncId} {args:Array Value} {F F1:List Pf} {R:List HP} {post:Post} (s:Spec P f args F R post):Spec P f args (F++F1) R post:=fun G w hp hs=>s G w hp (hs.facts fun _ h x hx=>h x (List.mem_append_left _ hx))
theorem test_holds (wd:ByteArray) (fv:Value) (c:Cq) {F:List Pf} {x:Bool} (spec:SpecV fv [cqa c] F [] (RetV (.bool x))):Enters 274∧Spec prog 274 #[.agg #[.string wd,fv],cqa c] F [] (RetV (.bool x)):=by
 refine ZE [_,_] func274 ntmps274 fun G w hp=>?_
 repeat' (first|refine ZC ?_|refine ZH (fun b=>?_)|refine YN spec (fun _ _=>?_) (hF:=entF_self _)|fail)
 exact ZD () rfl trivial
abbrev HoI (c : Cq) (d : Cnd) : Prop := ∀ v, SpecI v "replevin/rule.holds" [cqa c] [CdF d v, MxL] [] (RetV (.bool (holF c d)))
theorem tst_ho {c : Cq} {wd : ByteArray} {f : FuncId} {cs : Array Value} {F : List Pf} {x : Bool} (spec : Enters f ∧ Spec prog f ([cqa c].toArray ++ cs) F [] (RetV (.bool x))) : SpecI (tsv wd f cs) "replevin/rule.holds" [cqa c] F [] (RetV (.bool x)) :=
 Vw (f:=274) (by intro w;kernel_rfl) (test_holds wd _ c (Zc spec))
theorem not_holds (c:Cq) (d:Cnd) (u:Value) (ih:HoI c d):Enters 278∧Spec prog 278 #[.agg #[u],cqa c] [CdF d u,MxL] [] (RetV (.bool (!holF c d))):=by
 have n1:=ih u
 refine ZE [_,_] func278 ntmps278 fun G w hp=>?_
 repeat' (first|refine ZC ?_|refine ZH (fun b=>?_)|refine l_inv n1 (fun _ _=>?_)|fail)
 exact ZD () rfl trivial
set_option maxHeartbeats 4000000 in
theorem any_holds (c:Cq) (l:List Cnd) (hbd:l.length≤1000000) (ih:∀d ∈ l,HoI c d) (o:Option Addr) (cap:Nat) (vs:List IV) (hl:vs.length=l.length):Enters 276∧Spec prog 276 #[.agg #[.slice o vs.length cap],cqa c] [Sl 168 ivl o cap vs,CdsF l (vs.map ivOf),MxL] [] (RetV (.bool (anyH c l))):=by
 obtain ⟨R,hR⟩:∃R,anyH c l=R:=⟨_,rfl⟩
 rw [hR]
 refine ZE [_,_] func276 ntmps276 fun G w hp=>?_
 repeat' (first|refine ZC ?_|refine ZH (fun b=>?_)|fail)
 rename_i b2
 refine Zj (X:={j:Nat // j≤vs.length∧anyH c (l.drop j)=R}) (fun j=>[(3,pv0 b),(8,.slice o vs.length cap),(9,.int .i64 (vs.length:Int)),(10,.int .i64 (j.1:Int))]) (fun _=>[Sl 168 ivl o cap vs,CdsF l (vs.map ivOf),MxL]) (fun _=>[Pt b (.cells (cqf c).toArray 40)]) (fun j=>vs.length - j.1) ⟨0,Nat.zero_le _,hR⟩ ⟨rfl,rfl,rfl,rfl,trivial⟩ ?_
 rintro ⟨j,hj,hRj⟩
 dsimp only at hj hRj ⊢
 by_cases hlt:j<vs.length
 ·have hxj:=List.getElem?_eq_getElem hlt
  have hltc:j<l.length:=by omega
  have hcj:=List.getElem?_eq_getElem hltc
  rw [List.drop_eq_getElem_cons hltc] at hRj
  have ihd:=ih _ (List.getElem_mem hltc)
  generalize vs[j]=x at *
  generalize l[j]=d at *
  rw [anyH] at hRj
  obtain ⟨T,u⟩:=x
  have n1:=ihd (ivOf (T,u))
  refine Zx (F1:=[CdsF l (vs.map ivOf)]) (f:=CdF d (ivOf (T,u))) (fun hp hF=>WI (hF _ (.head _)) hcj (by rw [List.getElem?_map,hxj];rfl)) ?_
  have w1:=wrapi (z:=(j:Int)+1) (by omega) (by omega)
  cases hh:holF c d with
  | true=>
   rw [hh] at n1 hRj
   obtain rfl:R=true:=hRj.symm
   repeat' (first|refine ZC ?_|refine ZU (es:=vs) (f:=ivl) j _ hxj (fun b off=>?_)|refine ZQ ?_|refine l_inv n1 (fun _ _=>?_)|(refine ZB (fun hc=>?_) (fun hc=>?_)<;>(try simp at hc)<;>(try omega))|fail)
   exact Zz (Z5 (Zg () rfl trivial))
  | false=>
   rw [hh] at n1 hRj
   repeat' (first|refine ZC ?_|refine ZU (es:=vs) (f:=ivl) j _ hxj (fun b off=>?_)|refine ZQ ?_|refine l_inv n1 (fun _ _=>?_)|rw [w1]|(refine ZB (fun hc=>?_) (fun hc=>?_)<;>(try simp at hc)<;>(try omega))|fail)
   exact ZJ ⟨j+1,by show j+1≤vs.length;omega,hRj⟩ (by show vs.length - (j+1)<vs.length - j;omega) ⟨rfl,rfl,rfl,rfl,trivial⟩
 ·rw [List.drop_eq_nil_of_le (by omega)] at hRj
  obtain rfl:R=false:=hRj.symm
  repeat' (first|refine ZC ?_|refine ZM ?_|(refine ZB (fun hc=>?_) (fun hc=>?_)<;>(try simp at hc)<;>(try omega))|fail)
  exact ZD () rfl trivial
set_option maxHeartbeats 4000000 in
theorem all_holds (c:Cq) (l:List Cnd) (hbd:l.length≤1000000) (ih:∀d ∈ l,HoI c d) (o:Option Addr) (cap:Nat) (vs:List IV) (hl:vs.length=l.length):Enters 280∧Spec prog 280 #[.agg #[.slice o vs.length cap],cqa c] [Sl 168 ivl o cap vs,CdsF l (vs.map ivOf),MxL] [] (RetV (.bool (allH c l))):=by
 obtain ⟨R,hR⟩:∃R,allH c l=R:=⟨_,rfl⟩
 rw [hR]
 refine ZE [_,_] func280 ntmps280 fun G w hp=>?_
 repeat' (first|refine ZC ?_|refine ZH (fun b=>?_)|fail)
 rename_i b2
 refine Zj (X:={j:Nat // j≤vs.length∧allH c (l.drop j)=R}) (fun j=>[(3,pv0 b),(8,.slice o vs.length cap),(9,.int .i64 (vs.length:Int)),(10,.int .i64 (j.1:Int))]) (fun _=>[Sl 168 ivl o cap vs,CdsF l (vs.map ivOf),MxL]) (fun _=>[Pt b (.cells (cqf c).toArray 40)]) (fun j=>vs.length - j.1) ⟨0,Nat.zero_le _,hR⟩ ⟨rfl,rfl,rfl,rfl,trivial⟩ ?_
 rintro ⟨j,hj,hRj⟩
 dsimp only at hj hRj ⊢
 by_cases hlt:j<vs.length
 ·have hxj:=List.getElem?_eq_getElem hlt
  have hltc:j<l.length:=by omega
  have hcj:=List.getElem?_eq_getElem hltc
  rw [List.drop_eq_getElem_cons hltc] at hRj
  have ihd:=ih _ (List.getElem_mem hltc)
  generalize vs[j]=x at *
  generalize l[j]=d at *
  rw [allH] at hRj
  obtain ⟨T,u⟩:=x
  have n1:=ihd (ivOf (T,u))
  refine Zx (F1:=[CdsF l (vs.map ivOf)]) (f:=CdF d (ivOf (T,u))) (fun hp hF=>WI (hF _ (.head _)) hcj (by rw [List.getElem?_map,hxj];rfl)) ?_
  have w1:=wrapi (z:=(j:Int)+1) (by omega) (by omega)
  cases hh:holF c d with
  | false=>
   rw [hh] at n1 hRj
   obtain rfl:R=false:=hRj.symm
   repeat' (first|refine ZC ?_|refine ZU (es:=vs) (f:=ivl) j _ hxj (fun b off=>?_)|refine ZQ ?_|refine l_inv n1 (fun _ _=>?_)|(refine ZB (fun hc=>?_) (fun hc=>?_)<;>(try simp at hc)<;>(try omega))|fail)
   exact Zz (Z5 (Zg () rfl trivial))
  | true=>
   rw [hh] at n1 hRj
   repeat' (first|refine ZC ?_|refine ZU (es:=vs) (f:=ivl) j _ hxj (fun b off=>?_)|refine ZQ ?_|refine l_inv n1 (fun _ _=>?_)|rw [w1]|(refine ZB (fun hc=>?_) (fun hc=>?_)<;>(try simp at hc)<;>(try omega))|fail)
   exact ZJ ⟨j+1,by show j+1≤vs.length;omega,hRj⟩ (by show vs.length - (j+1)<vs.length - j;omega) ⟨rfl,rfl,rfl,rfl,trivial⟩
 ·rw [List.drop_eq_nil_of_le (by omega)] at hRj
  obtain rfl:R=true:=hRj.symm
  repeat' (first|refine ZC ?_|refine ZM ?_|(refine ZB (fun hc=>?_) (fun hc=>?_)<;>(try simp at hc)<;>(try omega))|fail)
  exact ZD () rfl trivial
mutual
theorem UI (c:Cq) (hc:CqS c) {M:Nat} (hM:M≤100000):∀d:Cnd,WfC d→SzC M d→lv d≤1000000→HoI c d
 | .any l,hw,hz,hv,v=>by
  rw [WfC] at hw;rw [SzC] at hz;rw [lv] at hv
  have hll:=WB l
  refine YH (X:=Option Addr×Nat×List IV) (Fx:=fun q=>[Sl 168 ivl q.1 q.2.1 q.2.2,CdsF l (q.2.2.map ivOf)]) (p:=fun q=>v = .iface 305 (.agg #[.slice q.1 q.2.2.length q.2.1])∧q.2.2.length=l.length) (fun h hh=>?_) (fun q hq=>?_)
  ·have hh:CdP h (.any l) v:=hh
   rw [CdP] at hh
   obtain ⟨o,cap,vs,h1,h2,h3⟩:=hh
   exact ⟨(o,cap,vs),⟨h1,by have:=Wj h3;simpa using this⟩,fun g hg=>by
    simp only [List.mem_cons,List.not_mem_nil,or_false] at hg
    rcases hg with rfl|rfl
    ·exact h2
    ·exact h3⟩
  ·obtain ⟨rfl,hl⟩:=hq
   rw [holF]
   exact Vw (f:=276) (by intro w;kernel_rfl) (any_holds c l (by omega) (VP c hc hM l hw hz (by omega)) _ _ _ hl)
 | .all l,hw,hz,hv,v=>by
  rw [WfC] at hw;rw [SzC] at hz;rw [lv] at hv
  have hll:=WB l
  refine YH (X:=Option Addr×Nat×List IV) (Fx:=fun q=>[Sl 168 ivl q.1 q.2.1 q.2.2,CdsF l (q.2.2.map ivOf)]) (p:=fun q=>v = .iface 319 (.agg #[.slice q.1 q.2.2.length q.2.1])∧q.2.2.length=l.length) (fun h hh=>?_) (fun q hq=>?_)
  ·have hh:CdP h (.all l) v:=hh
   rw [CdP] at hh
   obtain ⟨o,cap,vs,h1,h2,h3⟩:=hh
   exact ⟨(o,cap,vs),⟨h1,by have:=Wj h3;simpa using this⟩,fun g hg=>by
    simp only [List.mem_cons,List.not_mem_nil,or_false] at hg
    rcases hg with rfl|rfl
    ·exact h2
    ·exact h3⟩
  ·obtain ⟨rfl,hl⟩:=hq
   rw [holF]
   exact Vw (f:=280) (by intro w;kernel_rfl) (all_holds c l (by omega) (VP c hc hM l hw hz (by omega)) _ _ _ hl)
 | .nt d,hw,hz,hv,v=>by
  rw [WfC] at hw;rw [SzC] at hz;rw [lv] at hv
  refine YH (X:=Value) (Fx:=fun u=>[CdF d u]) (p:=fun u=>v = .iface 317 (.agg #[u])) (fun h hh=>?_) (fun u hq=>?_)
  ·have hh:CdP h (.nt d) v:=hh
   rw [CdP] at hh
   obtain ⟨u,h1,h2⟩:=hh
   exact ⟨u,h1,fun g hg=>by rcases List.mem_singleton.1 hg with rfl;exact h2⟩
  ·subst hq
   rw [holF]
   exact Vw (f:=278) (by intro w;kernel_rfl) (not_holds c d u (UI c hc hM d hw hz (by omega)))
 | .nul,hw,_,_,_=>by rw [WfC] at hw;exact absurd hw id
 | .kd wd k,_,_,_,v=>by
  refine YH (X:=Nat) (Fx:=fun b=>[Blk b (.cells #[.int .i64 k] 3)]) (p:=fun b=>v=tsv wd 188 #[pv0 b]) (fun h hh=>?_) (fun b hq=>?_)
  ·have hh:CdP h (.kd wd k) v:=hh
   rw [CdP] at hh
   obtain ⟨b,h1,h2⟩:=hh
   exact ⟨b,h1,fun g hg=>by rcases List.mem_singleton.1 hg with rfl;exact h2⟩
  ·subst hq
   rw [holF]
   exact tst_ho ((kind1_ok c b k).imp_right fun h=>specMore h)
 | .ch wd k,_,_,_,v=>by
  refine YH (X:=Nat) (Fx:=fun b=>[Blk b (.cells #[.int .i64 k] 3)]) (p:=fun b=>v=tsv wd 190 #[pv0 b]) (fun h hh=>?_) (fun b hq=>?_)
  ·have hh:CdP h (.ch wd k) v:=hh
   rw [CdP] at hh
   obtain ⟨b,h1,h2⟩:=hh
   exact ⟨b,h1,fun g hg=>by rcases List.mem_singleton.1 hg with rfl;exact h2⟩
  ·subst hq
   rw [holF]
   exact tst_ho ((channel1_ok c b k).imp_right fun h=>specMore h)
 | .tx wd f k s,hw,hz,_,v=>by
  rw [WfC] at hw;rw [SzC] at hz
  refine YH (X:=Nat×Nat×Nat) (Fx:=fun q=>[Blk q.1 (.cells #[cmT k] 286),Blk q.2.1 (.cells #[fdT f] 284),Blk q.2.2 (.cells #[.string s] 9)]) (p:=fun q=>v=tsv wd 198 #[pv0 q.1,pv0 q.2.1,pv0 q.2.2]) (fun h hh=>?_) (fun q hq=>?_)
  ·have hh:CdP h (.tx wd f k s) v:=hh
   rw [CdP] at hh
   obtain ⟨b1,b2,b3,h1,h2,h3,h4⟩:=hh
   exact ⟨(b1,b2,b3),h1,fun g hg=>by
    simp only [List.mem_cons,List.not_mem_nil,or_false] at hg
    rcases hg with rfl|rfl|rfl
    ·exact h2
    ·exact h3
    ·exact h4⟩
  ·subst hq
   rw [holF]
   exact tst_ho (text5_ok c hc f k hw.1 hw.2 _ _ _ s)
 | .nm wd f k n,hw,_,_,v=>by
  rw [WfC] at hw
  refine YH (X:=Nat×Nat×Nat) (Fx:=fun q=>[Blk q.1 (.cells #[cmN k] 156),Blk q.2.1 (.cells #[fdN f] 290),Blk q.2.2 (.cells #[.int .i64 n] 3)]) (p:=fun q=>v=tsv wd 207 #[pv0 q.1,pv0 q.2.1,pv0 q.2.2]) (fun h hh=>?_) (fun q hq=>?_)
  ·have hh:CdP h (.nm wd f k n) v:=hh
   rw [CdP] at hh
   obtain ⟨b1,b2,b3,h1,h2,h3,h4⟩:=hh
   exact ⟨(b1,b2,b3),h1,fun g hg=>by
    simp only [List.mem_cons,List.not_mem_nil,or_false] at hg
    rcases hg with rfl|rfl|rfl
    ·exact h2
    ·exact h3
    ·exact h4⟩
  ·subst hq
   rw [holF]
   exact tst_ho ((number8_ok c f k hw.1 hw.2 _ _ _ n).imp_right fun h=>specMore h)
 | .by_ wd s,_,hz,_,v=>by
  rw [SzC] at hz
  refine YH (X:=Nat) (Fx:=fun b=>[Blk b (.cells #[.string s] 36)]) (p:=fun b=>v=tsv wd 208 #[pv0 b]) (fun h hh=>?_) (fun b hq=>?_)
  ·have hh:CdP h (.by_ wd s) v:=hh
   rw [CdP] at hh
   obtain ⟨b,h1,h2⟩:=hh
   exact ⟨b,h1,fun g hg=>by rcases List.mem_singleton.1 hg with rfl;exact h2⟩
  ·subst hq
   rw [holF]
   exact tst_ho ((by1_ok c hc b s (by omega)).imp_right fun h=>specMore h)
theorem VP (c:Cq) (hc:CqS c) {M:Nat} (hM:M≤100000):∀l:List Cnd,WfCs l→SzCs M l→lvs l≤1000000→∀d ∈ l,HoI c d
 | [],_,_,_=>fun d hd=>by cases hd
 | x::l,hw,hz,hv=>fun d hd=>by
  rw [WfCs] at hw;rw [SzCs] at hz;rw [lvs] at hv
  rcases List.mem_cons.1 hd with hd|hd
  ·exact hd ▸ UI c hc hM x hw.1 hz.1 (by omega)
  ·exact VP c hc hM l hw.2 hz.2 (by omega) d hd
end
theorem line_holds (c:Cq) (hc:CqS c) {M:Nat} (hM:M≤100000) (x:Ru) (hx:RuOK M x) (i:Option IV):Enters 89∧Spec prog 89 #[ruV i x.a,cqa c] [OcF x.c i,MxL] [] (RetV (.bool (condH c x))):=by
 obtain ⟨xc,xa⟩:=x
 cases xc with
 | none=>
  cases i with
  | none=>
   refine ZE [_,_] func89 ntmps89 fun G w hp=>?_
   repeat' (first|refine l_eqI underlying168 (.inl ⟨rfl,rfl⟩) ?_|refine ZC ?_|refine ZH (fun b=>?_)|fail)
   exact ZD () rfl trivial
  | some iv=>
   refine ⟨enters_of func89 (by kernel_rfl) rfl,fun G w hp hs=>?_⟩
   obtain ⟨hp',hr,st⟩:=hs
   exact absurd (st.f _ (.head _)) id
 | some d=>
  cases i with
  | none=>
   refine ⟨enters_of func89 (by kernel_rfl) rfl,fun G w hp hs=>?_⟩
   obtain ⟨hp',hr,st⟩:=hs
   exact absurd (st.f _ (.head _)) id
  | some iv=>
   obtain ⟨hw,hz,hv⟩:=hx.c d rfl
   have n1:=UI c hc hM d hw hz (by omega) (ivOf iv)
   have e:condH c ⟨some d,xa⟩=holF c d:=rfl
   rw [e]
   obtain ⟨R,hR⟩:∃R,holF c d=R:=⟨_,rfl⟩
   rw [hR] at n1 ⊢
   obtain ⟨T,u⟩:=iv
   refine ZE [_,_] func89 ntmps89 fun G w hp=>?_
   refine Zx (F1:=[OcF (some d) (some (T,u))]) (f:=CdF d (ivOf (T,u))) (fun hp hF=>hF _ (.head _)) ?_
   repeat' (first|refine l_eqI underlying168 (.inr ⟨⟨_,_,rfl⟩,rfl⟩) ?_|refine ZC ?_|refine ZH (fun b=>?_)|refine l_inv n1 (fun _ _=>?_)|fail)
   exact ZD () rfl trivial
theorem rls_open {b:Nat} {l:List Ru} (h:H) (hh:(RlsF b l).p h):∃q:List RI×Option Addr×Nat,q.1.length=l.length∧∀g ∈ [Blk b (.cells #[.slice q.2.1 q.1.length q.2.2] 173),Sl 170 rul q.2.1 q.2.2 q.1,RusF l q.1],g.p h:=by
 obtain ⟨xs,o,cap,h1,h2,h3⟩:=hh
 refine ⟨(xs,o,cap),rusP_len h3,fun g hg=>?_⟩
 simp only [List.mem_cons,List.not_mem_nil,or_false] at hg
 rcases hg with rfl|rfl|rfl
 ·exact h1
 ·exact h2
 ·exact h3
theorem ruLen_ok (b:Nat) (l:List Ru):Enters 88∧Spec prog 88 #[pv0 b] [RlsF b l] [] (RetV (.int .i64 (l.length:Nat))):=by
 refine ZE [_] func88 ntmps88 fun G w hp=>?_
 refine Zm (X:=List RI×Option Addr×Nat) (f:=RlsF b l) .here rls_open (fun q hq=>?_)
 obtain ⟨xs,o,cap⟩:=q
 dsimp only at hq ⊢
 rw [←hq]
 repeat' (first|refine ZC ?_|fail)
 exact ZD () rfl trivial
theorem ruLen0_ok:Enters 88∧Spec prog 88 #[.pointer none] [] [] (RetV (.int .i64 0)):=by
 refine ZE [_] func88 ntmps88 fun G w hp=>?_
 repeat' (first|refine ZC ?_|fail)
 exact ZD () rfl trivial
def hoV (l:List Ru) (i:Int) (c:Cq):Value:=match (if 0≤i then l[i.toNat]? else none) with
 | some x=>.tuple #[.bool (condH c x),.int .i64 0]
 | none=>.tuple #[.bool false,.int .i64 2]
abbrev DeV (r:Ac×Int):Value:=.tuple #[acV r.1,.int .i64 r.2]
set_option maxHeartbeats 4000000 in
theorem ruDecide_ok (bp:Nat) (l:List Ru) (c:Cq) (hc:CqI c) (hs:CqS c) {M:Nat} (hM:M≤70000) (hl:∀x ∈ l,RuOK M x) (hn:l.length≤256):Enters 59∧Spec prog 59 #[pv0 bp,cqa c] [RlsF bp l,P10,MxL] [] (RetV (DeV (decideF l c))):=by
 have n1:=ruLen_ok bp l
 have m1:=Yd 5 c.kind
 obtain ⟨V,hV⟩:∃V,DeV (decideF l c)=V:=⟨_,rfl⟩
 rw [hV]
 cases hp:posF 5 c.kind with
 | false=>
  rw [hp] at m1
  unfold decideF at hV
  rw [if_pos hp] at hV
  subst hV
  refine ZE [_,_] func59 ntmps59 fun G w hp=>?_
  repeat' (first|refine ZC ?_|refine ZH (fun b=>?_)|refine ZA (m1) (fun _ _=>?_)|fail)
  all_goals exact ZD () rfl trivial
 | true=>
  rw [hp] at m1
  unfold decideF at hV
  rw [if_neg (by rw [hp];decide)] at hV
  refine ZE [_,_] func59 ntmps59 fun G w hp=>?_
  refine Zm (X:=List RI×Option Addr×Nat) (f:=RlsF bp l) .here rls_open (fun q hq=>?_)
  obtain ⟨xs,o,cap⟩:=q
  dsimp only at hq ⊢
  repeat' (first|refine ZC ?_|refine ZH (fun b=>?_)|refine ZA (m1) (fun _ _=>?_)|refine ZA (n1) (fun _ _=>?_)|fail)
  rename_i b3 _ _ _ _
  generalize b=b4 at *
  refine Zj (X:={j:Nat // j≤l.length∧DeV (decF c (l.drop j) j)=V}) (fun j=>[(0,pv0 bp),(3,pv0 b3),(4,pv0 b4),(16,.int .i64 (l.length:Int)),(17,.int .i64 (j.1:Int))]) (fun _=>[Blk bp (.cells #[.slice o xs.length cap] 173),Sl 170 rul o cap xs,RusF l xs,P10,MxL]) (fun _=>[Pt b3 (.cells (cqf c).toArray 40),Pt b4 (.cells #[.int .i64 0,.string ⟨#[]⟩] 42)]) (fun j=>l.length - j.1) ⟨0,Nat.zero_le _,hV⟩ ⟨rfl,rfl,rfl,rfl,rfl,trivial⟩ ?_
  rintro ⟨j,hj,hR⟩
  dsimp only at hj hR ⊢
  by_cases hlt:j<l.length
  ·have hxj:=List.getElem?_eq_getElem hlt
   rw [List.drop_eq_getElem_cons hlt] at hR
   have hx:=hl _ (List.getElem_mem hlt)
   generalize l[j]=x at *
   rw [decF] at hR
   have hyj:=List.getElem?_eq_getElem (show j<xs.length by omega)
   generalize xs[j]=y at *
   obtain ⟨iv,a⟩:=y
   have w1:=wrapi (z:=(j:Int)+1) (by omega) (by omega)
   refine Zm (X:=Unit) (Fx:=fun _=>[OcF x.c iv]) (p:=fun _=>x.a=a) (f:=RusF l xs) (.there (.there .here)) (fun h hh=>?_) (fun _ ha=>?_)
   ·obtain ⟨g1,g2⟩:=rusP_get (show RusP h l xs from hh) hxj hyj
    exact ⟨(),g2,fun g hg=>by rcases List.mem_singleton.1 hg with rfl;exact g1⟩
   subst ha
   have m2:=Yd x.a.k c.kind
   have m3:=line_holds c hs (show M≤100000 by omega) x hx iv
   have m4:=ruSize_ok x.a.t c (by have:=hx.t;omega) hc (by have:=exp_sz hx.t hs hc;have:(M+1) * (M+5000)≤70001 * 75000:=Nat.mul_le_mul (by omega) (by omega);omega)
   cases hpo:posF x.a.k c.kind with
   | false=>
    rw [if_pos (.inl hpo)] at hR
    rw [hpo] at m2
    rcases iv with _|⟨T,u⟩
    ·repeat' (first|refine ZC ?_|refine ZH (fun b=>?_)|refine ZA (m2) (fun _ _=>?_)|refine ZU (es:=xs) (f:=rul) j _ hyj (fun b off=>?_)|refine ZQ ?_|rw [w1]|(refine ZB (fun hc=>?_) (fun hc=>?_)<;>(try simp at hc)<;>(try omega))|fail)
     all_goals exact ZJ ⟨j+1,by show j+1≤l.length;omega,hR⟩ (by show l.length - (j+1)<l.length - j;omega) ⟨rfl,rfl,rfl,rfl,rfl,trivial⟩
    ·repeat' (first|refine ZC ?_|refine ZH (fun b=>?_)|refine ZA (m2) (fun _ _=>?_)|refine ZU (es:=xs) (f:=rul) j _ hyj (fun b off=>?_)|refine ZQ ?_|rw [w1]|(refine ZB (fun hc=>?_) (fun hc=>?_)<;>(try simp at hc)<;>(try omega))|fail)
     all_goals exact ZJ ⟨j+1,by show j+1≤l.length;omega,hR⟩ (by show l.length - (j+1)<l.length - j;omega) ⟨rfl,rfl,rfl,rfl,rfl,trivial⟩
   | true=>
    rw [hpo] at m2
    cases hh:condH c x with
    | false=>
     rw [if_pos (.inr hh)] at hR
     rw [hh] at m3
     rcases iv with _|⟨T,u⟩
     ·repeat' (first|refine ZC ?_|refine ZH (fun b=>?_)|refine ZA (m2) (fun _ _=>?_)|refine ZA (m3) (fun _ _=>?_)|refine ZU (es:=xs) (f:=rul) j _ hyj (fun b off=>?_)|refine ZQ ?_|rw [w1]|(refine ZB (fun hc=>?_) (fun hc=>?_)<;>(try simp at hc)<;>(try omega))|fail)
      all_goals exact ZJ ⟨j+1,by show j+1≤l.length;omega,hR⟩ (by show l.length - (j+1)<l.length - j;omega) ⟨rfl,rfl,rfl,rfl,rfl,trivial⟩
     ·repeat' (first|refine ZC ?_|refine ZH (fun b=>?_)|refine ZA (m2) (fun _ _=>?_)|refine ZA (m3) (fun _ _=>?_)|refine ZU (es:=xs) (f:=rul) j _ hyj (fun b off=>?_)|refine ZQ ?_|rw [w1]|(refine ZB (fun hc=>?_) (fun hc=>?_)<;>(try simp at hc)<;>(try omega))|fail)
      all_goals exact ZJ ⟨j+1,by show j+1≤l.length;omega,hR⟩ (by show l.length - (j+1)<l.length - j;omega) ⟨rfl,rfl,rfl,rfl,rfl,trivial⟩
    | true=>
     rw [if_neg (fun h=>h.elim (fun h=>by rw [hpo] at h;cases h) (fun h=>by rw [hh] at h;cases h))] at hR
     rw [hh] at m3
     by_cases hk:x.a.k=2
     ·rw [if_neg (fun h=>h hk)] at hR
      by_cases hz:4096<(expF x.a.t c).size
      ·rw [if_pos hz] at hR
       subst hR
       rcases iv with _|⟨T,u⟩
       ·repeat' (first|refine ZC ?_|refine ZH (fun b=>?_)|refine ZM ?_|refine ZA (m2) (fun _ _=>?_)|refine ZA (m3) (fun _ _=>?_)|refine ZA (m4) (fun _ _=>?_)|refine ZU (es:=xs) (f:=rul) j _ hyj (fun b off=>?_)|refine ZQ ?_|(refine ZB (fun hc=>?_) (fun hc=>?_)<;>(try simp at hc)<;>(try omega))|fail)
        all_goals exact ZD () rfl trivial
       ·repeat' (first|refine ZC ?_|refine ZH (fun b=>?_)|refine ZM ?_|refine ZA (m2) (fun _ _=>?_)|refine ZA (m3) (fun _ _=>?_)|refine ZA (m4) (fun _ _=>?_)|refine ZU (es:=xs) (f:=rul) j _ hyj (fun b off=>?_)|refine ZQ ?_|(refine ZB (fun hc=>?_) (fun hc=>?_)<;>(try simp at hc)<;>(try omega))|fail)
        all_goals exact ZD () rfl trivial
      ·rw [if_neg hz] at hR
       have m5:=ruExpand_ok x.a.t c (by have:=hx.t;omega) hc (by omega)
       rw [hx.a.2.2.1 hk] at m5
       have hR':DeV (⟨2,expF x.a.t c⟩,(j:Int))=V:=hR
       subst hR'
       rcases iv with _|⟨T,u⟩
       ·repeat' (first|refine ZC ?_|refine ZH (fun b=>?_)|refine ZA (m2) (fun _ _=>?_)|refine ZA (m3) (fun _ _=>?_)|refine ZA (m4) (fun _ _=>?_)|refine ZA (m5) (fun _ _=>?_)|refine ZU (es:=xs) (f:=rul) j _ hyj (fun b off=>?_)|refine ZQ ?_|(refine ZB (fun hc=>?_) (fun hc=>?_)<;>(try simp at hc)<;>(try omega))|fail)
        all_goals exact Zz (Z5 (Zg () rfl trivial))
       ·repeat' (first|refine ZC ?_|refine ZH (fun b=>?_)|refine ZA (m2) (fun _ _=>?_)|refine ZA (m3) (fun _ _=>?_)|refine ZA (m4) (fun _ _=>?_)|refine ZA (m5) (fun _ _=>?_)|refine ZU (es:=xs) (f:=rul) j _ hyj (fun b off=>?_)|refine ZQ ?_|(refine ZB (fun hc=>?_) (fun hc=>?_)<;>(try simp at hc)<;>(try omega))|fail)
        all_goals exact Zz (Z5 (Zg () rfl trivial))
     ·rw [if_pos hk] at hR
      subst hR
      rcases iv with _|⟨T,u⟩
      ·repeat' (first|refine ZC ?_|refine ZH (fun b=>?_)|refine ZA (m2) (fun _ _=>?_)|refine ZA (m3) (fun _ _=>?_)|refine ZU (es:=xs) (f:=rul) j _ hyj (fun b off=>?_)|refine ZQ ?_|(refine ZB (fun hc=>?_) (fun hc=>?_)<;>(try simp at hc)<;>(try omega))|fail)
       all_goals exact Zz (Z5 (Zg () rfl trivial))
      ·repeat' (first|refine ZC ?_|refine ZH (fun b=>?_)|refine ZA (m2) (fun _ _=>?_)|refine ZA (m3) (fun _ _=>?_)|refine ZU (es:=xs) (f:=rul) j _ hyj (fun b off=>?_)|refine ZQ ?_|(refine ZB (fun hc=>?_) (fun hc=>?_)<;>(try simp at hc)<;>(try omega))|fail)
       all_goals exact Zz (Z5 (Zg () rfl trivial))
  ·rw [List.drop_eq_nil_of_le (by omega)] at hR
   subst hR
   repeat' (first|refine ZC ?_|refine ZM ?_|(refine ZB (fun hc=>?_) (fun hc=>?_)<;>(try simp at hc)<;>(try omega))|fail)
   exact ZD () rfl trivial
end Go.Proofs.YtcjfciifhdfjkaaGreatDoor
