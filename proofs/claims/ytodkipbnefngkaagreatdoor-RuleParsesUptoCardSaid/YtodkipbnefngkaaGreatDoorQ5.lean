/-
  Package rule: Len, Holds, Decide.
  Package rule: the canonical text of rules.
  What is written of rules is read as those rules. No program in sight.
  How long the text of what was read is. No program in sight.
  What was read of a text can be written and read. No program in sight.
  The model's text of a condition is the canonical text of the condition that it is. No program in sight.
  The model's text of rules that were read is their canonical text. No program in sight.
  What the model's show needs of a tree: the numbers in it. No program in sight.
  The statements' model of the language of rules: simple.
  The statements' model of the language of rules: show.
  The model's parser of rules: factors, and all that is read of a condition.
  The model's parser of rules: a rule.
  The statements' model of the language of rules: the scanner.
  The statements' model of the language of rules: its tokens are good, and the lines of a text.
  The statements' model of the language of rules: how a text is read.
  The statements' cut of a text; the errors of a reading.
  The first example of the language of rules: what is read, and what it decides. No program in sight.
  Equality of actions of rules: rules for it.
  The statements' first example of the language of rules holds.
  The statements' model of the language of rules: what rules decide.
  The statements' model of the language of rules: the text of rules.
  Package rule: Text, Equal.
  The law RuleParses.
  Conditions: those that each theorem states.
-/
import Derived.Test.YtodkipbnefngkaaGreatDoorQ4
import Derived.Test.YtodkipbnefngkaaGreatDoorQ3
import Derived.Test.YtodkipbnefngkaaGreatDoorQ2
import Derived.Shelf.Strings.Split
set_option maxRecDepth 10000
namespace Go.Proofs.YtodkipbnefngkaaGreatDoor
open Go.RowKit Go.Proofs.Tryz
theorem line_holds (c:Cq) (hc:CqS c) {M:Nat} (hM:M≤100000) (x:Ru) (hx:RuOK M x) (i:Option IV):Enters 46∧Spec prog 46 #[ruV i x.a,cqa c] [OcF x.c i,MxL] [] (RetV (.bool (condH c x))):=by
 obtain ⟨xc,xa⟩:=x
 cases xc with
 | none=>
  cases i with
  | none=>
   refine ZR [_,_] func46 ntmps46 fun G w hp=>?_
   repeat' (first|refine l_eqI underlying100 (.inl ⟨rfl,rfl⟩) ?_|refine ZF ?_|refine ZI ?_|refine ZG ?_|refine ZH ?_|refine ZL ?_|refine ZJ ?_|refine ZN ?_|refine ZK (fun b=>?_)|refine ZM (fun b=>?_)|refine ZC ?_|refine ZA ?_|refine ZO ?_|(refine ZB (fun hc=>?_) (fun hc=>?_)<;>(try simp at hc)<;>(try omega))|(refine ZE (fun hc=>?_) (fun hc=>?_)<;>(try simp at hc)<;>(try omega)))
   exact ZP () rfl trivial
  | some iv=>
   refine ⟨enters_of func46 (by kernel_rfl) rfl,fun G w hp hs=>?_⟩
   obtain ⟨hp',hr,st⟩:=hs
   exact absurd (st.f _ (.head _)) id
 | some d=>
  cases i with
  | none=>
   refine ⟨enters_of func46 (by kernel_rfl) rfl,fun G w hp hs=>?_⟩
   obtain ⟨hp',hr,st⟩:=hs
   exact absurd (st.f _ (.head _)) id
  | some iv=>
   obtain ⟨hw,hz,hv⟩:=hx.c d rfl
   have n1:=Vu c hc hM d hw hz (by omega) (ivOf iv)
   have e:condH c ⟨some d,xa⟩=holF c d:=rfl
   rw [e]
   obtain ⟨R,hR⟩:∃R,holF c d=R:=⟨_,rfl⟩
   rw [hR] at n1 ⊢
   obtain ⟨T,u⟩:=iv
   refine ZR [_,_] func46 ntmps46 fun G w hp=>?_
   refine Zn (F1:=[OcF (some d) (some (T,u))]) (f:=CdF d (ivOf (T,u))) (fun hp hF=>hF _ (.head _)) ?_
   repeat' (first|refine l_eqI underlying100 (.inr ⟨⟨_,_,rfl⟩,rfl⟩) ?_|refine ZF ?_|refine ZI ?_|refine ZG ?_|refine ZH ?_|refine ZL ?_|refine ZJ ?_|refine ZN ?_|refine ZK (fun b=>?_)|refine ZM (fun b=>?_)|refine ZC ?_|refine ZA ?_|refine ZO ?_|refine Yy n1 (fun _ _=>?_)|(refine ZB (fun hc=>?_) (fun hc=>?_)<;>(try simp at hc)<;>(try omega))|(refine ZE (fun hc=>?_) (fun hc=>?_)<;>(try simp at hc)<;>(try omega)))
   exact ZP () rfl trivial
theorem rls_open {b:Nat} {l:List Ru} (h:H) (hh:(RlsF b l).p h):∃q:List RI×Option Addr×Nat,q.1.length=l.length∧∀g ∈ [Blk b (.cells #[.slice q.2.1 q.1.length q.2.2] 95),Sl 102 rul q.2.1 q.2.2 q.1,RusF l q.1],g.p h:=by
 obtain ⟨xs,o,cap,h1,h2,h3⟩:=hh
 refine ⟨(xs,o,cap),rusP_len h3,fun g hg=>?_⟩
 simp only [List.mem_cons,List.not_mem_nil,or_false] at hg
 rcases hg with rfl|rfl|rfl
 ·exact h1
 ·exact h2
 ·exact h3
theorem ruLen_ok (b:Nat) (l:List Ru):Enters 23∧Spec prog 23 #[pv0 b] [RlsF b l] [] (RetV (.int .i64 (l.length:Nat))):=by
 refine ZR [_] func23 ntmps23 fun G w hp=>?_
 refine Yb (X:=List RI×Option Addr×Nat) (f:=RlsF b l) .here rls_open (fun q hq=>?_)
 obtain ⟨xs,o,cap⟩:=q
 dsimp only at hq ⊢
 rw [←hq]
 repeat' (first|refine ZF ?_|refine ZI ?_|refine ZG ?_|refine ZH ?_|refine ZL ?_|refine ZJ ?_|refine ZN ?_|refine ZK (fun b=>?_)|refine ZM (fun b=>?_)|refine ZC ?_|refine ZA ?_|refine ZO ?_|(refine ZB (fun hc=>?_) (fun hc=>?_)<;>(try simp at hc)<;>(try omega))|(refine ZE (fun hc=>?_) (fun hc=>?_)<;>(try simp at hc)<;>(try omega)))
 exact ZP () rfl trivial
def hoV (l:List Ru) (i:Int) (c:Cq):Value:=match (if 0≤i then l[i.toNat]? else none) with
 | some x=>.tuple #[.bool (condH c x),.int .i64 0]
 | none=>.tuple #[.bool false,.int .i64 2]
abbrev DeV (r:Ac×Int):Value:=.tuple #[acV r.1,.int .i64 r.2]
set_option maxHeartbeats 4000000 in
theorem WQ (bp:Nat) (l:List Ru) (c:Cq) (hc:CqI c) (hs:CqS c) {M:Nat} (hM:M≤70000) (hl:∀x ∈ l,RuOK M x) (hn:l.length≤256):Enters 22∧Spec prog 22 #[pv0 bp,cqa c] [RlsF bp l,P10,MxL] [] (RetV (DeV (decideF l c))):=by
 have n1:=ruLen_ok bp l
 have m1:=V9 5 c.kind
 obtain ⟨V,hV⟩:∃V,DeV (decideF l c)=V:=⟨_,rfl⟩
 rw [hV]
 cases hp:posF 5 c.kind with
 | false=>
  rw [hp] at m1
  unfold decideF at hV
  rw [if_pos hp] at hV
  subst hV
  refine ZR [_,_] func22 ntmps22 fun G w hp=>?_
  repeat' (first|refine ZF ?_|refine ZI ?_|refine ZG ?_|refine ZH ?_|refine ZL ?_|refine ZJ ?_|refine ZN ?_|refine ZK (fun b=>?_)|refine ZM (fun b=>?_)|refine ZC ?_|refine ZA ?_|refine ZO ?_|refine ZD (m1) (fun _ _=>?_)|refine l_call0 (m1) (fun _ _=>?_)|(refine ZB (fun hc=>?_) (fun hc=>?_)<;>(try simp at hc)<;>(try omega))|(refine ZE (fun hc=>?_) (fun hc=>?_)<;>(try simp at hc)<;>(try omega)))
  all_goals exact ZP () rfl trivial
 | true=>
  rw [hp] at m1
  unfold decideF at hV
  rw [if_neg (by rw [hp];decide)] at hV
  refine ZR [_,_] func22 ntmps22 fun G w hp=>?_
  refine Yb (X:=List RI×Option Addr×Nat) (f:=RlsF bp l) .here rls_open (fun q hq=>?_)
  obtain ⟨xs,o,cap⟩:=q
  dsimp only at hq ⊢
  repeat' (first|refine ZF ?_|refine ZI ?_|refine ZG ?_|refine ZH ?_|refine ZL ?_|refine ZJ ?_|refine ZN ?_|refine ZK (fun b=>?_)|refine ZM (fun b=>?_)|refine ZC ?_|refine ZA ?_|refine ZD (m1) (fun _ _=>?_)|refine l_call0 (m1) (fun _ _=>?_)|refine ZD (n1) (fun _ _=>?_)|refine l_call0 (n1) (fun _ _=>?_)|(refine ZB (fun hc=>?_) (fun hc=>?_)<;>(try simp at hc)<;>(try omega))|(refine ZE (fun hc=>?_) (fun hc=>?_)<;>(try simp at hc)<;>(try omega)))
  rename_i b3 _ _ _ _
  generalize b=b4 at *
  refine YK (X:={j:Nat // j≤l.length∧DeV (decF c (l.drop j) j)=V}) (fun j=>[(0,pv0 bp),(3,pv0 b3),(4,pv0 b4),(16,.int .i64 (l.length:Int)),(17,.int .i64 (j.1:Int))]) (fun _=>[Blk bp (.cells #[.slice o xs.length cap] 95),Sl 102 rul o cap xs,RusF l xs,P10,MxL]) (fun _=>[Pt b3 (.cells (cqf c).toArray 26),Pt b4 (.cells #[.int .i64 0,.string ⟨#[]⟩] 43)]) (fun j=>l.length - j.1) ⟨0,Nat.zero_le _,hV⟩ ⟨rfl,rfl,rfl,rfl,rfl,trivial⟩ ?_
  rintro ⟨j,hj,hR⟩
  dsimp only at hj hR ⊢
  by_cases hlt:j<l.length
  ·have hxj:=List.getElem?_eq_getElem hlt
   rw [List.drop_eq_getElem_cons hlt] at hR
   have hx:=hl _ (List.getElem_mem hlt)
   generalize l[j]=x at *
   rw [decF] at hR
   have hyj:=List.getElem?_eq_getElem (show j<xs.length by omega)
   generalize xs[j]=y at *
   obtain ⟨iv,a⟩:=y
   have w1:=wrapi (z:=(j:Int)+1) (by omega) (by omega)
   refine Yb (X:=Unit) (Fx:=fun _=>[OcF x.c iv]) (p:=fun _=>x.a=a) (f:=RusF l xs) (.there (.there .here)) (fun h hh=>?_) (fun _ ha=>?_)
   ·obtain ⟨g1,g2⟩:=rusP_get (show RusP h l xs from hh) hxj hyj
    exact ⟨(),g2,fun g hg=>by rcases List.mem_singleton.1 hg with rfl;exact g1⟩
   subst ha
   have m2:=V9 x.a.k c.kind
   have m3:=line_holds c hs (show M≤100000 by omega) x hx iv
   have m4:=ruSize_ok x.a.t c (by have:=hx.t;omega) hc (by have:=exp_sz hx.t hs hc;have:(M+1) * (M+5000)≤70001 * 75000:=Nat.mul_le_mul (by omega) (by omega);omega)
   cases hpo:posF x.a.k c.kind with
   | false=>
    rw [if_pos (.inl hpo)] at hR
    rw [hpo] at m2
    rcases iv with _|⟨T,u⟩
    ·repeat' (first|refine ZF ?_|refine ZI ?_|refine ZG ?_|refine ZH ?_|refine ZL ?_|refine ZJ ?_|refine ZN ?_|refine ZK (fun b=>?_)|refine ZM (fun b=>?_)|refine ZC ?_|refine ZA ?_|refine ZD (m2) (fun _ _=>?_)|refine l_call0 (m2) (fun _ _=>?_)|refine ZD (m3) (fun _ _=>?_)|refine l_call0 (m3) (fun _ _=>?_)|refine ZD (m4) (fun _ _=>?_)|refine l_call0 (m4) (fun _ _=>?_)|refine ZW (es:=xs) (f:=rul) j _ hyj (fun b off=>?_)|refine ZX ?_|rw [w1]|(refine ZB (fun hc=>?_) (fun hc=>?_)<;>(try simp at hc)<;>(try omega))|(refine ZE (fun hc=>?_) (fun hc=>?_)<;>(try simp at hc)<;>(try omega)))
     all_goals exact ZV ⟨j+1,by show j+1≤l.length;omega,hR⟩ (by show l.length - (j+1)<l.length - j;omega) ⟨rfl,rfl,rfl,rfl,rfl,trivial⟩
    ·repeat' (first|refine ZF ?_|refine ZI ?_|refine ZG ?_|refine ZH ?_|refine ZL ?_|refine ZJ ?_|refine ZN ?_|refine ZK (fun b=>?_)|refine ZM (fun b=>?_)|refine ZC ?_|refine ZA ?_|refine ZD (m2) (fun _ _=>?_)|refine l_call0 (m2) (fun _ _=>?_)|refine ZD (m3) (fun _ _=>?_)|refine l_call0 (m3) (fun _ _=>?_)|refine ZD (m4) (fun _ _=>?_)|refine l_call0 (m4) (fun _ _=>?_)|refine ZW (es:=xs) (f:=rul) j _ hyj (fun b off=>?_)|refine ZX ?_|rw [w1]|(refine ZB (fun hc=>?_) (fun hc=>?_)<;>(try simp at hc)<;>(try omega))|(refine ZE (fun hc=>?_) (fun hc=>?_)<;>(try simp at hc)<;>(try omega)))
     all_goals exact ZV ⟨j+1,by show j+1≤l.length;omega,hR⟩ (by show l.length - (j+1)<l.length - j;omega) ⟨rfl,rfl,rfl,rfl,rfl,trivial⟩
   | true=>
    rw [hpo] at m2
    cases hh:condH c x with
    | false=>
     rw [if_pos (.inr hh)] at hR
     rw [hh] at m3
     rcases iv with _|⟨T,u⟩
     ·repeat' (first|refine ZF ?_|refine ZI ?_|refine ZG ?_|refine ZH ?_|refine ZL ?_|refine ZJ ?_|refine ZN ?_|refine ZK (fun b=>?_)|refine ZM (fun b=>?_)|refine ZC ?_|refine ZA ?_|refine ZD (m2) (fun _ _=>?_)|refine l_call0 (m2) (fun _ _=>?_)|refine ZD (m3) (fun _ _=>?_)|refine l_call0 (m3) (fun _ _=>?_)|refine ZD (m4) (fun _ _=>?_)|refine l_call0 (m4) (fun _ _=>?_)|refine ZW (es:=xs) (f:=rul) j _ hyj (fun b off=>?_)|refine ZX ?_|rw [w1]|(refine ZB (fun hc=>?_) (fun hc=>?_)<;>(try simp at hc)<;>(try omega))|(refine ZE (fun hc=>?_) (fun hc=>?_)<;>(try simp at hc)<;>(try omega)))
      all_goals exact ZV ⟨j+1,by show j+1≤l.length;omega,hR⟩ (by show l.length - (j+1)<l.length - j;omega) ⟨rfl,rfl,rfl,rfl,rfl,trivial⟩
     ·repeat' (first|refine ZF ?_|refine ZI ?_|refine ZG ?_|refine ZH ?_|refine ZL ?_|refine ZJ ?_|refine ZN ?_|refine ZK (fun b=>?_)|refine ZM (fun b=>?_)|refine ZC ?_|refine ZA ?_|refine ZD (m2) (fun _ _=>?_)|refine l_call0 (m2) (fun _ _=>?_)|refine ZD (m3) (fun _ _=>?_)|refine l_call0 (m3) (fun _ _=>?_)|refine ZD (m4) (fun _ _=>?_)|refine l_call0 (m4) (fun _ _=>?_)|refine ZW (es:=xs) (f:=rul) j _ hyj (fun b off=>?_)|refine ZX ?_|rw [w1]|(refine ZB (fun hc=>?_) (fun hc=>?_)<;>(try simp at hc)<;>(try omega))|(refine ZE (fun hc=>?_) (fun hc=>?_)<;>(try simp at hc)<;>(try omega)))
      all_goals exact ZV ⟨j+1,by show j+1≤l.length;omega,hR⟩ (by show l.length - (j+1)<l.length - j;omega) ⟨rfl,rfl,rfl,rfl,rfl,trivial⟩
    | true=>
     rw [if_neg (fun h=>h.elim (fun h=>by rw [hpo] at h;cases h) (fun h=>by rw [hh] at h;cases h))] at hR
     rw [hh] at m3
     by_cases hk:x.a.k=2
     ·rw [if_neg (fun h=>h hk)] at hR
      by_cases hz:4096<(expF x.a.t c).size
      ·rw [if_pos hz] at hR
       subst hR
       rcases iv with _|⟨T,u⟩
       ·repeat' (first|refine ZF ?_|refine ZI ?_|refine ZG ?_|refine ZH ?_|refine ZL ?_|refine ZJ ?_|refine ZN ?_|refine ZK (fun b=>?_)|refine ZM (fun b=>?_)|refine ZC ?_|refine ZA ?_|refine ZO ?_|refine ZD (m2) (fun _ _=>?_)|refine l_call0 (m2) (fun _ _=>?_)|refine ZD (m3) (fun _ _=>?_)|refine l_call0 (m3) (fun _ _=>?_)|refine ZD (m4) (fun _ _=>?_)|refine l_call0 (m4) (fun _ _=>?_)|refine ZW (es:=xs) (f:=rul) j _ hyj (fun b off=>?_)|refine ZX ?_|rw [w1]|(refine ZB (fun hc=>?_) (fun hc=>?_)<;>(try simp at hc)<;>(try omega))|(refine ZE (fun hc=>?_) (fun hc=>?_)<;>(try simp at hc)<;>(try omega)))
        all_goals exact ZP () rfl trivial
       ·repeat' (first|refine ZF ?_|refine ZI ?_|refine ZG ?_|refine ZH ?_|refine ZL ?_|refine ZJ ?_|refine ZN ?_|refine ZK (fun b=>?_)|refine ZM (fun b=>?_)|refine ZC ?_|refine ZA ?_|refine ZO ?_|refine ZD (m2) (fun _ _=>?_)|refine l_call0 (m2) (fun _ _=>?_)|refine ZD (m3) (fun _ _=>?_)|refine l_call0 (m3) (fun _ _=>?_)|refine ZD (m4) (fun _ _=>?_)|refine l_call0 (m4) (fun _ _=>?_)|refine ZW (es:=xs) (f:=rul) j _ hyj (fun b off=>?_)|refine ZX ?_|rw [w1]|(refine ZB (fun hc=>?_) (fun hc=>?_)<;>(try simp at hc)<;>(try omega))|(refine ZE (fun hc=>?_) (fun hc=>?_)<;>(try simp at hc)<;>(try omega)))
        all_goals exact ZP () rfl trivial
      ·rw [if_neg hz] at hR
       have m5:=ruExpand_ok x.a.t c (by have:=hx.t;omega) hc (by omega)
       rw [hx.a.2.2.1 hk] at m5
       have hR':DeV (⟨2,expF x.a.t c⟩,(j:Int))=V:=hR
       subst hR'
       rcases iv with _|⟨T,u⟩
       ·repeat' (first|refine ZF ?_|refine ZI ?_|refine ZG ?_|refine ZH ?_|refine ZL ?_|refine ZJ ?_|refine ZN ?_|refine ZK (fun b=>?_)|refine ZM (fun b=>?_)|refine ZC ?_|refine ZA ?_|refine ZD (m2) (fun _ _=>?_)|refine l_call0 (m2) (fun _ _=>?_)|refine ZD (m3) (fun _ _=>?_)|refine l_call0 (m3) (fun _ _=>?_)|refine ZD (m4) (fun _ _=>?_)|refine l_call0 (m4) (fun _ _=>?_)|refine ZD (m5) (fun _ _=>?_)|refine l_call0 (m5) (fun _ _=>?_)|refine ZW (es:=xs) (f:=rul) j _ hyj (fun b off=>?_)|refine ZX ?_|rw [w1]|(refine ZB (fun hc=>?_) (fun hc=>?_)<;>(try simp at hc)<;>(try omega))|(refine ZE (fun hc=>?_) (fun hc=>?_)<;>(try simp at hc)<;>(try omega)))
        all_goals exact Zv (Zu (Zi () rfl trivial))
       ·repeat' (first|refine ZF ?_|refine ZI ?_|refine ZG ?_|refine ZH ?_|refine ZL ?_|refine ZJ ?_|refine ZN ?_|refine ZK (fun b=>?_)|refine ZM (fun b=>?_)|refine ZC ?_|refine ZA ?_|refine ZD (m2) (fun _ _=>?_)|refine l_call0 (m2) (fun _ _=>?_)|refine ZD (m3) (fun _ _=>?_)|refine l_call0 (m3) (fun _ _=>?_)|refine ZD (m4) (fun _ _=>?_)|refine l_call0 (m4) (fun _ _=>?_)|refine ZD (m5) (fun _ _=>?_)|refine l_call0 (m5) (fun _ _=>?_)|refine ZW (es:=xs) (f:=rul) j _ hyj (fun b off=>?_)|refine ZX ?_|rw [w1]|(refine ZB (fun hc=>?_) (fun hc=>?_)<;>(try simp at hc)<;>(try omega))|(refine ZE (fun hc=>?_) (fun hc=>?_)<;>(try simp at hc)<;>(try omega)))
        all_goals exact Zv (Zu (Zi () rfl trivial))
     ·rw [if_pos hk] at hR
      subst hR
      rcases iv with _|⟨T,u⟩
      ·repeat' (first|refine ZF ?_|refine ZI ?_|refine ZG ?_|refine ZH ?_|refine ZL ?_|refine ZJ ?_|refine ZN ?_|refine ZK (fun b=>?_)|refine ZM (fun b=>?_)|refine ZC ?_|refine ZA ?_|refine ZD (m2) (fun _ _=>?_)|refine l_call0 (m2) (fun _ _=>?_)|refine ZD (m3) (fun _ _=>?_)|refine l_call0 (m3) (fun _ _=>?_)|refine ZD (m4) (fun _ _=>?_)|refine l_call0 (m4) (fun _ _=>?_)|refine ZW (es:=xs) (f:=rul) j _ hyj (fun b off=>?_)|refine ZX ?_|rw [w1]|(refine ZB (fun hc=>?_) (fun hc=>?_)<;>(try simp at hc)<;>(try omega))|(refine ZE (fun hc=>?_) (fun hc=>?_)<;>(try simp at hc)<;>(try omega)))
       all_goals exact Zv (Zu (Zi () rfl trivial))
      ·repeat' (first|refine ZF ?_|refine ZI ?_|refine ZG ?_|refine ZH ?_|refine ZL ?_|refine ZJ ?_|refine ZN ?_|refine ZK (fun b=>?_)|refine ZM (fun b=>?_)|refine ZC ?_|refine ZA ?_|refine ZD (m2) (fun _ _=>?_)|refine l_call0 (m2) (fun _ _=>?_)|refine ZD (m3) (fun _ _=>?_)|refine l_call0 (m3) (fun _ _=>?_)|refine ZD (m4) (fun _ _=>?_)|refine l_call0 (m4) (fun _ _=>?_)|refine ZW (es:=xs) (f:=rul) j _ hyj (fun b off=>?_)|refine ZX ?_|rw [w1]|(refine ZB (fun hc=>?_) (fun hc=>?_)<;>(try simp at hc)<;>(try omega))|(refine ZE (fun hc=>?_) (fun hc=>?_)<;>(try simp at hc)<;>(try omega)))
       all_goals exact Zv (Zu (Zi () rfl trivial))
  ·rw [List.drop_eq_nil_of_le (by omega)] at hR
   subst hR
   repeat' (first|refine ZF ?_|refine ZI ?_|refine ZG ?_|refine ZH ?_|refine ZL ?_|refine ZJ ?_|refine ZN ?_|refine ZK (fun b=>?_)|refine ZM (fun b=>?_)|refine ZC ?_|refine ZA ?_|refine ZO ?_|(refine ZB (fun hc=>?_) (fun hc=>?_)<;>(try simp at hc)<;>(try omega))|(refine ZE (fun hc=>?_) (fun hc=>?_)<;>(try simp at hc)<;>(try omega)))
   exact ZP () rfl trivial
set_option maxHeartbeats 4000000 in
theorem not_write (d:Cnd) (ih:WrI d) (v:Value) (bq:Nat) (bs:List UInt8) (h:bs.length+(wrC (.nt d)).length≤900000000):Enters 204∧Spec prog 204 #[.agg #[v],pv0 bq] [CdF d v] [Bdr bq bs] (WrP bq (bs++wrC (.nt d))):=by
 rw [wrC] at h ⊢
 have e4:sNot.data.toList.length=4:=rfl
 rw [List.length_append,e4] at h
 have n1:=ZY bq bs sNot (by omega) (by decide)
 by_cases haa:isAA d=true
 ·rw [if_pos haa] at h ⊢
  simp only [List.length_cons,List.length_append,List.length_nil] at h
  have n2:=fun w=>W0 d ih w bq (bs++sNot.data.toList) (by rw [List.length_append,e4];omega)
  obtain ⟨T,hT⟩:∃T,bs++(sNot.data.toList++40::(wrC d++[41]))=T:=⟨_,rfl⟩
  rw [←List.append_assoc] at hT
  rw [hT] at n2
  rw [←List.append_assoc,hT]
  by_cases ha:isAny d=true
  ·obtain ⟨la,rfl⟩:=isAny_eq ha
   refine ZR [_,_] func204 ntmps204 fun G w hp=>?_
   refine Yb (X:=Option Addr×Nat×Nat) (Fx:=fun _=>[]) (p:=fun a=>v = .iface 211 (.agg #[.slice a.1 a.2.1 a.2.2])) (f:=CdF (.any la) v) .here (fun h hh=>?_) (fun a hq=>?_)
   ·have hh:CdP h (.any la) v:=hh
    rw [CdP] at hh
    obtain ⟨o,cap,vs,e,_⟩:=hh
    exact ⟨(o,vs.length,cap),e,fun _ hx=>by cases hx⟩
   obtain ⟨a1,a2,a3⟩:=a
   subst hq
   generalize hdd:Cnd.any la=d at *
   dsimp only
   repeat' (first|refine l_taN (.inr ⟨211,_,rfl,by decide⟩) ?_|refine l_taY ?_|refine ZF ?_|refine ZI ?_|refine ZG ?_|refine ZH ?_|refine ZL ?_|refine ZJ ?_|refine ZN ?_|refine ZK (fun b=>?_)|refine ZM (fun b=>?_)|refine ZC ?_|refine ZA ?_|refine ZO ?_|refine ZD (n1) (fun _ _=>?_)|refine l_call0 (n1) (fun _ _=>?_)|refine ZD (n2 _) (fun _ _=>?_)|refine l_call0 (n2 _) (fun _ _=>?_)|(refine ZB (fun hc=>?_) (fun hc=>?_)<;>(try simp at hc)<;>(try omega))|(refine ZE (fun hc=>?_) (fun hc=>?_)<;>(try simp at hc)<;>(try omega)))
   exact YR () rfl trivial
  ·have ha2:∃la,d = .all la:=by
    cases d<;>first|exact ⟨_,rfl⟩|exact absurd rfl ha|cases haa
   obtain ⟨la,rfl⟩:=ha2
   refine ZR [_,_] func204 ntmps204 fun G w hp=>?_
   refine Yb (X:=Option Addr×Nat×Nat) (Fx:=fun _=>[]) (p:=fun a=>v = .iface 225 (.agg #[.slice a.1 a.2.1 a.2.2])) (f:=CdF (.all la) v) .here (fun h hh=>?_) (fun a hq=>?_)
   ·have hh:CdP h (.all la) v:=hh
    rw [CdP] at hh
    obtain ⟨o,cap,vs,e,_⟩:=hh
    exact ⟨(o,vs.length,cap),e,fun _ hx=>by cases hx⟩
   obtain ⟨a1,a2,a3⟩:=a
   subst hq
   generalize hdd:Cnd.all la=d at *
   dsimp only
   repeat' (first|refine l_taN (.inr ⟨225,_,rfl,by decide⟩) ?_|refine l_taY ?_|refine ZF ?_|refine ZI ?_|refine ZG ?_|refine ZH ?_|refine ZL ?_|refine ZJ ?_|refine ZN ?_|refine ZK (fun b=>?_)|refine ZM (fun b=>?_)|refine ZC ?_|refine ZA ?_|refine ZO ?_|refine ZD (n1) (fun _ _=>?_)|refine l_call0 (n1) (fun _ _=>?_)|refine ZD (n2 _) (fun _ _=>?_)|refine l_call0 (n2 _) (fun _ _=>?_)|(refine ZB (fun hc=>?_) (fun hc=>?_)<;>(try simp at hc)<;>(try omega))|(refine ZE (fun hc=>?_) (fun hc=>?_)<;>(try simp at hc)<;>(try omega)))
   exact YR () rfl trivial
 ·rw [if_neg haa] at h ⊢
  rw [←List.append_assoc]
  have n2:=ih v bq (bs++sNot.data.toList) (by rw [List.length_append,e4];omega)
  obtain ⟨T,hT⟩:∃T,bs++sNot.data.toList++wrC d=T:=⟨_,rfl⟩
  rw [hT] at n2 ⊢
  have hd1:∀l,d≠.any l:=fun l e=>haa (by rw [e];rfl)
  have hd2:∀l,d≠.all l:=fun l e=>haa (by rw [e];rfl)
  refine ZR [_,_] func204 ntmps204 fun G w hp=>?_
  refine Yb (X:=Unit) (Fx:=fun _=>[]) (p:=fun _=>v = .nilIface∨∃T u,v = .iface T u∧T≠211∧T≠225) (f:=CdF d v) .here (fun h hh=>⟨(),?_,fun _ hx=>by cases hx⟩) (fun _ hq=>?_)
  ·rcases Ws hh with h1|⟨T',u',h1,h2,h3⟩
   ·exact .inl h1
   ·exact .inr ⟨T',u',h1,h2 hd1,h3 hd2⟩
  rcases hq with rfl|⟨T1,u,rfl,hq1,hq2⟩
  ·repeat' (first|refine ZF ?_|refine ZI ?_|refine ZG ?_|refine ZH ?_|refine ZL ?_|refine ZJ ?_|refine ZN ?_|refine ZK (fun b=>?_)|refine ZM (fun b=>?_)|refine ZC ?_|refine ZA ?_|refine ZO ?_|refine ZD (n1) (fun _ _=>?_)|refine l_call0 (n1) (fun _ _=>?_)|refine l_taN (.inl rfl) ?_|refine Yy n2 (fun _ _=>?_)|(refine ZB (fun hc=>?_) (fun hc=>?_)<;>(try simp at hc)<;>(try omega))|(refine ZE (fun hc=>?_) (fun hc=>?_)<;>(try simp at hc)<;>(try omega)))
   exact YR () rfl trivial
  ·repeat' (first|refine ZF ?_|refine ZI ?_|refine ZG ?_|refine ZH ?_|refine ZL ?_|refine ZJ ?_|refine ZN ?_|refine ZK (fun b=>?_)|refine ZM (fun b=>?_)|refine ZC ?_|refine ZA ?_|refine ZO ?_|refine ZD (n1) (fun _ _=>?_)|refine l_call0 (n1) (fun _ _=>?_)|refine l_taN (.inr ⟨T1,u,rfl,hq1⟩) ?_|refine l_taN (.inr ⟨T1,u,rfl,hq2⟩) ?_|refine Yy n2 (fun _ _=>?_)|(refine ZB (fun hc=>?_) (fun hc=>?_)<;>(try simp at hc)<;>(try omega))|(refine ZE (fun hc=>?_) (fun hc=>?_)<;>(try simp at hc)<;>(try omega)))
   exact YR () rfl trivial
mutual
theorem V3:∀d:Cnd,WfC d→lv d≤1000000→WrI d
 | .any l,hw,hv=>fun v bq bs hb=>by
  rw [WfC] at hw;rw [lv] at hv;rw [wrC] at hb ⊢
  have hll:=XD l
  refine YA (X:=Option Addr×Nat×List IV) (Fx:=fun q=>[Sl 100 ivl q.1 q.2.1 q.2.2,CdsF l (q.2.2.map ivOf)]) (p:=fun q=>v = .iface 211 (.agg #[.slice q.1 q.2.2.length q.2.1])∧q.2.2.length=l.length) (fun h hh=>?_) (fun q hq=>?_)
  ·have hh:CdP h (.any l) v:=hh
   rw [CdP] at hh
   obtain ⟨o,cap,vs,h1,h2,h3⟩:=hh
   exact ⟨(o,cap,vs),⟨h1,by have:=XZ h3;simpa using this⟩,fun g hg=>by
    simp only [List.mem_cons,List.not_mem_nil,or_false] at hg
    rcases hg with rfl|rfl
    ·exact h2
    ·exact h3⟩
  ·obtain ⟨rfl,hl⟩:=hq
   exact Y8 (f:=202) (by intro w;kernel_rfl) (any_write l (by omega) (W1 l hw (by omega)) _ _ _ hl bq bs hb)
 | .all l,hw,hv=>fun v bq bs hb=>by
  rw [WfC] at hw;rw [lv] at hv;rw [wrC] at hb ⊢
  have hll:=XD l
  refine YA (X:=Option Addr×Nat×List IV) (Fx:=fun q=>[Sl 100 ivl q.1 q.2.1 q.2.2,CdsF l (q.2.2.map ivOf)]) (p:=fun q=>v = .iface 225 (.agg #[.slice q.1 q.2.2.length q.2.1])∧q.2.2.length=l.length) (fun h hh=>?_) (fun q hq=>?_)
  ·have hh:CdP h (.all l) v:=hh
   rw [CdP] at hh
   obtain ⟨o,cap,vs,h1,h2,h3⟩:=hh
   exact ⟨(o,cap,vs),⟨h1,by have:=XZ h3;simpa using this⟩,fun g hg=>by
    simp only [List.mem_cons,List.not_mem_nil,or_false] at hg
    rcases hg with rfl|rfl
    ·exact h2
    ·exact h3⟩
  ·obtain ⟨rfl,hl⟩:=hq
   exact Y8 (f:=207) (by intro w;kernel_rfl) (all_write l (by omega) (W1 l hw (by omega)) _ _ _ hl bq bs hb)
 | .nt d,hw,hv=>fun v bq bs hb=>by
  rw [WfC] at hw;rw [lv] at hv
  refine YA (X:=Value) (Fx:=fun u=>[CdF d u]) (p:=fun u=>v = .iface 223 (.agg #[u])) (fun h hh=>?_) (fun u hq=>?_)
  ·have hh:CdP h (.nt d) v:=hh
   rw [CdP] at hh
   obtain ⟨u,h1,h2⟩:=hh
   exact ⟨u,h1,fun g hg=>by rcases List.mem_singleton.1 hg with rfl;exact h2⟩
  ·subst hq
   exact Y8 (f:=204) (by intro w;kernel_rfl) (not_write d (V3 d hw (by omega)) u bq bs hb)
 | .nul,hw,_=>by rw [WfC] at hw;exact absurd hw id
 | .kd _ _,_,_=>tst_wr (fun h v hh=>by
  rw [CdP] at hh
  obtain ⟨b,e,_⟩:=hh
  exact ⟨_,e⟩) (by rw [wrC])
 | .ch _ _,_,_=>tst_wr (fun h v hh=>by
  rw [CdP] at hh
  obtain ⟨b,e,_⟩:=hh
  exact ⟨_,e⟩) (by rw [wrC])
 | .tx _ _ _ _,_,_=>tst_wr (fun h v hh=>by
  rw [CdP] at hh
  obtain ⟨b1,b2,b3,e,_⟩:=hh
  exact ⟨_,e⟩) (by rw [wrC])
 | .nm _ _ _ _,_,_=>tst_wr (fun h v hh=>by
  rw [CdP] at hh
  obtain ⟨b1,b2,b3,e,_⟩:=hh
  exact ⟨_,e⟩) (by rw [wrC])
 | .by_ _ _,_,_=>tst_wr (fun h v hh=>by
  rw [CdP] at hh
  obtain ⟨b,e,_⟩:=hh
  exact ⟨_,e⟩) (by rw [wrC])
theorem W1:∀l:List Cnd,WfCs l→lvs l≤1000000→∀d ∈ l,WrI d
 | [],_,_=>fun d hd=>by cases hd
 | x::l,hw,hv=>fun d hd=>by
  rw [WfCs] at hw;rw [lvs] at hv
  rcases List.mem_cons.1 hd with hd|hd
  ·exact hd ▸ V3 x hw.1 (by omega)
  ·exact W1 l hw.2 (by omega) d hd
end
def tKeep:ByteArray:=⟨#[107,101,101,112]⟩
def tComp:ByteArray:=⟨#[99,111,109,112,101,110,115,97,116,101,32]⟩
def tSend:ByteArray:=⟨#[115,101,110,100]⟩
def tHold:ByteArray:=⟨#[104,111,108,100]⟩
def tAsk:ByteArray:=⟨#[97,115,107]⟩
def tIf:ByteArray:=⟨#[105,102,32]⟩
def tCol:ByteArray:=⟨#[58,32]⟩
def actB (a:Ac):ByteArray:=if a.k=1 then tKeep else if a.k=2 then tComp++quoF a.t else if a.k=3 then tSend else if a.k=4 then tHold else if a.k=5 then tAsk else ofL []
def lnR (x:Ru):List UInt8:=(match x.c with
 | none=>[]
 | some d=>tIf.data.toList++wrC d++tCol.data.toList)++(actB x.a).data.toList++[10]
def txR (l:List Ru):List UInt8:=l.flatMap lnR
theorem lines_sum:∀l:List UInt8,((linesF l).map fun e=>e.length+1).sum=l.length+1
 | []=>rfl
 | c::l=>by
  have ih:=lines_sum l
  unfold linesF
  split
  ·simp only [List.map_cons,List.sum_cons,List.length_nil,List.length_cons];omega
  ·split
   ·rename_i h;rw [h] at ih;simp at ih
   ·rename_i h
    rw [h] at ih
    simp only [List.map_cons,List.sum_cons,List.length_cons] at ih ⊢
    omega
theorem Yl {a b:List UInt8} (ha:(10:UInt8) ∉ a) (hb:(10:UInt8) ∉ b):(10:UInt8) ∉ a++b:=fun h=>(List.mem_append.1 h).elim ha hb
theorem Wb {ws:List ByteArray} (h:ws.all (fun w=>!w.data.toList.contains 10)=true) {w:ByteArray} (hw:w ∈ ws):(10:UInt8) ∉ w.data.toList:=fun hh=>by
 have:=List.all_eq_true.1 h w hw
 rw [List.contains_iff_mem.2 hh] at this
 cases this
theorem no10_quo (s:ByteArray):(10:UInt8) ∉ (quoF s).data.toList:=fun h=>by
 unfold quoF at h
 rw [YH] at h
 simp only [List.mem_cons,List.mem_append,List.mem_flatMap,List.not_mem_nil,or_false] at h
 rcases h with h|⟨c,_,h⟩|h
 ·revert h;decide
 ·unfold quoB at h
  split at h
  ·rename_i hc
   simp only [List.mem_cons,List.not_mem_nil,or_false] at h
   rcases h with h|h
   ·revert h;decide
   ·subst h;revert hc;decide
  ·split at h
   ·revert h;decide
   ·rename_i hc
    simp only [List.mem_cons,List.not_mem_nil,or_false] at h
    subst h;exact hc rfl
 ·revert h;decide
theorem no10_num {s:ByteArray} (h:NumT s):(10:UInt8) ∉ s.data.toList:=fun hh=>by
 obtain ⟨c,r,e,h1,h2⟩:=h
 rw [e] at hh
 rcases List.mem_cons.1 hh with hh|hh
 ·subst hh;revert h1;decide
 ·have:=h2 10 hh;revert this;decide
theorem Wn (a b:ByteArray) (ha:(10:UInt8) ∉ a.data.toList) (hb:(10:UInt8) ∉ b.data.toList):(10:UInt8) ∉ (a++wSp++b).data.toList:=by
 rw [spL]
 exact Yl ha (fun h=>by rcases List.mem_cons.1 h with h|h;exact absurd h (by decide);exact hb h)
theorem no10_par {l:List UInt8} (h:(10:UInt8) ∉ l):(10:UInt8) ∉ 40::(l++[41]):=fun hh=>by
 rcases List.mem_cons.1 hh with hh|hh
 ·exact absurd hh (by decide)
 ·exact Yl h (by decide) hh
mutual
theorem no10_c:∀d:Cnd,NfC d→(10:UInt8) ∉ wrC d
 | .any l,h=>by rw [NfC] at h;rw [wrC];exact no10_l sOr (by decide) false l false h.2 0
 | .all l,h=>by rw [NfC] at h;rw [wrC];exact no10_l sAnd (by decide) true l true h.2 0
 | .nt d,h=>by
  rw [NfC] at h;rw [wrC]
  refine Yl (by decide) ?_
  split
  ·exact no10_par (no10_c d h)
  ·exact no10_c d h
 | .nul,h=>by rw [NfC] at h;exact absurd h id
 | .kd w _,h=>by
  rw [NfC] at h;rw [wrC]
  exact Wb (ws:=wKinds) (by decide) (Zg.1 h.1)
 | .ch w _,h=>by
  rw [NfC] at h;rw [wrC]
  obtain ⟨r,h1,rfl,_⟩:=h
  exact Wn _ _ (by decide) (Wb (ws:=wChs) (by decide) (Zg.1 (show idx r wChs<wChs.length from h1)))
 | .tx w _ _ s,h=>by
  rw [NfC] at h;rw [wrC]
  obtain ⟨o,r,h1,h2,_,_,rfl⟩:=h
  exact Wn _ _ (Wn _ _ (Wb (ws:=wTxs) (by decide) (Zg.1 (show idx o wTxs<wTxs.length from h1))) (Wb (ws:=wCts) (by decide) (Zg.1 (show idx r wCts<wCts.length from h2)))) (no10_quo s)
 | .nm w _ _ n,h=>by
  rw [NfC] at h;rw [wrC]
  obtain ⟨o,r,h1,h2,_,_,h3,h4,rfl⟩:=h
  exact Wn _ _ (Wn _ _ (Wb (ws:=wNms) (by decide) (Zg.1 (show idx o wNms<wNms.length from h1))) (Wb (ws:=yCns) (by decide) (Zg.1 (show idx r yCns<yCns.length from h2)))) (no10_num (itoa_num h3 h4).1)
 | .by_ w s,h=>by
  rw [NfC] at h;rw [wrC]
  obtain ⟨rfl,_,h2⟩:=h
  exact Wn _ _ (by decide) (no10_num h2)
theorem no10_l (sep:ByteArray) (hs:(10:UInt8) ∉ sep.data.toList) (par:Bool):∀(l:List Cnd) (b:Bool),NfL b l→∀i,(10:UInt8) ∉ wrL sep par l i
 | [],_,_,_=>by rw [wrL];simp
 | c::l,b,h,i=>by
  rw [NfL] at h;rw [wrL]
  refine Yl (Yl ?_ ?_) (no10_l sep hs par l b h.2.2 (i+1))
  ·split
   ·simp
   ·exact hs
  ·split
   ·exact no10_par (no10_c c h.2.1)
   ·exact no10_c c h.2.1
end
theorem no10_act (a:Ac):(10:UInt8) ∉ (actB a).data.toList:=by
 unfold actB
 split
 ·decide
 ·split
  ·rw [W9];exact Yl (by decide) (no10_quo _)
  ·split
   ·decide
   ·split
    ·decide
    ·split<;>decide
def tCmp5:ByteArray:=⟨#[99,111,109,112,101,110,115,97,116,101]⟩
theorem Wu {a:Ac} {w:ByteArray} (hl:w.data.toList.all isLet=true) (h0:w.data.toList≠[]) (hi:idx w wActs<5) (h1:idx w wActs≠1) (hif:w≠wIf) (hB:actB a=w) (ha:a=⟨(idx w wActs:Nat)+1,eB⟩) :
  ∃A,Yt (actB a).data.toList A∧A≠[]∧A.head?≠some (1,wIf)∧∀m:Mq,m.e=0→sk5 m.tk=A→(actM m).1=a∧(actM m).2.e=0:=by
 refine ⟨[(1,w)],by rw [hB];exact Yw hl h0,by simp,fun h=>hif (Prod.mk.inj (Option.some.inj h)).2,fun m he hs=>?_⟩
 obtain ⟨t,ts,g1,g2,g3,g4⟩:=Ye hs
 obtain ⟨tk,en,op,e,cl⟩:=m
 dsimp only at he g1 g2 g3
 subst he;subst g1
 have h5:ts=[]:=by
  cases ts with
  | nil=>rfl
  | cons _ _=>cases g4
 subst h5
 obtain ⟨kd,tx,pl⟩:=t
 dsimp only at g2 g3
 subst g2;subst g3
 have hp:(⟨[⟨1,tx,pl⟩],en,op,0,cl⟩:Mq).e=0∧(⟨[⟨1,tx,pl⟩],en,op,0,cl⟩:Mq).has (fun t=>decide (t.kd=1) && decide (idx t.tx wActs<5))=true:=⟨rfl,by show (decide ((1:Int)=1) && decide (idx tx wActs<5))=true;simp [hi]⟩
 have hy:Xr ⟨[⟨1,tx,pl⟩],en,op,0,cl⟩=(eB,⟨[],en,op,0,cl⟩):=by
  unfold Xr
  rw [if_neg (show ¬idx (⟨[⟨1,tx,pl⟩],en,op,0,cl⟩:Mq).hd wActs=1 from h1)]
  rfl
 rw [act_eq5 hp,hy]
 exact ⟨ha.symm,rfl⟩
theorem act_txt5 {a:Ac} (h:AcOK a):∃A,Yt (actB a).data.toList A∧A≠[]∧A.head?≠some (1,wIf)∧∀m:Mq,m.e=0→sk5 m.tk=A→(actM m).1=a∧(actM m).2.e=0:=by
 obtain ⟨k,t⟩:=a
 obtain ⟨h1,h2,h3,h4⟩:=h
 dsimp only at h1 h2 h3 h4
 by_cases c2:k=2
 ·subst c2
  have hB:actB ⟨2,t⟩=tComp++quoF t:=rfl
  have ht:=h3 rfl
  refine ⟨[(1,tCmp5),(3,t)],?_,by simp,fun h=>absurd (Prod.mk.inj (Option.some.inj h)).2 (by decide),fun m he hs=>?_⟩
  ·rw [hB,W9]
   exact Yr (a:=tCmp5.data.toList) (b:=32::(quoF t).data.toList) (TA:=[(1,tCmp5)]) (Yw (by decide) (by decide)) (VB (pft_str t)) stp_sp
  ·obtain ⟨u,us,g1,g2,g3,g4⟩:=Ye hs
   obtain ⟨v,vs,i1,i2,i3,i4⟩:=Ye g4
   obtain ⟨tk,en,op,e,cl⟩:=m
   dsimp only at he g1 g2 g3 i2 i3
   subst he;subst g1;subst i1
   have h5:vs=[]:=by
    cases vs with
    | nil=>rfl
    | cons _ _=>cases i4
   subst h5
   obtain ⟨kd,tx,pl⟩:=u
   obtain ⟨kd2,tx2,pl2⟩:=v
   dsimp only at g2 g3 i2 i3
   subst g2;subst g3;subst i2;subst i3
   have hp:(⟨[⟨1,tCmp5,pl⟩,⟨3,tx2,pl2⟩],en,op,0,cl⟩:Mq).e=0∧(⟨[⟨1,tCmp5,pl⟩,⟨3,tx2,pl2⟩],en,op,0,cl⟩:Mq).has (fun t=>decide (t.kd=1) && decide (idx t.tx wActs<5))=true:=⟨rfl,by show (decide ((1:Int)=1) && decide (idx tCmp5 wActs<5))=true;decide⟩
   have hy:Xr ⟨[⟨1,tCmp5,pl⟩,⟨3,tx2,pl2⟩],en,op,0,cl⟩=(tx2,⟨[],en,op,0,cl⟩):=by
    unfold Xr
    rw [if_pos (show idx (⟨[⟨1,tCmp5,pl⟩,⟨3,tx2,pl2⟩],en,op,0,cl⟩:Mq).hd wActs=1 by show idx tCmp5 wActs=1;decide)]
    have hv:(⟨[⟨1,tCmp5,pl⟩,⟨3,tx2,pl2⟩],en,op,0,cl⟩:Mq).pass.has (fun t=>decide (t.kd=3) && (tplF t.tx).2.isSome)=false:=by
     show (decide ((3:Int)=3) && (tplF tx2).2.isSome)=false
     rw [ht];rfl
    rw [hv,if_neg (by decide)]
    rfl
   rw [act_eq5 hp,hy]
   exact ⟨rfl,rfl⟩
 ·have ht:=h4 c2
  subst ht
  rcases (by omega:k=1∨k=3∨k=4∨k=5) with rfl|rfl|rfl|rfl
  ·exact Wu (w:=tKeep) (by decide) (by decide) (by decide) (by decide) (by decide) rfl rfl
  ·exact Wu (w:=tSend) (by decide) (by decide) (by decide) (by decide) (by decide) rfl rfl
  ·exact Wu (w:=tHold) (by decide) (by decide) (by decide) (by decide) (by decide) rfl rfl
  ·exact Wu (w:=tAsk) (by decide) (by decide) (by decide) (by decide) (by decide) rfl rfl
def lnB (x:Ru):List UInt8:=(match x.c with
 | none=>[]
 | some d=>pIf5++(wrC d++[58,32]))++(actB x.a).data.toList
theorem lnR_eq (x:Ru):lnR x=lnB x++[10]:=by
 obtain ⟨c,a⟩:=x
 cases c with
 | none=>rfl
 | some d=>
  show (tIf.data.toList++wrC d++tCol.data.toList)++(actB a).data.toList++[10]=((pIf5++(wrC d++[58,32]))++(actB a).data.toList)++[10]
  have e1:tIf.data.toList=pIf5:=rfl
  have e2:tCol.data.toList=[58,32]:=rfl
  rw [e1,e2];simp
def RuN (x:Ru):Prop:=(∀d,x.c=some d→NfC d∧dpC d≤32)∧AcOK x.a
theorem no10_ln {x:Ru} (h:RuN x):(10:UInt8) ∉ lnB x:=by
 obtain ⟨c,a⟩:=x
 refine Yl ?_ (no10_act a)
 cases c with
 | none=>simp
 | some d=>exact Yl (by decide) (Yl (no10_c d (h.1 d rfl).1) (by decide))
theorem line_rt {x:Ru} (h:RuN x) {n:Nat} (hn:n≠256):∃y,lineM (lnB x) n=(some y,0,0)∧ruC y=x:=by
 obtain ⟨xc,a⟩:=x
 obtain ⟨hc,ha⟩:=h
 dsimp only at hc ha
 obtain ⟨A,p1,p2,p3,p4⟩:=act_txt5 ha
 have pA:ScS5 (actB a).data.toList A:=by
  have:=p1 [] [] (fun _ h=>by cases h) scs_nil5
  simpa using this
 cases xc with
 | none=>
  obtain ⟨ts,j,e1,e2⟩:=pA ((actB a).data.toList.length+1) 0 [] (Nat.lt_succ_self _)
  rw [List.nil_append] at e1
  have hne:ts≠[]:=fun hh=>p2 (by rw [←e2,hh];rfl)
  have hw:(⟨ts,(j:Int)+1,0,0,0⟩:Mq).word wIf=false:=Va (R:=A) e2 p3
  obtain ⟨q1,q2⟩:=p4 ⟨ts,(j:Int)+1,0,0,0⟩ rfl e2
  refine ⟨⟨none,a⟩,?_,rfl⟩
  show lineM (actB a).data.toList n=_
  unfold lineM
  rw [e1]
  dsimp only
  rw [if_neg (by decide)]
  cases ts with
  | nil=>exact absurd rfl hne
  | cons t tl=>
   dsimp only
   rw [if_neg hn,XL,hw]
   simp only [Bool.false_eq_true,if_false]
   rw [if_neg (by rw [q2];decide),q1]
 | some d=>
  obtain ⟨d1,d2⟩:=hc d rfl
  obtain ⟨T,t1,_,_,t2⟩:=rt_c d d1
  obtain ⟨c,c1,c2⟩:=t2 32 d2
  have hsc:ScS5 (pIf5++(wrC d++(58::32::(actB a).data.toList))) ((1,wIf)::(T++(4,yCol)::A)):=
   if_scs5 (t1 _ _ (stp5 (by decide)) (scs_sym5 (c:=58) (by decide) (Xa (c:=32) (by decide) pA)))
  have eL:lnB ⟨some d,a⟩=pIf5++(wrC d++(58::32::(actB a).data.toList)):=by
   show (pIf5++(wrC d++[58,32]))++(actB a).data.toList=_
   simp
  rw [←eL] at hsc
  obtain ⟨ts,j,e1,e2⟩:=hsc ((lnB ⟨some d,a⟩).length+1) 0 [] (Nat.lt_succ_self _)
  rw [List.nil_append] at e1
  refine ⟨⟨some c,a⟩,?_,by show (⟨some (toC c),a⟩:Ru)=_;rw [c2]⟩
  unfold lineM
  rw [e1]
  dsimp only
  rw [if_neg (by decide)]
  cases ts with
  | nil=>cases e2
  | cons t tl=>
   dsimp only
   rw [if_neg hn]
   obtain ⟨w1,w2⟩:=word_sk (m:=⟨t::tl,(j:Int)+1,0,0,0⟩) rfl e2
   have hlen:(⟨t::tl,(j:Int)+1,0,0,0⟩:Mq).pass.tk.length=T.length+(A.length+1):=by
    have:=congrArg List.length w2
    unfold sk5 at this
    rw [List.length_map] at this
    rw [this];simp
   rw [XL,if_pos w1]
   dsimp only
   rcases (cmp_all _).2.2.2.1 32 T c c1 (⟨t::tl,(j:Int)+1,0,0,0⟩:Mq).pass ((4,yCol)::A) (show 4 * T.length+3≤fuM (⟨t::tl,(j:Int)+1,0,0,0⟩:Mq).pass by unfold fuM;omega) rfl w2 (by rw [List.head?_cons];decide) (by rw [List.head?_cons];decide) with ⟨r1,r2,r3,r4⟩|r
   ·obtain ⟨s1,s2⟩:=take_sk r2 r4
    rw [←s1] at s2
    obtain ⟨q1,q2⟩:=p4 _ (by rw [s1];exact r2) s2
    rw [if_neg (by rw [q2];decide),q1,r1]
   ·exfalso
    have:=r.2
    have:(32:Int)<0+32:=this
    omega
theorem rows_rt:∀(R:List Ru) (i:Nat) (acc:List RuM),(∀x ∈ R,RuN x)→acc.length+R.length≤256→∃ys,rowsM (linesF (txR R)) i acc = .ok (acc++ys)∧ys.map ruC=R
 | [],i,acc,_,_=>by
  refine ⟨[],?_,rfl⟩
  show rowsM [[]] i acc=_
  rw [rowsM]
  have e:lineM [] acc.length=(none,0,0):=by unfold lineM;simp [scanF]
  rw [e]
  dsimp only
  rw [if_pos rfl,rowsM,List.append_nil]
 | x::R,i,acc,h,hb=>by
  have hx:=h x (.head _)
  have e:txR (x::R)=lnB x++10::txR R:=by
   unfold txR
   rw [List.flatMap_cons,lnR_eq];simp
  rw [e,WN,lines_no5 _ (no10_ln hx)]
  rw [List.length_cons] at hb
  obtain ⟨y,y1,y2⟩:=line_rt hx (n:=acc.length) (by omega)
  obtain ⟨ys,z1,z2⟩:=rows_rt R (i+1) (acc++[y]) (fun z hz=>h z (.tail _ hz)) (by rw [List.length_append,List.length_singleton];omega)
  refine ⟨y::ys,?_,by rw [List.map_cons,y2,z2]⟩
  rw [List.singleton_append,rowsM,y1]
  dsimp only
  rw [z1];simp
theorem par_rt {R:List Ru} (h:∀x ∈ R,RuN x) (hb:R.length≤256) (hz:(txR R).length≤65536):parF (ofL (txR R)) = .ok R:=by
 obtain ⟨ys,y1,y2⟩:=rows_rt R 0 [] h (by simpa using hb)
 have hM:parM (ofL (txR R)) = .ok ys:=by
  unfold parM
  rw [if_neg (by rw [Zs];omega),YH,y1];simp
 have hs:=par_sim (ofL (txR R))
 rw [hM] at hs
 cases hf:parF (ofL (txR R)) with
 | error z=>rw [hf] at hs;exact absurd hs id
 | ok l=>
  rw [hf] at hs
  rw [hs.1,y2]
def W5:List St5→Nat
 | []=>0
 | s::l=>2 * s.2.size+36+W5 l
theorem Wy:∀a b:List St5,W5 (a++b)=W5 a+W5 b
 | [],b=>by rw [List.nil_append,W5,Nat.zero_add]
 | s::a,b=>by rw [List.cons_append,W5,W5,Wy a b];omega
theorem w5_mem:∀(T:List St5) (s:St5),s ∈ T→2 * s.2.size≤W5 T
 | [],_,h=>by cases h
 | t::T,s,h=>by
  rw [W5]
  rcases List.mem_cons.1 h with rfl|h
  ·omega
  ·have:=w5_mem T s h;omega
def aaW (x:Cnd):Nat:=if aaQ x then 2 else 0
def anW (x:Cnd):Nat:=if anyQ x then 2 else 0
def smL (f:Cnd→Nat):List Cnd→Nat
 | []=>0
 | c::l=>f c+smL f l
theorem VH (sep:ByteArray) (par:Bool):∀(a b:List Cnd) (i:Nat),wrL sep par (a++b) i=wrL sep par a i++wrL sep par b (i+a.length)
 | [],b,i=>by rw [List.nil_append,wrL];rfl
 | c::a,b,i=>by
  rw [List.cons_append,wrL,wrL,VH sep par a b (i+1),List.append_assoc _ (wrL sep par a (i+1)),List.length_cons,show i+1+a.length=i+(a.length+1) by omega]
theorem Wd (sep:ByteArray) (par:Bool):∀(a:List Cnd) (i:Nat),1≤i→wrL sep par a i=wrL sep par a 1
 | [],i,_=>by rw [wrL,wrL]
 | c::a,i,h=>by
  rw [wrL,wrL,if_neg (show ¬i=0 by omega),if_neg (show ¬(1:Nat)=0 by decide),Wd sep par a (i+1) (by omega),Wd sep par a (1+1) (by omega)]
theorem wrL_sh (sep:ByteArray) (par:Bool) (a:List Cnd) (i:Nat):(wrL sep par a i).length≤(wrL sep par a 0).length+sep.data.toList.length:=by
 cases a with
 | nil=>rw [wrL];simp
 | cons c a=>
  rw [wrL,wrL,Wd sep par a (i+1) (by omega),show (0:Nat)+1=1 from rfl]
  by_cases h:i=0
  ·rw [if_pos h,if_pos rfl];simp only [List.length_append,List.length_nil];omega
  ·rw [if_neg h,if_pos rfl];simp only [List.length_append,List.length_nil];omega
theorem all_len:∀(l:List Cnd) (i:Nat),(wrL sAnd true (l.flatMap allP) i).length≤smL (fun x=>(wrC x).length+aaW x+5) l
 | [],i=>by rw [List.flatMap_nil,wrL];simp
 | x::l,i=>by
  rw [List.flatMap_cons,VH,List.length_append,smL]
  have h1:=all_len l (i+(allP x).length)
  have h2:=wrL_sh sAnd true (allP x) i
  have h3:sAnd.data.toList.length=5:=rfl
  have h4:(wrL sAnd true (allP x) 0).length≤(wrC x).length+aaW x:=by
   cases x with
   | all l'=>show (wrL sAnd true l' 0).length≤_;rw [wrC];omega
   | any l'=>
    show (wrL sAnd true [.any l'] 0).length≤_
    rw [wrL,wrL,if_pos rfl,if_pos (by rfl)]
    show _≤_+2
    simp
   | _=>
    show (wrL sAnd true [_] 0).length≤_
    rw [wrL,wrL,if_pos rfl,if_neg (by simp [isAny])]
    simp
  omega
theorem any_len:∀(l:List Cnd) (i:Nat),(wrL sOr false (l.flatMap anyP) i).length≤smL (fun x=>(wrC x).length+4) l
 | [],i=>by rw [List.flatMap_nil,wrL];simp
 | x::l,i=>by
  rw [List.flatMap_cons,VH,List.length_append,smL]
  have h1:=any_len l (i+(anyP x).length)
  have h2:=wrL_sh sOr false (anyP x) i
  have h3:sOr.data.toList.length=4:=rfl
  have h4:(wrL sOr false (anyP x) 0).length≤(wrC x).length:=by
   cases x with
   | any l'=>show (wrL sOr false l' 0).length≤_;rw [wrC];omega
   | _=>
    show (wrL sOr false [_] 0).length≤_
    rw [wrL,wrL,if_pos rfl,if_neg (by simp)]
    simp
  omega
theorem both_len (l:List Cnd):(wrC (bothF l)).length+anW (bothF l)≤(wrL sAnd true (l.flatMap allP) 0).length:=by
 unfold bothF
 split
 ·rename_i y hr
  rw [hr,wrL,wrL,if_pos rfl]
  unfold anW
  rw [anyQ_is,Bool.true_and]
  cases h:anyQ y<;>simp
 ·rename_i hns
  rw [wrC]
  exact Nat.le_refl _
theorem either_len (l:List Cnd):(wrC (eitherF l)).length≤(wrL sOr false (l.flatMap anyP) 0).length:=by
 unfold eitherF
 split
 ·rename_i y hr
  rw [hr,wrL,wrL,if_pos rfl,Bool.false_and]
  simp
 ·rename_i hns
  rw [wrC]
  exact Nat.le_refl _
theorem ws_le {ws:List ByteArray} {k:Nat} (h:ws.all (fun w=>decide (w.size≤k))=true) {w:ByteArray} (hw:w ∈ ws):w.size≤k:=of_decide_eq_true (List.all_eq_true.1 h w hw)
theorem ws_ge {ws:List ByteArray} {k:Nat} (h:ws.all (fun w=>decide (k≤w.size))=true) {w:ByteArray} (hw:w ∈ ws):k≤w.size:=of_decide_eq_true (List.all_eq_true.1 h w hw)
theorem leaf_len {w rel tx:ByteArray} {n:Int} (hw:isTst w=true) (h:NfC (toC (.mk w [] rel tx n))):(wrC (toC (.mk w [] rel tx n))).length+aaW (toC (.mk w [] rel tx n))+10≤2 * w.size+36+2 * tx.size:=by
 have hq:=Xp tx
 have sp:wSp.size=1:=rfl
 rw [YF hw] at h ⊢
 by_cases h1:idx w wKinds<3
 ·rw [if_pos h1,wrC,lsz];show _+0+10≤_;omega
 rw [if_neg h1] at h ⊢
 by_cases h2:w=wChan
 ·rw [if_pos h2] at h ⊢
  rw [NfC] at h
  obtain ⟨r,r1,r2,_⟩:=h
  have r3:=ws_le (ws:=wChs) (k:=6) (by decide) (Zg.1 (show idx r wChs<wChs.length from r1))
  have r4:=congrArg ByteArray.size r2
  simp only [ByteArray.size_append] at r4
  have r5:wChan.size=7:=rfl
  rw [wrC,lsz];show _+0+10≤_
  simp only [ByteArray.size_append]
  omega
 rw [if_neg h2] at h ⊢
 by_cases h3:idx w wTxs<3
 ·rw [if_pos h3] at h ⊢
  rw [NfC] at h
  obtain ⟨o,r,o1,r1,_,_,r2⟩:=h
  have r3:=ws_le (ws:=wCts) (k:=6) (by decide) (Zg.1 (show idx r wCts<wCts.length from r1))
  have o3:=ws_le (ws:=wTxs) (k:=6) (by decide) (Zg.1 (show idx o wTxs<wTxs.length from o1))
  have r4:=congrArg ByteArray.size r2
  simp only [ByteArray.size_append] at r4
  rw [wrC,lsz];show _+0+10≤_
  simp only [ByteArray.size_append]
  omega
 rw [if_neg h3] at h ⊢
 by_cases h4:idx w wNms<4
 ·rw [if_pos h4] at h ⊢
  rw [NfC] at h
  obtain ⟨o,r,o1,r1,_,_,n0,n1,r2⟩:=h
  have r3:=ws_le (ws:=yCns) (k:=1) (by decide) (Zg.1 (show idx r yCns<yCns.length from r1))
  have o3:=ws_le (ws:=wNms) (k:=6) (by decide) (Zg.1 (show idx o wNms<wNms.length from o1))
  have w3:=ws_ge (ws:=wNms) (k:=4) (by decide) (Zg.1 (show idx w wNms<wNms.length from h4))
  have r4:=congrArg ByteArray.size r2
  have r5:(ofL (Lib.itoa n)).size≤22:=by rw [Zs];exact Vg n (by omega) (by omega)
  simp only [ByteArray.size_append] at r4
  rw [wrC,lsz];show _+0+10≤_
  simp only [ByteArray.size_append]
  omega
 rw [if_neg h4] at h ⊢
 rw [NfC] at h
 obtain ⟨r2,_⟩:=h
 have r4:=congrArg ByteArray.size r2
 have r5:wBy.size=2:=rfl
 simp only [ByteArray.size_append] at r4
 rw [wrC,lsz];show _+0+10≤_
 simp only [ByteArray.size_append]
 omega
theorem hd_szR {m:Mq} {M:Nat} (h:∀t ∈ m.tk,t.tx.size≤M):m.hd.size≤M:=by
 obtain ⟨tk,en,op,e,cl⟩:=m
 cases tk with
 | nil=>exact Nat.zero_le _
 | cons t ts=>exact h t (.head _)
theorem take_szR {m:Mq} {M:Nat} (h:∀t ∈ m.tk,t.tx.size≤M) (q:Tk→Bool):(m.take q).1.size≤M:=by
 unfold Mq.take
 split
 ·exact Nat.zero_le _
 ·exact hd_szR h
theorem fail_tkR {m:Mq} {e:Int} {M:Nat} (h:∀t ∈ m.tk,t.tx.size≤M):∀t ∈ (m.fail e).tk,t.tx.size≤M:=fun t ht=>by
 unfold Mq.fail at ht
 split at ht
 ·exact h t ht
 ·exact h t ht
theorem pass_tkR {m:Mq} {M:Nat} (h:∀t ∈ m.tk,t.tx.size≤M):∀t ∈ m.pass.tk,t.tx.size≤M:=fun t ht=>h t (by
 obtain ⟨tk,en,op,e,cl⟩:=m
 cases tk with
 | nil=>cases ht
 | cons u us=>exact .tail _ ht)
theorem tst_txR (w:ByteArray) {m:Mq} {M:Nat} (h:∀t ∈ m.tk,t.tx.size≤M):∃rel tx n,(tstM w m).1 = .mk w [] rel tx n∧tx.size≤M:=by
 unfold tstM
 split
 ·exact ⟨_,_,_,rfl,Nat.zero_le _⟩
 ·split
  ·split
   ·exact ⟨_,_,_,rfl,Nat.zero_le _⟩
   ·exact ⟨_,_,_,rfl,Nat.zero_le _⟩
  ·split
   ·split
    ·exact ⟨_,_,_,rfl,take_szR (pass_tkR h) _⟩
    ·exact ⟨_,_,_,rfl,Nat.zero_le _⟩
   ·split
    ·split
     ·exact ⟨_,_,_,rfl,Nat.zero_le _⟩
     ·exact ⟨_,_,_,rfl,Nat.zero_le _⟩
    ·refine ⟨_,_,_,rfl,take_szR ?_ _⟩
     split
     ·exact fail_tkR h
     ·exact h
theorem tstd_len {w:ByteArray} {A:List St5} {c:Tr5} (hw:isTst w=true) (h:TstD w A c) (hT:YV A):(wrC (toC c)).length+aaW (toC c)+10≤W5 ((1,w)::A):=by
 have hn:=(tstd_nf hw h hT).1
 have e0:sk5 (A.map fun s=>(⟨s.1,s.2,0⟩:Tk))=A:=by
  unfold sk5
  rw [List.map_map]
  exact (List.map_congr_left fun x _=>rfl).trans (List.map_id A)
 obtain ⟨m',e1,e2,_,_⟩:=h ⟨A.map fun s=>⟨s.1,s.2,0⟩,0,0,0,0⟩ [] rfl (by rw [List.append_nil];exact e0)
 obtain ⟨rel,tx,n,q1,q2⟩:=tst_txR w (m:=⟨A.map fun s=>⟨s.1,s.2,0⟩,0,0,0,0⟩) (M:=W5 A / 2) (fun t ht=>by
  obtain ⟨s,hs,rfl⟩:=List.mem_map.1 ht
  have:=w5_mem A s hs
  show s.2.size≤_
  omega)
 rw [e1] at q1
 have q1:c=_:=q1
 subst q1
 have:=leaf_len hw hn
 show _≤2 * w.size+36+W5 A
 omega
theorem len_all:∀n:Nat,
  (∀d T c,DF5 d T c→4 * T.length+1≤n→YV T→(wrC (toC c)).length+aaW (toC c)+10≤W5 T)∧
  (∀d T c,DT5 d T c→4 * T.length+2≤n→YV T→(wrC (toC c)).length+anW (toC c)+5≤W5 T)∧
  (∀d T cs,DTL5 d T cs→4 * T.length+1≤n→YV T→smL (fun x=>(wrC x).length+aaW x+5) (toCs cs)≤W5 T)∧
  (∀d T c,DC5 d T c→4 * T.length+3≤n→YV T→(wrC (toC c)).length≤W5 T)∧
  (∀d T cs,DCL5 d T cs→4 * T.length+2≤n→YV T→smL (fun x=>(wrC x).length+4) (toCs cs)≤W5 T)
 | 0=>⟨fun _ _ _ _ h=>by omega,fun _ _ _ _ h=>by omega,fun _ _ _ _ h=>by omega,fun _ _ _ _ h=>by omega,fun _ _ _ _ h=>by omega⟩
 | n+1=>by
  obtain ⟨h1,h2,h3,h4,h5⟩:=len_all n
  refine ⟨fun d T c hd hn hT=>?_,fun d T c hd hn hT=>?_,fun d T cs hd hn hT=>?_,fun d T c hd hn hT=>?_,fun d T cs hd hn hT=>?_⟩
  ·cases hd with
   | @not _ T c hd=>
    simp only [List.length_cons] at hn
    have f1:=h1 _ T c hd (by omega) (YG hT)
    rw [Wc,wrC,W5,aaQ_is]
    have n4:sNot.data.toList.length=4:=rfl
    unfold aaW at f1
    show _+0+10≤_
    rw [List.length_append,n4]
    by_cases ha:aaQ (toC c)=true
    ·rw [if_pos ha] at f1 ⊢;simp only [List.length_cons,List.length_append,List.length_nil];omega
    ·rw [if_neg ha] at f1 ⊢;omega
   | @par d T c hd=>
    simp only [List.length_cons,List.length_append,List.length_nil] at hn
    have f1:=h4 _ T c hd (by omega) (Z4 (YG hT)).1
    rw [W5,Wy,W5,W5]
    have:aaW (toC c)≤2:=by unfold aaW;split<;>omega
    omega
   | @tst _ w A c hw ht=>exact tstd_len hw ht (YG hT)
  ·cases hd with
   | @mk _ T U c cs hf hl=>
    rw [List.length_append] at hn
    obtain ⟨t1,t2⟩:=Z4 hT
    have f1:=h1 _ T c hf (by omega) t1
    have f2:=h3 _ U cs hl (by omega) t2
    rw [Wm,Wy]
    have f3:=both_len (toCs (c::cs))
    have f4:=all_len (toCs (c::cs)) 0
    rw [toCs,smL] at f4
    rw [toCs] at f3 ⊢
    omega
  ·cases hd with
   | nil=>rw [toCs,smL];exact Nat.zero_le _
   | @cons _ T U c cs hf hl=>
    simp only [List.length_cons,List.length_append] at hn
    obtain ⟨t1,t2⟩:=Z4 (YG hT)
    have f1:=h1 _ T c hf (by omega) t1
    have f2:=h3 _ U cs hl (by omega) t2
    rw [toCs,smL,W5,Wy]
    omega
  ·cases hd with
   | @mk _ T U c cs hf hl=>
    rw [List.length_append] at hn
    obtain ⟨t1,t2⟩:=Z4 hT
    have f1:=h2 _ T c hf (by omega) t1
    have f2:=h5 _ U cs hl (by omega) t2
    rw [toC_or,Wy]
    have f3:=either_len (toCs (c::cs))
    have f4:=any_len (toCs (c::cs)) 0
    rw [toCs,smL] at f4
    rw [toCs] at f3 ⊢
    omega
  ·cases hd with
   | nil=>rw [toCs,smL];exact Nat.zero_le _
   | @cons _ T U c cs hf hl=>
    simp only [List.length_cons,List.length_append] at hn
    obtain ⟨t1,t2⟩:=Z4 (YG hT)
    have f1:=h2 _ T c hf (by omega) t1
    have f2:=h5 _ U cs hl (by omega) t2
    rw [toCs,smL,W5,Wy]
    omega
theorem actB_len (a:Ac):(actB a).size≤13+2 * a.t.size:=by
 have hq:=Xp a.t
 have h1:tKeep.size≤13:=by decide
 have h2:tComp.size≤11:=by decide
 have h3:tSend.size≤13:=by decide
 have h4:tHold.size≤13:=by decide
 have h5:tAsk.size≤13:=by decide
 have h6:(ofL []).size=0:=rfl
 unfold actB
 split
 ·omega
 ·split
  ·rw [ByteArray.size_append];omega
  ·split
   ·omega
   ·split
    ·omega
    ·split<;>omega
theorem act_len {m:Mq} (h:(actM m).2.e=0):(actB (actM m).1).size+5≤W5 (sk5 m.tk):=by
 by_cases hc:m.e=0∧m.has (fun t=>decide (t.kd=1) && decide (idx t.tx wActs<5))=true
 ·rw [act_eq5 hc] at h ⊢
  obtain ⟨he,hc⟩:=hc
  obtain ⟨tk,en,op,e,cl⟩:=m
  cases tk with
  | nil=>cases hc
  | cons t ts=>
   have hb:∀u ∈ ts,u.tx.size≤W5 (sk5 ts) / 2:=fun u hu=>by
    have:=w5_mem (sk5 ts) (u.kd,u.tx) (List.mem_map.2 ⟨u,hu,rfl⟩)
    have:2 * u.tx.size≤W5 (sk5 ts):=this
    omega
   have hs:(Xr ⟨t::ts,en,op,e,cl⟩).1.size≤W5 (sk5 ts) / 2:=by
    unfold Xr
    split
    ·refine take_szR ?_ _
     split
     ·exact fail_tkR (m:=(⟨t::ts,en,op,e,cl⟩:Mq).pass) hb
     ·exact hb
    ·exact Nat.zero_le _
   have hl:=actB_len ⟨(idx (⟨t::ts,en,op,e,cl⟩:Mq).hd wActs:Nat)+1,(Xr ⟨t::ts,en,op,e,cl⟩).1⟩
   dsimp only at hl ⊢
   show _≤2 * t.tx.size+36+W5 (sk5 ts)
   omega
 ·exfalso
  have e0:(actM m).2=m.fail 30:=by unfold actM;rw [if_neg hc]
  rw [e0] at h
  exact Z5 (by decide) h
theorem rule_len {m:Mq} (ho:m.op=0) (hT:YV (sk5 m.tk)) (h:(ruleM m).2.e=0):(lnB (ruC (ruleM m).1)).length+5≤W5 (sk5 m.tk)∧∀d,(ruC (ruleM m).1).c=some d→NfC d∧dpC d≤32:=by
 rw [XL] at h ⊢
 by_cases w1:m.word wIf=true
 ·rw [if_pos w1] at h ⊢
  dsimp only at h ⊢
  obtain ⟨a1,_⟩:=act_snd5 h
  have a3:=act_len h
  obtain ⟨k1,k2,k3⟩:=XK a1
  rw [k3] at a3 ⊢
  obtain ⟨_,T,t1,t2⟩:=(snd_all _).2.2.2.1 m.pass (by show m.op≤32;omega) k1
  have ed:(32 - m.pass.op).toNat=32:=by show (32 - m.op).toNat=32;omega
  rw [ed] at t2
  have e2:sk5 m.tk=(1,wIf)::(T++(4,yCol)::sk5 (condM (fuM m.pass) m.pass).2.pass.tk):=by
   rw [WJ w1,t1,has_sk k2]
  rw [e2] at hT ⊢
  have tT:=(Z4 (YG hT)).1
  have b1:=(len_all _).2.2.2.1 32 T _ t2 (Nat.le_refl _) tT
  obtain ⟨b2,b3⟩:=(nf_all _).2.2.2.1 32 T _ t2 (Nat.le_refl _) tT
  refine ⟨?_,fun d hd=>by cases hd;exact ⟨b2,b3⟩⟩
  rw [W5,Wy,W5]
  show ((pIf5++(wrC (toC (condM (fuM m.pass) m.pass).1)++[58,32]))++(actB (actM (condM (fuM m.pass) m.pass).2.pass).1).data.toList).length+5≤_
  have p3:pIf5.length=3:=rfl
  simp only [List.length_append,List.length_cons,List.length_nil,p3,lsz]
  dsimp only at a3 ⊢
  omega
 ·rw [if_neg w1] at h ⊢
  dsimp only at h ⊢
  have a3:=act_len h
  refine ⟨?_,fun d hd=>by cases hd⟩
  show ([]++(actB _).data.toList).length+5≤_
  rw [List.nil_append,lsz]
  exact a3
theorem spTake5 (p:UInt8→Bool):∀l:List UInt8,∀x ∈ l.take (spanF p l),p x=true
 | [],x,hx=>by simp [spanF] at hx
 | c::l,x,hx=>by
  rw [spanF] at hx
  by_cases h:p c=true
  ·rw [if_pos h,List.take_succ_cons] at hx
   rcases List.mem_cons.1 hx with rfl|hx
   ·exact h
   ·exact spTake5 p l x hx
  ·rw [if_neg h] at hx;cases hx
theorem Vm:∀(l:List UInt8) (i:Nat) (acc t:List UInt8) (k:Nat),unqF l i acc=some (t,k)→t.length+i+1≤acc.length+k
 | [],_,_,_,_,h=>by simp [unqF] at h
 | [c],i,acc,t,k,h=>by
  rw [unqF] at h
  split at h
  ·cases h;omega
  ·cases h
 | c::d::r,i,acc,t,k,h=>by
  rw [unqF] at h
  split at h
  ·cases h;omega
  ·split at h
   ·split at h
    ·have:=Vm r _ _ _ _ h;rw [List.length_append,List.length_singleton] at this;omega
    ·split at h
     ·have:=Vm r _ _ _ _ h;rw [List.length_append,List.length_singleton] at this;omega
     ·cases h
   ·have:=Vm (d::r) _ _ _ _ h
    rw [List.length_append,List.length_singleton] at this;omega
theorem scan_w5:∀(n:Nat) (l:List UInt8) (i:Nat) (acc:List Tk),(scanF n l i acc).2.2=true→∃ts,(scanF n l i acc).1=acc++ts∧W5 (sk5 ts)≤38 * l.length∧YV (sk5 ts)
 | 0,l,i,acc,_=>⟨[],by unfold scanF;simp,Nat.zero_le _,fun s hs=>by cases hs⟩
 | n+1,[],i,acc,_=>⟨[],by unfold scanF;simp,Nat.zero_le _,fun s hs=>by cases hs⟩
 | n+1,c::r,i,acc,h=>by
  have add:∀(t:Tk) (k j:Nat) (L:List UInt8),2 * t.tx.size+36+38 * L.length≤38 * (c::r).length→(t.kd=2→NumT t.tx)→(scanF n L j (acc++[t])).2.2=true→∃ts,(scanF n L j (acc++[t])).1=acc++ts∧W5 (sk5 ts)≤38 * (c::r).length∧YV (sk5 ts):=fun t k j L hk hn hh=>by
   obtain ⟨ts,q1,q2,q3⟩:=scan_w5 n L j (acc++[t]) hh
   refine ⟨t::ts,by rw [q1];simp,?_,fun s hs=>?_⟩
   ·show 2 * t.tx.size+36+W5 (sk5 ts)≤_
    omega
   ·rcases List.mem_cons.1 hs with rfl|hs
    ·exact hn
    ·exact q3 s hs
  unfold scanF at h ⊢
  split
  ·exact ⟨[],by simp,Nat.zero_le _,fun s hs=>by cases hs⟩
  ·rename_i h0
   rw [if_neg h0] at h
   split
   ·rename_i h1
    rw [if_pos h1] at h
    obtain ⟨ts,q1,q2,q3⟩:=scan_w5 n r _ acc h
    exact ⟨ts,q1,by rw [List.length_cons];omega,q3⟩
   ·rename_i h1
    rw [if_neg h1] at h
    split
    ·rename_i h2
     rw [if_pos h2] at h
     have hk:1≤spanF isLet (c::r):=by rw [spanF,if_pos h2];omega
     refine add _ 0 _ _ ?_ (fun hh=>absurd (show (1:Int)=2 from hh) (by decide)) h
     rw [Zs,List.length_take,List.length_drop]
     have:1≤(c::r).length:=by simp
     omega
    ·rename_i h2
     rw [if_neg h2] at h
     split
     ·rename_i h3
      rw [if_pos h3] at h
      have hk:spanF inNum (c::r)=spanF inNum r+1:=by rw [spanF,if_pos (by unfold inNum;rw [h3];rfl)]
      refine add _ 0 _ _ ?_ (fun _=>?_) h
      ·rw [Zs,List.length_take,List.length_drop]
       have:1≤(c::r).length:=by simp
       omega
      ·refine ⟨c,r.take (spanF inNum r),?_,h3,spTake5 inNum r⟩
       rw [hk,List.take_succ_cons,YH]
     ·rename_i h3
      rw [if_neg h3] at h
      split
      ·rename_i h4
       rw [if_pos h4] at h
       split
       ·rename_i t k hu
        rw [hu] at h
        obtain ⟨k1,k2⟩:=unq_bd5 _ _ _ _ _ hu
        have k3:=Vm _ _ _ _ _ hu
        refine add _ 0 _ _ ?_ (fun hh=>absurd (show (3:Int)=2 from hh) (by decide)) h
        rw [Zs,List.length_drop]
        simp only [List.length_nil] at k3
        rw [List.length_cons]
        omega
       ·rename_i hu
        rw [hu] at h
        cases h
      ·rename_i h4
       rw [if_neg h4] at h
       split
       ·rename_i h5
        rw [if_pos h5] at h
        refine add _ 0 _ _ ?_ (fun hh=>absurd (show (4:Int)=2 from hh) (by decide)) h
        rw [Zs,List.length_cons];simp;omega
       ·rename_i h5
        rw [if_neg h5] at h
        cases h
theorem line_len {L:List UInt8} {n:Nat} {x:RuM} {y:Int×Int} (h:lineM L n=(some x,y)):(lnB (ruC x)).length+5≤38 * L.length∧∀d,(ruC x).c=some d→NfC d∧dpC d≤32:=by
 cases hs:scanF (L.length+1) L 0 [] with
 | mk ts r=>
 obtain ⟨en,ok⟩:=r
 unfold lineM at h
 rw [hs] at h
 dsimp only at h
 cases ok with
 | false=>rw [if_pos rfl] at h;cases h
 | true=>
  rw [if_neg (by decide)] at h
  obtain ⟨us,u1,u2,u3⟩:=scan_w5 (L.length+1) L 0 [] (by rw [hs])
  rw [hs] at u1
  have u1:ts=us:=by simpa using u1
  subst u1
  cases ts with
  | nil=>cases h
  | cons t tl=>
   dsimp only at h
   split at h
   ·cases h
   ·split at h
    ·cases h
    ·rename_i hz
     have hz:=Classical.not_not.1 hz
     obtain ⟨q1,q2⟩:=rule_len (m:=⟨t::tl,(en:Int)+1,0,0,0⟩) rfl u3 hz
     have e:=(Option.some.inj (Prod.mk.inj h).1)
     rw [e] at q1 q2
     exact ⟨Nat.le_trans q1 u2,q2⟩
theorem rows_len:∀(l:List (List UInt8)) (i:Nat) (acc r:List RuM),rowsM l i acc = .ok r→∃ys,r=acc++ys∧(txR (ys.map ruC)).length≤38 * (l.map List.length).sum∧∀y ∈ ys,∀d,(ruC y).c=some d→NfC d∧dpC d≤32
 | [],i,acc,r,h=>by
  rw [rowsM] at h
  cases h
  exact ⟨[],by simp,Nat.zero_le _,fun y hy=>by cases hy⟩
 | L::l,i,acc,r,h=>by
  rw [rowsM] at h
  split at h
  ·rename_i x a e hx
   obtain ⟨ys,q1,q2,q3⟩:=rows_len l (i+1) _ r h
   obtain ⟨p1,p2⟩:=line_len hx
   refine ⟨x::ys,by rw [q1];simp,?_,fun y hy=>?_⟩
   ·have e:txR ((x::ys).map ruC)=lnR (ruC x)++txR (ys.map ruC):=by unfold txR;rw [List.map_cons,List.flatMap_cons]
    rw [e,lnR_eq]
    simp only [List.length_append,List.length_cons,List.length_nil,List.map_cons,List.sum_cons]
    omega
   ·rcases List.mem_cons.1 hy with rfl|hy
    ·exact p2
    ·exact q3 y hy
  ·split at h
   ·obtain ⟨ys,q1,q2,q3⟩:=rows_len l (i+1) acc r h
    refine ⟨ys,q1,?_,q3⟩
    rw [List.map_cons,List.sum_cons]
    omega
   ·cases h
theorem par_len {s:ByteArray} {R:List Ru} (h:parF s = .ok R):(txR R).length≤38 * s.size∧∀x ∈ R,RuN x:=by
 have ha:=par_ac h
 have hs:=par_sim s
 rw [h] at hs
 cases hm:parM s with
 | error z=>rw [hm] at hs;exact absurd hs id
 | ok r=>
  rw [hm] at hs
  have e:R=r.map ruC:=hs.1
  unfold parM at hm
  split at hm
  ·cases hm
  ·obtain ⟨ys,q1,q2,q3⟩:=rows_len _ _ _ _ hm
   rw [List.nil_append] at q1
   subst q1
   subst e
   have h1:=lines_sum s.data.toList
   have h2:∀l:List (List UInt8),(l.map List.length).sum+l.length=(l.map fun e=>e.length+1).sum:=fun l=>by
    induction l with
    | nil=>rfl
    | cons x l ih=>simp only [List.map_cons,List.sum_cons,List.length_cons];omega
   have h3:=h2 (linesF s.data.toList)
   have h4:1≤(linesF s.data.toList).length:=by
    cases hl:linesF s.data.toList with
    | nil=>exact absurd hl (lines_neFi _)
    | cons _ _=>simp
   rw [lsz] at h1
   refine ⟨by omega,fun x hx=>⟨fun d hd=>?_,ha x hx⟩⟩
   obtain ⟨y,hy,rfl⟩:=List.mem_map.1 hx
   exact q3 y hy d hd
theorem par_again {s:ByteArray} {R:List Ru} (h:parF s = .ok R) (hs:s.size≤1700) (hb:R.length≤256):parF (ofL (txR R)) = .ok R:=by
 obtain ⟨h1,h2⟩:=par_len h
 exact par_rt h2 hb (by omega)
mutual
def simpT:Tr5→Tr5
 | .mk op args rel tx n=>if (op=wOr∨op=wAnd)∧(simpTs args).length=1 then (simpTs args).headD (.mk op (simpTs args) rel tx n) else .mk op (simpTs args) rel tx n
def simpTs:List Tr5→List Tr5
 | []=>[]
 | t::l=>simpT t::simpTs l
end
mutual
def showT:Tr5→Int→ByteArray
 | .mk op args rel tx n,k=>
  if op=wOr∨op=wAnd then (if (if op=wAnd then 1 else 0)<k then yOpn++showTs op (if op=wAnd then 1 else 0) args 0 eB++yCls else showTs op (if op=wAnd then 1 else 0) args 0 eB)
  else if op=wNot then sNot++showH args
  else if idx op wKinds<3 then op
  else if op=wChan then op++wSp++rel
  else if op=wBy then op++wSp++tx
  else if idx op wTxs<3 then op++wSp++rel++wSp++quoF tx
  else op++wSp++rel++wSp++ofL (Lib.itoa n)
def showTs (op:ByteArray) (own:Int):List Tr5→Nat→ByteArray→ByteArray
 | [],_,acc=>acc
 | t::l,i,acc=>showTs op own l (i+1) ((if i=0 then acc else acc++wSp++op++wSp)++showT t own)
def showH:List Tr5→ByteArray
 | []=>eB
 | t::_=>showT t 2
end
def joinI {α:Type} (sep:List UInt8) (f:α→List UInt8):List α→Nat→List UInt8
 | [],_=>[]
 | x::l,i=>(if i=0 then [] else sep)++f x++joinI sep f l (i+1)
theorem VQ {α:Type} (sep:List UInt8) (f:α→List UInt8):∀(l:List α) (i:Nat),1≤i→joinI sep f l i=joinI sep f l 1
 | [],i,_=>by rw [joinI,joinI]
 | c::a,i,h=>by
  rw [joinI,joinI,if_neg (show ¬i=0 by omega),if_neg (show ¬(1:Nat)=0 by decide),VQ sep f a (i+1) (by omega),VQ sep f a (1+1) (by omega)]
theorem wrL_hd (sep:ByteArray) (par:Bool) {l:List Cnd} (h:l≠[]) (i:Nat):wrL sep par l i=(if i=0 then [] else sep.data.toList)++wrL sep par l 0:=by
 cases l with
 | nil=>exact absurd rfl h
 | cons c a=>
  rw [wrL,wrL,Wd sep par a (i+1) (by omega),show (0:Nat)+1=1 from rfl,if_pos (show (0:Nat)=0 from rfl),List.nil_append]
  simp only [List.append_assoc]
theorem any_eq:∀(l:List Cnd) (i:Nat),(∀x ∈ l,NfC x)→wrL sOr false (l.flatMap anyP) i=joinI sOr.data.toList wrC l i
 | [],i,_=>by rw [List.flatMap_nil,wrL,joinI]
 | x::l,i,h=>by
  have ih:=any_eq l 1 (fun y hy=>h y (.tail _ hy))
  have hx:=h x (.head _)
  have hne:anyP x≠[]:=by
   cases x with
   | any l'=>rw [NfC] at hx;intro hn;have hn:l'=[]:=hn;rw [hn] at hx;simp at hx
   | _=>intro hn;cases hn
  have h1:1≤(anyP x).length:=by
   cases hh:anyP x with
   | nil=>exact absurd hh hne
   | cons _ _=>simp
  have h4:wrL sOr false (anyP x) 0=wrC x:=by
   cases x with
   | any l'=>show wrL sOr false l' 0=_;rw [wrC]
   | _=>
    show wrL sOr false [_] 0=_
    rw [wrL,wrL,if_pos rfl,if_neg (by simp)]
    simp
  rw [List.flatMap_cons,VH,wrL_hd sOr false hne i,h4,Wd sOr false _ (i+(anyP x).length) (by omega),ih,joinI,VQ _ _ l (i+1) (by omega)]
theorem all_eq:∀(l:List Cnd) (i:Nat),(∀x ∈ l,NfC x)→wrL sAnd true (l.flatMap allP) i=joinI sAnd.data.toList (fun x=>if anyQ x then 40::(wrC x++[41]) else wrC x) l i
 | [],i,_=>by rw [List.flatMap_nil,wrL,joinI]
 | x::l,i,h=>by
  have ih:=all_eq l 1 (fun y hy=>h y (.tail _ hy))
  have hx:=h x (.head _)
  have hne:allP x≠[]:=by
   cases x with
   | all l'=>rw [NfC] at hx;intro hn;have hn:l'=[]:=hn;rw [hn] at hx;simp at hx
   | _=>intro hn;cases hn
  have h1:1≤(allP x).length:=by
   cases hh:allP x with
   | nil=>exact absurd hh hne
   | cons _ _=>simp
  have h4:wrL sAnd true (allP x) 0=if anyQ x then 40::(wrC x++[41]) else wrC x:=by
   cases x with
   | all l'=>show wrL sAnd true l' 0=_;rw [if_neg (by simp [anyQ]),wrC]
   | _=>
    show wrL sAnd true [_] 0=_
    rw [wrL,wrL,if_pos rfl]
    simp [isAny,anyQ]
  rw [List.flatMap_cons,VH,wrL_hd sAnd true hne i,h4,Wd sAnd true _ (i+(allP x).length) (by omega),ih,joinI,VQ _ _ l (i+1) (by omega)]
theorem both_wr (l:List Cnd):(if anyQ (bothF l) then 40::(wrC (bothF l)++[41]) else wrC (bothF l))=wrL sAnd true (l.flatMap allP) 0:=by
 unfold bothF
 split
 ·rename_i y hr
  rw [hr,wrL,wrL,if_pos rfl,anyQ_is,Bool.true_and,List.nil_append,List.append_nil]
 ·rename_i hns
  rw [if_neg (by simp [anyQ]),wrC]
theorem either_wr (l:List Cnd):wrC (eitherF l)=wrL sOr false (l.flatMap anyP) 0:=by
 unfold eitherF
 split
 ·rename_i y hr
  rw [hr,wrL,wrL,if_pos rfl,Bool.false_and,List.nil_append,List.append_nil,if_neg (by decide)]
 ·rename_i hns
  rw [wrC]
def wrK (k:Int) (d:Cnd):List UInt8:=if (if k=0 then false else if k=1 then anyQ d else aaQ d)=true then 40::(wrC d++[41]) else wrC d
def ShT (c:Tr5):Prop:=∀k:Int,k=0∨k=1∨k=2→(showT (simpT c) k).data.toList=wrK k (toC c)
theorem YE (a b:ByteArray):(a++b).data.toList=a.data.toList++b.data.toList:=by simp [ByteArray.data_append]
theorem Vo (op:ByteArray) (own:Int):∀(l:List Tr5) (i:Nat) (acc:ByteArray),(showTs op own l i acc).data.toList=acc.data.toList++joinI (32::(op.data.toList++[32])) (fun t=>(showT t own).data.toList) l i
 | [],i,acc=>by rw [showTs,joinI,List.append_nil]
 | t::l,i,acc=>by
  rw [showTs,Vo op own l (i+1),joinI,YE]
  by_cases h:i=0
  ·rw [if_pos h,if_pos h];simp
  ·rw [if_neg h,if_neg h]
   have e:wSp.data.toList=[32]:=rfl
   simp only [YE,e,List.append_assoc,List.cons_append,List.nil_append]
theorem join_st (sep:List UInt8) (f:Tr5→List UInt8) (g:Cnd→List UInt8):∀(cs:List Tr5) (i:Nat),(∀x ∈ cs,f (simpT x)=g (toC x))→joinI sep f (simpTs cs) i=joinI sep g (toCs cs) i
 | [],i,_=>by rw [simpTs,toCs,joinI,joinI]
 | x::cs,i,h=>by rw [simpTs,toCs,joinI,joinI,h x (.head _),join_st sep f g cs (i+1) (fun y hy=>h y (.tail _ hy))]
theorem XV:∀cs:List Tr5,(simpTs cs).length=cs.length
 | []=>by rw [simpTs]
 | x::cs=>by rw [simpTs,List.length_cons,List.length_cons,XV cs]
theorem toCs_mem {cs:List Tr5} {P:Cnd→Prop} (h:∀x ∈ cs,P (toC x)):∀y ∈ toCs cs,P y:=by
 induction cs with
 | nil=>intro y hy;rw [toCs] at hy;cases hy
 | cons x cs ih=>
  intro y hy
  rw [toCs] at hy
  rcases List.mem_cons.1 hy with rfl|hy
  ·exact h x (.head _)
  ·exact ih (fun z hz=>h z (.tail _ hz)) y hy
theorem either_oneR {x:Cnd} (h:NfC x):eitherF [x]=x:=by
 cases x with
 | any l=>
  rw [NfC] at h
  unfold eitherF
  have e:[Cnd.any l].flatMap anyP=l:=by simp [anyP]
  rw [e]
  split
  ·simp at h
  ·rfl
 | _=>rfl
theorem both_oneR {x:Cnd} (h:NfC x):bothF [x]=x:=by
 cases x with
 | all l=>
  rw [NfC] at h
  unfold bothF
  have e:[Cnd.all l].flatMap allP=l:=by simp [allP]
  rw [e]
  split
  ·simp at h
  ·rfl
 | _=>rfl
theorem len2 {cs:List Tr5} {p:Cnd→List Cnd} (hp:∀y,NfC y→1≤(p y).length) (h2:2≤cs.length) (h:∀x ∈ cs,NfC (toC x)):2≤((toCs cs).flatMap p).length:=by
 match cs,h2 with
 | a::b::cs,_=>
  have h1:=hp _ (h a (.head _))
  have h2:=hp _ (h b (.tail _ (.head _)))
  rw [toCs,toCs,List.flatMap_cons,List.flatMap_cons,List.length_append,List.length_append]
  omega
theorem anyP_len (y:Cnd) (h:NfC y):1≤(anyP y).length:=by
 cases y with
 | any l=>rw [NfC] at h;show 1≤l.length;omega
 | _=>exact Nat.le_refl _
theorem allP_len (y:Cnd) (h:NfC y):1≤(allP y).length:=by
 cases y with
 | all l=>rw [NfC] at h;show 1≤l.length;omega
 | _=>exact Nat.le_refl _
theorem or_sh {cs:List Tr5} (h0:cs≠[]) (h:∀x ∈ cs,NfC (toC x)∧ShT x):ShT (.mk wOr cs eB eB 0):=by
 intro k hk
 rw [toC_or]
 match cs,h0 with
 | [a],_=>
  have e1:simpT (.mk wOr [a] eB eB 0)=simpT a:=by rw [simpT,simpTs,simpTs,if_pos ⟨.inl rfl,rfl⟩];rfl
  have e2:toCs [a]=[toC a]:=by rw [toCs,toCs]
  rw [e1,e2,either_oneR (h a (.head _)).1]
  exact (h a (.head _)).2 k hk
 | a::b::cs,_=>
  have e1:simpT (.mk wOr (a::b::cs) eB eB 0) = .mk wOr (simpTs (a::b::cs)) eB eB 0:=by rw [simpT,if_neg (by rw [XV];simp)]
  rw [e1]
  generalize hcs:a::b::cs=ds at *
  have h2:2≤ds.length:=by rw [←hcs];simp
  have hn:=len2 anyP_len h2 (fun x hx=>(h x hx).1)
  have hq:eitherF (toCs ds) = .any ((toCs ds).flatMap anyP):=by
   unfold eitherF
   split
   ·rename_i y hr;rw [hr] at hn;simp at hn
   ·rfl
  have hb:(showTs wOr 0 (simpTs ds) 0 eB).data.toList=wrC (eitherF (toCs ds)):=by
   rw [Vo,either_wr,any_eq _ 0 (toCs_mem fun x hx=>(h x hx).1)]
   show []++joinI sOr.data.toList _ _ 0=_
   rw [List.nil_append]
   exact join_st _ _ _ ds 0 (fun x hx=>by rw [(h x hx).2 0 (.inl rfl)];rfl)
  rw [showT,if_pos (.inl rfl)]
  have hw:¬wOr=wAnd:=by decide
  rw [if_neg hw]
  unfold wrK
  by_cases hk0:k=0
  ·subst hk0
   rw [if_neg (by decide),if_pos rfl,if_neg (by decide)];exact hb
  ·rw [if_pos (by omega),if_neg hk0]
   have hx:(if k=1 then anyQ (eitherF (toCs ds)) else aaQ (eitherF (toCs ds)))=true:=by rw [hq];split<;>rfl
   rw [if_pos hx,YE,YE,hb]
   rfl
theorem and_sh {cs:List Tr5} (h0:cs≠[]) (h:∀x ∈ cs,NfC (toC x)∧ShT x):ShT (.mk wAnd cs eB eB 0):=by
 intro k hk
 rw [Wm]
 match cs,h0 with
 | [a],_=>
  have e1:simpT (.mk wAnd [a] eB eB 0)=simpT a:=by rw [simpT,simpTs,simpTs,if_pos ⟨.inr rfl,rfl⟩];rfl
  have e2:toCs [a]=[toC a]:=by rw [toCs,toCs]
  rw [e1,e2,both_oneR (h a (.head _)).1]
  exact (h a (.head _)).2 k hk
 | a::b::cs,_=>
  have e1:simpT (.mk wAnd (a::b::cs) eB eB 0) = .mk wAnd (simpTs (a::b::cs)) eB eB 0:=by rw [simpT,if_neg (by rw [XV];simp)]
  rw [e1]
  generalize hcs:a::b::cs=ds at *
  have h2:2≤ds.length:=by rw [←hcs];simp
  have hn:=len2 allP_len h2 (fun x hx=>(h x hx).1)
  have hq:bothF (toCs ds) = .all ((toCs ds).flatMap allP):=by
   unfold bothF
   split
   ·rename_i y hr;rw [hr] at hn;simp at hn
   ·rfl
  have hb:(showTs wAnd 1 (simpTs ds) 0 eB).data.toList=wrC (bothF (toCs ds)):=by
   have e:=both_wr (toCs ds)
   rw [if_neg (by rw [hq];simp [anyQ])] at e
   rw [Vo,e,all_eq _ 0 (toCs_mem fun x hx=>(h x hx).1)]
   show []++joinI sAnd.data.toList _ _ 0=_
   rw [List.nil_append]
   exact join_st _ _ _ ds 0 (fun x hx=>by rw [(h x hx).2 1 (.inr (.inl rfl))];rfl)
  rw [showT,if_pos (.inr rfl),if_pos rfl]
  unfold wrK
  rcases hk with rfl|rfl|rfl
  ·rw [if_neg (by decide),if_pos rfl,if_neg (by decide)];exact hb
  ·rw [if_neg (show ¬(1:Int)<1 by decide),if_neg (show ¬(1:Int)=0 by decide),if_pos (show (1:Int)=1 from rfl),if_neg (by rw [hq];simp [anyQ])];exact hb
  ·rw [if_pos (show (1:Int)<2 by decide),if_neg (show ¬(2:Int)=0 by decide),if_neg (show ¬(2:Int)=1 by decide),if_pos (by rw [hq];rfl),YE,YE,hb]
   rfl
theorem not_sh {c:Tr5} (h:ShT c):ShT (.mk wNot [c] eB eB 0):=by
 intro k hk
 have e1:simpT (.mk wNot [c] eB eB 0) = .mk wNot [simpT c] eB eB 0:=by rw [simpT,simpTs,simpTs,if_neg (fun hh=>absurd hh.1 (by decide))]
 rw [e1,Wc,showT,if_neg (by decide),if_pos rfl,showH,YE,h 2 (.inr (.inr rfl))]
 unfold wrK
 rw [if_neg (show ¬(2:Int)=0 by decide),if_neg (show ¬(2:Int)=1 by decide)]
 have hq:¬(if k=0 then false else if k=1 then anyQ (.nt (toC c)) else aaQ (.nt (toC c)))=true:=by
  split
  ·decide
  ·split<;>simp [anyQ,aaQ]
 rw [if_neg hq,wrC,aaQ_is]
theorem leaf_sh {w rel tx:ByteArray} {n:Int} (hw:isTst w=true) (hq:aaQ (toC (.mk w [] rel tx n))=false):ShT (.mk w [] rel tx n):=by
 intro k hk
 obtain ⟨n1,n2,n3⟩:=tst_ne hw
 have e1:simpT (.mk w [] rel tx n) = .mk w [] rel tx n:=by rw [simpT,simpTs,if_neg (fun hh=>absurd hh.2 (by decide))]
 obtain ⟨q1,_⟩:=aaQ_no hq
 have hx:wrK k (toC (.mk w [] rel tx n))=wrC (toC (.mk w [] rel tx n)):=by
  unfold wrK
  rw [if_neg]
  split
  ·decide
  ·split
   ·rw [q1];decide
   ·rw [hq];decide
 rw [hx,e1,YF hw,showT,if_neg (fun hh=>hh.elim n1 n2),if_neg n3]
 by_cases h1:idx w wKinds<3
 ·rw [if_pos h1,if_pos h1,wrC]
 rw [if_neg h1,if_neg h1]
 by_cases h2:w=wChan
 ·rw [if_pos h2,if_pos h2,wrC]
 rw [if_neg h2,if_neg h2]
 by_cases h3:idx w wTxs<3
 ·have hb:¬w=wBy:=fun hb=>by rw [hb] at h3;exact absurd h3 (by decide)
  rw [if_neg hb,if_pos h3,if_pos h3,wrC]
 rw [if_neg h3,if_neg h3]
 by_cases h4:idx w wNms<4
 ·have hb:¬w=wBy:=fun hb=>by rw [hb] at h4;exact absurd h4 (by decide)
  rw [if_neg hb,if_pos h4,wrC]
 have hb:w=wBy:=by
  have:(decide (idx w wKinds<3) || decide (w=wChan) || decide (idx w wTxs<3) || decide (idx w wNms<4) || decide (w=wBy))=true:=hw
  simpa [h1,h2,h3,h4] using this
 rw [if_pos hb,if_neg h4,wrC]
theorem tstd_sh {w:ByteArray} {A:List St5} {c:Tr5} (hw:isTst w=true) (h:TstD w A c) (hT:YV A):ShT c:=by
 have hn:=(tstd_nf hw h hT).2.2
 have e0:sk5 (A.map fun s=>(⟨s.1,s.2,0⟩:Tk))=A:=by
  unfold sk5
  rw [List.map_map]
  exact (List.map_congr_left fun x _=>rfl).trans (List.map_id A)
 obtain ⟨m',e1,e2,_,_⟩:=h ⟨A.map fun s=>⟨s.1,s.2,0⟩,0,0,0,0⟩ [] rfl (by rw [List.append_nil];exact e0)
 obtain ⟨rel,tx,n,q1,_⟩:=tst_txR w (m:=⟨A.map fun s=>⟨s.1,s.2,0⟩,0,0,0,0⟩) (M:=W5 A / 2) (fun t ht=>by
  obtain ⟨s,hs,rfl⟩:=List.mem_map.1 ht
  have:=w5_mem A s hs
  show s.2.size≤_
  omega)
 rw [e1] at q1
 have q1:c=_:=q1
 subst q1
 exact leaf_sh hw hn
theorem sh_all:∀n:Nat,
  (∀d T c,DF5 d T c→4 * T.length+1≤n→YV T→NfC (toC c)∧ShT c)∧
  (∀d T c,DT5 d T c→4 * T.length+2≤n→YV T→NfC (toC c)∧ShT c)∧
  (∀d T cs,DTL5 d T cs→4 * T.length+1≤n→YV T→∀x ∈ cs,NfC (toC x)∧ShT x)∧
  (∀d T c,DC5 d T c→4 * T.length+3≤n→YV T→NfC (toC c)∧ShT c)∧
  (∀d T cs,DCL5 d T cs→4 * T.length+2≤n→YV T→∀x ∈ cs,NfC (toC x)∧ShT x)
 | 0=>⟨fun _ _ _ _ h=>by omega,fun _ _ _ _ h=>by omega,fun _ _ _ _ h=>by omega,fun _ _ _ _ h=>by omega,fun _ _ _ _ h=>by omega⟩
 | n+1=>by
  obtain ⟨h1,h2,h3,h4,h5⟩:=sh_all n
  refine ⟨fun d T c hd hn hT=>⟨((nf_all (n+1)).1 d T c hd hn hT).1,?_⟩,fun d T c hd hn hT=>⟨((nf_all (n+1)).2.1 d T c hd hn hT).1,?_⟩,fun d T cs hd hn hT=>?_,fun d T c hd hn hT=>⟨((nf_all (n+1)).2.2.2.1 d T c hd hn hT).1,?_⟩,fun d T cs hd hn hT=>?_⟩
  ·cases hd with
   | @not _ T c hd=>
    simp only [List.length_cons] at hn
    exact not_sh (h1 _ T c hd (by omega) (YG hT)).2
   | @par d T c hd=>
    simp only [List.length_cons,List.length_append,List.length_nil] at hn
    exact (h4 _ T c hd (by omega) (Z4 (YG hT)).1).2
   | @tst _ w A c hw ht=>exact tstd_sh hw ht (YG hT)
  ·cases hd with
   | @mk _ T U c cs hf hl=>
    rw [List.length_append] at hn
    obtain ⟨t1,t2⟩:=Z4 hT
    refine and_sh (by simp) (fun x hx=>?_)
    rcases List.mem_cons.1 hx with rfl|hx
    ·exact h1 _ T x hf (by omega) t1
    ·exact h3 _ U cs hl (by omega) t2 x hx
  ·cases hd with
   | nil=>intro x hx;cases hx
   | @cons _ T U c cs hf hl=>
    simp only [List.length_cons,List.length_append] at hn
    obtain ⟨t1,t2⟩:=Z4 (YG hT)
    intro x hx
    rcases List.mem_cons.1 hx with rfl|hx
    ·exact h1 _ T x hf (by omega) t1
    ·exact h3 _ U cs hl (by omega) t2 x hx
  ·cases hd with
   | @mk _ T U c cs hf hl=>
    rw [List.length_append] at hn
    obtain ⟨t1,t2⟩:=Z4 hT
    refine or_sh (by simp) (fun x hx=>?_)
    rcases List.mem_cons.1 hx with rfl|hx
    ·exact h2 _ T x hf (by omega) t1
    ·exact h5 _ U cs hl (by omega) t2 x hx
  ·cases hd with
   | nil=>intro x hx;cases hx
   | @cons _ T U c cs hf hl=>
    simp only [List.length_cons,List.length_append] at hn
    obtain ⟨t1,t2⟩:=Z4 (YG hT)
    intro x hx
    rcases List.mem_cons.1 hx with rfl|hx
    ·exact h2 _ T x hf (by omega) t1
    ·exact h5 _ U cs hl (by omega) t2 x hx
def acW5:List ByteArray:=[eB,⟨#[107,101,101,112]⟩,⟨#[99,111,109,112,101,110,115,97,116,101]⟩,⟨#[115,101,110,100]⟩,⟨#[104,111,108,100]⟩,⟨#[97,115,107]⟩]
def lnM (acc:ByteArray) (x:RuM):ByteArray:=
 let a1:=(match x.c with
  | none=>acc
  | some c=>acc++tIf++showT (simpT c) 0++tCol)++acW5.getD x.a.k.toNat eB
 (if x.a.k=2 then a1++wSp++quoF x.a.t else a1)++⟨#[10]⟩
def txM:List RuM→ByteArray→ByteArray
 | [],acc=>acc
 | x::l,acc=>txM l (lnM acc x)
def ShR (x:RuM):Prop:=(∀c,x.c=some c→ShT c)∧1≤x.a.k∧x.a.k≤5
theorem k_five {z:Int} (h1:1≤z) (h2:z≤5):z=1∨z=2∨z=3∨z=4∨z=5:=by omega
theorem lnM_eq {x:RuM} (h:ShR x) (acc:ByteArray):(lnM acc x).data.toList=acc.data.toList++lnR (ruC x):=by
 obtain ⟨c,⟨k,t⟩⟩:=x
 obtain ⟨h1,h2,h3⟩:=h
 have ha:∀p:ByteArray,((if k=2 then p++acW5.getD k.toNat eB++wSp++quoF t else p++acW5.getD k.toNat eB)++⟨#[10]⟩:ByteArray).data.toList=p.data.toList++((actB ⟨k,t⟩).data.toList++[10]):=fun p=>by
  rcases k_five h2 h3 with rfl|rfl|rfl|rfl|rfl
  ·rw [if_neg (by decide),YE,YE,List.append_assoc];rfl
  ·rw [if_pos rfl,YE,YE,YE,YE]
   have e:(actB ⟨2,t⟩).data.toList=tComp.data.toList++(quoF t).data.toList:=by rw [←YE];rfl
   rw [e]
   simp only [List.append_assoc]
   rfl
  ·rw [if_neg (by decide),YE,YE,List.append_assoc];rfl
  ·rw [if_neg (by decide),YE,YE,List.append_assoc];rfl
  ·rw [if_neg (by decide),YE,YE,List.append_assoc];rfl
 cases c with
 | none=>
  refine (ha acc).trans ?_
  show _=_++([]++(actB ⟨k,t⟩).data.toList++[10])
  rw [List.nil_append]
 | some c=>
  refine (ha (acc++tIf++showT (simpT c) 0++tCol)).trans ?_
  have e:=h1 c rfl 0 (.inl rfl)
  have e2:wrK 0 (toC c)=wrC (toC c):=rfl
  rw [YE,YE,YE,e,e2]
  show _=_++((tIf.data.toList++wrC (toC c)++tCol.data.toList)++(actB ⟨k,t⟩).data.toList++[10])
  simp only [List.append_assoc]
theorem txM_eq:∀(l:List RuM) (acc:ByteArray),(∀x ∈ l,ShR x)→(txM l acc).data.toList=acc.data.toList++txR (l.map ruC)
 | [],acc,_=>by rw [txM];unfold txR;simp
 | x::l,acc,h=>by
  rw [txM,txM_eq l _ (fun y hy=>h y (.tail _ hy)),lnM_eq (h x (.head _))]
  unfold txR
  rw [List.map_cons,List.flatMap_cons,List.append_assoc]
def PD (c:Tr5):Prop:=∃d T,DC5 d T c∧YV T
theorem pd_sh {c:Tr5} (h:PD c):ShT c:=by
 obtain ⟨d,T,h1,h2⟩:=h
 exact ((sh_all _).2.2.2.1 d T c h1 (Nat.le_refl _) h2).2
theorem rule_sh {m:Mq} (ho:m.op=0) (hT:YV (sk5 m.tk)) (h:(ruleM m).2.e=0):∀c,(ruleM m).1.c=some c→PD c:=by
 rw [XL] at h ⊢
 by_cases w1:m.word wIf=true
 ·rw [if_pos w1] at h ⊢
  dsimp only at h ⊢
  obtain ⟨a1,_⟩:=act_snd5 h
  obtain ⟨k1,k2,k3⟩:=XK a1
  obtain ⟨_,T,t1,t2⟩:=(snd_all _).2.2.2.1 m.pass (by show m.op≤32;omega) k1
  have e2:sk5 m.tk=(1,wIf)::(T++(4,yCol)::sk5 (condM (fuM m.pass) m.pass).2.pass.tk):=by
   rw [WJ w1,t1,has_sk k2]
  rw [e2] at hT
  have tT:=(Z4 (YG hT)).1
  intro c hc
  cases hc
  exact ⟨_,T,t2,tT⟩
 ·rw [if_neg w1] at h ⊢
  intro c hc
  cases hc
theorem line_sh {L:List UInt8} {n:Nat} {x:RuM} {y:Int×Int} (h:lineM L n=(some x,y)):∀c,x.c=some c→PD c:=by
 cases hs:scanF (L.length+1) L 0 [] with
 | mk ts r=>
 obtain ⟨en,ok⟩:=r
 unfold lineM at h
 rw [hs] at h
 dsimp only at h
 cases ok with
 | false=>rw [if_pos rfl] at h;cases h
 | true=>
  rw [if_neg (by decide)] at h
  obtain ⟨us,u1,u2,u3⟩:=scan_w5 (L.length+1) L 0 [] (by rw [hs])
  rw [hs] at u1
  have u1:ts=us:=by simpa using u1
  subst u1
  cases ts with
  | nil=>cases h
  | cons t tl=>
   dsimp only at h
   split at h
   ·cases h
   ·split at h
    ·cases h
    ·rename_i hz
     have hz:=Classical.not_not.1 hz
     have q:=rule_sh (m:=⟨t::tl,(en:Int)+1,0,0,0⟩) rfl u3 hz
     have e:=(Option.some.inj (Prod.mk.inj h).1)
     rw [e] at q
     exact q
theorem rows_sh:∀(l:List (List UInt8)) (i:Nat) (acc r:List RuM),rowsM l i acc = .ok r→(∀x ∈ acc,∀c,x.c=some c→PD c)→∀x ∈ r,∀c,x.c=some c→PD c
 | [],i,acc,r,h,ha=>by
  rw [rowsM] at h
  cases h
  exact ha
 | L::l,i,acc,r,h,ha=>by
  rw [rowsM] at h
  split at h
  ·rename_i x a e hx
   refine rows_sh l (i+1) _ r h (fun y hy=>?_)
   rcases List.mem_append.1 hy with hy|hy
   ·exact ha y hy
   ·rw [List.mem_singleton.1 hy]
    exact line_sh hx
  ·split at h
   ·exact rows_sh l (i+1) acc r h ha
   ·cases h
theorem par_pd {s:ByteArray} {r:List RuM} (h:parM s = .ok r):∀x ∈ r,∀c,x.c=some c→PD c:=by
 unfold parM at h
 split at h
 ·cases h
 ·exact rows_sh _ 0 [] r h (fun x hx=>by cases hx)
theorem par_txM {s:ByteArray} {r:List RuM} (h:parM s = .ok r) (hf:parF s = .ok (r.map ruC)):txM r eB=ofL (txR (r.map ruC)):=by
 have hac:=par_ac hf
 have hr:=par_pd h
 have hx:∀x ∈ r,ShR x:=fun x hx=>by
  have a:=hac (ruC x) (List.mem_map.2 ⟨x,hx,rfl⟩)
  exact ⟨fun c hc=>pd_sh (hr x hx c hc),a.1,a.2.1⟩
 have e:=txM_eq r eB hx
 rw [←ofL_dl (txM r eB),e]
 rfl
mutual
def NbT:Tr5→Prop
 | .mk op args _ _ n=>(idx op wNms<4→0≤n∧n≤1073741824)∧NbTs args
def NbTs:List Tr5→Prop
 | []=>True
 | t::l=>NbT t∧NbTs l
end
theorem Ve:∀{l:List Tr5},(∀t ∈ l,NbT t)→NbTs l
 | [],_=>by rw [NbTs];trivial
 | t::l,h=>by rw [NbTs];exact ⟨h t (.head _),Ve fun x hx=>h x (.tail _ hx)⟩
theorem tstd_nb {w:ByteArray} {A:List St5} {c:Tr5} (hw:isTst w=true) (h:TstD w A c) (hT:YV A):NbT c:=by
 have hn:=(tstd_nf hw h hT).1
 have e0:sk5 (A.map fun s=>(⟨s.1,s.2,0⟩:Tk))=A:=by
  unfold sk5
  rw [List.map_map]
  exact (List.map_congr_left fun x _=>rfl).trans (List.map_id A)
 obtain ⟨m',e1,e2,_,_⟩:=h ⟨A.map fun s=>⟨s.1,s.2,0⟩,0,0,0,0⟩ [] rfl (by rw [List.append_nil];exact e0)
 obtain ⟨rel,tx,n,q1,_⟩:=tst_txR w (m:=⟨A.map fun s=>⟨s.1,s.2,0⟩,0,0,0,0⟩) (M:=W5 A / 2) (fun t ht=>by
  obtain ⟨s,hs,rfl⟩:=List.mem_map.1 ht
  have:=w5_mem A s hs
  show s.2.size≤_
  omega)
 rw [e1] at q1
 have q1:c=_:=q1
 subst q1
 rw [NbT]
 refine ⟨fun h4=>?_,by rw [NbTs];trivial⟩
 rw [YF hw] at hn
 have hm:=Zg (l:=wNms).1 (show idx w wNms<wNms.length from h4)
 have h1:¬idx w wKinds<3:=fun hk=>by
  simp only [wNms,List.mem_cons,List.not_mem_nil,or_false] at hm
  rcases hm with rfl|rfl|rfl|rfl<;>exact absurd hk (by decide)
 have h2:¬w=wChan:=fun hk=>by rw [hk] at h4;exact absurd h4 (by decide)
 have h3:¬idx w wTxs<3:=fun hk=>by
  simp only [wNms,List.mem_cons,List.not_mem_nil,or_false] at hm
  rcases hm with rfl|rfl|rfl|rfl<;>exact absurd hk (by decide)
 rw [if_neg h1,if_neg h2,if_neg h3,if_pos h4,NfC] at hn
 obtain ⟨o,r,_,_,_,_,k1,k2,_⟩:=hn
 exact ⟨k1,k2⟩
theorem nb_all:∀n:Nat,
  (∀d T c,DF5 d T c→4 * T.length+1≤n→YV T→NbT c)∧
  (∀d T c,DT5 d T c→4 * T.length+2≤n→YV T→NbT c)∧
  (∀d T cs,DTL5 d T cs→4 * T.length+1≤n→YV T→∀x ∈ cs,NbT x)∧
  (∀d T c,DC5 d T c→4 * T.length+3≤n→YV T→NbT c)∧
  (∀d T cs,DCL5 d T cs→4 * T.length+2≤n→YV T→∀x ∈ cs,NbT x)
 | 0=>⟨fun _ _ _ _ h=>by omega,fun _ _ _ _ h=>by omega,fun _ _ _ _ h=>by omega,fun _ _ _ _ h=>by omega,fun _ _ _ _ h=>by omega⟩
 | n+1=>by
  obtain ⟨h1,h2,h3,h4,h5⟩:=nb_all n
  refine ⟨fun d T c hd hn hT=>?_,fun d T c hd hn hT=>?_,fun d T cs hd hn hT=>?_,fun d T c hd hn hT=>?_,fun d T cs hd hn hT=>?_⟩
  ·cases hd with
   | @not _ T c hd=>
    simp only [List.length_cons] at hn
    rw [NbT]
    refine ⟨fun hk=>absurd hk (by decide),Ve fun x hx=>?_⟩
    rw [List.mem_singleton.1 hx]
    exact h1 _ T c hd (by omega) (YG hT)
   | @par d T c hd=>
    simp only [List.length_cons,List.length_append,List.length_nil] at hn
    exact h4 _ T c hd (by omega) (Z4 (YG hT)).1
   | @tst _ w A c hw ht=>exact tstd_nb hw ht (YG hT)
  ·cases hd with
   | @mk _ T U c cs hf hl=>
    rw [List.length_append] at hn
    obtain ⟨t1,t2⟩:=Z4 hT
    rw [NbT]
    refine ⟨fun hk=>absurd hk (by decide),Ve fun x hx=>?_⟩
    rcases List.mem_cons.1 hx with rfl|hx
    ·exact h1 _ T x hf (by omega) t1
    ·exact h3 _ U cs hl (by omega) t2 x hx
  ·cases hd with
   | nil=>intro x hx;cases hx
   | @cons _ T U c cs hf hl=>
    simp only [List.length_cons,List.length_append] at hn
    obtain ⟨t1,t2⟩:=Z4 (YG hT)
    intro x hx
    rcases List.mem_cons.1 hx with rfl|hx
    ·exact h1 _ T x hf (by omega) t1
    ·exact h3 _ U cs hl (by omega) t2 x hx
  ·cases hd with
   | @mk _ T U c cs hf hl=>
    rw [List.length_append] at hn
    obtain ⟨t1,t2⟩:=Z4 hT
    rw [NbT]
    refine ⟨fun hk=>absurd hk (by decide),Ve fun x hx=>?_⟩
    rcases List.mem_cons.1 hx with rfl|hx
    ·exact h2 _ T x hf (by omega) t1
    ·exact h5 _ U cs hl (by omega) t2 x hx
  ·cases hd with
   | nil=>intro x hx;cases hx
   | @cons _ T U c cs hf hl=>
    simp only [List.length_cons,List.length_append] at hn
    obtain ⟨t1,t2⟩:=Z4 (YG hT)
    intro x hx
    rcases List.mem_cons.1 hx with rfl|hx
    ·exact h2 _ T x hf (by omega) t1
    ·exact h5 _ U cs hl (by omega) t2 x hx
theorem pd_nb {c:Tr5} (h:PD c):NbT c:=by
 obtain ⟨d,T,h1,h2⟩:=h
 exact (nb_all _).2.2.2.1 d T c h1 (Nat.le_refl _) h2
mutual
def ShO:Tr5→Prop
 | .mk op args _ tx n=>args.length≤200000∧tx.size≤200000∧(op=wNot→args≠[])∧(idx op wNms<4→0≤n∧n≤1073741824)∧(op=wOr∨op=wAnd∨op=wNot∨isTst op=true)∧ShOs args
def ShOs:List Tr5→Prop
 | []=>True
 | t::l=>ShO t∧ShOs l
end
theorem V1 (op:ByteArray) (own:Int):∀(l:List Tr5) (i:Nat) (acc:ByteArray),acc.size≤(showTs op own l i acc).size
 | [],i,acc=>by rw [showTs];exact Nat.le_refl _
 | t::l,i,acc=>by
  rw [showTs]
  refine Nat.le_trans ?_ (V1 op own l (i+1) _)
  rw [ByteArray.size_append]
  split
  ·omega
  ·simp only [ByteArray.size_append];omega
theorem lnM_le (acc:ByteArray) (x:RuM):acc.size≤(lnM acc x).size:=by
 obtain ⟨c,ac⟩:=x
 unfold lnM
 dsimp only
 cases c with
 | none=>
  dsimp only
  split<;>simp only [ByteArray.size_append]<;>omega
 | some c=>
  dsimp only
  split<;>simp only [ByteArray.size_append]<;>omega
theorem txM_le:∀(l:List RuM) (acc:ByteArray),acc.size≤(txM l acc).size
 | [],acc=>by rw [txM];exact Nat.le_refl _
 | x::l,acc=>by rw [txM];exact Nat.le_trans (lnM_le acc x) (txM_le l _)
abbrev SiP (t:Tr5):Post:=⟨TC,fun y=>tcv y,fun _=>True,fun y=>[TcF t y],fun _=>[]⟩
abbrev SiT (t:Tr5):Prop:=∀x,Enters 61∧Spec prog 61 #[tcv x] [TcF t x] [] (SiP (simpT t))
theorem simpTs_app:∀l m:List Tr5,simpTs (l++m)=simpTs l++simpTs m
 | [],m=>by rw [simpTs];rfl
 | t::l,m=>by rw [List.cons_append,simpTs,simpTs,simpTs_app l m];rfl
set_option maxHeartbeats 4000000 in
theorem simp_step (args:List Tr5) (o:Option Addr) (cap:Nat) (vs:List TC) (op rel tx:ByteArray) (n:Int) (hl:vs.length=args.length) (hbd:args.length≤200000) (ih:∀t ∈ args,SiT t):Spec prog 61 #[tcv ⟨op,o,vs.length,cap,rel,tx,n⟩] [TcS o cap vs,TcsF args vs] [] (SiP (simpT (.mk op args rel tx n))):=by
 refine And.right (a:=Enters 61) ?_
 obtain ⟨R,hR⟩:∃R,simpT (.mk op args rel tx n)=R:=⟨_,rfl⟩
 rw [hR]
 refine ZR [_] func61 ntmps61 fun G w hp=>?_
 repeat' (first|refine ZF ?_|refine ZI ?_|refine ZG ?_|refine ZH ?_|refine ZL ?_|refine ZJ ?_|refine ZN ?_|refine ZK (fun b=>?_)|refine ZM (fun b=>?_)|refine ZC ?_|refine ZA ?_|(refine ZB (fun hc=>?_) (fun hc=>?_)<;>(try simp at hc)<;>(try omega))|(refine ZE (fun hc=>?_) (fun hc=>?_)<;>(try simp at hc)<;>(try omega)))
 rename_i b1
 refine Z1 (Lx:=[]) (r:=Row 65 5 none 0 0 []) (fun h _=>XC _ _ h) ?_
 refine k_add (f:=TcsF [] []) (fun h=>by show TcsP h [] [];rw [TcsP]) ?_
 refine YK (X:={q:Nat×List TC×Option Addr×Nat // q.1≤vs.length∧q.2.1.length=q.1}) (fun q=>[(1,pv0 b1),(2,pv0 b),(3,.slice q.1.2.2.1 q.1.2.1.length q.1.2.2.2),(4,.int .i64 (q.1.1:Int))]) (fun q=>[TcS o cap vs,TcsF args vs,TcsF (simpTs (args.take q.1.1)) q.1.2.1]) (fun q=>[Pt b1 (.cells (tcf ⟨op,o,vs.length,cap,rel,tx,n⟩).toArray 65),Pt b (.cells #[.string ⟨#[]⟩,.slice none 0 0,.string ⟨#[]⟩,.string ⟨#[]⟩,.int .i64 0] 65),Row 65 5 q.1.2.2.1 q.1.2.1.length q.1.2.2.2 (q.1.2.1.flatMap tcf)]) (fun q=>vs.length - q.1.1) ⟨(0,[],none,0),Nat.zero_le _,rfl⟩ ⟨rfl,rfl,rfl,rfl,trivial⟩ ?_
 rintro ⟨⟨j,ws,o1,cap1⟩,hj,hwl⟩
 dsimp only at hj hwl ⊢
 by_cases hlt:j<vs.length
 ·have hxj:=List.getElem?_eq_getElem hlt
  have hltc:j<args.length:=by omega
  have hcj:=List.getElem?_eq_getElem hltc
  have htk:=List.take_succ_eq_append_getElem hltc
  have ihd:=ih _ (List.getElem_mem hltc)
  generalize vs[j]=x at *
  generalize args[j]=d at *
  have hst:simpTs (args.take (j+1))=simpTs (args.take j)++[simpT d]:=by rw [htk,simpTs_app];rfl
  have n1:=ihd x
  refine Zn (F1:=[TcsF args vs]) (f:=TcF d x) (fun hp hF=>WV (hF _ (.head _)) hcj hxj) ?_
  have w1:=wrapi (z:=(j:Int)+1) (by omega) (by omega)
  have hroom:(2 * (ws.length+1)+200) * 80≤281474976710656:=by omega
  repeat' (first|refine YY (m:=ws.length) (m2:=1) (fun o' cap'=>?_) (hroom:=hroom)|refine ZX ?_|refine ZW (es:=vs) (f:=tcf) j x hxj (fun b off=>?_)|refine ZF ?_|refine ZI ?_|refine ZG ?_|refine ZH ?_|refine ZL ?_|refine ZJ ?_|refine ZN ?_|refine ZK (fun b=>?_)|refine ZM (fun b=>?_)|refine ZC ?_|refine ZA ?_|refine ZD (n1) (fun _ _=>?_)|refine l_call0 (n1) (fun _ _=>?_)|rw [w1]|(refine ZB (fun hc=>?_) (fun hc=>?_)<;>(try simp at hc)<;>(try omega))|(refine ZE (fun hc=>?_) (fun hc=>?_)<;>(try simp at hc)<;>(try omega)))
  rename_i y _
  have e1:ws.length+1=(ws++[y]).length:=by simp
  have e2:ws.flatMap tcf++tcf y=(ws++[y]).flatMap tcf:=by simp
  refine YD (T:=65) (sz:=5) (o:=o') (cap:=cap') (m:=ws.length+1) _ _ e1 e2 ?_
  rw [e1]
  refine Zn (F1:=[TcsF (simpTs (args.take j)) ws,TcF (simpT d) y]) (f:=TcsF (simpTs (args.take (j+1))) (ws++[y])) (fun hp hF=>by rw [hst];exact Vl (hF _ (.head _)) (Y6.2 (hF _ (.tail _ (.head _))))) ?_
  exact ZV ⟨(j+1,ws++[y],o',cap'),by show j+1≤vs.length;omega,by show (ws++[_]).length=j+1;simp [hwl]⟩ (by show vs.length - (j+1)<vs.length - j;omega) ⟨rfl,rfl,rfl,rfl,trivial⟩
 ·have hta:args.take j=args:=List.take_of_length_le (by omega)
  rw [hta]
  have hsl:=XV args
  rw [simpT] at hR
  generalize simpTs args=sa at *
  refine Xc (T:=65) (sz:=5) (f:=tcf) (o:=o1) (cap:=cap1) ws ?_ rfl rfl
  have hlt2:¬(j:Int)<(vs.length:Int):=by omega
  by_cases h1:ws.length=1
  ·have u1:(((ws.length:Nat):Int) == 1)=true:=by rw [h1];rfl
   obtain ⟨y,rfl⟩:=List.length_eq_one_iff.1 h1
   obtain ⟨t,rfl⟩:=List.length_eq_one_iff.1 (show sa.length=1 by omega)
   have hy0:[y][0]? = some y:=rfl
   by_cases c1:op=wOr
   ·have q0:=beqT (a:=op) (b:=⟨#[111,114]⟩) c1
    rw [if_pos ⟨.inl c1,rfl⟩] at hR
    subst hR
    refine Zn (F1:=[TcsF [t] [y]]) (f:=TcF t y) (fun hp hF=>Y6.1 (hF _ (.head _))) ?_
    repeat' (first|refine ZX ?_|refine ZW (es:=[y]) (f:=tcf) 0 y hy0 (fun b off=>?_)|refine ZF ?_|refine ZI ?_|refine ZG ?_|refine ZH ?_|refine ZL ?_|refine ZJ ?_|refine ZN ?_|refine ZK (fun b=>?_)|refine ZM (fun b=>?_)|refine ZC ?_|refine ZA ?_|refine ZO ?_|rw [q0]|rw [u1]|(refine ZB (fun hc=>?_) (fun hc=>?_)<;>(try simp at hc)<;>(try omega))|(refine ZE (fun hc=>?_) (fun hc=>?_)<;>(try simp at hc)<;>(try omega)))
    all_goals exact ZP y rfl trivial
   by_cases c2:op=wAnd
   ·have q0:=beqF (a:=op) (b:=⟨#[111,114]⟩) c1
    have q1:=beqT (a:=op) (b:=⟨#[97,110,100]⟩) c2
    rw [if_pos ⟨.inr c2,rfl⟩] at hR
    subst hR
    refine Zn (F1:=[TcsF [t] [y]]) (f:=TcF t y) (fun hp hF=>Y6.1 (hF _ (.head _))) ?_
    repeat' (first|refine ZX ?_|refine ZW (es:=[y]) (f:=tcf) 0 y hy0 (fun b off=>?_)|refine ZF ?_|refine ZI ?_|refine ZG ?_|refine ZH ?_|refine ZL ?_|refine ZJ ?_|refine ZN ?_|refine ZK (fun b=>?_)|refine ZM (fun b=>?_)|refine ZC ?_|refine ZA ?_|refine ZO ?_|rw [q0]|rw [q1]|rw [u1]|(refine ZB (fun hc=>?_) (fun hc=>?_)<;>(try simp at hc)<;>(try omega))|(refine ZE (fun hc=>?_) (fun hc=>?_)<;>(try simp at hc)<;>(try omega)))
    all_goals exact ZP y rfl trivial
   have q0:=beqF (a:=op) (b:=⟨#[111,114]⟩) c1
   have q1:=beqF (a:=op) (b:=⟨#[97,110,100]⟩) c2
   rw [if_neg (fun hh=>hh.1.elim c1 c2)] at hR
   subst hR
   refine Zn (F1:=[TcS o1 cap1 [y],TcsF [t] [y]]) (f:=TcF (.mk op [t] rel tx n) ⟨op,o1,[y].length,cap1,rel,tx,n⟩) (fun hp hF=>WH (hF _ (.head _)) (hF _ (.tail _ (.head _)))) ?_
   repeat' (first|refine ZF ?_|refine ZI ?_|refine ZG ?_|refine ZH ?_|refine ZL ?_|refine ZJ ?_|refine ZN ?_|refine ZK (fun b=>?_)|refine ZM (fun b=>?_)|refine ZC ?_|refine ZA ?_|refine ZO ?_|rw [q0]|rw [q1]|rw [u1]|(refine ZB (fun hc=>?_) (fun hc=>?_)<;>(try simp at hc)<;>(try omega))|(refine ZE (fun hc=>?_) (fun hc=>?_)<;>(try simp at hc)<;>(try omega)))
   all_goals exact ZP ⟨op,o1,[y].length,cap1,rel,tx,n⟩ rfl trivial
  ·have u1:(((ws.length:Nat):Int) == 1)=false:=beq_eq_false_iff_ne.2 (by omega)
   rw [if_neg (fun hh=>h1 (by omega))] at hR
   subst hR
   refine Zn (F1:=[TcS o1 cap1 ws,TcsF sa ws]) (f:=TcF (.mk op sa rel tx n) ⟨op,o1,ws.length,cap1,rel,tx,n⟩) (fun hp hF=>WH (hF _ (.head _)) (hF _ (.tail _ (.head _)))) ?_
   by_cases c1:op=wOr
   ·have q0:=beqT (a:=op) (b:=⟨#[111,114]⟩) c1
    repeat' (first|refine ZF ?_|refine ZI ?_|refine ZG ?_|refine ZH ?_|refine ZL ?_|refine ZJ ?_|refine ZN ?_|refine ZK (fun b=>?_)|refine ZM (fun b=>?_)|refine ZC ?_|refine ZA ?_|refine ZO ?_|rw [q0]|rw [u1]|(refine ZB (fun hc=>?_) (fun hc=>?_)<;>(try simp at hc)<;>(try omega))|(refine ZE (fun hc=>?_) (fun hc=>?_)<;>(try simp at hc)<;>(try omega)))
    all_goals exact ZP ⟨op,o1,ws.length,cap1,rel,tx,n⟩ rfl trivial
   have q0:=beqF (a:=op) (b:=⟨#[111,114]⟩) c1
   by_cases c2:op=wAnd
   ·have q1:=beqT (a:=op) (b:=⟨#[97,110,100]⟩) c2
    repeat' (first|refine ZF ?_|refine ZI ?_|refine ZG ?_|refine ZH ?_|refine ZL ?_|refine ZJ ?_|refine ZN ?_|refine ZK (fun b=>?_)|refine ZM (fun b=>?_)|refine ZC ?_|refine ZA ?_|refine ZO ?_|rw [q0]|rw [q1]|rw [u1]|(refine ZB (fun hc=>?_) (fun hc=>?_)<;>(try simp at hc)<;>(try omega))|(refine ZE (fun hc=>?_) (fun hc=>?_)<;>(try simp at hc)<;>(try omega)))
    all_goals exact ZP ⟨op,o1,ws.length,cap1,rel,tx,n⟩ rfl trivial
   have q1:=beqF (a:=op) (b:=⟨#[97,110,100]⟩) c2
   repeat' (first|refine ZF ?_|refine ZI ?_|refine ZG ?_|refine ZH ?_|refine ZL ?_|refine ZJ ?_|refine ZN ?_|refine ZK (fun b=>?_)|refine ZM (fun b=>?_)|refine ZC ?_|refine ZA ?_|refine ZO ?_|rw [q0]|rw [q1]|rw [u1]|(refine ZB (fun hc=>?_) (fun hc=>?_)<;>(try simp at hc)<;>(try omega))|(refine ZE (fun hc=>?_) (fun hc=>?_)<;>(try simp at hc)<;>(try omega)))
   all_goals exact ZP ⟨op,o1,ws.length,cap1,rel,tx,n⟩ rfl trivial
mutual
theorem V8:∀t:Tr5,SzT t→SiT t
 | .mk op args rel tx n,hz,x=>by
  rw [SzT] at hz
  obtain ⟨z1,z2,z3⟩:=hz
  refine specF_fact (X:=Option Addr×Nat×List TC) (Fx:=fun q=>[TcS q.1 q.2.1 q.2.2,TcsF args q.2.2]) (p:=fun q=>x=⟨op,q.1,q.2.2.length,q.2.1,rel,tx,n⟩∧q.2.2.length=args.length) (enters_of func61 (by kernel_rfl) rfl) (fun h hh=>?_) (fun q hq=>?_)
  ·have hh:TcP h (.mk op args rel tx n) x:=hh
   rw [TcP] at hh
   obtain ⟨h1,h2,h3,h4,vs,h5,h6,h7⟩:=hh
   obtain ⟨xo,xa,xl,xc,xr,xt,xn⟩:=x
   dsimp only at h1 h2 h3 h4 h5 h6 ⊢
   subst h1;subst h2;subst h3;subst h4;subst h5
   exact ⟨(xa,xc,vs),⟨rfl,tcsP_len h7⟩,fun g hg=>by
    simp only [List.mem_cons,List.not_mem_nil,or_false] at hg
    rcases hg with rfl|rfl
    ·exact h6
    ·exact h7⟩
  ·obtain ⟨o,cap,vs⟩:=q
   obtain ⟨rfl,hl⟩:=hq
   dsimp only at hl ⊢
   exact simp_step args o cap vs op rel tx n hl z2 (VI args z3)
theorem VI:∀l:List Tr5,SzTs l→∀t ∈ l,SiT t
 | [],_=>fun d hd=>by cases hd
 | x::l,hz=>fun d hd=>by
  rw [SzTs] at hz
  rcases List.mem_cons.1 hd with hd|hd
  ·exact hd ▸ V8 x hz.1
  ·exact VI l hz.2 d hd
end
mutual
theorem simp_sho:∀t:Tr5,WfT t→SzT t→NbT t→ShO (simpT t)
 | .mk op args rel tx n,hw,hz,hb=>by
  rw [WfT] at hw;rw [SzT] at hz;rw [NbT] at hb
  have hl:=XV args
  have hne:args≠[]→simpTs args≠[]:=fun h e=>h (List.length_eq_zero_iff.1 (by rw [←hl,e];rfl))
  rw [simpT]
  by_cases c1:op=wOr∨op=wAnd
  ·rw [if_pos c1] at hw
   have ha:=Vp args hw.2 hz.2.2 hb.2
   by_cases c:(op=wOr∨op=wAnd)∧(simpTs args).length=1
   ·rw [if_pos c]
    cases hs:simpTs args with
    | nil=>rw [hs] at c;exact absurd c.2 (by simp)
    | cons t l=>rw [hs,ShOs] at ha;exact ha.1
   ·rw [if_neg c,ShO]
    exact ⟨by omega,hz.1,fun _=>hne hw.1,hb.1,c1.elim .inl (fun h=>.inr (.inl h)),ha⟩
  ·rw [if_neg c1] at hw
   rw [if_neg (fun h=>c1 h.1),ShO]
   by_cases c2:op=wNot
   ·rw [if_pos c2] at hw
    exact ⟨by omega,hz.1,fun _=>hne (by obtain ⟨⟨t,rfl⟩,_⟩:=hw;simp),hb.1,.inr (.inr (.inl c2)),Vp args hw.2 hz.2.2 hb.2⟩
   ·rw [if_neg c2] at hw
    obtain ⟨rfl,h2,_⟩:=hw
    exact ⟨by omega,hz.1,fun h=>absurd h c2,hb.1,.inr (.inr (.inr h2)),by rw [simpTs,ShOs];trivial⟩
theorem Vp:∀l:List Tr5,WfTs l→SzTs l→NbTs l→ShOs (simpTs l)
 | [],_,_,_=>by rw [simpTs,ShOs];trivial
 | t::l,hw,hz,hb=>by
  rw [WfTs] at hw;rw [SzTs] at hz;rw [NbTs] at hb
  rw [simpTs,ShOs]
  exact ⟨simp_sho t hw.1 hz.1 hb.1,Vp l hw.2 hz.2 hb.2⟩
end
abbrev SwT (t:Tr5):Prop:=∀(x:TC) (k:Int),0≤k→k≤2→(showT t k).size≤1000000→Enters 60∧Spec prog 60 #[tcv x,.int .i64 k] [TcF t x] [] (RetV (.string (showT t k)))
set_option maxHeartbeats 4000000 in
theorem show_lv0 (args:List Tr5) (o:Option Addr) (cap:Nat) (vs:List TC) (op rel tx:ByteArray) (n k:Int) (hop:op=⟨#[111,114]⟩) (hl:vs.length=args.length) (hbd:args.length≤200000) (ih:∀t ∈ args,SwT t) (hz:(showTs op 0 args 0 eB).size≤1000000):Spec prog 60 #[tcv ⟨op,o,vs.length,cap,rel,tx,n⟩,.int .i64 k] [TcS o cap vs,TcsF args vs] [] (RetV (.string (if 0<k then yOpn++showTs op 0 args 0 eB++yCls else showTs op 0 args 0 eB))):=by
 refine And.right (a:=Enters 60) ?_
 have q0:=beqT (a:=op) (b:=⟨#[111,114]⟩) hop
 have q1:=beqF (a:=op) (b:=⟨#[97,110,100]⟩) (by rw [hop];decide)
 obtain ⟨R,hR⟩:∃R,showTs op 0 args 0 eB=R:=⟨_,rfl⟩
 rw [hR] at hz ⊢
 refine ZR [_,_] func60 ntmps60 fun G w hp=>?_
 repeat' (first|refine ZF ?_|refine ZI ?_|refine ZG ?_|refine ZH ?_|refine ZL ?_|refine ZJ ?_|refine ZN ?_|refine ZK (fun b=>?_)|refine ZM (fun b=>?_)|refine ZC ?_|refine ZA ?_|rw [q0]|rw [q1]|(refine ZB (fun hc=>?_) (fun hc=>?_)<;>(try simp at hc)<;>(try omega))|(refine ZE (fun hc=>?_) (fun hc=>?_)<;>(try simp at hc)<;>(try omega)))
 refine YK (X:={p:Nat×ByteArray // p.1≤vs.length∧showTs op 0 (args.drop p.1) p.1 p.2=R}) (fun p=>[(1,.int .i64 k),(2,pv0 b),(5,.string p.1.2),(6,.int .i64 0),(7,.int .i64 (p.1.1:Int))]) (fun _=>[TcS o cap vs,TcsF args vs]) (fun _=>[Pt b (.cells (tcf ⟨op,o,vs.length,cap,rel,tx,n⟩).toArray 65)]) (fun p=>vs.length - p.1.1) ⟨(0,eB),Nat.zero_le _,hR⟩ ⟨rfl,rfl,rfl,rfl,rfl,trivial⟩ ?_
 rintro ⟨⟨j,acc⟩,hj,hRj⟩
 dsimp only at hj hRj ⊢
 by_cases hlt:j<vs.length
 ·have hxj:=List.getElem?_eq_getElem hlt
  have hltc:j<args.length:=by omega
  have hcj:=List.getElem?_eq_getElem hltc
  rw [List.drop_eq_getElem_cons hltc] at hRj
  have ihd:=ih _ (List.getElem_mem hltc)
  generalize vs[j]=x at *
  generalize args[j]=d at *
  rw [showTs] at hRj
  have hle:=V1 op 0 (args.drop (j+1)) (j+1) ((if j=0 then acc else acc++wSp++op++wSp)++showT d 0)
  rw [hRj,ByteArray.size_append] at hle
  have n1:=ihd x 0 (by decide) (by decide) (by omega)
  generalize showT d 0=S at *
  refine Zn (F1:=[TcsF args vs]) (f:=TcF d x) (fun hp hF=>WV (hF _ (.head _)) hcj hxj) ?_
  have w1:=wrapi (z:=(j:Int)+1) (by omega) (by omega)
  by_cases hj0:j=0
  ·rw [if_pos hj0] at hRj hle
   repeat' (first|refine Zj (a:=acc) (b:=S) ?_ (h:=by omega)|refine ZX ?_|refine ZW (es:=vs) (f:=tcf) j x hxj (fun b off=>?_)|refine ZF ?_|refine ZI ?_|refine ZG ?_|refine ZH ?_|refine ZL ?_|refine ZJ ?_|refine ZN ?_|refine ZK (fun b=>?_)|refine ZM (fun b=>?_)|refine ZC ?_|refine ZA ?_|refine ZD (n1) (fun _ _=>?_)|refine l_call0 (n1) (fun _ _=>?_)|rw [w1]|(refine ZB (fun hc=>?_) (fun hc=>?_)<;>(try simp at hc)<;>(try omega))|(refine ZE (fun hc=>?_) (fun hc=>?_)<;>(try simp at hc)<;>(try omega)))
   all_goals exact ZV ⟨(j+1,acc++S),by show j+1≤vs.length;omega,hRj⟩ (by show vs.length - (j+1)<vs.length - j;omega) ⟨rfl,rfl,rfl,rfl,rfl,trivial⟩
  ·rw [if_neg hj0] at hRj hle
   have z1:wSp.size=1:=rfl
   simp only [ByteArray.size_append] at hle
   repeat' (first|refine Zj (a:=acc++wSp++op++wSp) (b:=S) ?_ (h:=by rw [ByteArray.size_append,ByteArray.size_append,ByteArray.size_append];omega)|refine Zj (a:=acc++wSp++op) (b:=wSp) ?_ (h:=by rw [ByteArray.size_append,ByteArray.size_append];omega)|refine Zj (a:=acc++wSp) (b:=op) ?_ (h:=by rw [ByteArray.size_append];omega)|refine Zj (a:=acc) (b:=wSp) ?_ (h:=by omega)|refine ZX ?_|refine ZW (es:=vs) (f:=tcf) j x hxj (fun b off=>?_)|refine ZF ?_|refine ZI ?_|refine ZG ?_|refine ZH ?_|refine ZL ?_|refine ZJ ?_|refine ZN ?_|refine ZK (fun b=>?_)|refine ZM (fun b=>?_)|refine ZC ?_|refine ZA ?_|refine ZD (n1) (fun _ _=>?_)|refine l_call0 (n1) (fun _ _=>?_)|rw [w1]|(refine ZB (fun hc=>?_) (fun hc=>?_)<;>(try simp at hc)<;>(try omega))|(refine ZE (fun hc=>?_) (fun hc=>?_)<;>(try simp at hc)<;>(try omega)))
   all_goals exact ZV ⟨(j+1,acc++wSp++op++wSp++S),by show j+1≤vs.length;omega,hRj⟩ (by show vs.length - (j+1)<vs.length - j;omega) ⟨rfl,rfl,rfl,rfl,rfl,trivial⟩
 ·rw [List.drop_eq_nil_of_le (by omega),showTs] at hRj
  subst hRj
  have hlt2:¬(j:Int)<(vs.length:Int):=by omega
  by_cases hk:0<k
  ·rw [if_pos hk]
   repeat' (first|refine Zj (a:=yOpn++acc) (b:=yCls) ?_ (h:=by have:yOpn.size=1:=rfl;have:yCls.size=1:=rfl;rw [ByteArray.size_append];omega)|refine Zj (a:=yOpn) (b:=acc) ?_ (h:=by have:yOpn.size=1:=rfl;omega)|refine ZF ?_|refine ZI ?_|refine ZG ?_|refine ZH ?_|refine ZL ?_|refine ZJ ?_|refine ZN ?_|refine ZK (fun b=>?_)|refine ZM (fun b=>?_)|refine ZC ?_|refine ZA ?_|refine ZO ?_|(refine ZB (fun hc=>?_) (fun hc=>?_)<;>(try simp at hc)<;>(try omega))|(refine ZE (fun hc=>?_) (fun hc=>?_)<;>(try simp at hc)<;>(try omega)))
   all_goals exact ZP () rfl trivial
  ·rw [if_neg hk]
   repeat' (first|refine ZF ?_|refine ZI ?_|refine ZG ?_|refine ZH ?_|refine ZL ?_|refine ZJ ?_|refine ZN ?_|refine ZK (fun b=>?_)|refine ZM (fun b=>?_)|refine ZC ?_|refine ZA ?_|refine ZO ?_|(refine ZB (fun hc=>?_) (fun hc=>?_)<;>(try simp at hc)<;>(try omega))|(refine ZE (fun hc=>?_) (fun hc=>?_)<;>(try simp at hc)<;>(try omega)))
   all_goals exact ZP () rfl trivial
set_option maxHeartbeats 4000000 in
theorem show_lv1 (args:List Tr5) (o:Option Addr) (cap:Nat) (vs:List TC) (op rel tx:ByteArray) (n k:Int) (hop:op=⟨#[97,110,100]⟩) (hl:vs.length=args.length) (hbd:args.length≤200000) (ih:∀t ∈ args,SwT t) (hz:(showTs op 1 args 0 eB).size≤1000000):Spec prog 60 #[tcv ⟨op,o,vs.length,cap,rel,tx,n⟩,.int .i64 k] [TcS o cap vs,TcsF args vs] [] (RetV (.string (if 1<k then yOpn++showTs op 1 args 0 eB++yCls else showTs op 1 args 0 eB))):=by
 refine And.right (a:=Enters 60) ?_
 have q0:=beqF (a:=op) (b:=⟨#[111,114]⟩) (by rw [hop];decide)
 have q1:=beqT (a:=op) (b:=⟨#[97,110,100]⟩) hop
 obtain ⟨R,hR⟩:∃R,showTs op 1 args 0 eB=R:=⟨_,rfl⟩
 rw [hR] at hz ⊢
 refine ZR [_,_] func60 ntmps60 fun G w hp=>?_
 repeat' (first|refine ZF ?_|refine ZI ?_|refine ZG ?_|refine ZH ?_|refine ZL ?_|refine ZJ ?_|refine ZN ?_|refine ZK (fun b=>?_)|refine ZM (fun b=>?_)|refine ZC ?_|refine ZA ?_|rw [q0]|rw [q1]|(refine ZB (fun hc=>?_) (fun hc=>?_)<;>(try simp at hc)<;>(try omega))|(refine ZE (fun hc=>?_) (fun hc=>?_)<;>(try simp at hc)<;>(try omega)))
 refine YK (X:={p:Nat×ByteArray // p.1≤vs.length∧showTs op 1 (args.drop p.1) p.1 p.2=R}) (fun p=>[(1,.int .i64 k),(2,pv0 b),(5,.string p.1.2),(6,.int .i64 1),(7,.int .i64 (p.1.1:Int))]) (fun _=>[TcS o cap vs,TcsF args vs]) (fun _=>[Pt b (.cells (tcf ⟨op,o,vs.length,cap,rel,tx,n⟩).toArray 65)]) (fun p=>vs.length - p.1.1) ⟨(0,eB),Nat.zero_le _,hR⟩ ⟨rfl,rfl,rfl,rfl,rfl,trivial⟩ ?_
 rintro ⟨⟨j,acc⟩,hj,hRj⟩
 dsimp only at hj hRj ⊢
 by_cases hlt:j<vs.length
 ·have hxj:=List.getElem?_eq_getElem hlt
  have hltc:j<args.length:=by omega
  have hcj:=List.getElem?_eq_getElem hltc
  rw [List.drop_eq_getElem_cons hltc] at hRj
  have ihd:=ih _ (List.getElem_mem hltc)
  generalize vs[j]=x at *
  generalize args[j]=d at *
  rw [showTs] at hRj
  have hle:=V1 op 1 (args.drop (j+1)) (j+1) ((if j=0 then acc else acc++wSp++op++wSp)++showT d 1)
  rw [hRj,ByteArray.size_append] at hle
  have n1:=ihd x 1 (by decide) (by decide) (by omega)
  generalize showT d 1=S at *
  refine Zn (F1:=[TcsF args vs]) (f:=TcF d x) (fun hp hF=>WV (hF _ (.head _)) hcj hxj) ?_
  have w1:=wrapi (z:=(j:Int)+1) (by omega) (by omega)
  by_cases hj0:j=0
  ·rw [if_pos hj0] at hRj hle
   repeat' (first|refine Zj (a:=acc) (b:=S) ?_ (h:=by omega)|refine ZX ?_|refine ZW (es:=vs) (f:=tcf) j x hxj (fun b off=>?_)|refine ZF ?_|refine ZI ?_|refine ZG ?_|refine ZH ?_|refine ZL ?_|refine ZJ ?_|refine ZN ?_|refine ZK (fun b=>?_)|refine ZM (fun b=>?_)|refine ZC ?_|refine ZA ?_|refine ZD (n1) (fun _ _=>?_)|refine l_call0 (n1) (fun _ _=>?_)|rw [w1]|(refine ZB (fun hc=>?_) (fun hc=>?_)<;>(try simp at hc)<;>(try omega))|(refine ZE (fun hc=>?_) (fun hc=>?_)<;>(try simp at hc)<;>(try omega)))
   all_goals exact ZV ⟨(j+1,acc++S),by show j+1≤vs.length;omega,hRj⟩ (by show vs.length - (j+1)<vs.length - j;omega) ⟨rfl,rfl,rfl,rfl,rfl,trivial⟩
  ·rw [if_neg hj0] at hRj hle
   have z1:wSp.size=1:=rfl
   simp only [ByteArray.size_append] at hle
   repeat' (first|refine Zj (a:=acc++wSp++op++wSp) (b:=S) ?_ (h:=by rw [ByteArray.size_append,ByteArray.size_append,ByteArray.size_append];omega)|refine Zj (a:=acc++wSp++op) (b:=wSp) ?_ (h:=by rw [ByteArray.size_append,ByteArray.size_append];omega)|refine Zj (a:=acc++wSp) (b:=op) ?_ (h:=by rw [ByteArray.size_append];omega)|refine Zj (a:=acc) (b:=wSp) ?_ (h:=by omega)|refine ZX ?_|refine ZW (es:=vs) (f:=tcf) j x hxj (fun b off=>?_)|refine ZF ?_|refine ZI ?_|refine ZG ?_|refine ZH ?_|refine ZL ?_|refine ZJ ?_|refine ZN ?_|refine ZK (fun b=>?_)|refine ZM (fun b=>?_)|refine ZC ?_|refine ZA ?_|refine ZD (n1) (fun _ _=>?_)|refine l_call0 (n1) (fun _ _=>?_)|rw [w1]|(refine ZB (fun hc=>?_) (fun hc=>?_)<;>(try simp at hc)<;>(try omega))|(refine ZE (fun hc=>?_) (fun hc=>?_)<;>(try simp at hc)<;>(try omega)))
   all_goals exact ZV ⟨(j+1,acc++wSp++op++wSp++S),by show j+1≤vs.length;omega,hRj⟩ (by show vs.length - (j+1)<vs.length - j;omega) ⟨rfl,rfl,rfl,rfl,rfl,trivial⟩
 ·rw [List.drop_eq_nil_of_le (by omega),showTs] at hRj
  subst hRj
  have hlt2:¬(j:Int)<(vs.length:Int):=by omega
  by_cases hk:1<k
  ·rw [if_pos hk]
   repeat' (first|refine Zj (a:=yOpn++acc) (b:=yCls) ?_ (h:=by have:yOpn.size=1:=rfl;have:yCls.size=1:=rfl;rw [ByteArray.size_append];omega)|refine Zj (a:=yOpn) (b:=acc) ?_ (h:=by have:yOpn.size=1:=rfl;omega)|refine ZF ?_|refine ZI ?_|refine ZG ?_|refine ZH ?_|refine ZL ?_|refine ZJ ?_|refine ZN ?_|refine ZK (fun b=>?_)|refine ZM (fun b=>?_)|refine ZC ?_|refine ZA ?_|refine ZO ?_|(refine ZB (fun hc=>?_) (fun hc=>?_)<;>(try simp at hc)<;>(try omega))|(refine ZE (fun hc=>?_) (fun hc=>?_)<;>(try simp at hc)<;>(try omega)))
   all_goals exact ZP () rfl trivial
  ·rw [if_neg hk]
   repeat' (first|refine ZF ?_|refine ZI ?_|refine ZG ?_|refine ZH ?_|refine ZL ?_|refine ZJ ?_|refine ZN ?_|refine ZK (fun b=>?_)|refine ZM (fun b=>?_)|refine ZC ?_|refine ZA ?_|refine ZO ?_|(refine ZB (fun hc=>?_) (fun hc=>?_)<;>(try simp at hc)<;>(try omega))|(refine ZE (fun hc=>?_) (fun hc=>?_)<;>(try simp at hc)<;>(try omega)))
   all_goals exact ZP () rfl trivial
set_option maxHeartbeats 4000000 in
theorem show_not (args:List Tr5) (o:Option Addr) (cap:Nat) (vs:List TC) (op rel tx:ByteArray) (n k:Int) (hop:op=⟨#[110,111,116]⟩) (d:Tr5) (l:List Tr5) (hd:args=d::l) (hl:vs.length=args.length) (ih:SwT d) (hz:(sNot++showT d 2).size≤1000000):Spec prog 60 #[tcv ⟨op,o,vs.length,cap,rel,tx,n⟩,.int .i64 k] [TcS o cap vs,TcsF args vs] [] (RetV (.string (sNot++showT d 2))):=by
 have q0:=beqF (a:=op) (b:=⟨#[111,114]⟩) (by rw [hop];decide)
 have q1:=beqF (a:=op) (b:=⟨#[97,110,100]⟩) (by rw [hop];decide)
 have q2:=beqT (a:=op) (b:=⟨#[110,111,116]⟩) hop
 subst hd
 obtain ⟨x,ws,rfl⟩:∃x ws,vs=x::ws:=by
  cases vs with
  | nil=>cases hl
  | cons x l=>exact ⟨x,l,rfl⟩
 have z1:sNot.size=4:=rfl
 rw [ByteArray.size_append] at hz
 have n1:=ih x 2 (by decide) (by decide) (by omega)
 have hx0:(x::ws)[0]? = some x:=rfl
 have hlen:0<(x::ws).length:=Nat.zero_lt_succ _
 generalize showT d 2=S at *
 refine And.right (a:=Enters 60) ?_
 refine ZR [_,_] func60 ntmps60 fun G w hp=>?_
 refine Zn (F1:=[TcsF (d::l) (x::ws)]) (f:=TcF d x) (fun hp hF=>WV (i:=0) (hF _ (.head _)) rfl rfl) ?_
 repeat' (first|refine Zj (a:=sNot) (b:=S) ?_ (h:=by omega)|refine ZX ?_|refine ZW (es:=x::ws) (f:=tcf) 0 x hx0 (fun b off=>?_)|refine ZF ?_|refine ZI ?_|refine ZG ?_|refine ZH ?_|refine ZL ?_|refine ZJ ?_|refine ZN ?_|refine ZK (fun b=>?_)|refine ZM (fun b=>?_)|refine ZC ?_|refine ZA ?_|refine ZD (n1) (fun _ _=>?_)|refine l_call0 (n1) (fun _ _=>?_)|rw [q0]|rw [q1]|rw [q2]|(refine ZB (fun hc=>?_) (fun hc=>?_)<;>(try simp at hc)<;>(try omega))|(refine ZE (fun hc=>?_) (fun hc=>?_)<;>(try simp at hc)<;>(try omega)))
 all_goals exact ZP () rfl trivial
set_option maxHeartbeats 4000000 in
theorem show_w3 (args:List Tr5) (o:Option Addr) (cap:Nat) (vs:List TC) (op rel tx:ByteArray) (n k:Int) (hop:op=⟨#[109,105,115,115,105,110,103]⟩) (_hz:(op).size≤1000000):Spec prog 60 #[tcv ⟨op,o,vs.length,cap,rel,tx,n⟩,.int .i64 k] [TcS o cap vs,TcsF args vs] [] (RetV (.string (op))):=by
 refine And.right (a:=Enters 60) ?_
 have q0:=beqF (a:=op) (b:=⟨#[111,114]⟩) (by rw [hop];decide)
 have q1:=beqF (a:=op) (b:=⟨#[97,110,100]⟩) (by rw [hop];decide)
 have q2:=beqF (a:=op) (b:=⟨#[110,111,116]⟩) (by rw [hop];decide)
 have q3:=beqT (a:=op) (b:=⟨#[109,105,115,115,105,110,103]⟩) hop
 refine ZR [_,_] func60 ntmps60 fun G w hp=>?_
 repeat' (first|refine ZF ?_|refine ZI ?_|refine ZG ?_|refine ZH ?_|refine ZL ?_|refine ZJ ?_|refine ZN ?_|refine ZK (fun b=>?_)|refine ZM (fun b=>?_)|refine ZC ?_|refine ZA ?_|rw [q0]|rw [q1]|rw [q2]|rw [q3]|(refine ZB (fun hc=>?_) (fun hc=>?_)<;>(try simp at hc)<;>(try omega))|(refine ZE (fun hc=>?_) (fun hc=>?_)<;>(try simp at hc)<;>(try omega)))
 all_goals exact ZP () rfl trivial
set_option maxHeartbeats 4000000 in
theorem show_w4 (args:List Tr5) (o:Option Addr) (cap:Nat) (vs:List TC) (op rel tx:ByteArray) (n k:Int) (hop:op=⟨#[99,104,97,110,103,101,100]⟩) (_hz:(op).size≤1000000):Spec prog 60 #[tcv ⟨op,o,vs.length,cap,rel,tx,n⟩,.int .i64 k] [TcS o cap vs,TcsF args vs] [] (RetV (.string (op))):=by
 refine And.right (a:=Enters 60) ?_
 have q0:=beqF (a:=op) (b:=⟨#[111,114]⟩) (by rw [hop];decide)
 have q1:=beqF (a:=op) (b:=⟨#[97,110,100]⟩) (by rw [hop];decide)
 have q2:=beqF (a:=op) (b:=⟨#[110,111,116]⟩) (by rw [hop];decide)
 have q3:=beqF (a:=op) (b:=⟨#[109,105,115,115,105,110,103]⟩) (by rw [hop];decide)
 have q4:=beqT (a:=op) (b:=⟨#[99,104,97,110,103,101,100]⟩) hop
 refine ZR [_,_] func60 ntmps60 fun G w hp=>?_
 repeat' (first|refine ZF ?_|refine ZI ?_|refine ZG ?_|refine ZH ?_|refine ZL ?_|refine ZJ ?_|refine ZN ?_|refine ZK (fun b=>?_)|refine ZM (fun b=>?_)|refine ZC ?_|refine ZA ?_|rw [q0]|rw [q1]|rw [q2]|rw [q3]|rw [q4]|(refine ZB (fun hc=>?_) (fun hc=>?_)<;>(try simp at hc)<;>(try omega))|(refine ZE (fun hc=>?_) (fun hc=>?_)<;>(try simp at hc)<;>(try omega)))
 all_goals exact ZP () rfl trivial
set_option maxHeartbeats 4000000 in
theorem show_w5 (args:List Tr5) (o:Option Addr) (cap:Nat) (vs:List TC) (op rel tx:ByteArray) (n k:Int) (hop:op=⟨#[110,101,119]⟩) (_hz:(op).size≤1000000):Spec prog 60 #[tcv ⟨op,o,vs.length,cap,rel,tx,n⟩,.int .i64 k] [TcS o cap vs,TcsF args vs] [] (RetV (.string (op))):=by
 refine And.right (a:=Enters 60) ?_
 have q0:=beqF (a:=op) (b:=⟨#[111,114]⟩) (by rw [hop];decide)
 have q1:=beqF (a:=op) (b:=⟨#[97,110,100]⟩) (by rw [hop];decide)
 have q2:=beqF (a:=op) (b:=⟨#[110,111,116]⟩) (by rw [hop];decide)
 have q3:=beqF (a:=op) (b:=⟨#[109,105,115,115,105,110,103]⟩) (by rw [hop];decide)
 have q4:=beqF (a:=op) (b:=⟨#[99,104,97,110,103,101,100]⟩) (by rw [hop];decide)
 have q5:=beqT (a:=op) (b:=⟨#[110,101,119]⟩) hop
 refine ZR [_,_] func60 ntmps60 fun G w hp=>?_
 repeat' (first|refine ZF ?_|refine ZI ?_|refine ZG ?_|refine ZH ?_|refine ZL ?_|refine ZJ ?_|refine ZN ?_|refine ZK (fun b=>?_)|refine ZM (fun b=>?_)|refine ZC ?_|refine ZA ?_|rw [q0]|rw [q1]|rw [q2]|rw [q3]|rw [q4]|rw [q5]|(refine ZB (fun hc=>?_) (fun hc=>?_)<;>(try simp at hc)<;>(try omega))|(refine ZE (fun hc=>?_) (fun hc=>?_)<;>(try simp at hc)<;>(try omega)))
 all_goals exact ZP () rfl trivial
set_option maxHeartbeats 4000000 in
theorem show_w6 (args:List Tr5) (o:Option Addr) (cap:Nat) (vs:List TC) (op rel tx:ByteArray) (n k:Int) (hop:op=⟨#[99,104,97,110,110,101,108]⟩) (hz:(op++wSp++rel).size≤1000000):Spec prog 60 #[tcv ⟨op,o,vs.length,cap,rel,tx,n⟩,.int .i64 k] [TcS o cap vs,TcsF args vs] [] (RetV (.string (op++wSp++rel))):=by
 refine And.right (a:=Enters 60) ?_
 have q0:=beqF (a:=op) (b:=⟨#[111,114]⟩) (by rw [hop];decide)
 have q1:=beqF (a:=op) (b:=⟨#[97,110,100]⟩) (by rw [hop];decide)
 have q2:=beqF (a:=op) (b:=⟨#[110,111,116]⟩) (by rw [hop];decide)
 have q3:=beqF (a:=op) (b:=⟨#[109,105,115,115,105,110,103]⟩) (by rw [hop];decide)
 have q4:=beqF (a:=op) (b:=⟨#[99,104,97,110,103,101,100]⟩) (by rw [hop];decide)
 have q5:=beqF (a:=op) (b:=⟨#[110,101,119]⟩) (by rw [hop];decide)
 have q6:=beqT (a:=op) (b:=⟨#[99,104,97,110,110,101,108]⟩) hop
 have z1:wSp.size=1:=rfl
 simp only [ByteArray.size_append] at hz
 refine ZR [_,_] func60 ntmps60 fun G w hp=>?_
 repeat' (first|refine Zj (a:=op++wSp) (b:=rel) ?_ (h:=by rw [ByteArray.size_append];omega)|refine Zj (a:=op) (b:=wSp) ?_ (h:=by omega)|refine ZF ?_|refine ZI ?_|refine ZG ?_|refine ZH ?_|refine ZL ?_|refine ZJ ?_|refine ZN ?_|refine ZK (fun b=>?_)|refine ZM (fun b=>?_)|refine ZC ?_|refine ZA ?_|rw [q0]|rw [q1]|rw [q2]|rw [q3]|rw [q4]|rw [q5]|rw [q6]|(refine ZB (fun hc=>?_) (fun hc=>?_)<;>(try simp at hc)<;>(try omega))|(refine ZE (fun hc=>?_) (fun hc=>?_)<;>(try simp at hc)<;>(try omega)))
 all_goals exact ZP () rfl trivial
set_option maxHeartbeats 4000000 in
theorem show_w7 (args:List Tr5) (o:Option Addr) (cap:Nat) (vs:List TC) (op rel tx:ByteArray) (n k:Int) (hop:op=⟨#[98,121]⟩) (hz:(op++wSp++tx).size≤1000000):Spec prog 60 #[tcv ⟨op,o,vs.length,cap,rel,tx,n⟩,.int .i64 k] [TcS o cap vs,TcsF args vs] [] (RetV (.string (op++wSp++tx))):=by
 refine And.right (a:=Enters 60) ?_
 have q0:=beqF (a:=op) (b:=⟨#[111,114]⟩) (by rw [hop];decide)
 have q1:=beqF (a:=op) (b:=⟨#[97,110,100]⟩) (by rw [hop];decide)
 have q2:=beqF (a:=op) (b:=⟨#[110,111,116]⟩) (by rw [hop];decide)
 have q3:=beqF (a:=op) (b:=⟨#[109,105,115,115,105,110,103]⟩) (by rw [hop];decide)
 have q4:=beqF (a:=op) (b:=⟨#[99,104,97,110,103,101,100]⟩) (by rw [hop];decide)
 have q5:=beqF (a:=op) (b:=⟨#[110,101,119]⟩) (by rw [hop];decide)
 have q6:=beqF (a:=op) (b:=⟨#[99,104,97,110,110,101,108]⟩) (by rw [hop];decide)
 have q7:=beqT (a:=op) (b:=⟨#[98,121]⟩) hop
 have z1:wSp.size=1:=rfl
 simp only [ByteArray.size_append] at hz
 refine ZR [_,_] func60 ntmps60 fun G w hp=>?_
 repeat' (first|refine Zj (a:=op++wSp) (b:=tx) ?_ (h:=by rw [ByteArray.size_append];omega)|refine Zj (a:=op) (b:=wSp) ?_ (h:=by omega)|refine ZF ?_|refine ZI ?_|refine ZG ?_|refine ZH ?_|refine ZL ?_|refine ZJ ?_|refine ZN ?_|refine ZK (fun b=>?_)|refine ZM (fun b=>?_)|refine ZC ?_|refine ZA ?_|rw [q0]|rw [q1]|rw [q2]|rw [q3]|rw [q4]|rw [q5]|rw [q6]|rw [q7]|(refine ZB (fun hc=>?_) (fun hc=>?_)<;>(try simp at hc)<;>(try omega))|(refine ZE (fun hc=>?_) (fun hc=>?_)<;>(try simp at hc)<;>(try omega)))
 all_goals exact ZP () rfl trivial
set_option maxHeartbeats 4000000 in
theorem show_w8 (args:List Tr5) (o:Option Addr) (cap:Nat) (vs:List TC) (op rel tx:ByteArray) (n k:Int) (hop:op=⟨#[116,97,114,103,101,116]⟩) (ht:tx.size≤1000000) (hz:(op++wSp++rel++wSp++quoF tx).size≤1000000):Spec prog 60 #[tcv ⟨op,o,vs.length,cap,rel,tx,n⟩,.int .i64 k] [TcS o cap vs,TcsF args vs] [] (RetV (.string (op++wSp++rel++wSp++quoF tx))):=by
 refine And.right (a:=Enters 60) ?_
 have q0:=beqF (a:=op) (b:=⟨#[111,114]⟩) (by rw [hop];decide)
 have q1:=beqF (a:=op) (b:=⟨#[97,110,100]⟩) (by rw [hop];decide)
 have q2:=beqF (a:=op) (b:=⟨#[110,111,116]⟩) (by rw [hop];decide)
 have q3:=beqF (a:=op) (b:=⟨#[109,105,115,115,105,110,103]⟩) (by rw [hop];decide)
 have q4:=beqF (a:=op) (b:=⟨#[99,104,97,110,103,101,100]⟩) (by rw [hop];decide)
 have q5:=beqF (a:=op) (b:=⟨#[110,101,119]⟩) (by rw [hop];decide)
 have q6:=beqF (a:=op) (b:=⟨#[99,104,97,110,110,101,108]⟩) (by rw [hop];decide)
 have q7:=beqF (a:=op) (b:=⟨#[98,121]⟩) (by rw [hop];decide)
 have q8:=beqT (a:=op) (b:=⟨#[116,97,114,103,101,116]⟩) hop
 have z1:wSp.size=1:=rfl
 simp only [ByteArray.size_append] at hz
 have n1:=X4 tx ht
 generalize quoF tx=S at *
 refine ZR [_,_] func60 ntmps60 fun G w hp=>?_
 repeat' (first|refine Z7 (a:=op++wSp++rel++wSp) (b:=S) ?_ (h:=by rw [ByteArray.size_append,ByteArray.size_append,ByteArray.size_append];omega)|refine Z7 (a:=op++wSp++rel) (b:=wSp) ?_ (h:=by rw [ByteArray.size_append,ByteArray.size_append];omega)|refine Z7 (a:=op++wSp) (b:=rel) ?_ (h:=by rw [ByteArray.size_append];omega)|refine Z7 (a:=op) (b:=wSp) ?_ (h:=by omega)|refine ZF ?_|refine ZI ?_|refine ZG ?_|refine ZH ?_|refine ZL ?_|refine ZJ ?_|refine ZN ?_|refine ZK (fun b=>?_)|refine ZM (fun b=>?_)|refine ZC ?_|refine ZA ?_|refine Zb ?_|refine Zc ?_|refine Zq ?_|refine Zd ?_|refine r_ldN ?_|refine Zr (fun b=>?_)|refine Zo (fun b=>?_)|refine Zp ?_|refine Za ?_|refine ZD (n1) (fun _ _=>?_)|refine l_call0 (n1) (fun _ _=>?_)|refine ZQ (n1) (fun _ _=>?_)|rw [q0]|rw [q1]|rw [q2]|rw [q3]|rw [q4]|rw [q5]|rw [q6]|rw [q7]|rw [q8]|(refine ZB (fun hc=>?_) (fun hc=>?_)<;>(try simp at hc)<;>(try omega))|(refine ZU (fun hc=>?_) (fun hc=>?_)<;>(try simp at hc)<;>(try omega))|refine ZT 30 [] [(0,0),(1,0),(2,0),(3,0),(4,0),(5,0),(6,0),(7,0),(8,0),(9,4),(10,0),(11,0)] [] ?_|(refine ZE (fun hc=>?_) (fun hc=>?_)<;>(try simp at hc)<;>(try omega)))
 all_goals exact ZP () rfl trivial
set_option maxHeartbeats 4000000 in
theorem show_w9 (args:List Tr5) (o:Option Addr) (cap:Nat) (vs:List TC) (op rel tx:ByteArray) (n k:Int) (hop:op=⟨#[98,101,102,111,114,101]⟩) (ht:tx.size≤1000000) (hz:(op++wSp++rel++wSp++quoF tx).size≤1000000):Spec prog 60 #[tcv ⟨op,o,vs.length,cap,rel,tx,n⟩,.int .i64 k] [TcS o cap vs,TcsF args vs] [] (RetV (.string (op++wSp++rel++wSp++quoF tx))):=by
 refine And.right (a:=Enters 60) ?_
 have q0:=beqF (a:=op) (b:=⟨#[111,114]⟩) (by rw [hop];decide)
 have q1:=beqF (a:=op) (b:=⟨#[97,110,100]⟩) (by rw [hop];decide)
 have q2:=beqF (a:=op) (b:=⟨#[110,111,116]⟩) (by rw [hop];decide)
 have q3:=beqF (a:=op) (b:=⟨#[109,105,115,115,105,110,103]⟩) (by rw [hop];decide)
 have q4:=beqF (a:=op) (b:=⟨#[99,104,97,110,103,101,100]⟩) (by rw [hop];decide)
 have q5:=beqF (a:=op) (b:=⟨#[110,101,119]⟩) (by rw [hop];decide)
 have q6:=beqF (a:=op) (b:=⟨#[99,104,97,110,110,101,108]⟩) (by rw [hop];decide)
 have q7:=beqF (a:=op) (b:=⟨#[98,121]⟩) (by rw [hop];decide)
 have q8:=beqF (a:=op) (b:=⟨#[116,97,114,103,101,116]⟩) (by rw [hop];decide)
 have q9:=beqT (a:=op) (b:=⟨#[98,101,102,111,114,101]⟩) hop
 have z1:wSp.size=1:=rfl
 simp only [ByteArray.size_append] at hz
 have n1:=X4 tx ht
 generalize quoF tx=S at *
 refine ZR [_,_] func60 ntmps60 fun G w hp=>?_
 repeat' (first|refine Z7 (a:=op++wSp++rel++wSp) (b:=S) ?_ (h:=by rw [ByteArray.size_append,ByteArray.size_append,ByteArray.size_append];omega)|refine Z7 (a:=op++wSp++rel) (b:=wSp) ?_ (h:=by rw [ByteArray.size_append,ByteArray.size_append];omega)|refine Z7 (a:=op++wSp) (b:=rel) ?_ (h:=by rw [ByteArray.size_append];omega)|refine Z7 (a:=op) (b:=wSp) ?_ (h:=by omega)|refine ZF ?_|refine ZI ?_|refine ZG ?_|refine ZH ?_|refine ZL ?_|refine ZJ ?_|refine ZN ?_|refine ZK (fun b=>?_)|refine ZM (fun b=>?_)|refine ZC ?_|refine ZA ?_|refine Zb ?_|refine Zc ?_|refine Zq ?_|refine Zd ?_|refine r_ldN ?_|refine Zr (fun b=>?_)|refine Zo (fun b=>?_)|refine Zp ?_|refine Za ?_|refine ZD (n1) (fun _ _=>?_)|refine l_call0 (n1) (fun _ _=>?_)|refine ZQ (n1) (fun _ _=>?_)|rw [q0]|rw [q1]|rw [q2]|rw [q3]|rw [q4]|rw [q5]|rw [q6]|rw [q7]|rw [q8]|rw [q9]|(refine ZB (fun hc=>?_) (fun hc=>?_)<;>(try simp at hc)<;>(try omega))|(refine ZU (fun hc=>?_) (fun hc=>?_)<;>(try simp at hc)<;>(try omega))|refine ZT 30 [] [(0,0),(1,0),(2,0),(3,0),(4,0),(5,0),(6,0),(7,0),(8,0),(9,4),(10,0),(11,0)] [] ?_|(refine ZE (fun hc=>?_) (fun hc=>?_)<;>(try simp at hc)<;>(try omega)))
 all_goals exact ZP () rfl trivial
set_option maxHeartbeats 4000000 in
theorem show_w10 (args:List Tr5) (o:Option Addr) (cap:Nat) (vs:List TC) (op rel tx:ByteArray) (n k:Int) (hop:op=⟨#[97,102,116,101,114]⟩) (ht:tx.size≤1000000) (hz:(op++wSp++rel++wSp++quoF tx).size≤1000000):Spec prog 60 #[tcv ⟨op,o,vs.length,cap,rel,tx,n⟩,.int .i64 k] [TcS o cap vs,TcsF args vs] [] (RetV (.string (op++wSp++rel++wSp++quoF tx))):=by
 refine And.right (a:=Enters 60) ?_
 have q0:=beqF (a:=op) (b:=⟨#[111,114]⟩) (by rw [hop];decide)
 have q1:=beqF (a:=op) (b:=⟨#[97,110,100]⟩) (by rw [hop];decide)
 have q2:=beqF (a:=op) (b:=⟨#[110,111,116]⟩) (by rw [hop];decide)
 have q3:=beqF (a:=op) (b:=⟨#[109,105,115,115,105,110,103]⟩) (by rw [hop];decide)
 have q4:=beqF (a:=op) (b:=⟨#[99,104,97,110,103,101,100]⟩) (by rw [hop];decide)
 have q5:=beqF (a:=op) (b:=⟨#[110,101,119]⟩) (by rw [hop];decide)
 have q6:=beqF (a:=op) (b:=⟨#[99,104,97,110,110,101,108]⟩) (by rw [hop];decide)
 have q7:=beqF (a:=op) (b:=⟨#[98,121]⟩) (by rw [hop];decide)
 have q8:=beqF (a:=op) (b:=⟨#[116,97,114,103,101,116]⟩) (by rw [hop];decide)
 have q9:=beqF (a:=op) (b:=⟨#[98,101,102,111,114,101]⟩) (by rw [hop];decide)
 have q10:=beqT (a:=op) (b:=⟨#[97,102,116,101,114]⟩) hop
 have z1:wSp.size=1:=rfl
 simp only [ByteArray.size_append] at hz
 have n1:=X4 tx ht
 generalize quoF tx=S at *
 refine ZR [_,_] func60 ntmps60 fun G w hp=>?_
 repeat' (first|refine Z7 (a:=op++wSp++rel++wSp) (b:=S) ?_ (h:=by rw [ByteArray.size_append,ByteArray.size_append,ByteArray.size_append];omega)|refine Z7 (a:=op++wSp++rel) (b:=wSp) ?_ (h:=by rw [ByteArray.size_append,ByteArray.size_append];omega)|refine Z7 (a:=op++wSp) (b:=rel) ?_ (h:=by rw [ByteArray.size_append];omega)|refine Z7 (a:=op) (b:=wSp) ?_ (h:=by omega)|refine ZF ?_|refine ZI ?_|refine ZG ?_|refine ZH ?_|refine ZL ?_|refine ZJ ?_|refine ZN ?_|refine ZK (fun b=>?_)|refine ZM (fun b=>?_)|refine ZC ?_|refine ZA ?_|refine Zb ?_|refine Zc ?_|refine Zq ?_|refine Zd ?_|refine r_ldN ?_|refine Zr (fun b=>?_)|refine Zo (fun b=>?_)|refine Zp ?_|refine Za ?_|refine ZD (n1) (fun _ _=>?_)|refine l_call0 (n1) (fun _ _=>?_)|refine ZQ (n1) (fun _ _=>?_)|rw [q0]|rw [q1]|rw [q2]|rw [q3]|rw [q4]|rw [q5]|rw [q6]|rw [q7]|rw [q8]|rw [q9]|rw [q10]|(refine ZB (fun hc=>?_) (fun hc=>?_)<;>(try simp at hc)<;>(try omega))|(refine ZU (fun hc=>?_) (fun hc=>?_)<;>(try simp at hc)<;>(try omega))|refine ZT 30 [] [(0,0),(1,0),(2,0),(3,0),(4,0),(5,0),(6,0),(7,0),(8,0),(9,4),(10,0),(11,0)] [] ?_|(refine ZE (fun hc=>?_) (fun hc=>?_)<;>(try simp at hc)<;>(try omega)))
 all_goals exact ZP () rfl trivial
set_option maxHeartbeats 4000000 in
theorem show_nm (args:List Tr5) (o:Option Addr) (cap:Nat) (vs:List TC) (op rel tx:ByteArray) (n k:Int) (hn0:op≠⟨#[111,114]⟩) (hn1:op≠⟨#[97,110,100]⟩) (hn2:op≠⟨#[110,111,116]⟩) (hn3:op≠⟨#[109,105,115,115,105,110,103]⟩) (hn4:op≠⟨#[99,104,97,110,103,101,100]⟩) (hn5:op≠⟨#[110,101,119]⟩) (hn6:op≠⟨#[99,104,97,110,110,101,108]⟩) (hn7:op≠⟨#[98,121]⟩) (hn8:op≠⟨#[116,97,114,103,101,116]⟩) (hn9:op≠⟨#[98,101,102,111,114,101]⟩) (hn10:op≠⟨#[97,102,116,101,114]⟩) (hn:0≤n∧n≤1073741824) (hz:(op++wSp++rel++wSp++ofL (Lib.itoa n)).size≤1000000):Spec prog 60 #[tcv ⟨op,o,vs.length,cap,rel,tx,n⟩,.int .i64 k] [TcS o cap vs,TcsF args vs] [] (RetV (.string (op++wSp++rel++wSp++ofL (Lib.itoa n)))):=by
 refine And.right (a:=Enters 60) ?_
 have q0:=beqF (a:=op) (b:=⟨#[111,114]⟩) hn0
 have q1:=beqF (a:=op) (b:=⟨#[97,110,100]⟩) hn1
 have q2:=beqF (a:=op) (b:=⟨#[110,111,116]⟩) hn2
 have q3:=beqF (a:=op) (b:=⟨#[109,105,115,115,105,110,103]⟩) hn3
 have q4:=beqF (a:=op) (b:=⟨#[99,104,97,110,103,101,100]⟩) hn4
 have q5:=beqF (a:=op) (b:=⟨#[110,101,119]⟩) hn5
 have q6:=beqF (a:=op) (b:=⟨#[99,104,97,110,110,101,108]⟩) hn6
 have q7:=beqF (a:=op) (b:=⟨#[98,121]⟩) hn7
 have q8:=beqF (a:=op) (b:=⟨#[116,97,114,103,101,116]⟩) hn8
 have q9:=beqF (a:=op) (b:=⟨#[98,101,102,111,114,101]⟩) hn9
 have q10:=beqF (a:=op) (b:=⟨#[97,102,116,101,114]⟩) hn10
 have z1:wSp.size=1:=rfl
 simp only [ByteArray.size_append] at hz
 have n1:=digits_ok n (by omega) (by omega)
 generalize ofL (Lib.itoa n)=S at *
 refine ZR [_,_] func60 ntmps60 fun G w hp=>?_
 repeat' (first|refine Z7 (a:=op++wSp++rel++wSp) (b:=S) ?_ (h:=by rw [ByteArray.size_append,ByteArray.size_append,ByteArray.size_append];omega)|refine Z7 (a:=op++wSp++rel) (b:=wSp) ?_ (h:=by rw [ByteArray.size_append,ByteArray.size_append];omega)|refine Z7 (a:=op++wSp) (b:=rel) ?_ (h:=by rw [ByteArray.size_append];omega)|refine Z7 (a:=op) (b:=wSp) ?_ (h:=by omega)|refine ZF ?_|refine ZI ?_|refine ZG ?_|refine ZH ?_|refine ZL ?_|refine ZJ ?_|refine ZN ?_|refine ZK (fun b=>?_)|refine ZM (fun b=>?_)|refine ZC ?_|refine ZA ?_|refine Zb ?_|refine Zc ?_|refine Zq ?_|refine Zd ?_|refine r_ldN ?_|refine Zr (fun b=>?_)|refine Zo (fun b=>?_)|refine Zp ?_|refine Za ?_|refine ZD (n1) (fun _ _=>?_)|refine l_call0 (n1) (fun _ _=>?_)|refine ZQ (n1) (fun _ _=>?_)|rw [q0]|rw [q1]|rw [q2]|rw [q3]|rw [q4]|rw [q5]|rw [q6]|rw [q7]|rw [q8]|rw [q9]|rw [q10]|(refine ZB (fun hc=>?_) (fun hc=>?_)<;>(try simp at hc)<;>(try omega))|(refine ZU (fun hc=>?_) (fun hc=>?_)<;>(try simp at hc)<;>(try omega))|refine ZT 3 [] [(0,0),(1,0),(2,0),(3,0),(4,0),(5,0),(6,0),(7,0),(8,0),(9,4),(10,0),(11,0)] [] ?_|(refine ZE (fun hc=>?_) (fun hc=>?_)<;>(try simp at hc)<;>(try omega)))
 all_goals exact ZP () rfl trivial
mutual
theorem mpShow_ok:∀t:Tr5,ShO t→SwT t
 | .mk op args rel tx n,hs,x,k,hk0,hk2,hz=>by
  rw [ShO] at hs
  obtain ⟨s1,s2,s3,s4,s5,s6⟩:=hs
  have ihs:=mpShow_all args s6
  refine specF_fact (X:=Option Addr×Nat×List TC) (Fx:=fun q=>[TcS q.1 q.2.1 q.2.2,TcsF args q.2.2]) (p:=fun q=>x=⟨op,q.1,q.2.2.length,q.2.1,rel,tx,n⟩∧q.2.2.length=args.length) (enters_of func60 (by kernel_rfl) rfl) (fun h hh=>?_) (fun q hq=>?_)
  ·have hh:TcP h (.mk op args rel tx n) x:=hh
   rw [TcP] at hh
   obtain ⟨h1,h2,h3,h4,vs,h5,h6,h7⟩:=hh
   obtain ⟨xo,xa,xl,xc,xr,xt,xn⟩:=x
   dsimp only at h1 h2 h3 h4 h5 h6 ⊢
   subst h1;subst h2;subst h3;subst h4;subst h5
   exact ⟨(xa,xc,vs),⟨rfl,tcsP_len h7⟩,fun g hg=>by
    simp only [List.mem_cons,List.not_mem_nil,or_false] at hg
    rcases hg with rfl|rfl
    ·exact h6
    ·exact h7⟩
  ·obtain ⟨o,cap,vs⟩:=q
   obtain ⟨rfl,hl⟩:=hq
   dsimp only at hl ⊢
   rw [showT] at hz ⊢
   by_cases h1:op=wOr
   ·have e:(if op=wAnd then (1:Int) else 0)=0:=if_neg (by rw [h1];decide)
    rw [if_pos (.inl h1),e] at hz ⊢
    refine show_lv0 args o cap vs op rel tx n k h1 hl s1 ihs ?_
    split at hz
    ·simp only [ByteArray.size_append] at hz;omega
    ·exact hz
   by_cases h2:op=wAnd
   ·have e:(if op=wAnd then (1:Int) else 0)=1:=if_pos h2
    rw [if_pos (.inr h2),e] at hz ⊢
    refine show_lv1 args o cap vs op rel tx n k h2 hl s1 ihs ?_
    split at hz
    ·simp only [ByteArray.size_append] at hz;omega
    ·exact hz
   rw [if_neg (fun h=>h.elim h1 h2)] at hz ⊢
   by_cases h3:op=wNot
   ·rw [if_pos h3] at hz ⊢
    obtain ⟨d,l,hd⟩:=List.exists_cons_of_ne_nil (s3 h3)
    have e:showH args=showT d 2:=by rw [hd,showH]
    rw [e] at hz ⊢
    exact show_not args o cap vs op rel tx n k h3 d l hd hl (ihs d (by rw [hd];exact .head _)) hz
   rw [if_neg h3] at hz ⊢
   have ht:isTst op=true:=s5.resolve_left h1 |>.resolve_left h2 |>.resolve_left h3
   by_cases k1:op=⟨#[109,105,115,115,105,110,103]⟩
   ·have e:idx op wKinds<3:=by rw [k1];decide
    rw [if_pos e] at hz ⊢
    exact show_w3 args o cap vs op rel tx n k k1 hz
   by_cases k2:op=⟨#[99,104,97,110,103,101,100]⟩
   ·have e:idx op wKinds<3:=by rw [k2];decide
    rw [if_pos e] at hz ⊢
    exact show_w4 args o cap vs op rel tx n k k2 hz
   by_cases k3:op=⟨#[110,101,119]⟩
   ·have e:idx op wKinds<3:=by rw [k3];decide
    rw [if_pos e] at hz ⊢
    exact show_w5 args o cap vs op rel tx n k k3 hz
   have hk:¬idx op wKinds<3:=fun h=>by
    have:=Zg.1 (show idx op wKinds<wKinds.length from h)
    simp only [wKinds,List.mem_cons,List.not_mem_nil,or_false] at this
    rcases this with h|h|h
    ·exact k1 h
    ·exact k2 h
    ·exact k3 h
   rw [if_neg hk] at hz ⊢
   by_cases h5:op=wChan
   ·rw [if_pos h5] at hz ⊢
    exact show_w6 args o cap vs op rel tx n k h5 hz
   rw [if_neg h5] at hz ⊢
   by_cases h6:op=wBy
   ·rw [if_pos h6] at hz ⊢
    exact show_w7 args o cap vs op rel tx n k h6 hz
   rw [if_neg h6] at hz ⊢
   by_cases h7:idx op wTxs<3
   ·rw [if_pos h7] at hz ⊢
    have:=Zg.1 (show idx op wTxs<wTxs.length from h7)
    simp only [wTxs,List.mem_cons,List.not_mem_nil,or_false] at this
    rcases this with h|h|h
    ·exact show_w8 args o cap vs op rel tx n k h (by omega) hz
    ·exact show_w9 args o cap vs op rel tx n k h (by omega) hz
    ·exact show_w10 args o cap vs op rel tx n k h (by omega) hz
   rw [if_neg h7] at hz ⊢
   have h8:idx op wNms<4:=by
    simp only [isTst,Bool.or_eq_true,decide_eq_true_eq] at ht
    rcases ht with (((ht|ht)|ht)|ht)|ht
    ·exact absurd ht hk
    ·exact absurd ht h5
    ·exact absurd ht h7
    ·exact ht
    ·exact absurd ht h6
   have hx:∀w ∈ wTxs,op≠w:=fun w hw e=>h7 (by rw [e];exact Zg.2 hw)
   exact show_nm args o cap vs op rel tx n k h1 h2 h3 k1 k2 k3 h5 h6 (hx _ (.head _)) (hx _ (.tail _ (.head _))) (hx _ (.tail _ (.tail _ (.head _)))) (s4 h8) hz
theorem mpShow_all:∀l:List Tr5,ShOs l→∀t ∈ l,SwT t
 | [],_=>fun d hd=>by cases hd
 | x::l,hz=>fun d hd=>by
  rw [ShOs] at hz
  rcases List.mem_cons.1 hd with hd|hd
  ·exact hd ▸ mpShow_ok x hz.1
  ·exact mpShow_all l hz.2 d hd
end
set_option maxHeartbeats 4000000 in
theorem mpFactor_step (bp:Nat) (l:List Tk) (o:Option Addr) (cap:Nat) (hl:LOK l) (n:Nat) (ihf:∀m:Mq,0≤m.op→m.op≤32→4 * m.tk.length+1≤n→SpM 146 bp l o cap m (factorM n m)) (ihc:∀m:Mq,0≤m.op→m.op≤32→4 * m.tk.length+3≤n→SpM 77 bp l o cap m (condM n m)) (m:Mq) (ho1:0≤m.op) (ho2:m.op≤32) (hn:4 * m.tk.length+1≤n+1):SpM 146 bp l o cap m (factorM (n+1) m):=by
 intro q
 have hlm:=kx_len q
 have hl1:=hl.2.1
 have n1:=YS bp l o cap hl m q wNot
 rw [factorM]
 cases hw:m.word wNot with
 | true=>
  rw [hw] at n1
  rw [if_pos rfl] at n1
  rw [if_pos rfl]
  have hpl:=Xk hw
  have n2:=fun (q:Kx l m.pass)=>ihf m.pass ho1 ho2 (by omega) q
  generalize factorM n m.pass=y at *
  obtain ⟨c,m1⟩:=y
  dsimp only at n2 ⊢
  refine ZR [_] func146 ntmps146 fun G w hp=>?_
  repeat' (first|refine ZF ?_|refine ZI ?_|refine ZG ?_|refine ZH ?_|refine ZL ?_|refine ZJ ?_|refine ZN ?_|refine ZK (fun b=>?_)|refine ZM (fun b=>?_)|refine ZC ?_|refine ZA ?_|refine ZO ?_|refine ZD (n1) (fun _ _=>?_)|refine l_call0 (n1) (fun _ _=>?_)|refine ZD (n2 _) (fun _ _=>?_)|refine l_call0 (n2 _) (fun _ _=>?_)|(refine ZB (fun hc=>?_) (fun hc=>?_)<;>(try simp at hc)<;>(try omega))|(refine ZE (fun hc=>?_) (fun hc=>?_)<;>(try simp at hc)<;>(try omega)))
  rename_i b0 _ _ q1 _
  obtain ⟨v1,k1⟩:=q1
  refine Z1 (Lx:=[Pt b (.cells (tcf v1).toArray 65)]) (r:=Row 65 5 (some ⟨b,0,none⟩) 1 1 (tcf v1)) (fun h hh=>row_of rfl hh) ?_
  refine Xc (T:=65) (sz:=5) (f:=tcf) (o:=some ⟨b,0,none⟩) (cap:=1) (xs:=tcf v1) [v1] ?_ (by simp) rfl
  refine Zn (F1:=[TcS (some ⟨b,0,none⟩) 1 [v1],TcF c v1]) (f:=TcF (.mk wNot [c] eB eB 0) ⟨wNot,some ⟨b,0,none⟩,1,1,eB,eB,0⟩) (fun hp hF=>WH (vs:=[v1]) (hF _ (.head _)) (Y6.2 (hF _ (.tail _ (.head _))))) ?_
  exact ZP (⟨wNot,some ⟨b,0,none⟩,1,1,eB,eB,0⟩,k1) rfl trivial
 | false=>
  rw [hw,if_neg (by decide)] at n1
  rw [if_neg (by decide)]
  have hT:∀q:Kx l m,Enters 156∧Spec prog 156 #[.pointer (some ⟨bp,0,none⟩)] [TmS o cap l] [Pt bp (mqC m l.length q.1 o cap)] (TmP bp l (testM m) o cap):=mpTest_ok bp l o cap hl m
  unfold testM at hT
  obtain ⟨tk,en,op,e,cl⟩:=m
  dsimp only at ho1 ho2 hn hT ⊢
  by_cases he:e=0
  ·subst he
   cases tk with
   | nil=>
    have n2:=fun (q:Kx l ⟨[],en,op,0,cl⟩)=>YL bp l o cap en op 0 cl q.1 q.2
    rw [if_neg (by rintro ⟨_,h⟩;cases h)]
    generalize (if (0:Int)=0∧(⟨[],en,op,0,cl⟩:Mq).has (fun t=>decide (t.kd=1) && isTst t.tx)=true then tstM (⟨[],en,op,0,cl⟩:Mq).hd (⟨[],en,op,0,cl⟩:Mq).pass else (t0,(⟨[],en,op,0,cl⟩:Mq).fail 30))=y at *
    obtain ⟨c,m1⟩:=y
    refine ZR [_] func146 ntmps146 fun G w hp=>?_
    repeat' (first|refine ZF ?_|refine ZI ?_|refine ZG ?_|refine ZH ?_|refine ZL ?_|refine ZJ ?_|refine ZN ?_|refine ZK (fun b=>?_)|refine ZM (fun b=>?_)|refine ZC ?_|refine ZA ?_|refine ZO ?_|refine ZD (n1) (fun _ _=>?_)|refine l_call0 (n1) (fun _ _=>?_)|refine ZD (n2 _) (fun _ _=>?_)|refine l_call0 (n2 _) (fun _ _=>?_)|refine ZD (hT _) (fun _ _=>?_)|refine l_call0 (hT _) (fun _ _=>?_)|(refine ZB (fun hc=>?_) (fun hc=>?_)<;>(try simp at hc)<;>(try omega))|(refine ZE (fun hc=>?_) (fun hc=>?_)<;>(try simp at hc)<;>(try omega)))
    all_goals (rename_i q1 _;exact ZP q1 rfl trivial)
   | cons t ts=>
    have n2:=fun (q:Kx l ⟨t::ts,en,op,0,cl⟩)=>YN bp l o cap t ts en op 0 cl q.1 q.2
    have ht:=hl.1 t (List.mem_of_getElem? (Zz q.2).1)
    have h40:kdB t=40↔Mq.isS yOpn t=true:=kdB_4 ht (c:=40) (by simp)
    by_cases h4:Mq.isS yOpn t=true
    ·have q4:=h40.2 h4
     rw [if_pos ⟨rfl,h4⟩]
     by_cases h32:op=32
     ·subst h32
      rw [if_pos rfl]
      have n3:=fun (q:Kx l ⟨t::ts,en,32,0,cl⟩)=>Zm bp l o cap ⟨t::ts,en,32,0,cl⟩ q 9
      generalize kdB t=kb at *
      refine ZR [_] func146 ntmps146 fun G w hp=>?_
      repeat' (first|refine ZF ?_|refine ZI ?_|refine ZG ?_|refine ZH ?_|refine ZL ?_|refine ZJ ?_|refine ZN ?_|refine ZK (fun b=>?_)|refine ZM (fun b=>?_)|refine ZC ?_|refine ZA ?_|refine ZO ?_|refine ZD (n1) (fun _ _=>?_)|refine l_call0 (n1) (fun _ _=>?_)|refine ZD (n2 _) (fun _ _=>?_)|refine l_call0 (n2 _) (fun _ _=>?_)|refine ZD (n3 _) (fun _ _=>?_)|refine l_call0 (n3 _) (fun _ _=>?_)|(refine ZB (fun hc=>?_) (fun hc=>?_)<;>(try simp at hc)<;>(try omega))|(refine ZE (fun hc=>?_) (fun hc=>?_)<;>(try simp at hc)<;>(try omega)))
      rename_i q1 _
      refine Zn (F1:=[]) (f:=TcF t0 ⟨eB,none,0,0,eB,eB,0⟩) (fun hp _=>YI eB eB eB 0) ?_
      exact ZP (⟨eB,none,0,0,eB,eB,0⟩,q1) rfl trivial
     ·rw [if_neg h32]
      have n3:=fun (q:Kx l ⟨t::ts,en,op,0,cl⟩)=>ihc ⟨ts,en,op+1,0,cl⟩ (by show 0≤op+1;omega) (by show op+1≤32;omega) (by show 4 * ts.length+3≤n;simp only [List.length_cons] at hn;omega) ⟨q.1+1,(Zz q.2).2.2⟩
      have hps:({(⟨t::ts,en,op,0,cl⟩:Mq).pass with op:=op+1}:Mq)=⟨ts,en,op+1,0,cl⟩:=rfl
      rw [hps]
      have lo:=(LoM.all n).2.2.2.1 ⟨ts,en,op+1,0,cl⟩
      generalize condM n ⟨ts,en,op+1,0,cl⟩=y at *
      obtain ⟨c,m1⟩:=y
      dsimp only at n3 lo ⊢
      have n4:=fun (q:Kx l m1)=>YU bp l o cap hl m1 q 41 (Mq.isS yCls) (fun t ht=>kdB_4 ht (c:=41) (by simp)) (by decide)
      have lo2:=lo.trans (LoM.take m1 (Mq.isS yCls))
      generalize m1.take (Mq.isS yCls)=y at *
      obtain ⟨tx,m2⟩:=y
      dsimp only at n4 lo2 ⊢
      obtain ⟨tk2,en2,op2,e2,cl2⟩:=m2
      have lo3:op2=op+1:=lo2.2
      have w1:=wrapi (z:=op+1) (by omega) (by omega)
      have w2:=wrapi (z:=op2 - 1) (by omega) (by omega)
      have w3:∀q:Kx l ⟨t::ts,en,op,0,cl⟩,IntKind.i64.wrap ((q.1:Int)+1)=(q.1:Int)+1:=fun q=>wrapi (by omega) (by have:=(Zz q.2).2.1;omega)
      generalize kdB t=kb at *
      refine ZR [_] func146 ntmps146 fun G w hp=>?_
      repeat' (first|refine ZF ?_|refine ZI ?_|refine ZG ?_|refine ZH ?_|refine ZL ?_|refine ZJ ?_|refine ZN ?_|refine ZK (fun b=>?_)|refine ZM (fun b=>?_)|refine ZC ?_|refine ZA ?_|refine ZO ?_|refine ZD (n1) (fun _ _=>?_)|refine l_call0 (n1) (fun _ _=>?_)|refine ZD (n2 _) (fun _ _=>?_)|refine l_call0 (n2 _) (fun _ _=>?_)|refine ZD (n3 _) (fun _ _=>?_)|refine l_call0 (n3 _) (fun _ _=>?_)|refine ZD (n4 _) (fun _ _=>?_)|refine l_call0 (n4 _) (fun _ _=>?_)|rw [w1]|rw [w2]|rw [w3]|(refine ZB (fun hc=>?_) (fun hc=>?_)<;>(try simp at hc)<;>(try omega))|(refine ZE (fun hc=>?_) (fun hc=>?_)<;>(try simp at hc)<;>(try omega)))
      rename_i q1 _ q2 _
      exact ZP (q1.1,q2) rfl trivial
    ·have q4:¬kdB t=40:=fun h=>h4 (h40.1 h)
     rw [if_neg (by rintro ⟨_,h⟩;exact h4 h)]
     generalize (if (0:Int)=0∧(⟨t::ts,en,op,0,cl⟩:Mq).has (fun t=>decide (t.kd=1) && isTst t.tx)=true then tstM (⟨t::ts,en,op,0,cl⟩:Mq).hd (⟨t::ts,en,op,0,cl⟩:Mq).pass else (t0,(⟨t::ts,en,op,0,cl⟩:Mq).fail 30))=y at *
     obtain ⟨c,m1⟩:=y
     generalize kdB t=kb at *
     refine ZR [_] func146 ntmps146 fun G w hp=>?_
     repeat' (first|refine ZF ?_|refine ZI ?_|refine ZG ?_|refine ZH ?_|refine ZL ?_|refine ZJ ?_|refine ZN ?_|refine ZK (fun b=>?_)|refine ZM (fun b=>?_)|refine ZC ?_|refine ZA ?_|refine ZO ?_|refine ZD (n1) (fun _ _=>?_)|refine l_call0 (n1) (fun _ _=>?_)|refine ZD (n2 _) (fun _ _=>?_)|refine l_call0 (n2 _) (fun _ _=>?_)|refine ZD (hT _) (fun _ _=>?_)|refine l_call0 (hT _) (fun _ _=>?_)|(refine ZB (fun hc=>?_) (fun hc=>?_)<;>(try simp at hc)<;>(try omega))|(refine ZE (fun hc=>?_) (fun hc=>?_)<;>(try simp at hc)<;>(try omega)))
     all_goals (rename_i q1 _;exact ZP q1 rfl trivial)
  ·rw [if_neg (by rintro ⟨h,_⟩;exact he h)]
   rw [if_neg (by rintro ⟨h,_⟩;exact he h)] at hT ⊢
   generalize (⟨tk,en,op,e,cl⟩:Mq).fail 30=m1 at *
   refine ZR [_] func146 ntmps146 fun G w hp=>?_
   repeat' (first|refine ZF ?_|refine ZI ?_|refine ZG ?_|refine ZH ?_|refine ZL ?_|refine ZJ ?_|refine ZN ?_|refine ZK (fun b=>?_)|refine ZM (fun b=>?_)|refine ZC ?_|refine ZA ?_|refine ZO ?_|refine ZD (n1) (fun _ _=>?_)|refine l_call0 (n1) (fun _ _=>?_)|refine ZD (hT _) (fun _ _=>?_)|refine l_call0 (hT _) (fun _ _=>?_)|(refine ZB (fun hc=>?_) (fun hc=>?_)<;>(try simp at hc)<;>(try omega))|(refine ZE (fun hc=>?_) (fun hc=>?_)<;>(try simp at hc)<;>(try omega)))
   all_goals (rename_i q1 _;exact ZP q1 rfl trivial)
theorem mpAll (bp:Nat) (l:List Tk) (o:Option Addr) (cap:Nat) (hl:LOK l):∀n:Nat,
  (∀k,k≤n→∀m:Mq,0≤m.op→m.op≤32→4 * m.tk.length+1≤k→SpM 146 bp l o cap m (factorM k m))∧
  (∀k,k≤n→∀m:Mq,0≤m.op→m.op≤32→4 * m.tk.length+2≤k→SpM 114 bp l o cap m (termM k m))∧
  (∀k,k≤n→∀m:Mq,0≤m.op→m.op≤32→4 * m.tk.length+3≤k→SpM 77 bp l o cap m (condM k m))
 | 0=>⟨fun k hk m _ _ h=>absurd h (by omega),fun k hk m _ _ h=>absurd h (by omega),fun k hk m _ _ h=>absurd h (by omega)⟩
 | n+1=>by
  obtain ⟨h1,h2,h3⟩:=mpAll bp l o cap hl n
  refine ⟨fun k hk m o1 o2 hh=>?_,fun k hk m o1 o2 hh=>?_,fun k hk m o1 o2 hh=>?_⟩
  ·by_cases hkn:k≤n
   ·exact h1 k hkn m o1 o2 hh
   ·obtain rfl:k=n+1:=by omega
    exact mpFactor_step bp l o cap hl n (h1 n (Nat.le_refl _)) (h3 n (Nat.le_refl _)) m o1 o2 hh
  ·by_cases hkn:k≤n
   ·exact h2 k hkn m o1 o2 hh
   ·obtain rfl:k=n+1:=by omega
    exact mpTerm_step bp l o cap hl n h1 m o1 o2 hh
  ·by_cases hkn:k≤n
   ·exact h3 k hkn m o1 o2 hh
   ·obtain rfl:k=n+1:=by omega
    exact mpCond_step bp l o cap hl n h2 m o1 o2 hh
theorem mpCond_ok (bp:Nat) (l:List Tk) (o:Option Addr) (cap:Nat) (hl:LOK l) (m:Mq) (h1:0≤m.op) (h2:m.op≤32):SpM 77 bp l o cap m (condM (fuM m) m):=
 (mpAll bp l o cap hl (fuM m)).2.2 _ (Nat.le_refl _) m h1 h2 (by unfold fuM;omega)
structure LC where
 p:Option Addr
 k:Int
 t:ByteArray
abbrev lnf (x:LC):List Value:=[.pointer x.p,.int .i64 x.k,.string x.t]
abbrev lnv (x:LC):Value:=.agg #[.pointer x.p,.int .i64 x.k,.string x.t]
def LnP (h:H):Option Tr5→Option Addr→Prop
 | none,p=>p=none
 | some t,p=>∃b tc,p=some ⟨b,0,none⟩∧h b=some (.cells (tcf tc).toArray 65)∧TcP h t tc
theorem lnP_mono {h k:H} (s:Sub h k):∀(t:Option Tr5) (x:Option Addr),LnP h t x→LnP k t x
 | none,_,hh=>hh
 | some t,_,⟨b,tc,h1,h2,h3⟩=>⟨b,tc,h1,s _ _ h2,tcP_mono s t tc h3⟩
def LnF (t:Option Tr5) (x:Option Addr):Pf:=⟨fun h=>LnP h t x,fun _ _ s hh=>lnP_mono s t x hh⟩
abbrev LrP (bp:Nat) (l:List Tk) (y:RuM×Mq) (o:Option Addr) (cap:Nat):Post:=⟨Option Addr×Kx l y.2,fun q=>lnv ⟨q.1,y.1.a.k,y.1.a.t⟩,fun _=>True,fun q=>[LnF y.1.c q.1],fun q=>[Pt bp (mqC y.2 l.length q.2.1 o cap)]⟩
theorem tpl_tm0 (s:ByteArray):(tplF s).2=tmF s.data.toList 0 0:=(tpl_tm s ⟨0,eB,0,0,⟨0,eB,eB,0⟩,0,⟨0,eB,eB,0⟩,0⟩).1
theorem act_ix:∀i,i<5→idx (wActs.getD i eB) wActs=i:=by decide
set_option maxHeartbeats 8000000 in
theorem mpRuleN_ok (bp:Nat) (l:List Tk) (o:Option Addr) (cap:Nat) (hl:LOK l) (m1:Mq) (q:Kx l m1) (hif:m1.word wIf=false):Enters 51∧Spec prog 51 #[.pointer (some ⟨bp,0,none⟩)] [TmS o cap l] [Pt bp (mqC m1 l.length q.1 o cap)] (LrP bp l (⟨none,(actM m1).1⟩,(actM m1).2) o cap):=by
 have n0:=YS bp l o cap hl m1 q wIf
 rw [hif,if_neg (by decide)] at n0
 refine ZR [_] func51 ntmps51 fun G w hp=>?_
 repeat' (first|refine ZF ?_|refine ZI ?_|refine ZG ?_|refine ZH ?_|refine ZL ?_|refine ZJ ?_|refine ZN ?_|refine ZK (fun b=>?_)|refine ZM (fun b=>?_)|refine ZC ?_|refine ZA ?_|refine Zb ?_|refine Zc ?_|refine Zq ?_|refine Zd ?_|refine r_ldN ?_|refine Zr (fun b=>?_)|refine Zo (fun b=>?_)|refine Zp ?_|refine Za ?_|refine ZD (n0) (fun _ _=>?_)|refine l_call0 (n0) (fun _ _=>?_)|refine ZQ (n0) (fun _ _=>?_)|(refine ZB (fun hc=>?_) (fun hc=>?_)<;>(try simp at hc)<;>(try omega))|(refine ZU (fun hc=>?_) (fun hc=>?_)<;>(try simp at hc)<;>(try omega))|refine ZT 17 [] [(0,0),(1,0),(2,0),(3,0),(4,0),(5,0),(6,0),(7,0),(8,0),(9,0)] [] ?_|(refine ZE (fun hc=>?_) (fun hc=>?_)<;>(try simp at hc)<;>(try omega)))
 rename_i b0 bl q1 _
 refine Zn (F1:=[]) (f:=LnF none none) (fun hp _=>rfl) ?_
 refine Yo (b:=b) (o:=.cells (wActs.map Value.string).toArray 9) ?_
 refine Zn (F1:=[Blk b (.cells (wActs.map Value.string).toArray 9)]) (f:=Sl 9 skl (some ⟨b,0,none⟩) 5 wActs) (fun hp hF=>X8 (hF _ (.head _)) rfl (by decide)) ?_
 refine YK (X:={p:Nat×Kx l m1 // p.1≤5∧∀j,j<p.1→m1.word (wActs.getD j eB)=false}) (fun p=>[(0,.pointer (some ⟨bp,0,none⟩)),(2,.pointer (some ⟨b0,0,none⟩)),(3,.pointer (some ⟨bl,0,none⟩)),(5,.slice (some ⟨b,0,none⟩) 5 5),(6,.int .i64 (p.1.1:Int))]) (fun _=>[TmS o cap l,Sl 9 skl (some ⟨b,0,none⟩) 5 wActs,LnF none none]) (fun p=>[Pt bp (mqC m1 l.length p.1.2.1 o cap),Pt b0 (.cells #[.pointer none,.int .i64 0,.string ⟨#[]⟩] 61),Pt bl (.cells #[.pointer none,.int .i64 0,.string ⟨#[]⟩] 61)]) (fun p=>5 - p.1.1) ⟨(0,q1),Nat.zero_le _,fun j hj=>absurd hj (Nat.not_lt_zero _)⟩ ⟨rfl,rfl,rfl,rfl,rfl,trivial⟩ ?_
 rintro ⟨⟨i,q⟩,hi,hno⟩
 dsimp only at hi hno ⊢
 by_cases h5:i<5
 ·have hw:=List.getElem?_eq_getElem (l:=wActs) h5
  have hix:=act_ix i h5
  have hwd:wActs.getD i eB=wActs[i]:=by simp [List.getD,hw]
  have hwm:wActs[i] ∈ wActs:=List.getElem_mem h5
  rw [hwd] at hix
  generalize wActs[i]=wd at *
  have n1:=YS bp l o cap hl m1 q wd
  have w1:=wrapi (z:=(i:Int)+1) (by omega) (by omega)
  cases hwo:m1.word wd with
  | false=>
   rw [hwo,if_neg (by decide)] at n1
   repeat' (first|refine ZX ?_|refine ZW (es:=wActs) (f:=skl) i wd hw (fun b off=>?_)|refine ZF ?_|refine ZI ?_|refine ZG ?_|refine ZH ?_|refine ZL ?_|refine ZJ ?_|refine ZN ?_|refine ZK (fun b=>?_)|refine ZM (fun b=>?_)|refine ZC ?_|refine ZA ?_|refine Zb ?_|refine Zc ?_|refine Zq ?_|refine Zd ?_|refine r_ldN ?_|refine Zr (fun b=>?_)|refine Zo (fun b=>?_)|refine Zp ?_|refine Za ?_|refine ZD (n1) (fun _ _=>?_)|refine l_call0 (n1) (fun _ _=>?_)|refine ZQ (n1) (fun _ _=>?_)|rw [w1]|(refine ZB (fun hc=>?_) (fun hc=>?_)<;>(try simp at hc)<;>(try omega))|(refine ZU (fun hc=>?_) (fun hc=>?_)<;>(try simp at hc)<;>(try omega))|refine ZT 17 [] [(0,0),(1,0),(2,0),(3,0),(4,0),(5,0),(6,0),(7,0),(8,0),(9,0)] [] ?_|(refine ZE (fun hc=>?_) (fun hc=>?_)<;>(try simp at hc)<;>(try omega)))
   rename_i q2 _
   exact ZV ⟨(i+1,q2),by show i+1≤5;omega,fun j hj=>by rcases Nat.lt_succ_iff_lt_or_eq.1 hj with h|h;exact hno j h;rw [h,hwd,hwo]⟩ (by show 5 - (i+1)<5 - i;omega) ⟨rfl,rfl,rfl,rfl,rfl,trivial⟩
  | true=>
   rw [hwo,if_pos rfl] at n1
   have hA:actM m1=(let y:ByteArray×Mq:=if i=1 then (let m3:=if m1.pass.has (fun t=>decide (t.kd=3) && (tplF t.tx).2.isSome) then m1.pass.fail 3 else m1.pass;m3.take (fun t=>decide (t.kd=3))) else (eB,m1.pass)
    (⟨(i:Int)+1,y.1⟩,if y.2.tk≠[] then y.2.fail 30 else y.2)):=by
    unfold actM
    rw [if_pos ⟨(Y1 hwo).1,VS hwo (fun x=>decide (idx x wActs<5)) (by rw [hix];simpa using h5)⟩,(Y1 hwo).2.1,hix]
   have hsub:∀t ∈ m1.pass.tk,t ∈ l:=fun t ht=>List.mem_of_mem_drop (q.2 ▸ List.mem_of_mem_tail ht)
   have hpe:m1.pass.e=0:=(Y1 hwo).1
   rw [hA]
   generalize m1.pass=m2 at *
   by_cases c1:i=1
   ·rw [if_pos c1]
    obtain ⟨tk,en,op,e,cl⟩:=m2
    have hpe:e=0:=hpe
    subst hpe
    have n3:=fun (q:Kx l ⟨tk,en,op,0,cl⟩)=>YU bp l o cap hl ⟨tk,en,op,0,cl⟩ q 115 (fun t=>decide (t.kd=3)) (fun t ht=>by rw [kdB_3 ht];simp) (by decide)
    have n4:=fun (q:Kx l ⟨tk,en,op,0,cl⟩)=>Zm bp l o cap ⟨tk,en,op,0,cl⟩ q 3
    have n5:=fun (q:Kx l ((⟨tk,en,op,0,cl⟩:Mq).fail 3))=>YU bp l o cap hl ((⟨tk,en,op,0,cl⟩:Mq).fail 3) q 115 (fun t=>decide (t.kd=3)) (fun t ht=>by rw [kdB_3 ht];simp) (by decide)
    dsimp only
    cases tk with
    | nil=>
     have n2:=fun (q:Kx l ⟨[],en,op,0,cl⟩)=>YL bp l o cap en op 0 cl q.1 q.2
     rw [if_neg (show ¬(⟨[],en,op,0,cl⟩:Mq).has (fun t=>decide (t.kd=3) && (tplF t.tx).2.isSome)=true from fun h=>by cases h)]
     generalize (⟨[],en,op,0,cl⟩:Mq).take (fun t=>decide (t.kd=3))=y at *
     obtain ⟨tx,m5⟩:=y
     dsimp only at n3 ⊢
     have n6:=fun (q:Kx l m5)=>Zm bp l o cap m5 q 30
     by_cases h5k:m5.tk=[]
     ·rw [if_neg (fun h=>h h5k)]
      have hlt:∀q:Kx l m5,¬q.1<l.length:=fun q=>YM (q.2.trans h5k)
      repeat' (first|refine ZX ?_|refine ZW (es:=wActs) (f:=skl) i wd hw (fun b off=>?_)|refine ZF ?_|refine ZI ?_|refine ZG ?_|refine ZH ?_|refine ZL ?_|refine ZJ ?_|refine ZN ?_|refine ZK (fun b=>?_)|refine ZM (fun b=>?_)|refine ZC ?_|refine ZA ?_|refine Zb ?_|refine Zc ?_|refine Zq ?_|refine Zd ?_|refine r_ldN ?_|refine Zr (fun b=>?_)|refine Zo (fun b=>?_)|refine Zp ?_|refine Za ?_|refine ZD (n1) (fun _ _=>?_)|refine l_call0 (n1) (fun _ _=>?_)|refine ZQ (n1) (fun _ _=>?_)|refine ZD (n2 _) (fun _ _=>?_)|refine l_call0 (n2 _) (fun _ _=>?_)|refine ZQ (n2 _) (fun _ _=>?_)|refine ZD (n3 _) (fun _ _=>?_)|refine l_call0 (n3 _) (fun _ _=>?_)|refine ZQ (n3 _) (fun _ _=>?_)|rw [w1]|(refine ZB (fun hc=>?_) (fun hc=>?_)<;>(try simp at hc)<;>(try omega))|(refine ZU (fun hc=>?_) (fun hc=>?_)<;>(try simp at hc)<;>(try omega))|refine ZT 17 [] [(0,0),(1,0),(2,0),(3,0),(4,0),(5,0),(6,0),(7,0),(8,0),(9,0)] [] ?_|(refine ZE (fun hc=>?_) (fun hc=>?_)<;>(try simp at hc)<;>(try omega)))
      all_goals first|exact Zv (Zu (Zi (none,‹Kx l _›) rfl trivial))|exact absurd hc (hlt _)|exact absurd (hlt _) (Nat.not_lt.2 hc)
     ·rw [if_pos h5k]
      have hlt:∀q:Kx l m5,q.1<l.length:=fun q=>by obtain ⟨t,ts,hh⟩:=List.exists_cons_of_ne_nil h5k;exact (Zz (q.2.trans hh)).2.1
      repeat' (first|refine ZX ?_|refine ZW (es:=wActs) (f:=skl) i wd hw (fun b off=>?_)|refine ZF ?_|refine ZI ?_|refine ZG ?_|refine ZH ?_|refine ZL ?_|refine ZJ ?_|refine ZN ?_|refine ZK (fun b=>?_)|refine ZM (fun b=>?_)|refine ZC ?_|refine ZA ?_|refine Zb ?_|refine Zc ?_|refine Zq ?_|refine Zd ?_|refine r_ldN ?_|refine Zr (fun b=>?_)|refine Zo (fun b=>?_)|refine Zp ?_|refine Za ?_|refine ZD (n1) (fun _ _=>?_)|refine l_call0 (n1) (fun _ _=>?_)|refine ZQ (n1) (fun _ _=>?_)|refine ZD (n2 _) (fun _ _=>?_)|refine l_call0 (n2 _) (fun _ _=>?_)|refine ZQ (n2 _) (fun _ _=>?_)|refine ZD (n3 _) (fun _ _=>?_)|refine l_call0 (n3 _) (fun _ _=>?_)|refine ZQ (n3 _) (fun _ _=>?_)|refine ZD (n6 _) (fun _ _=>?_)|refine l_call0 (n6 _) (fun _ _=>?_)|refine ZQ (n6 _) (fun _ _=>?_)|rw [w1]|(refine ZB (fun hc=>?_) (fun hc=>?_)<;>(try simp at hc)<;>(try omega))|(refine ZU (fun hc=>?_) (fun hc=>?_)<;>(try simp at hc)<;>(try omega))|refine ZT 17 [] [(0,0),(1,0),(2,0),(3,0),(4,0),(5,0),(6,0),(7,0),(8,0),(9,0)] [] ?_|(refine ZE (fun hc=>?_) (fun hc=>?_)<;>(try simp at hc)<;>(try omega)))
      all_goals first|exact Zv (Zu (Zi (none,‹Kx l _›) rfl trivial))|exact absurd hc (hlt _)|exact absurd (hlt _) (Nat.not_lt.2 hc)
    | cons t ts=>
     have n2:=fun (q:Kx l ⟨t::ts,en,op,0,cl⟩)=>YN bp l o cap t ts en op 0 cl q.1 q.2
     have ht:=hl.1 t (hsub t (.head _))
     have k3:=kdB_3 ht
     have n7:=Vi t.tx (by have:=ht.2;omega)
     rw [←tpl_tm0] at n7
     have hhas:((⟨t::ts,en,op,0,cl⟩:Mq).has (fun t=>decide (t.kd=3) && (tplF t.tx).2.isSome))=(decide (t.kd=3) && (tplF t.tx).2.isSome):=rfl
     rw [hhas]
     by_cases c5:t.kd=3
     ·have q5:=k3.2 c5
      rw [c5]
      cases hz:(tplF t.tx).2 with
      | none=>
       rw [hz] at n7
       have n7:Enters 16∧Spec prog 16 #[.string t.tx] [] [] (RetV (.int .i64 (-1))):=n7
       rw [if_neg (by simp)]
       generalize kdB t=kb at *
       generalize t.tx=tx0 at *
       generalize (⟨t::ts,en,op,0,cl⟩:Mq).take (fun t=>decide (t.kd=3))=y at *
       obtain ⟨tx,m5⟩:=y
       dsimp only at n3 ⊢
       have n6:=fun (q:Kx l m5)=>Zm bp l o cap m5 q 30
       by_cases h5k:m5.tk=[]
       ·rw [if_neg (fun h=>h h5k)]
        have hlt:∀q:Kx l m5,¬q.1<l.length:=fun q=>YM (q.2.trans h5k)
        repeat' (first|refine ZX ?_|refine ZW (es:=wActs) (f:=skl) i wd hw (fun b off=>?_)|refine ZF ?_|refine ZI ?_|refine ZG ?_|refine ZH ?_|refine ZL ?_|refine ZJ ?_|refine ZN ?_|refine ZK (fun b=>?_)|refine ZM (fun b=>?_)|refine ZC ?_|refine ZA ?_|refine Zb ?_|refine Zc ?_|refine Zq ?_|refine Zd ?_|refine r_ldN ?_|refine Zr (fun b=>?_)|refine Zo (fun b=>?_)|refine Zp ?_|refine Za ?_|refine ZD (n1) (fun _ _=>?_)|refine l_call0 (n1) (fun _ _=>?_)|refine ZQ (n1) (fun _ _=>?_)|refine ZD (n2 _) (fun _ _=>?_)|refine l_call0 (n2 _) (fun _ _=>?_)|refine ZQ (n2 _) (fun _ _=>?_)|refine ZD (n3 _) (fun _ _=>?_)|refine l_call0 (n3 _) (fun _ _=>?_)|refine ZQ (n3 _) (fun _ _=>?_)|refine ZD (n7) (fun _ _=>?_)|refine l_call0 (n7) (fun _ _=>?_)|refine ZQ (n7) (fun _ _=>?_)|rw [w1]|(refine ZB (fun hc=>?_) (fun hc=>?_)<;>(try simp at hc)<;>(try omega))|(refine ZU (fun hc=>?_) (fun hc=>?_)<;>(try simp at hc)<;>(try omega))|refine ZT 17 [] [(0,0),(1,0),(2,0),(3,0),(4,0),(5,0),(6,0),(7,0),(8,0),(9,0)] [] ?_|(refine ZE (fun hc=>?_) (fun hc=>?_)<;>(try simp at hc)<;>(try omega)))
        all_goals first|exact Zv (Zu (Zi (none,‹Kx l _›) rfl trivial))|exact absurd hc (hlt _)|exact absurd (hlt _) (Nat.not_lt.2 hc)
       ·rw [if_pos h5k]
        have hlt:∀q:Kx l m5,q.1<l.length:=fun q=>by obtain ⟨t,ts,hh⟩:=List.exists_cons_of_ne_nil h5k;exact (Zz (q.2.trans hh)).2.1
        repeat' (first|refine ZX ?_|refine ZW (es:=wActs) (f:=skl) i wd hw (fun b off=>?_)|refine ZF ?_|refine ZI ?_|refine ZG ?_|refine ZH ?_|refine ZL ?_|refine ZJ ?_|refine ZN ?_|refine ZK (fun b=>?_)|refine ZM (fun b=>?_)|refine ZC ?_|refine ZA ?_|refine Zb ?_|refine Zc ?_|refine Zq ?_|refine Zd ?_|refine r_ldN ?_|refine Zr (fun b=>?_)|refine Zo (fun b=>?_)|refine Zp ?_|refine Za ?_|refine ZD (n1) (fun _ _=>?_)|refine l_call0 (n1) (fun _ _=>?_)|refine ZQ (n1) (fun _ _=>?_)|refine ZD (n2 _) (fun _ _=>?_)|refine l_call0 (n2 _) (fun _ _=>?_)|refine ZQ (n2 _) (fun _ _=>?_)|refine ZD (n3 _) (fun _ _=>?_)|refine l_call0 (n3 _) (fun _ _=>?_)|refine ZQ (n3 _) (fun _ _=>?_)|refine ZD (n6 _) (fun _ _=>?_)|refine l_call0 (n6 _) (fun _ _=>?_)|refine ZQ (n6 _) (fun _ _=>?_)|refine ZD (n7) (fun _ _=>?_)|refine l_call0 (n7) (fun _ _=>?_)|refine ZQ (n7) (fun _ _=>?_)|rw [w1]|(refine ZB (fun hc=>?_) (fun hc=>?_)<;>(try simp at hc)<;>(try omega))|(refine ZU (fun hc=>?_) (fun hc=>?_)<;>(try simp at hc)<;>(try omega))|refine ZT 17 [] [(0,0),(1,0),(2,0),(3,0),(4,0),(5,0),(6,0),(7,0),(8,0),(9,0)] [] ?_|(refine ZE (fun hc=>?_) (fun hc=>?_)<;>(try simp at hc)<;>(try omega)))
        all_goals first|exact Zv (Zu (Zi (none,‹Kx l _›) rfl trivial))|exact absurd hc (hlt _)|exact absurd (hlt _) (Nat.not_lt.2 hc)
      | some z=>
       rw [hz] at n7
       have n7:Enters 16∧Spec prog 16 #[.string t.tx] [] [] (RetV (.int .i64 (z:Int))):=n7
       rw [if_pos (by simp)]
       generalize kdB t=kb at *
       generalize t.tx=tx0 at *
       generalize (⟨t::ts,en,op,0,cl⟩:Mq).fail 3=m3 at *
       generalize m3.take (fun t=>decide (t.kd=3))=y at *
       obtain ⟨tx,m5⟩:=y
       dsimp only at n5 ⊢
       have n6:=fun (q:Kx l m5)=>Zm bp l o cap m5 q 30
       by_cases h5k:m5.tk=[]
       ·rw [if_neg (fun h=>h h5k)]
        have hlt:∀q:Kx l m5,¬q.1<l.length:=fun q=>YM (q.2.trans h5k)
        repeat' (first|refine ZX ?_|refine ZW (es:=wActs) (f:=skl) i wd hw (fun b off=>?_)|refine ZF ?_|refine ZI ?_|refine ZG ?_|refine ZH ?_|refine ZL ?_|refine ZJ ?_|refine ZN ?_|refine ZK (fun b=>?_)|refine ZM (fun b=>?_)|refine ZC ?_|refine ZA ?_|refine Zb ?_|refine Zc ?_|refine Zq ?_|refine Zd ?_|refine r_ldN ?_|refine Zr (fun b=>?_)|refine Zo (fun b=>?_)|refine Zp ?_|refine Za ?_|refine ZD (n1) (fun _ _=>?_)|refine l_call0 (n1) (fun _ _=>?_)|refine ZQ (n1) (fun _ _=>?_)|refine ZD (n2 _) (fun _ _=>?_)|refine l_call0 (n2 _) (fun _ _=>?_)|refine ZQ (n2 _) (fun _ _=>?_)|refine ZD (n4 _) (fun _ _=>?_)|refine l_call0 (n4 _) (fun _ _=>?_)|refine ZQ (n4 _) (fun _ _=>?_)|refine ZD (n5 _) (fun _ _=>?_)|refine l_call0 (n5 _) (fun _ _=>?_)|refine ZQ (n5 _) (fun _ _=>?_)|refine ZD (n7) (fun _ _=>?_)|refine l_call0 (n7) (fun _ _=>?_)|refine ZQ (n7) (fun _ _=>?_)|rw [w1]|(refine ZB (fun hc=>?_) (fun hc=>?_)<;>(try simp at hc)<;>(try omega))|(refine ZU (fun hc=>?_) (fun hc=>?_)<;>(try simp at hc)<;>(try omega))|refine ZT 17 [] [(0,0),(1,0),(2,0),(3,0),(4,0),(5,0),(6,0),(7,0),(8,0),(9,0)] [] ?_|(refine ZE (fun hc=>?_) (fun hc=>?_)<;>(try simp at hc)<;>(try omega)))
        all_goals first|exact Zv (Zu (Zi (none,‹Kx l _›) rfl trivial))|exact absurd hc (hlt _)|exact absurd (hlt _) (Nat.not_lt.2 hc)
       ·rw [if_pos h5k]
        have hlt:∀q:Kx l m5,q.1<l.length:=fun q=>by obtain ⟨t,ts,hh⟩:=List.exists_cons_of_ne_nil h5k;exact (Zz (q.2.trans hh)).2.1
        repeat' (first|refine ZX ?_|refine ZW (es:=wActs) (f:=skl) i wd hw (fun b off=>?_)|refine ZF ?_|refine ZI ?_|refine ZG ?_|refine ZH ?_|refine ZL ?_|refine ZJ ?_|refine ZN ?_|refine ZK (fun b=>?_)|refine ZM (fun b=>?_)|refine ZC ?_|refine ZA ?_|refine Zb ?_|refine Zc ?_|refine Zq ?_|refine Zd ?_|refine r_ldN ?_|refine Zr (fun b=>?_)|refine Zo (fun b=>?_)|refine Zp ?_|refine Za ?_|refine ZD (n1) (fun _ _=>?_)|refine l_call0 (n1) (fun _ _=>?_)|refine ZQ (n1) (fun _ _=>?_)|refine ZD (n2 _) (fun _ _=>?_)|refine l_call0 (n2 _) (fun _ _=>?_)|refine ZQ (n2 _) (fun _ _=>?_)|refine ZD (n4 _) (fun _ _=>?_)|refine l_call0 (n4 _) (fun _ _=>?_)|refine ZQ (n4 _) (fun _ _=>?_)|refine ZD (n5 _) (fun _ _=>?_)|refine l_call0 (n5 _) (fun _ _=>?_)|refine ZQ (n5 _) (fun _ _=>?_)|refine ZD (n6 _) (fun _ _=>?_)|refine l_call0 (n6 _) (fun _ _=>?_)|refine ZQ (n6 _) (fun _ _=>?_)|refine ZD (n7) (fun _ _=>?_)|refine l_call0 (n7) (fun _ _=>?_)|refine ZQ (n7) (fun _ _=>?_)|rw [w1]|(refine ZB (fun hc=>?_) (fun hc=>?_)<;>(try simp at hc)<;>(try omega))|(refine ZU (fun hc=>?_) (fun hc=>?_)<;>(try simp at hc)<;>(try omega))|refine ZT 17 [] [(0,0),(1,0),(2,0),(3,0),(4,0),(5,0),(6,0),(7,0),(8,0),(9,0)] [] ?_|(refine ZE (fun hc=>?_) (fun hc=>?_)<;>(try simp at hc)<;>(try omega)))
        all_goals first|exact Zv (Zu (Zi (none,‹Kx l _›) rfl trivial))|exact absurd hc (hlt _)|exact absurd (hlt _) (Nat.not_lt.2 hc)
     ·have q5:¬kdB t=115:=fun h=>c5 (k3.1 h)
      rw [if_neg (by simp [c5])]
      generalize kdB t=kb at *
      generalize t.tx=tx0 at *
      generalize (⟨t::ts,en,op,0,cl⟩:Mq).take (fun t=>decide (t.kd=3))=y at *
      obtain ⟨tx,m5⟩:=y
      dsimp only at n3 ⊢
      have n6:=fun (q:Kx l m5)=>Zm bp l o cap m5 q 30
      by_cases h5k:m5.tk=[]
      ·rw [if_neg (fun h=>h h5k)]
       have hlt:∀q:Kx l m5,¬q.1<l.length:=fun q=>YM (q.2.trans h5k)
       repeat' (first|refine ZX ?_|refine ZW (es:=wActs) (f:=skl) i wd hw (fun b off=>?_)|refine ZF ?_|refine ZI ?_|refine ZG ?_|refine ZH ?_|refine ZL ?_|refine ZJ ?_|refine ZN ?_|refine ZK (fun b=>?_)|refine ZM (fun b=>?_)|refine ZC ?_|refine ZA ?_|refine Zb ?_|refine Zc ?_|refine Zq ?_|refine Zd ?_|refine r_ldN ?_|refine Zr (fun b=>?_)|refine Zo (fun b=>?_)|refine Zp ?_|refine Za ?_|refine ZD (n1) (fun _ _=>?_)|refine l_call0 (n1) (fun _ _=>?_)|refine ZQ (n1) (fun _ _=>?_)|refine ZD (n2 _) (fun _ _=>?_)|refine l_call0 (n2 _) (fun _ _=>?_)|refine ZQ (n2 _) (fun _ _=>?_)|refine ZD (n3 _) (fun _ _=>?_)|refine l_call0 (n3 _) (fun _ _=>?_)|refine ZQ (n3 _) (fun _ _=>?_)|rw [w1]|(refine ZB (fun hc=>?_) (fun hc=>?_)<;>(try simp at hc)<;>(try omega))|(refine ZU (fun hc=>?_) (fun hc=>?_)<;>(try simp at hc)<;>(try omega))|refine ZT 17 [] [(0,0),(1,0),(2,0),(3,0),(4,0),(5,0),(6,0),(7,0),(8,0),(9,0)] [] ?_|(refine ZE (fun hc=>?_) (fun hc=>?_)<;>(try simp at hc)<;>(try omega)))
       all_goals first|exact Zv (Zu (Zi (none,‹Kx l _›) rfl trivial))|exact absurd hc (hlt _)|exact absurd (hlt _) (Nat.not_lt.2 hc)
      ·rw [if_pos h5k]
       have hlt:∀q:Kx l m5,q.1<l.length:=fun q=>by obtain ⟨t,ts,hh⟩:=List.exists_cons_of_ne_nil h5k;exact (Zz (q.2.trans hh)).2.1
       repeat' (first|refine ZX ?_|refine ZW (es:=wActs) (f:=skl) i wd hw (fun b off=>?_)|refine ZF ?_|refine ZI ?_|refine ZG ?_|refine ZH ?_|refine ZL ?_|refine ZJ ?_|refine ZN ?_|refine ZK (fun b=>?_)|refine ZM (fun b=>?_)|refine ZC ?_|refine ZA ?_|refine Zb ?_|refine Zc ?_|refine Zq ?_|refine Zd ?_|refine r_ldN ?_|refine Zr (fun b=>?_)|refine Zo (fun b=>?_)|refine Zp ?_|refine Za ?_|refine ZD (n1) (fun _ _=>?_)|refine l_call0 (n1) (fun _ _=>?_)|refine ZQ (n1) (fun _ _=>?_)|refine ZD (n2 _) (fun _ _=>?_)|refine l_call0 (n2 _) (fun _ _=>?_)|refine ZQ (n2 _) (fun _ _=>?_)|refine ZD (n3 _) (fun _ _=>?_)|refine l_call0 (n3 _) (fun _ _=>?_)|refine ZQ (n3 _) (fun _ _=>?_)|refine ZD (n6 _) (fun _ _=>?_)|refine l_call0 (n6 _) (fun _ _=>?_)|refine ZQ (n6 _) (fun _ _=>?_)|rw [w1]|(refine ZB (fun hc=>?_) (fun hc=>?_)<;>(try simp at hc)<;>(try omega))|(refine ZU (fun hc=>?_) (fun hc=>?_)<;>(try simp at hc)<;>(try omega))|refine ZT 17 [] [(0,0),(1,0),(2,0),(3,0),(4,0),(5,0),(6,0),(7,0),(8,0),(9,0)] [] ?_|(refine ZE (fun hc=>?_) (fun hc=>?_)<;>(try simp at hc)<;>(try omega)))
       all_goals first|exact Zv (Zu (Zi (none,‹Kx l _›) rfl trivial))|exact absurd hc (hlt _)|exact absurd (hlt _) (Nat.not_lt.2 hc)
   ·rw [if_neg c1]
    dsimp only
    have n6:=fun (q:Kx l m2)=>Zm bp l o cap m2 q 30
    by_cases h5k:m2.tk=[]
    ·rw [if_neg (fun h=>h h5k)]
     have hlt:∀q:Kx l m2,¬q.1<l.length:=fun q=>YM (q.2.trans h5k)
     repeat' (first|refine ZX ?_|refine ZW (es:=wActs) (f:=skl) i wd hw (fun b off=>?_)|refine ZF ?_|refine ZI ?_|refine ZG ?_|refine ZH ?_|refine ZL ?_|refine ZJ ?_|refine ZN ?_|refine ZK (fun b=>?_)|refine ZM (fun b=>?_)|refine ZC ?_|refine ZA ?_|refine Zb ?_|refine Zc ?_|refine Zq ?_|refine Zd ?_|refine r_ldN ?_|refine Zr (fun b=>?_)|refine Zo (fun b=>?_)|refine Zp ?_|refine Za ?_|refine ZD (n1) (fun _ _=>?_)|refine l_call0 (n1) (fun _ _=>?_)|refine ZQ (n1) (fun _ _=>?_)|rw [w1]|(refine ZB (fun hc=>?_) (fun hc=>?_)<;>(try simp at hc)<;>(try omega))|(refine ZU (fun hc=>?_) (fun hc=>?_)<;>(try simp at hc)<;>(try omega))|refine ZT 17 [] [(0,0),(1,0),(2,0),(3,0),(4,0),(5,0),(6,0),(7,0),(8,0),(9,0)] [] ?_|(refine ZE (fun hc=>?_) (fun hc=>?_)<;>(try simp at hc)<;>(try omega)))
     all_goals first|exact Zv (Zu (Zi (none,‹Kx l _›) rfl trivial))|exact absurd hc (hlt _)|exact absurd (hlt _) (Nat.not_lt.2 hc)
    ·rw [if_pos h5k]
     have hlt:∀q:Kx l m2,q.1<l.length:=fun q=>by obtain ⟨t,ts,hh⟩:=List.exists_cons_of_ne_nil h5k;exact (Zz (q.2.trans hh)).2.1
     repeat' (first|refine ZX ?_|refine ZW (es:=wActs) (f:=skl) i wd hw (fun b off=>?_)|refine ZF ?_|refine ZI ?_|refine ZG ?_|refine ZH ?_|refine ZL ?_|refine ZJ ?_|refine ZN ?_|refine ZK (fun b=>?_)|refine ZM (fun b=>?_)|refine ZC ?_|refine ZA ?_|refine Zb ?_|refine Zc ?_|refine Zq ?_|refine Zd ?_|refine r_ldN ?_|refine Zr (fun b=>?_)|refine Zo (fun b=>?_)|refine Zp ?_|refine Za ?_|refine ZD (n1) (fun _ _=>?_)|refine l_call0 (n1) (fun _ _=>?_)|refine ZQ (n1) (fun _ _=>?_)|refine ZD (n6 _) (fun _ _=>?_)|refine l_call0 (n6 _) (fun _ _=>?_)|refine ZQ (n6 _) (fun _ _=>?_)|rw [w1]|(refine ZB (fun hc=>?_) (fun hc=>?_)<;>(try simp at hc)<;>(try omega))|(refine ZU (fun hc=>?_) (fun hc=>?_)<;>(try simp at hc)<;>(try omega))|refine ZT 17 [] [(0,0),(1,0),(2,0),(3,0),(4,0),(5,0),(6,0),(7,0),(8,0),(9,0)] [] ?_|(refine ZE (fun hc=>?_) (fun hc=>?_)<;>(try simp at hc)<;>(try omega)))
     all_goals first|exact Zv (Zu (Zi (none,‹Kx l _›) rfl trivial))|exact absurd hc (hlt _)|exact absurd (hlt _) (Nat.not_lt.2 hc)
 ·obtain rfl:i=5:=by omega
  have hno2:∀w ∈ wActs,m1.word w=false:=fun w hw=>by
   obtain ⟨j2,hj2,rfl⟩:=List.getElem_of_mem hw
   have:=hno j2 hj2
   rwa [show wActs.getD j2 eB=wActs[j2] by simp [List.getD,List.getElem?_eq_getElem hj2]] at this
  have hA:actM m1=(⟨0,eB⟩,m1.fail 30):=by
   unfold actM
   rw [if_neg]
   rintro ⟨h1,h2⟩
   rw [Wa h1 hno2 (fun x=>decide (idx x wActs<5)) (fun w hw=>Zg (l:=wActs).1 (show idx w wActs<wActs.length from of_decide_eq_true hw))] at h2
   cases h2
  rw [hA]
  have n1:=Zm bp l o cap m1 q 30
  repeat' (first|refine ZF ?_|refine ZI ?_|refine ZG ?_|refine ZH ?_|refine ZL ?_|refine ZJ ?_|refine ZN ?_|refine ZK (fun b=>?_)|refine ZM (fun b=>?_)|refine ZC ?_|refine ZA ?_|refine ZO ?_|refine Zb ?_|refine Zc ?_|refine Zq ?_|refine Zd ?_|refine r_ldN ?_|refine Zr (fun b=>?_)|refine Zo (fun b=>?_)|refine Zp ?_|refine Za ?_|refine ZD (n1) (fun _ _=>?_)|refine l_call0 (n1) (fun _ _=>?_)|refine ZQ (n1) (fun _ _=>?_)|(refine ZB (fun hc=>?_) (fun hc=>?_)<;>(try simp at hc)<;>(try omega))|(refine ZU (fun hc=>?_) (fun hc=>?_)<;>(try simp at hc)<;>(try omega))|refine ZT 17 [] [(0,0),(1,0),(2,0),(3,0),(4,0),(5,0),(6,0),(7,0),(8,0),(9,0)] [] ?_|(refine ZE (fun hc=>?_) (fun hc=>?_)<;>(try simp at hc)<;>(try omega)))
  rename_i q2 _
  exact ZP (none,q2) rfl trivial
set_option maxHeartbeats 8000000 in
theorem mpRuleC_ok (bp:Nat) (l:List Tk) (o:Option Addr) (cap:Nat) (hl:LOK l) (m:Mq) (q:Kx l m) (hif:m.word wIf=true) (h1:0≤m.op) (h2:m.op≤32) (m1:Mq) (hm1:((condM (fuM m.pass) m.pass).2.take (Mq.isS yCol)).2=m1):Enters 51∧Spec prog 51 #[.pointer (some ⟨bp,0,none⟩)] [TmS o cap l] [Pt bp (mqC m l.length q.1 o cap)] (LrP bp l (⟨some (condM (fuM m.pass) m.pass).1,(actM m1).1⟩,(actM m1).2) o cap):=by
 have n0:=YS bp l o cap hl m q wIf
 rw [hif,if_pos rfl] at n0
 have n1:=mpCond_ok bp l o cap hl m.pass h1 h2
 unfold SpM at n1
 generalize condM (fuM m.pass) m.pass=y at *
 obtain ⟨cn,m4⟩:=y
 dsimp only at n1 hm1 ⊢
 have n2:=fun (q:Kx l m4)=>YU bp l o cap hl m4 q 58 (Mq.isS yCol) (fun t ht=>kdB_4 ht (c:=58) (by simp)) (by decide)
 generalize m4.take (Mq.isS yCol)=y at *
 obtain ⟨tx,m5⟩:=y
 have hm1:m5=m1:=hm1
 subst hm1
 generalize m5=m1 at *
 dsimp only at n2
 refine ZR [_] func51 ntmps51 fun G w hp=>?_
 repeat' (first|refine ZF ?_|refine ZI ?_|refine ZG ?_|refine ZH ?_|refine ZL ?_|refine ZJ ?_|refine ZN ?_|refine ZK (fun b=>?_)|refine ZM (fun b=>?_)|refine ZC ?_|refine ZA ?_|refine Zb ?_|refine Zc ?_|refine Zq ?_|refine Zd ?_|refine r_ldN ?_|refine Zr (fun b=>?_)|refine Zo (fun b=>?_)|refine Zp ?_|refine Za ?_|refine ZD (n0) (fun _ _=>?_)|refine l_call0 (n0) (fun _ _=>?_)|refine ZQ (n0) (fun _ _=>?_)|refine ZD (n1 _) (fun _ _=>?_)|refine l_call0 (n1 _) (fun _ _=>?_)|refine ZQ (n1 _) (fun _ _=>?_)|refine ZD (n2 _) (fun _ _=>?_)|refine l_call0 (n2 _) (fun _ _=>?_)|refine ZQ (n2 _) (fun _ _=>?_)|(refine ZB (fun hc=>?_) (fun hc=>?_)<;>(try simp at hc)<;>(try omega))|(refine ZU (fun hc=>?_) (fun hc=>?_)<;>(try simp at hc)<;>(try omega))|refine ZT 17 [] [(0,0),(1,0),(2,0),(3,0),(4,0),(5,0),(6,0),(7,0),(8,0),(9,0)] [] ?_|(refine ZE (fun hc=>?_) (fun hc=>?_)<;>(try simp at hc)<;>(try omega)))
 rename_i b0 bl _ _ qc _ bt q1 _
 obtain ⟨tc,qc⟩:=qc
 refine Yo (b:=bt) (o:=.cells (tcf tc).toArray 65) ?_
 refine Zn (F1:=[Blk bt (.cells (tcf tc).toArray 65),TcF cn tc]) (f:=LnF (some cn) (some ⟨bt,0,none⟩)) (fun hp hF=>⟨bt,tc,rfl,hF _ (.head _),hF _ (.tail _ (.head _))⟩) ?_
 refine Yo (b:=b) (o:=.cells (wActs.map Value.string).toArray 9) ?_
 refine Zn (F1:=[Blk b (.cells (wActs.map Value.string).toArray 9)]) (f:=Sl 9 skl (some ⟨b,0,none⟩) 5 wActs) (fun hp hF=>X8 (hF _ (.head _)) rfl (by decide)) ?_
 refine YK (X:={p:Nat×Kx l m1 // p.1≤5∧∀j,j<p.1→m1.word (wActs.getD j eB)=false}) (fun p=>[(0,.pointer (some ⟨bp,0,none⟩)),(2,.pointer (some ⟨b0,0,none⟩)),(3,.pointer (some ⟨bl,0,none⟩)),(5,.slice (some ⟨b,0,none⟩) 5 5),(6,.int .i64 (p.1.1:Int))]) (fun _=>[TmS o cap l,Sl 9 skl (some ⟨b,0,none⟩) 5 wActs,LnF (some cn) (some ⟨bt,0,none⟩)]) (fun p=>[Pt bp (mqC m1 l.length p.1.2.1 o cap),Pt b0 (.cells #[.pointer none,.int .i64 0,.string ⟨#[]⟩] 61),Pt bl (.cells #[.pointer (some ⟨bt,0,none⟩),.int .i64 0,.string ⟨#[]⟩] 61)]) (fun p=>5 - p.1.1) ⟨(0,q1),Nat.zero_le _,fun j hj=>absurd hj (Nat.not_lt_zero _)⟩ ⟨rfl,rfl,rfl,rfl,rfl,trivial⟩ ?_
 rintro ⟨⟨i,q⟩,hi,hno⟩
 dsimp only at hi hno ⊢
 by_cases h5:i<5
 ·have hw:=List.getElem?_eq_getElem (l:=wActs) h5
  have hix:=act_ix i h5
  have hwd:wActs.getD i eB=wActs[i]:=by simp [List.getD,hw]
  have hwm:wActs[i] ∈ wActs:=List.getElem_mem h5
  rw [hwd] at hix
  generalize wActs[i]=wd at *
  have n1:=YS bp l o cap hl m1 q wd
  have w1:=wrapi (z:=(i:Int)+1) (by omega) (by omega)
  cases hwo:m1.word wd with
  | false=>
   rw [hwo,if_neg (by decide)] at n1
   repeat' (first|refine ZX ?_|refine ZW (es:=wActs) (f:=skl) i wd hw (fun b off=>?_)|refine ZF ?_|refine ZI ?_|refine ZG ?_|refine ZH ?_|refine ZL ?_|refine ZJ ?_|refine ZN ?_|refine ZK (fun b=>?_)|refine ZM (fun b=>?_)|refine ZC ?_|refine ZA ?_|refine Zb ?_|refine Zc ?_|refine Zq ?_|refine Zd ?_|refine r_ldN ?_|refine Zr (fun b=>?_)|refine Zo (fun b=>?_)|refine Zp ?_|refine Za ?_|refine ZD (n1) (fun _ _=>?_)|refine l_call0 (n1) (fun _ _=>?_)|refine ZQ (n1) (fun _ _=>?_)|rw [w1]|(refine ZB (fun hc=>?_) (fun hc=>?_)<;>(try simp at hc)<;>(try omega))|(refine ZU (fun hc=>?_) (fun hc=>?_)<;>(try simp at hc)<;>(try omega))|refine ZT 17 [] [(0,0),(1,0),(2,0),(3,0),(4,0),(5,0),(6,0),(7,0),(8,0),(9,0)] [] ?_|(refine ZE (fun hc=>?_) (fun hc=>?_)<;>(try simp at hc)<;>(try omega)))
   rename_i q2 _
   exact ZV ⟨(i+1,q2),by show i+1≤5;omega,fun j hj=>by rcases Nat.lt_succ_iff_lt_or_eq.1 hj with h|h;exact hno j h;rw [h,hwd,hwo]⟩ (by show 5 - (i+1)<5 - i;omega) ⟨rfl,rfl,rfl,rfl,rfl,trivial⟩
  | true=>
   rw [hwo,if_pos rfl] at n1
   have hA:actM m1=(let y:ByteArray×Mq:=if i=1 then (let m3:=if m1.pass.has (fun t=>decide (t.kd=3) && (tplF t.tx).2.isSome) then m1.pass.fail 3 else m1.pass;m3.take (fun t=>decide (t.kd=3))) else (eB,m1.pass)
    (⟨(i:Int)+1,y.1⟩,if y.2.tk≠[] then y.2.fail 30 else y.2)):=by
    unfold actM
    rw [if_pos ⟨(Y1 hwo).1,VS hwo (fun x=>decide (idx x wActs<5)) (by rw [hix];simpa using h5)⟩,(Y1 hwo).2.1,hix]
   have hsub:∀t ∈ m1.pass.tk,t ∈ l:=fun t ht=>List.mem_of_mem_drop (q.2 ▸ List.mem_of_mem_tail ht)
   have hpe:m1.pass.e=0:=(Y1 hwo).1
   rw [hA]
   generalize m1.pass=m2 at *
   by_cases c1:i=1
   ·rw [if_pos c1]
    obtain ⟨tk,en,op,e,cl⟩:=m2
    have hpe:e=0:=hpe
    subst hpe
    have n3:=fun (q:Kx l ⟨tk,en,op,0,cl⟩)=>YU bp l o cap hl ⟨tk,en,op,0,cl⟩ q 115 (fun t=>decide (t.kd=3)) (fun t ht=>by rw [kdB_3 ht];simp) (by decide)
    have n4:=fun (q:Kx l ⟨tk,en,op,0,cl⟩)=>Zm bp l o cap ⟨tk,en,op,0,cl⟩ q 3
    have n5:=fun (q:Kx l ((⟨tk,en,op,0,cl⟩:Mq).fail 3))=>YU bp l o cap hl ((⟨tk,en,op,0,cl⟩:Mq).fail 3) q 115 (fun t=>decide (t.kd=3)) (fun t ht=>by rw [kdB_3 ht];simp) (by decide)
    dsimp only
    cases tk with
    | nil=>
     have n2:=fun (q:Kx l ⟨[],en,op,0,cl⟩)=>YL bp l o cap en op 0 cl q.1 q.2
     rw [if_neg (show ¬(⟨[],en,op,0,cl⟩:Mq).has (fun t=>decide (t.kd=3) && (tplF t.tx).2.isSome)=true from fun h=>by cases h)]
     generalize (⟨[],en,op,0,cl⟩:Mq).take (fun t=>decide (t.kd=3))=y at *
     obtain ⟨tx,m5⟩:=y
     dsimp only at n3 ⊢
     have n6:=fun (q:Kx l m5)=>Zm bp l o cap m5 q 30
     by_cases h5k:m5.tk=[]
     ·rw [if_neg (fun h=>h h5k)]
      have hlt:∀q:Kx l m5,¬q.1<l.length:=fun q=>YM (q.2.trans h5k)
      repeat' (first|refine ZX ?_|refine ZW (es:=wActs) (f:=skl) i wd hw (fun b off=>?_)|refine ZF ?_|refine ZI ?_|refine ZG ?_|refine ZH ?_|refine ZL ?_|refine ZJ ?_|refine ZN ?_|refine ZK (fun b=>?_)|refine ZM (fun b=>?_)|refine ZC ?_|refine ZA ?_|refine Zb ?_|refine Zc ?_|refine Zq ?_|refine Zd ?_|refine r_ldN ?_|refine Zr (fun b=>?_)|refine Zo (fun b=>?_)|refine Zp ?_|refine Za ?_|refine ZD (n1) (fun _ _=>?_)|refine l_call0 (n1) (fun _ _=>?_)|refine ZQ (n1) (fun _ _=>?_)|refine ZD (n2 _) (fun _ _=>?_)|refine l_call0 (n2 _) (fun _ _=>?_)|refine ZQ (n2 _) (fun _ _=>?_)|refine ZD (n3 _) (fun _ _=>?_)|refine l_call0 (n3 _) (fun _ _=>?_)|refine ZQ (n3 _) (fun _ _=>?_)|rw [w1]|(refine ZB (fun hc=>?_) (fun hc=>?_)<;>(try simp at hc)<;>(try omega))|(refine ZU (fun hc=>?_) (fun hc=>?_)<;>(try simp at hc)<;>(try omega))|refine ZT 17 [] [(0,0),(1,0),(2,0),(3,0),(4,0),(5,0),(6,0),(7,0),(8,0),(9,0)] [] ?_|(refine ZE (fun hc=>?_) (fun hc=>?_)<;>(try simp at hc)<;>(try omega)))
      all_goals first|exact Zv (Zu (Zi ((some ⟨bt,0,none⟩),‹Kx l _›) rfl trivial))|exact absurd hc (hlt _)|exact absurd (hlt _) (Nat.not_lt.2 hc)
     ·rw [if_pos h5k]
      have hlt:∀q:Kx l m5,q.1<l.length:=fun q=>by obtain ⟨t,ts,hh⟩:=List.exists_cons_of_ne_nil h5k;exact (Zz (q.2.trans hh)).2.1
      repeat' (first|refine ZX ?_|refine ZW (es:=wActs) (f:=skl) i wd hw (fun b off=>?_)|refine ZF ?_|refine ZI ?_|refine ZG ?_|refine ZH ?_|refine ZL ?_|refine ZJ ?_|refine ZN ?_|refine ZK (fun b=>?_)|refine ZM (fun b=>?_)|refine ZC ?_|refine ZA ?_|refine Zb ?_|refine Zc ?_|refine Zq ?_|refine Zd ?_|refine r_ldN ?_|refine Zr (fun b=>?_)|refine Zo (fun b=>?_)|refine Zp ?_|refine Za ?_|refine ZD (n1) (fun _ _=>?_)|refine l_call0 (n1) (fun _ _=>?_)|refine ZQ (n1) (fun _ _=>?_)|refine ZD (n2 _) (fun _ _=>?_)|refine l_call0 (n2 _) (fun _ _=>?_)|refine ZQ (n2 _) (fun _ _=>?_)|refine ZD (n3 _) (fun _ _=>?_)|refine l_call0 (n3 _) (fun _ _=>?_)|refine ZQ (n3 _) (fun _ _=>?_)|refine ZD (n6 _) (fun _ _=>?_)|refine l_call0 (n6 _) (fun _ _=>?_)|refine ZQ (n6 _) (fun _ _=>?_)|rw [w1]|(refine ZB (fun hc=>?_) (fun hc=>?_)<;>(try simp at hc)<;>(try omega))|(refine ZU (fun hc=>?_) (fun hc=>?_)<;>(try simp at hc)<;>(try omega))|refine ZT 17 [] [(0,0),(1,0),(2,0),(3,0),(4,0),(5,0),(6,0),(7,0),(8,0),(9,0)] [] ?_|(refine ZE (fun hc=>?_) (fun hc=>?_)<;>(try simp at hc)<;>(try omega)))
      all_goals first|exact Zv (Zu (Zi ((some ⟨bt,0,none⟩),‹Kx l _›) rfl trivial))|exact absurd hc (hlt _)|exact absurd (hlt _) (Nat.not_lt.2 hc)
    | cons t ts=>
     have n2:=fun (q:Kx l ⟨t::ts,en,op,0,cl⟩)=>YN bp l o cap t ts en op 0 cl q.1 q.2
     have ht:=hl.1 t (hsub t (.head _))
     have k3:=kdB_3 ht
     have n7:=Vi t.tx (by have:=ht.2;omega)
     rw [←tpl_tm0] at n7
     have hhas:((⟨t::ts,en,op,0,cl⟩:Mq).has (fun t=>decide (t.kd=3) && (tplF t.tx).2.isSome))=(decide (t.kd=3) && (tplF t.tx).2.isSome):=rfl
     rw [hhas]
     by_cases c5:t.kd=3
     ·have q5:=k3.2 c5
      rw [c5]
      cases hz:(tplF t.tx).2 with
      | none=>
       rw [hz] at n7
       have n7:Enters 16∧Spec prog 16 #[.string t.tx] [] [] (RetV (.int .i64 (-1))):=n7
       rw [if_neg (by simp)]
       generalize kdB t=kb at *
       generalize t.tx=tx0 at *
       generalize (⟨t::ts,en,op,0,cl⟩:Mq).take (fun t=>decide (t.kd=3))=y at *
       obtain ⟨tx,m5⟩:=y
       dsimp only at n3 ⊢
       have n6:=fun (q:Kx l m5)=>Zm bp l o cap m5 q 30
       by_cases h5k:m5.tk=[]
       ·rw [if_neg (fun h=>h h5k)]
        have hlt:∀q:Kx l m5,¬q.1<l.length:=fun q=>YM (q.2.trans h5k)
        repeat' (first|refine ZX ?_|refine ZW (es:=wActs) (f:=skl) i wd hw (fun b off=>?_)|refine ZF ?_|refine ZI ?_|refine ZG ?_|refine ZH ?_|refine ZL ?_|refine ZJ ?_|refine ZN ?_|refine ZK (fun b=>?_)|refine ZM (fun b=>?_)|refine ZC ?_|refine ZA ?_|refine Zb ?_|refine Zc ?_|refine Zq ?_|refine Zd ?_|refine r_ldN ?_|refine Zr (fun b=>?_)|refine Zo (fun b=>?_)|refine Zp ?_|refine Za ?_|refine ZD (n1) (fun _ _=>?_)|refine l_call0 (n1) (fun _ _=>?_)|refine ZQ (n1) (fun _ _=>?_)|refine ZD (n2 _) (fun _ _=>?_)|refine l_call0 (n2 _) (fun _ _=>?_)|refine ZQ (n2 _) (fun _ _=>?_)|refine ZD (n3 _) (fun _ _=>?_)|refine l_call0 (n3 _) (fun _ _=>?_)|refine ZQ (n3 _) (fun _ _=>?_)|refine ZD (n7) (fun _ _=>?_)|refine l_call0 (n7) (fun _ _=>?_)|refine ZQ (n7) (fun _ _=>?_)|rw [w1]|(refine ZB (fun hc=>?_) (fun hc=>?_)<;>(try simp at hc)<;>(try omega))|(refine ZU (fun hc=>?_) (fun hc=>?_)<;>(try simp at hc)<;>(try omega))|refine ZT 17 [] [(0,0),(1,0),(2,0),(3,0),(4,0),(5,0),(6,0),(7,0),(8,0),(9,0)] [] ?_|(refine ZE (fun hc=>?_) (fun hc=>?_)<;>(try simp at hc)<;>(try omega)))
        all_goals first|exact Zv (Zu (Zi ((some ⟨bt,0,none⟩),‹Kx l _›) rfl trivial))|exact absurd hc (hlt _)|exact absurd (hlt _) (Nat.not_lt.2 hc)
       ·rw [if_pos h5k]
        have hlt:∀q:Kx l m5,q.1<l.length:=fun q=>by obtain ⟨t,ts,hh⟩:=List.exists_cons_of_ne_nil h5k;exact (Zz (q.2.trans hh)).2.1
        repeat' (first|refine ZX ?_|refine ZW (es:=wActs) (f:=skl) i wd hw (fun b off=>?_)|refine ZF ?_|refine ZI ?_|refine ZG ?_|refine ZH ?_|refine ZL ?_|refine ZJ ?_|refine ZN ?_|refine ZK (fun b=>?_)|refine ZM (fun b=>?_)|refine ZC ?_|refine ZA ?_|refine Zb ?_|refine Zc ?_|refine Zq ?_|refine Zd ?_|refine r_ldN ?_|refine Zr (fun b=>?_)|refine Zo (fun b=>?_)|refine Zp ?_|refine Za ?_|refine ZD (n1) (fun _ _=>?_)|refine l_call0 (n1) (fun _ _=>?_)|refine ZQ (n1) (fun _ _=>?_)|refine ZD (n2 _) (fun _ _=>?_)|refine l_call0 (n2 _) (fun _ _=>?_)|refine ZQ (n2 _) (fun _ _=>?_)|refine ZD (n3 _) (fun _ _=>?_)|refine l_call0 (n3 _) (fun _ _=>?_)|refine ZQ (n3 _) (fun _ _=>?_)|refine ZD (n6 _) (fun _ _=>?_)|refine l_call0 (n6 _) (fun _ _=>?_)|refine ZQ (n6 _) (fun _ _=>?_)|refine ZD (n7) (fun _ _=>?_)|refine l_call0 (n7) (fun _ _=>?_)|refine ZQ (n7) (fun _ _=>?_)|rw [w1]|(refine ZB (fun hc=>?_) (fun hc=>?_)<;>(try simp at hc)<;>(try omega))|(refine ZU (fun hc=>?_) (fun hc=>?_)<;>(try simp at hc)<;>(try omega))|refine ZT 17 [] [(0,0),(1,0),(2,0),(3,0),(4,0),(5,0),(6,0),(7,0),(8,0),(9,0)] [] ?_|(refine ZE (fun hc=>?_) (fun hc=>?_)<;>(try simp at hc)<;>(try omega)))
        all_goals first|exact Zv (Zu (Zi ((some ⟨bt,0,none⟩),‹Kx l _›) rfl trivial))|exact absurd hc (hlt _)|exact absurd (hlt _) (Nat.not_lt.2 hc)
      | some z=>
       rw [hz] at n7
       have n7:Enters 16∧Spec prog 16 #[.string t.tx] [] [] (RetV (.int .i64 (z:Int))):=n7
       rw [if_pos (by simp)]
       generalize kdB t=kb at *
       generalize t.tx=tx0 at *
       generalize (⟨t::ts,en,op,0,cl⟩:Mq).fail 3=m3 at *
       generalize m3.take (fun t=>decide (t.kd=3))=y at *
       obtain ⟨tx,m5⟩:=y
       dsimp only at n5 ⊢
       have n6:=fun (q:Kx l m5)=>Zm bp l o cap m5 q 30
       by_cases h5k:m5.tk=[]
       ·rw [if_neg (fun h=>h h5k)]
        have hlt:∀q:Kx l m5,¬q.1<l.length:=fun q=>YM (q.2.trans h5k)
        repeat' (first|refine ZX ?_|refine ZW (es:=wActs) (f:=skl) i wd hw (fun b off=>?_)|refine ZF ?_|refine ZI ?_|refine ZG ?_|refine ZH ?_|refine ZL ?_|refine ZJ ?_|refine ZN ?_|refine ZK (fun b=>?_)|refine ZM (fun b=>?_)|refine ZC ?_|refine ZA ?_|refine Zb ?_|refine Zc ?_|refine Zq ?_|refine Zd ?_|refine r_ldN ?_|refine Zr (fun b=>?_)|refine Zo (fun b=>?_)|refine Zp ?_|refine Za ?_|refine ZD (n1) (fun _ _=>?_)|refine l_call0 (n1) (fun _ _=>?_)|refine ZQ (n1) (fun _ _=>?_)|refine ZD (n2 _) (fun _ _=>?_)|refine l_call0 (n2 _) (fun _ _=>?_)|refine ZQ (n2 _) (fun _ _=>?_)|refine ZD (n4 _) (fun _ _=>?_)|refine l_call0 (n4 _) (fun _ _=>?_)|refine ZQ (n4 _) (fun _ _=>?_)|refine ZD (n5 _) (fun _ _=>?_)|refine l_call0 (n5 _) (fun _ _=>?_)|refine ZQ (n5 _) (fun _ _=>?_)|refine ZD (n7) (fun _ _=>?_)|refine l_call0 (n7) (fun _ _=>?_)|refine ZQ (n7) (fun _ _=>?_)|rw [w1]|(refine ZB (fun hc=>?_) (fun hc=>?_)<;>(try simp at hc)<;>(try omega))|(refine ZU (fun hc=>?_) (fun hc=>?_)<;>(try simp at hc)<;>(try omega))|refine ZT 17 [] [(0,0),(1,0),(2,0),(3,0),(4,0),(5,0),(6,0),(7,0),(8,0),(9,0)] [] ?_|(refine ZE (fun hc=>?_) (fun hc=>?_)<;>(try simp at hc)<;>(try omega)))
        all_goals first|exact Zv (Zu (Zi ((some ⟨bt,0,none⟩),‹Kx l _›) rfl trivial))|exact absurd hc (hlt _)|exact absurd (hlt _) (Nat.not_lt.2 hc)
       ·rw [if_pos h5k]
        have hlt:∀q:Kx l m5,q.1<l.length:=fun q=>by obtain ⟨t,ts,hh⟩:=List.exists_cons_of_ne_nil h5k;exact (Zz (q.2.trans hh)).2.1
        repeat' (first|refine ZX ?_|refine ZW (es:=wActs) (f:=skl) i wd hw (fun b off=>?_)|refine ZF ?_|refine ZI ?_|refine ZG ?_|refine ZH ?_|refine ZL ?_|refine ZJ ?_|refine ZN ?_|refine ZK (fun b=>?_)|refine ZM (fun b=>?_)|refine ZC ?_|refine ZA ?_|refine Zb ?_|refine Zc ?_|refine Zq ?_|refine Zd ?_|refine r_ldN ?_|refine Zr (fun b=>?_)|refine Zo (fun b=>?_)|refine Zp ?_|refine Za ?_|refine ZD (n1) (fun _ _=>?_)|refine l_call0 (n1) (fun _ _=>?_)|refine ZQ (n1) (fun _ _=>?_)|refine ZD (n2 _) (fun _ _=>?_)|refine l_call0 (n2 _) (fun _ _=>?_)|refine ZQ (n2 _) (fun _ _=>?_)|refine ZD (n4 _) (fun _ _=>?_)|refine l_call0 (n4 _) (fun _ _=>?_)|refine ZQ (n4 _) (fun _ _=>?_)|refine ZD (n5 _) (fun _ _=>?_)|refine l_call0 (n5 _) (fun _ _=>?_)|refine ZQ (n5 _) (fun _ _=>?_)|refine ZD (n6 _) (fun _ _=>?_)|refine l_call0 (n6 _) (fun _ _=>?_)|refine ZQ (n6 _) (fun _ _=>?_)|refine ZD (n7) (fun _ _=>?_)|refine l_call0 (n7) (fun _ _=>?_)|refine ZQ (n7) (fun _ _=>?_)|rw [w1]|(refine ZB (fun hc=>?_) (fun hc=>?_)<;>(try simp at hc)<;>(try omega))|(refine ZU (fun hc=>?_) (fun hc=>?_)<;>(try simp at hc)<;>(try omega))|refine ZT 17 [] [(0,0),(1,0),(2,0),(3,0),(4,0),(5,0),(6,0),(7,0),(8,0),(9,0)] [] ?_|(refine ZE (fun hc=>?_) (fun hc=>?_)<;>(try simp at hc)<;>(try omega)))
        all_goals first|exact Zv (Zu (Zi ((some ⟨bt,0,none⟩),‹Kx l _›) rfl trivial))|exact absurd hc (hlt _)|exact absurd (hlt _) (Nat.not_lt.2 hc)
     ·have q5:¬kdB t=115:=fun h=>c5 (k3.1 h)
      rw [if_neg (by simp [c5])]
      generalize kdB t=kb at *
      generalize t.tx=tx0 at *
      generalize (⟨t::ts,en,op,0,cl⟩:Mq).take (fun t=>decide (t.kd=3))=y at *
      obtain ⟨tx,m5⟩:=y
      dsimp only at n3 ⊢
      have n6:=fun (q:Kx l m5)=>Zm bp l o cap m5 q 30
      by_cases h5k:m5.tk=[]
      ·rw [if_neg (fun h=>h h5k)]
       have hlt:∀q:Kx l m5,¬q.1<l.length:=fun q=>YM (q.2.trans h5k)
       repeat' (first|refine ZX ?_|refine ZW (es:=wActs) (f:=skl) i wd hw (fun b off=>?_)|refine ZF ?_|refine ZI ?_|refine ZG ?_|refine ZH ?_|refine ZL ?_|refine ZJ ?_|refine ZN ?_|refine ZK (fun b=>?_)|refine ZM (fun b=>?_)|refine ZC ?_|refine ZA ?_|refine Zb ?_|refine Zc ?_|refine Zq ?_|refine Zd ?_|refine r_ldN ?_|refine Zr (fun b=>?_)|refine Zo (fun b=>?_)|refine Zp ?_|refine Za ?_|refine ZD (n1) (fun _ _=>?_)|refine l_call0 (n1) (fun _ _=>?_)|refine ZQ (n1) (fun _ _=>?_)|refine ZD (n2 _) (fun _ _=>?_)|refine l_call0 (n2 _) (fun _ _=>?_)|refine ZQ (n2 _) (fun _ _=>?_)|refine ZD (n3 _) (fun _ _=>?_)|refine l_call0 (n3 _) (fun _ _=>?_)|refine ZQ (n3 _) (fun _ _=>?_)|rw [w1]|(refine ZB (fun hc=>?_) (fun hc=>?_)<;>(try simp at hc)<;>(try omega))|(refine ZU (fun hc=>?_) (fun hc=>?_)<;>(try simp at hc)<;>(try omega))|refine ZT 17 [] [(0,0),(1,0),(2,0),(3,0),(4,0),(5,0),(6,0),(7,0),(8,0),(9,0)] [] ?_|(refine ZE (fun hc=>?_) (fun hc=>?_)<;>(try simp at hc)<;>(try omega)))
       all_goals first|exact Zv (Zu (Zi ((some ⟨bt,0,none⟩),‹Kx l _›) rfl trivial))|exact absurd hc (hlt _)|exact absurd (hlt _) (Nat.not_lt.2 hc)
      ·rw [if_pos h5k]
       have hlt:∀q:Kx l m5,q.1<l.length:=fun q=>by obtain ⟨t,ts,hh⟩:=List.exists_cons_of_ne_nil h5k;exact (Zz (q.2.trans hh)).2.1
       repeat' (first|refine ZX ?_|refine ZW (es:=wActs) (f:=skl) i wd hw (fun b off=>?_)|refine ZF ?_|refine ZI ?_|refine ZG ?_|refine ZH ?_|refine ZL ?_|refine ZJ ?_|refine ZN ?_|refine ZK (fun b=>?_)|refine ZM (fun b=>?_)|refine ZC ?_|refine ZA ?_|refine Zb ?_|refine Zc ?_|refine Zq ?_|refine Zd ?_|refine r_ldN ?_|refine Zr (fun b=>?_)|refine Zo (fun b=>?_)|refine Zp ?_|refine Za ?_|refine ZD (n1) (fun _ _=>?_)|refine l_call0 (n1) (fun _ _=>?_)|refine ZQ (n1) (fun _ _=>?_)|refine ZD (n2 _) (fun _ _=>?_)|refine l_call0 (n2 _) (fun _ _=>?_)|refine ZQ (n2 _) (fun _ _=>?_)|refine ZD (n3 _) (fun _ _=>?_)|refine l_call0 (n3 _) (fun _ _=>?_)|refine ZQ (n3 _) (fun _ _=>?_)|refine ZD (n6 _) (fun _ _=>?_)|refine l_call0 (n6 _) (fun _ _=>?_)|refine ZQ (n6 _) (fun _ _=>?_)|rw [w1]|(refine ZB (fun hc=>?_) (fun hc=>?_)<;>(try simp at hc)<;>(try omega))|(refine ZU (fun hc=>?_) (fun hc=>?_)<;>(try simp at hc)<;>(try omega))|refine ZT 17 [] [(0,0),(1,0),(2,0),(3,0),(4,0),(5,0),(6,0),(7,0),(8,0),(9,0)] [] ?_|(refine ZE (fun hc=>?_) (fun hc=>?_)<;>(try simp at hc)<;>(try omega)))
       all_goals first|exact Zv (Zu (Zi ((some ⟨bt,0,none⟩),‹Kx l _›) rfl trivial))|exact absurd hc (hlt _)|exact absurd (hlt _) (Nat.not_lt.2 hc)
   ·rw [if_neg c1]
    dsimp only
    have n6:=fun (q:Kx l m2)=>Zm bp l o cap m2 q 30
    by_cases h5k:m2.tk=[]
    ·rw [if_neg (fun h=>h h5k)]
     have hlt:∀q:Kx l m2,¬q.1<l.length:=fun q=>YM (q.2.trans h5k)
     repeat' (first|refine ZX ?_|refine ZW (es:=wActs) (f:=skl) i wd hw (fun b off=>?_)|refine ZF ?_|refine ZI ?_|refine ZG ?_|refine ZH ?_|refine ZL ?_|refine ZJ ?_|refine ZN ?_|refine ZK (fun b=>?_)|refine ZM (fun b=>?_)|refine ZC ?_|refine ZA ?_|refine Zb ?_|refine Zc ?_|refine Zq ?_|refine Zd ?_|refine r_ldN ?_|refine Zr (fun b=>?_)|refine Zo (fun b=>?_)|refine Zp ?_|refine Za ?_|refine ZD (n1) (fun _ _=>?_)|refine l_call0 (n1) (fun _ _=>?_)|refine ZQ (n1) (fun _ _=>?_)|rw [w1]|(refine ZB (fun hc=>?_) (fun hc=>?_)<;>(try simp at hc)<;>(try omega))|(refine ZU (fun hc=>?_) (fun hc=>?_)<;>(try simp at hc)<;>(try omega))|refine ZT 17 [] [(0,0),(1,0),(2,0),(3,0),(4,0),(5,0),(6,0),(7,0),(8,0),(9,0)] [] ?_|(refine ZE (fun hc=>?_) (fun hc=>?_)<;>(try simp at hc)<;>(try omega)))
     all_goals first|exact Zv (Zu (Zi ((some ⟨bt,0,none⟩),‹Kx l _›) rfl trivial))|exact absurd hc (hlt _)|exact absurd (hlt _) (Nat.not_lt.2 hc)
    ·rw [if_pos h5k]
     have hlt:∀q:Kx l m2,q.1<l.length:=fun q=>by obtain ⟨t,ts,hh⟩:=List.exists_cons_of_ne_nil h5k;exact (Zz (q.2.trans hh)).2.1
     repeat' (first|refine ZX ?_|refine ZW (es:=wActs) (f:=skl) i wd hw (fun b off=>?_)|refine ZF ?_|refine ZI ?_|refine ZG ?_|refine ZH ?_|refine ZL ?_|refine ZJ ?_|refine ZN ?_|refine ZK (fun b=>?_)|refine ZM (fun b=>?_)|refine ZC ?_|refine ZA ?_|refine Zb ?_|refine Zc ?_|refine Zq ?_|refine Zd ?_|refine r_ldN ?_|refine Zr (fun b=>?_)|refine Zo (fun b=>?_)|refine Zp ?_|refine Za ?_|refine ZD (n1) (fun _ _=>?_)|refine l_call0 (n1) (fun _ _=>?_)|refine ZQ (n1) (fun _ _=>?_)|refine ZD (n6 _) (fun _ _=>?_)|refine l_call0 (n6 _) (fun _ _=>?_)|refine ZQ (n6 _) (fun _ _=>?_)|rw [w1]|(refine ZB (fun hc=>?_) (fun hc=>?_)<;>(try simp at hc)<;>(try omega))|(refine ZU (fun hc=>?_) (fun hc=>?_)<;>(try simp at hc)<;>(try omega))|refine ZT 17 [] [(0,0),(1,0),(2,0),(3,0),(4,0),(5,0),(6,0),(7,0),(8,0),(9,0)] [] ?_|(refine ZE (fun hc=>?_) (fun hc=>?_)<;>(try simp at hc)<;>(try omega)))
     all_goals first|exact Zv (Zu (Zi ((some ⟨bt,0,none⟩),‹Kx l _›) rfl trivial))|exact absurd hc (hlt _)|exact absurd (hlt _) (Nat.not_lt.2 hc)
 ·obtain rfl:i=5:=by omega
  have hno2:∀w ∈ wActs,m1.word w=false:=fun w hw=>by
   obtain ⟨j2,hj2,rfl⟩:=List.getElem_of_mem hw
   have:=hno j2 hj2
   rwa [show wActs.getD j2 eB=wActs[j2] by simp [List.getD,List.getElem?_eq_getElem hj2]] at this
  have hA:actM m1=(⟨0,eB⟩,m1.fail 30):=by
   unfold actM
   rw [if_neg]
   rintro ⟨h1,h2⟩
   rw [Wa h1 hno2 (fun x=>decide (idx x wActs<5)) (fun w hw=>Zg (l:=wActs).1 (show idx w wActs<wActs.length from of_decide_eq_true hw))] at h2
   cases h2
  rw [hA]
  have n1:=Zm bp l o cap m1 q 30
  repeat' (first|refine ZF ?_|refine ZI ?_|refine ZG ?_|refine ZH ?_|refine ZL ?_|refine ZJ ?_|refine ZN ?_|refine ZK (fun b=>?_)|refine ZM (fun b=>?_)|refine ZC ?_|refine ZA ?_|refine ZO ?_|refine Zb ?_|refine Zc ?_|refine Zq ?_|refine Zd ?_|refine r_ldN ?_|refine Zr (fun b=>?_)|refine Zo (fun b=>?_)|refine Zp ?_|refine Za ?_|refine ZD (n1) (fun _ _=>?_)|refine l_call0 (n1) (fun _ _=>?_)|refine ZQ (n1) (fun _ _=>?_)|(refine ZB (fun hc=>?_) (fun hc=>?_)<;>(try simp at hc)<;>(try omega))|(refine ZU (fun hc=>?_) (fun hc=>?_)<;>(try simp at hc)<;>(try omega))|refine ZT 17 [] [(0,0),(1,0),(2,0),(3,0),(4,0),(5,0),(6,0),(7,0),(8,0),(9,0)] [] ?_|(refine ZE (fun hc=>?_) (fun hc=>?_)<;>(try simp at hc)<;>(try omega)))
  rename_i q2 _
  exact ZP ((some ⟨bt,0,none⟩),q2) rfl trivial
theorem mpRule_ok (bp:Nat) (l:List Tk) (o:Option Addr) (cap:Nat) (hl:LOK l) (m:Mq) (q:Kx l m) (h1:0≤m.op) (h2:m.op≤32):Enters 51∧Spec prog 51 #[.pointer (some ⟨bp,0,none⟩)] [TmS o cap l] [Pt bp (mqC m l.length q.1 o cap)] (LrP bp l (ruleM m) o cap):=by
 rw [XL]
 cases hif:m.word wIf with
 | false=>exact mpRuleN_ok bp l o cap hl m q hif
 | true=>exact mpRuleC_ok bp l o cap hl m q hif h1 h2 _ rfl
abbrev scV (r:List Tk×Nat×Bool) (q:Option Addr×Nat):Value:=.tuple #[.slice q.1 r.1.length q.2,.int .i64 (if r.2.2=true then (r.2.1:Int)+1 else 0),.int .i64 (if r.2.2=true then 0 else (r.2.1:Int)+1)]
theorem span_more {p:UInt8→Bool} {l:List UInt8} {k:Nat} {c:UInt8} (h:∀x ∈ l.take k,p x=true) (hc:l[k]? = some c) (hp:p c=true):∀x ∈ l.take (k+1),p x=true:=fun x hx=>by
 obtain ⟨hlt,he⟩:=List.getElem?_eq_some_iff.1 hc
 rw [List.take_succ_eq_append_getElem hlt] at hx
 rcases List.mem_append.1 hx with hx|hx
 ·exact h x hx
 ·rw [List.mem_singleton.1 hx,he];exact hp
theorem Vj (c:UInt8):isLet c=true↔97≤(c.toNat:Int)∧(c.toNat:Int)≤122:=by
 unfold isLet;simp only [Bool.and_eq_true,decide_eq_true_eq];omega
theorem dgt_iff (c:UInt8):isDgt c=true↔48≤(c.toNat:Int)∧(c.toNat:Int)≤57:=by
 unfold isDgt;simp only [Bool.and_eq_true,decide_eq_true_eq];omega
theorem inNum_iff (c:UInt8):inNum c=true↔(48≤(c.toNat:Int)∧(c.toNat:Int)≤57)∨(c.toNat:Int)=46:=by
 unfold inNum
 rw [Bool.or_eq_true,dgt_iff,u8_46,decide_eq_true_eq]
theorem ofL_app (a b:List UInt8):ofL a++ofL b=ofL (a++b):=XA (by rw [W9,YH,YH,YH])
theorem sl_nil0 {T:TypeId} {α:Type} {f:α→List Value} {h:H}:(Sl T f none 0 []).p h:=⟨Nat.le_refl _,.inl rfl⟩
set_option maxHeartbeats 8000000 in
theorem mpScan_ok (s:ByteArray) (hs:s.size≤100000):Enters 50∧Spec prog 50 #[.string s] [] []
  ⟨Option Addr×Nat,scV (scanF (s.data.toList.length+1) s.data.toList 0 []),fun _=>True,fun q=>[TmS q.1 q.2 (scanF (s.data.toList.length+1) s.data.toList 0 []).1],fun _=>[]⟩:=by
 have hsz:s.data.toList.length=s.size:=by show _=s.data.size;simp
 generalize hr:scanF (s.data.toList.length+1) s.data.toList 0 []=r
 refine ZR [_] func50 ntmps50 fun G w hp=>?_
 repeat' (first|refine ZF ?_|refine ZI ?_|refine ZG ?_|refine ZH ?_|refine ZL ?_|refine ZJ ?_|refine ZN ?_|refine ZK (fun b=>?_)|refine ZM (fun b=>?_)|refine ZC ?_|refine ZA ?_|(refine ZB (fun hc=>?_) (fun hc=>?_)<;>(try simp at hc))|(refine ZE (fun hc=>?_) (fun hc=>?_)<;>(try simp at hc)))
 refine Z1 (Lx:=[]) (r:=Row 110 3 none 0 0 []) (fun h _=>XC _ _ h) ?_
 refine YK (X:={q:Nat×List Tk×Option Addr×Nat // q.1≤s.size∧q.2.1.length≤q.1∧∃n,(s.data.toList.drop q.1).length<n∧scanF n (s.data.toList.drop q.1) q.1 q.2.1=r}) (fun q=>[(0,.string s),(2,.slice q.1.2.2.1 q.1.2.1.length q.1.2.2.2),(5,.int .i64 (q.1.1:Int))]) (fun _=>[]) (fun q=>[Row 110 3 q.1.2.2.1 q.1.2.1.length q.1.2.2.2 (q.1.2.1.flatMap tkm)]) (fun q=>s.size - q.1.1) ⟨(0,[],none,0),by show 0≤_;omega,by show 0≤0;omega,s.data.toList.length+1,by simp,hr⟩ ⟨rfl,rfl,rfl,trivial⟩ ?_
 rintro ⟨⟨i,acc,o,cap⟩,hi1,hi2,nn,hn,hi3⟩
 dsimp only at hi1 hi2 hi3 hn ⊢
 obtain ⟨nn,rfl⟩:∃m,nn=m+1:=⟨nn - 1,by omega⟩
 by_cases hlt:i<s.data.toList.length
 ·have hcc:=List.getElem?_eq_getElem hlt
  have hdr:=List.drop_eq_getElem_cons hlt
  have hlt2:i<s.size:=by omega
  generalize hce:s.data.toList[i]=c at *
  rw [hdr] at hi3 hn
  have w1:=wrapi (z:=(i:Int)+1) (by omega) (by omega)
  have hdl:(s.data.toList.drop (i+1)).length<nn:=by simpa using hn
  have hroom:(2 * (acc.length+1)+200) * 32≤281474976710656:=by omega
  have k35:(c.toNat:Int)=35↔c=35:=(u8i (k:=35) (by decide)).symm
  have k32:(c.toNat:Int)=32↔c=32:=(u8i (k:=32) (by decide)).symm
  have k9:(c.toNat:Int)=9↔c=9:=(u8i (k:=9) (by decide)).symm
  have k34:(c.toNat:Int)=34↔c=34:=(u8i (k:=34) (by decide)).symm
  have kl:=Vj c
  have kd:=dgt_iff c
  unfold scanF at hi3
  by_cases c35:c=35
  ·rw [if_pos (by simpa using c35)] at hi3
   subst hi3
   have q35:=k35.2 c35
   repeat' (first|refine ZF ?_|refine ZI ?_|refine ZG ?_|refine ZH ?_|refine ZL ?_|refine ZJ ?_|refine ZN ?_|refine ZK (fun b=>?_)|refine ZM (fun b=>?_)|refine ZC ?_|refine ZA ?_|refine Zh (s:=s) i c hcc ?_|rw [w1]|(refine ZB (fun hc=>?_) (fun hc=>?_)<;>(try simp at hc)<;>(try omega))|(refine ZE (fun hc=>?_) (fun hc=>?_)<;>(try simp at hc)<;>(try omega)))
   all_goals (
    refine Xc (T:=110) (sz:=3) (f:=tkm) (o:=o) (cap:=cap) acc ?_ rfl rfl
    exact Zv (Zu (Zi (o,cap) rfl trivial)))
  rw [if_neg (by simpa using c35)] at hi3
  have q35:¬(c.toNat:Int)=35:=fun h=>c35 (k35.1 h)
  by_cases csp:c=32∨c=9
  ·rw [if_pos (by simpa using csp)] at hi3
   have qsp:(c.toNat:Int)=32∨(c.toNat:Int)=9:=csp.imp k32.2 k9.2
   repeat' (first|refine Zh (s:=s) i c hcc ?_|refine ZF ?_|refine ZI ?_|refine ZG ?_|refine ZH ?_|refine ZL ?_|refine ZJ ?_|refine ZN ?_|refine ZK (fun b=>?_)|refine ZM (fun b=>?_)|refine ZC ?_|refine ZA ?_|rw [w1]|(refine ZB (fun hc=>?_) (fun hc=>?_)<;>(try simp at hc)<;>(try omega))|(refine ZE (fun hc=>?_) (fun hc=>?_)<;>(try simp at hc)<;>(try omega)))
   all_goals exact ZV ⟨(i+1,acc,o,cap),by show i+1≤s.size;omega,by show acc.length≤i+1;omega,nn,hdl,hi3⟩ (by show s.size - (i+1)<s.size - i;omega) ⟨rfl,rfl,rfl,trivial⟩
  rw [if_neg (by simpa using csp)] at hi3
  have q32:¬(c.toNat:Int)=32:=fun h=>csp (.inl (k32.1 h))
  have q9:¬(c.toNat:Int)=9:=fun h=>csp (.inr (k9.1 h))
  have hstep:∀(t:Tk) (kk:Nat) (o':Option Addr) (cap':Nat),1≤kk→i+kk≤s.size→scanF nn (s.data.toList.drop (i+kk)) (i+kk) (acc++[t])=r→∃q:{q:Nat×List Tk×Option Addr×Nat // q.1≤s.size∧q.2.1.length≤q.1∧∃n,(s.data.toList.drop q.1).length<n∧scanF n (s.data.toList.drop q.1) q.1 q.2.1=r},q.1=(i+kk,acc++[t],o',cap'):=fun t kk o' cap' h1 h2 h3=>⟨⟨(i+kk,acc++[t],o',cap'),h2,by show (acc++[t]).length≤i+kk;rw [List.length_append,List.length_singleton];omega,nn,by show (s.data.toList.drop (i+kk)).length<nn;rw [List.length_drop] at hdl ⊢;omega,h3⟩,rfl⟩
  by_cases cl:isLet c=true
  ·rw [if_pos cl] at hi3
   have qc:=(Vj c).1 cl
   have hx0:∀x ∈ (c::s.data.toList.drop (i+1)).take 1,isLet x=true:=fun x hx=>by
    rw [List.take_succ_cons,List.take_zero,List.mem_singleton] at hx
    rw [hx];exact cl
   repeat' (first|refine Zh (s:=s) i c hcc ?_|refine ZF ?_|refine ZI ?_|refine ZG ?_|refine ZH ?_|refine ZL ?_|refine ZJ ?_|refine ZN ?_|refine ZK (fun b=>?_)|refine ZM (fun b=>?_)|refine ZC ?_|refine ZA ?_|rw [w1]|(refine ZB (fun hc=>?_) (fun hc=>?_)<;>(try simp at hc)<;>(try omega))|(refine ZE (fun hc=>?_) (fun hc=>?_)<;>(try simp at hc)<;>(try omega)))
   refine YK (X:={j:Nat // 1≤j∧i+j≤s.size∧∀x ∈ (c::s.data.toList.drop (i+1)).take j,isLet x=true}) (fun j=>[(0,.string s),(2,.slice o acc.length cap),(5,.int .i64 (i:Int)),(7,.int .i64 ((i+j.1:Nat):Int))]) (fun _=>[]) (fun _=>[Row 110 3 o acc.length cap (acc.flatMap tkm)]) (fun j=>s.size - (i+j.1)) ⟨1,Nat.le_refl _,by omega,hx0⟩ ⟨rfl,rfl,rfl,rfl,trivial⟩ ?_
   rintro ⟨j,j1,j2,j3⟩
   dsimp only at j1 j2 j3 ⊢
   have fin:spanF isLet (c::s.data.toList.drop (i+1))=j→scanF nn (s.data.toList.drop (i+j)) (i+j) (acc++[⟨1,ofL ((c::s.data.toList.drop (i+1)).take j),i⟩])=r:=fun h=>by
    rw [h] at hi3
    rw [←hi3,←hdr,List.drop_drop]
   have hmid:(s.data.toList.take (i+j)).drop i=(ofL ((c::s.data.toList.drop (i+1)).take j)).data.toList:=by
    rw [YH,←hdr,List.drop_take];congr 1;omega
   have hll:(c::s.data.toList.drop (i+1)).length=s.size - i:=by rw [←hdr,List.length_drop];omega
   by_cases jlt:i+j<s.data.toList.length
   ·have hdd:=List.getElem?_eq_getElem jlt
    have hdg:(c::s.data.toList.drop (i+1))[j]? = some s.data.toList[i+j]:=by rw [←hdr,List.getElem?_drop];exact hdd
    generalize s.data.toList[i+j]=d at *
    have hd256:=d.toNat_lt
    have jlt2:i+j<s.size:=by omega
    have w2:=wrapi (z:=((i+j:Nat):Int)+1) (by omega) (by omega)
    cases hp:isLet d with
    | true=>
     have qd:=(Vj d).1 hp
     repeat' (first|refine Zh (s:=s) (i+j) d hdd ?_|refine ZF ?_|refine ZI ?_|refine ZG ?_|refine ZH ?_|refine ZL ?_|refine ZJ ?_|refine ZN ?_|refine ZK (fun b=>?_)|refine ZM (fun b=>?_)|refine ZC ?_|refine ZA ?_|rw [w2]|(refine ZB (fun hc=>?_) (fun hc=>?_)<;>(try simp at hc)<;>(try omega))|(refine ZE (fun hc=>?_) (fun hc=>?_)<;>(try simp at hc)<;>(try omega)))
     all_goals exact ZV ⟨j+1,by show 1≤j+1;omega,by show i+(j+1)≤s.size;omega,span_more j3 hdg hp⟩ (by show s.size - (i+(j+1))<s.size - (i+j);omega) ⟨rfl,rfl,rfl,rfl,trivial⟩
    | false=>
     have qd:¬(97≤(d.toNat:Int)∧(d.toNat:Int)≤122):=fun h=>by rw [(Vj d).2 h] at hp;cases hp
     have hsp:=Yv (p:=isLet) _ j j3 (by rw [hll];omega) (fun h=>by rw [List.getElem?_eq_getElem h] at hdg;rw [Option.some.inj hdg];exact hp)
     repeat' (first|refine YY (m:=acc.length) (m2:=1) (fun o' cap'=>?_) (hroom:=hroom)|refine Zh (s:=s) (i+j) d hdd ?_|refine ZF ?_|refine ZI ?_|refine ZG ?_|refine ZH ?_|refine ZL ?_|refine ZJ ?_|refine ZN ?_|refine ZK (fun b=>?_)|refine ZM (fun b=>?_)|refine ZC ?_|refine ZA ?_|refine ZO ?_|refine Yf (s:=s) (u:=ofL ((c::s.data.toList.drop (i+1)).take j)) i (i+j) (by omega) (by omega) hmid ?_|rw [w1]|(refine ZB (fun hc=>?_) (fun hc=>?_)<;>(try simp at hc)<;>(try omega))|(refine ZE (fun hc=>?_) (fun hc=>?_)<;>(try simp at hc)<;>(try omega)))
     all_goals (
      have e1:acc.length+1=(acc++[(⟨1,ofL ((c::s.data.toList.drop (i+1)).take j),i⟩:Tk)]).length:=by simp
      have e2:acc.flatMap tkm++[.int .u8 119,.string (ofL ((c::s.data.toList.drop (i+1)).take j)),.int .i64 ((i:Int)+1)]=(acc++[(⟨1,ofL ((c::s.data.toList.drop (i+1)).take j),i⟩:Tk)]).flatMap tkm:=by simp [kdB]
      refine YD (T:=110) (sz:=3) (o:=o') (cap:=cap') (m:=acc.length+1) _ _ e1 e2 ?_
      rw [e1]
      exact ZV ⟨(i+j,acc++[⟨1,ofL ((c::s.data.toList.drop (i+1)).take j),i⟩],o',cap'),by show i+j≤s.size;omega,by show (acc++[_]).length≤i+j;rw [List.length_append,List.length_singleton];omega,nn,by show (s.data.toList.drop (i+j)).length<nn;rw [List.length_drop] at hdl ⊢;omega,fin hsp⟩ (by show s.size - (i+j)<s.size - i;omega) ⟨rfl,rfl,rfl,trivial⟩)
   ·have jlt2:¬((i+j:Nat):Int)<(s.size:Int):=by omega
    have hsp:=Yv (p:=isLet) _ j j3 (by rw [hll];omega) (fun h=>absurd h (by rw [hll];omega))
    repeat' (first|refine YY (m:=acc.length) (m2:=1) (fun o' cap'=>?_) (hroom:=hroom)|refine ZF ?_|refine ZI ?_|refine ZG ?_|refine ZH ?_|refine ZL ?_|refine ZJ ?_|refine ZN ?_|refine ZK (fun b=>?_)|refine ZM (fun b=>?_)|refine ZC ?_|refine ZA ?_|refine ZO ?_|refine Yf (s:=s) (u:=ofL ((c::s.data.toList.drop (i+1)).take j)) i (i+j) (by omega) (by omega) hmid ?_|rw [w1]|(refine ZB (fun hc=>?_) (fun hc=>?_)<;>(try simp at hc)<;>(try omega))|(refine ZE (fun hc=>?_) (fun hc=>?_)<;>(try simp at hc)<;>(try omega)))
    all_goals (
     have e1:acc.length+1=(acc++[(⟨1,ofL ((c::s.data.toList.drop (i+1)).take j),i⟩:Tk)]).length:=by simp
     have e2:acc.flatMap tkm++[.int .u8 119,.string (ofL ((c::s.data.toList.drop (i+1)).take j)),.int .i64 ((i:Int)+1)]=(acc++[(⟨1,ofL ((c::s.data.toList.drop (i+1)).take j),i⟩:Tk)]).flatMap tkm:=by simp [kdB]
     refine YD (T:=110) (sz:=3) (o:=o') (cap:=cap') (m:=acc.length+1) _ _ e1 e2 ?_
     rw [e1]
     exact ZV ⟨(i+j,acc++[⟨1,ofL ((c::s.data.toList.drop (i+1)).take j),i⟩],o',cap'),by show i+j≤s.size;omega,by show (acc++[_]).length≤i+j;rw [List.length_append,List.length_singleton];omega,nn,by show (s.data.toList.drop (i+j)).length<nn;rw [List.length_drop] at hdl ⊢;omega,fin hsp⟩ (by show s.size - (i+j)<s.size - i;omega) ⟨rfl,rfl,rfl,trivial⟩)
  rw [if_neg cl] at hi3
  have ql:¬(97≤(c.toNat:Int)∧(c.toNat:Int)≤122):=fun h=>cl ((Vj c).2 h)
  by_cases cl:isDgt c=true
  ·rw [if_pos cl] at hi3
   have qc:=(dgt_iff c).1 cl
   have hx0:∀x ∈ (c::s.data.toList.drop (i+1)).take 1,inNum x=true:=fun x hx=>by
    rw [List.take_succ_cons,List.take_zero,List.mem_singleton] at hx
    rw [hx];exact (by rw [inNum,cl];rfl)
   repeat' (first|refine Zh (s:=s) i c hcc ?_|refine ZF ?_|refine ZI ?_|refine ZG ?_|refine ZH ?_|refine ZL ?_|refine ZJ ?_|refine ZN ?_|refine ZK (fun b=>?_)|refine ZM (fun b=>?_)|refine ZC ?_|refine ZA ?_|rw [w1]|(refine ZB (fun hc=>?_) (fun hc=>?_)<;>(try simp at hc)<;>(try omega))|(refine ZE (fun hc=>?_) (fun hc=>?_)<;>(try simp at hc)<;>(try omega)))
   refine YK (X:={j:Nat // 1≤j∧i+j≤s.size∧∀x ∈ (c::s.data.toList.drop (i+1)).take j,inNum x=true}) (fun j=>[(0,.string s),(2,.slice o acc.length cap),(5,.int .i64 (i:Int)),(7,.int .i64 ((i+j.1:Nat):Int))]) (fun _=>[]) (fun _=>[Row 110 3 o acc.length cap (acc.flatMap tkm)]) (fun j=>s.size - (i+j.1)) ⟨1,Nat.le_refl _,by omega,hx0⟩ ⟨rfl,rfl,rfl,rfl,trivial⟩ ?_
   rintro ⟨j,j1,j2,j3⟩
   dsimp only at j1 j2 j3 ⊢
   have fin:spanF inNum (c::s.data.toList.drop (i+1))=j→scanF nn (s.data.toList.drop (i+j)) (i+j) (acc++[⟨2,ofL ((c::s.data.toList.drop (i+1)).take j),i⟩])=r:=fun h=>by
    rw [h] at hi3
    rw [←hi3,←hdr,List.drop_drop]
   have hmid:(s.data.toList.take (i+j)).drop i=(ofL ((c::s.data.toList.drop (i+1)).take j)).data.toList:=by
    rw [YH,←hdr,List.drop_take];congr 1;omega
   have hll:(c::s.data.toList.drop (i+1)).length=s.size - i:=by rw [←hdr,List.length_drop];omega
   by_cases jlt:i+j<s.data.toList.length
   ·have hdd:=List.getElem?_eq_getElem jlt
    have hdg:(c::s.data.toList.drop (i+1))[j]? = some s.data.toList[i+j]:=by rw [←hdr,List.getElem?_drop];exact hdd
    generalize s.data.toList[i+j]=d at *
    have hd256:=d.toNat_lt
    have jlt2:i+j<s.size:=by omega
    have w2:=wrapi (z:=((i+j:Nat):Int)+1) (by omega) (by omega)
    cases hp:inNum d with
    | true=>
     have qd:=(inNum_iff d).1 hp
     repeat' (first|refine Zh (s:=s) (i+j) d hdd ?_|refine ZF ?_|refine ZI ?_|refine ZG ?_|refine ZH ?_|refine ZL ?_|refine ZJ ?_|refine ZN ?_|refine ZK (fun b=>?_)|refine ZM (fun b=>?_)|refine ZC ?_|refine ZA ?_|rw [w2]|(refine ZB (fun hc=>?_) (fun hc=>?_)<;>(try simp at hc)<;>(try omega))|(refine ZE (fun hc=>?_) (fun hc=>?_)<;>(try simp at hc)<;>(try omega)))
     all_goals exact ZV ⟨j+1,by show 1≤j+1;omega,by show i+(j+1)≤s.size;omega,span_more j3 hdg hp⟩ (by show s.size - (i+(j+1))<s.size - (i+j);omega) ⟨rfl,rfl,rfl,rfl,trivial⟩
    | false=>
     have qd:¬((48≤(d.toNat:Int)∧(d.toNat:Int)≤57)∨(d.toNat:Int)=46):=fun h=>by rw [(inNum_iff d).2 h] at hp;cases hp
     have hsp:=Yv (p:=inNum) _ j j3 (by rw [hll];omega) (fun h=>by rw [List.getElem?_eq_getElem h] at hdg;rw [Option.some.inj hdg];exact hp)
     repeat' (first|refine YY (m:=acc.length) (m2:=1) (fun o' cap'=>?_) (hroom:=hroom)|refine Zh (s:=s) (i+j) d hdd ?_|refine ZF ?_|refine ZI ?_|refine ZG ?_|refine ZH ?_|refine ZL ?_|refine ZJ ?_|refine ZN ?_|refine ZK (fun b=>?_)|refine ZM (fun b=>?_)|refine ZC ?_|refine ZA ?_|refine ZO ?_|refine Yf (s:=s) (u:=ofL ((c::s.data.toList.drop (i+1)).take j)) i (i+j) (by omega) (by omega) hmid ?_|rw [w1]|(refine ZB (fun hc=>?_) (fun hc=>?_)<;>(try simp at hc)<;>(try omega))|(refine ZE (fun hc=>?_) (fun hc=>?_)<;>(try simp at hc)<;>(try omega)))
     all_goals (
      have e1:acc.length+1=(acc++[(⟨2,ofL ((c::s.data.toList.drop (i+1)).take j),i⟩:Tk)]).length:=by simp
      have e2:acc.flatMap tkm++[.int .u8 110,.string (ofL ((c::s.data.toList.drop (i+1)).take j)),.int .i64 ((i:Int)+1)]=(acc++[(⟨2,ofL ((c::s.data.toList.drop (i+1)).take j),i⟩:Tk)]).flatMap tkm:=by simp [kdB]
      refine YD (T:=110) (sz:=3) (o:=o') (cap:=cap') (m:=acc.length+1) _ _ e1 e2 ?_
      rw [e1]
      exact ZV ⟨(i+j,acc++[⟨2,ofL ((c::s.data.toList.drop (i+1)).take j),i⟩],o',cap'),by show i+j≤s.size;omega,by show (acc++[_]).length≤i+j;rw [List.length_append,List.length_singleton];omega,nn,by show (s.data.toList.drop (i+j)).length<nn;rw [List.length_drop] at hdl ⊢;omega,fin hsp⟩ (by show s.size - (i+j)<s.size - i;omega) ⟨rfl,rfl,rfl,trivial⟩)
   ·have jlt2:¬((i+j:Nat):Int)<(s.size:Int):=by omega
    have hsp:=Yv (p:=inNum) _ j j3 (by rw [hll];omega) (fun h=>absurd h (by rw [hll];omega))
    repeat' (first|refine YY (m:=acc.length) (m2:=1) (fun o' cap'=>?_) (hroom:=hroom)|refine ZF ?_|refine ZI ?_|refine ZG ?_|refine ZH ?_|refine ZL ?_|refine ZJ ?_|refine ZN ?_|refine ZK (fun b=>?_)|refine ZM (fun b=>?_)|refine ZC ?_|refine ZA ?_|refine ZO ?_|refine Yf (s:=s) (u:=ofL ((c::s.data.toList.drop (i+1)).take j)) i (i+j) (by omega) (by omega) hmid ?_|rw [w1]|(refine ZB (fun hc=>?_) (fun hc=>?_)<;>(try simp at hc)<;>(try omega))|(refine ZE (fun hc=>?_) (fun hc=>?_)<;>(try simp at hc)<;>(try omega)))
    all_goals (
     have e1:acc.length+1=(acc++[(⟨2,ofL ((c::s.data.toList.drop (i+1)).take j),i⟩:Tk)]).length:=by simp
     have e2:acc.flatMap tkm++[.int .u8 110,.string (ofL ((c::s.data.toList.drop (i+1)).take j)),.int .i64 ((i:Int)+1)]=(acc++[(⟨2,ofL ((c::s.data.toList.drop (i+1)).take j),i⟩:Tk)]).flatMap tkm:=by simp [kdB]
     refine YD (T:=110) (sz:=3) (o:=o') (cap:=cap') (m:=acc.length+1) _ _ e1 e2 ?_
     rw [e1]
     exact ZV ⟨(i+j,acc++[⟨2,ofL ((c::s.data.toList.drop (i+1)).take j),i⟩],o',cap'),by show i+j≤s.size;omega,by show (acc++[_]).length≤i+j;rw [List.length_append,List.length_singleton];omega,nn,by show (s.data.toList.drop (i+j)).length<nn;rw [List.length_drop] at hdl ⊢;omega,fin hsp⟩ (by show s.size - (i+j)<s.size - i;omega) ⟨rfl,rfl,rfl,trivial⟩)
  rw [if_neg cl] at hi3
  have qdg:¬(48≤(c.toNat:Int)∧(c.toNat:Int)≤57):=fun h=>cl ((dgt_iff c).2 h)
  by_cases c34:c=34
  ·rw [if_pos (by simpa using c34)] at hi3
   have q34:=k34.2 c34
   obtain ⟨U,hU⟩:∃U,unqF (s.data.toList.drop (i+1)) 1 []=U:=⟨_,rfl⟩
   have hbad:U=none→r=([],i,false):=fun h=>by
    rw [hU,h] at hi3
    exact hi3.symm
   have hgood:∀tx kk,U=some (tx,kk)→scanF nn (s.data.toList.drop (i+kk)) (i+kk) (acc++[⟨3,ofL tx,i⟩])=r:=fun tx kk h=>by
    rw [hU,h] at hi3
    have h4:scanF nn ((c::s.data.toList.drop (i+1)).drop kk) (i+kk) (acc++[⟨3,ofL tx,i⟩])=r:=hi3
    rw [←hdr,List.drop_drop] at h4
    exact h4
   clear hi3
   repeat' (first|refine Zh (s:=s) i c hcc ?_|refine ZF ?_|refine ZI ?_|refine ZG ?_|refine ZH ?_|refine ZL ?_|refine ZJ ?_|refine ZN ?_|refine ZK (fun b=>?_)|refine ZM (fun b=>?_)|refine ZC ?_|refine ZA ?_|rw [w1]|(refine ZB (fun hc=>?_) (fun hc=>?_)<;>(try simp at hc)<;>(try omega))|(refine ZE (fun hc=>?_) (fun hc=>?_)<;>(try simp at hc)<;>(try omega)))
   refine YK (X:={q:Nat×List UInt8 // 1≤q.1∧i+q.1≤s.size∧q.2.length≤q.1∧unqF (s.data.toList.drop (i+q.1)) q.1 q.2=U}) (fun q=>[(0,.string s),(2,.slice o acc.length cap),(5,.int .i64 (i:Int)),(7,.int .i64 ((i+q.1.1:Nat):Int)),(8,.string (ofL q.1.2))]) (fun _=>[]) (fun _=>[Row 110 3 o acc.length cap (acc.flatMap tkm)]) (fun q=>s.size - (i+q.1.1)) ⟨(1,[]),Nat.le_refl _,by show i+1≤_;omega,Nat.zero_le _,hU⟩ ⟨rfl,rfl,rfl,rfl,rfl,trivial⟩ ?_
   rintro ⟨⟨j,tx⟩,j1,j2,j4,j3⟩
   dsimp only at j1 j2 j3 j4 ⊢
   have w2:=wrapi (z:=((i+j:Nat):Int)+1) (by omega) (by omega)
   have w3:=wrapi (z:=((i+j:Nat):Int)+1+1) (by omega) (by omega)
   by_cases jlt:i+j<s.data.toList.length
   ·have hdd:=List.getElem?_eq_getElem jlt
    have hdd2:=List.drop_eq_getElem_cons jlt
    generalize s.data.toList[i+j]=d at *
    have jlt2:i+j<s.size:=by omega
    rw [hdd2] at j3
    have m34:(d.toNat:Int)=34↔d=34:=(u8i (k:=34) (by decide)).symm
    have m92:(d.toNat:Int)=92↔d=92:=(u8i (k:=92) (by decide)).symm
    by_cases d34:d=34
    ·have p34:=m34.2 d34
     rw [d34,unq_34] at j3
     have fin:=hgood _ _ j3.symm
     repeat' (first|refine YY (m:=acc.length) (m2:=1) (fun o' cap'=>?_) (hroom:=hroom)|refine Zh (s:=s) (i+j) d hdd ?_|refine ZF ?_|refine ZI ?_|refine ZG ?_|refine ZH ?_|refine ZL ?_|refine ZJ ?_|refine ZN ?_|refine ZK (fun b=>?_)|refine ZM (fun b=>?_)|refine ZC ?_|refine ZA ?_|refine ZO ?_|rw [w1]|rw [w2]|(refine ZB (fun hc=>?_) (fun hc=>?_)<;>(try simp at hc)<;>(try omega))|(refine ZE (fun hc=>?_) (fun hc=>?_)<;>(try simp at hc)<;>(try omega)))
     all_goals (
      have e1:acc.length+1=(acc++[(⟨3,ofL tx,i⟩:Tk)]).length:=by simp
      have e2:acc.flatMap tkm++[.int .u8 115,.string (ofL tx),.int .i64 ((i:Int)+1)]=(acc++[(⟨3,ofL tx,i⟩:Tk)]).flatMap tkm:=by simp [kdB]
      refine YD (T:=110) (sz:=3) (o:=o') (cap:=cap') (m:=acc.length+1) _ _ e1 e2 ?_
      rw [e1]
      exact ZV ⟨(i+(j+1),acc++[⟨3,ofL tx,i⟩],o',cap'),by show i+(j+1)≤s.size;omega,by show (acc++[_]).length≤i+(j+1);rw [List.length_append,List.length_singleton];omega,nn,by show (s.data.toList.drop (i+(j+1))).length<nn;rw [List.length_drop] at hdl ⊢;omega,fin⟩ (by show s.size - (i+(j+1))<s.size - i;omega) ⟨rfl,rfl,rfl,trivial⟩)
    have p34:¬(d.toNat:Int)=34:=fun h=>d34 (m34.1 h)
    by_cases d92:d=92
    ·have p92:=m92.2 d92
     subst d92
     by_cases klt:i+j+1<s.data.toList.length
     ·have hee:=List.getElem?_eq_getElem klt
      have hee2:=List.drop_eq_getElem_cons klt
      generalize s.data.toList[i+j+1]=e at *
      have klt2:i+j+1<s.size:=by omega
      rw [hee2,unq_92d] at j3
      have hee3:s.data.toList[i+(j+1)]? = some e:=hee
      have n34:(e.toNat:Int)=34↔e=34:=(u8i (k:=34) (by decide)).symm
      have n92:(e.toNat:Int)=92↔e=92:=(u8i (k:=92) (by decide)).symm
      have n110:(e.toNat:Int)=110↔e=110:=(u8i (k:=110) (by decide)).symm
      by_cases ee:e=34∨e=92
      ·rw [if_pos ee] at j3
       have qe:(e.toNat:Int)=34∨(e.toNat:Int)=92:=ee.imp n34.2 n92.2
       have hmid:(s.data.toList.take (i+j+1+1)).drop (i+j+1)=(ofL [e]).data.toList:=by
        rw [YH,List.drop_take,hee2]
        rw [show i+j+1+1 - (i+j+1)=1 by omega];rfl
       have hcat:ofL tx++ofL [e]=ofL (tx++[e]):=ofL_app tx [e]
       repeat' (first|refine Zh (s:=s) (i+j+1) e hee ?_|refine Zh (s:=s) (i+j) 92 hdd ?_|refine ZF ?_|refine ZI ?_|refine ZG ?_|refine ZH ?_|refine ZL ?_|refine ZJ ?_|refine ZN ?_|refine ZK (fun b=>?_)|refine ZM (fun b=>?_)|refine ZC ?_|refine ZA ?_|rw [w2]|rw [w3]|refine Yf (s:=s) (u:=ofL [e]) (i+j+1) (i+j+1+1) (by omega) (by omega) hmid ?_|refine Zj (a:=ofL tx) (b:=ofL [e]) ?_ (h:=by rw [Zs,Zs];simp;omega)|rw [hcat]|(refine ZB (fun hc=>?_) (fun hc=>?_)<;>(try simp at hc)<;>(try omega))|(refine ZE (fun hc=>?_) (fun hc=>?_)<;>(try simp at hc)<;>(try omega)))
       all_goals exact ZV ⟨(j+2,tx++[e]),by show 1≤j+2;omega,by show i+(j+2)≤s.size;omega,by show (tx++[e]).length≤j+2;rw [List.length_append,List.length_singleton];omega,j3⟩ (by show s.size - (i+(j+2))<s.size - (i+j);omega) ⟨rfl,rfl,rfl,rfl,rfl,trivial⟩
      rw [if_neg ee] at j3
      have q34e:¬(e.toNat:Int)=34:=fun h=>ee (.inl (n34.1 h))
      have q92e:¬(e.toNat:Int)=92:=fun h=>ee (.inr (n92.1 h))
      by_cases e110:e=110
      ·rw [if_pos e110] at j3
       have q110:=n110.2 e110
       have hcat:ofL tx++ofL [10]=ofL (tx++[10]):=ofL_app tx [10]
       repeat' (first|refine Zh (s:=s) (i+j+1) e hee ?_|refine Zh (s:=s) (i+j) 92 hdd ?_|refine ZF ?_|refine ZI ?_|refine ZG ?_|refine ZH ?_|refine ZL ?_|refine ZJ ?_|refine ZN ?_|refine ZK (fun b=>?_)|refine ZM (fun b=>?_)|refine ZC ?_|refine ZA ?_|rw [w2]|rw [w3]|refine Zj (a:=ofL tx) (b:=ofL [10]) ?_ (h:=by rw [Zs,Zs];simp;omega)|rw [hcat]|(refine ZB (fun hc=>?_) (fun hc=>?_)<;>(try simp at hc)<;>(try omega))|(refine ZE (fun hc=>?_) (fun hc=>?_)<;>(try simp at hc)<;>(try omega)))
       all_goals exact ZV ⟨(j+2,tx++[10]),by show 1≤j+2;omega,by show i+(j+2)≤s.size;omega,by show (tx++[10]).length≤j+2;rw [List.length_append,List.length_singleton];omega,j3⟩ (by show s.size - (i+(j+2))<s.size - (i+j);omega) ⟨rfl,rfl,rfl,rfl,rfl,trivial⟩
      ·rw [if_neg e110] at j3
       have q110:¬(e.toNat:Int)=110:=fun h=>e110 (n110.1 h)
       obtain rfl:=hbad j3.symm
       repeat' (first|refine Zh (s:=s) (i+j+1) e hee ?_|refine Zh (s:=s) (i+j) 92 hdd ?_|refine ZF ?_|refine ZI ?_|refine ZG ?_|refine ZH ?_|refine ZL ?_|refine ZJ ?_|refine ZN ?_|refine ZK (fun b=>?_)|refine ZM (fun b=>?_)|refine ZC ?_|refine ZA ?_|rw [w1]|rw [w2]|rw [w3]|(refine ZB (fun hc=>?_) (fun hc=>?_)<;>(try simp at hc)<;>(try omega))|(refine ZE (fun hc=>?_) (fun hc=>?_)<;>(try simp at hc)<;>(try omega)))
       all_goals (
        refine Zn (F1:=[]) (f:=TmS none 0 []) (fun hp _=>sl_nil0) ?_
        exact Zv (Zu (Zu (Zi (none,0) rfl trivial))))
     ·have klt2:((i+j:Nat):Int)+1=(s.size:Int):=by omega
      have hdn:s.data.toList.drop (i+j+1)=[]:=List.drop_eq_nil_of_le (by omega)
      rw [hdn,unq_92] at j3
      obtain rfl:=hbad j3.symm
      repeat' (first|refine Zh (s:=s) (i+j) 92 hdd ?_|refine ZF ?_|refine ZI ?_|refine ZG ?_|refine ZH ?_|refine ZL ?_|refine ZJ ?_|refine ZN ?_|refine ZK (fun b=>?_)|refine ZM (fun b=>?_)|refine ZC ?_|refine ZA ?_|rw [w1]|rw [w2]|rw [w3]|(refine ZB (fun hc=>?_) (fun hc=>?_)<;>(try simp at hc)<;>(try omega))|(refine ZE (fun hc=>?_) (fun hc=>?_)<;>(try simp at hc)<;>(try omega)))
      all_goals (
       refine Zn (F1:=[]) (f:=TmS none 0 []) (fun hp _=>sl_nil0) ?_
       exact Zv (Zu (Zu (Zi (none,0) rfl trivial))))
    have p92:¬(d.toNat:Int)=92:=fun h=>d92 (m92.1 h)
    rw [unq_c d34 d92] at j3
    have hmid:(s.data.toList.take (i+j+1)).drop (i+j)=(ofL [d]).data.toList:=by
     rw [YH,List.drop_take,hdd2]
     rw [show i+j+1 - (i+j)=1 by omega];rfl
    have hcat:ofL tx++ofL [d]=ofL (tx++[d]):=ofL_app tx [d]
    repeat' (first|refine Zh (s:=s) (i+j) d hdd ?_|refine ZF ?_|refine ZI ?_|refine ZG ?_|refine ZH ?_|refine ZL ?_|refine ZJ ?_|refine ZN ?_|refine ZK (fun b=>?_)|refine ZM (fun b=>?_)|refine ZC ?_|refine ZA ?_|rw [w2]|refine Yf (s:=s) (u:=ofL [d]) (i+j) (i+j+1) (by omega) (by omega) hmid ?_|refine Zj (a:=ofL tx) (b:=ofL [d]) ?_ (h:=by rw [Zs,Zs];simp;omega)|rw [hcat]|(refine ZB (fun hc=>?_) (fun hc=>?_)<;>(try simp at hc)<;>(try omega))|(refine ZE (fun hc=>?_) (fun hc=>?_)<;>(try simp at hc)<;>(try omega)))
    all_goals exact ZV ⟨(j+1,tx++[d]),by show 1≤j+1;omega,by show i+(j+1)≤s.size;omega,by show (tx++[d]).length≤j+1;rw [List.length_append,List.length_singleton];omega,j3⟩ (by show s.size - (i+(j+1))<s.size - (i+j);omega) ⟨rfl,rfl,rfl,rfl,rfl,trivial⟩
   ·have jlt2:((i+j:Nat):Int)=(s.size:Int):=by omega
    have hdn:s.data.toList.drop (i+j)=[]:=List.drop_eq_nil_of_le (by omega)
    rw [hdn] at j3
    have j3:none=U:=j3
    obtain rfl:=hbad j3.symm
    repeat' (first|refine ZF ?_|refine ZI ?_|refine ZG ?_|refine ZH ?_|refine ZL ?_|refine ZJ ?_|refine ZN ?_|refine ZK (fun b=>?_)|refine ZM (fun b=>?_)|refine ZC ?_|refine ZA ?_|refine ZO ?_|rw [w1]|(refine ZB (fun hc=>?_) (fun hc=>?_)<;>(try simp at hc)<;>(try omega))|(refine ZE (fun hc=>?_) (fun hc=>?_)<;>(try simp at hc)<;>(try omega)))
    all_goals (
     refine Zn (F1:=[]) (f:=TmS none 0 []) (fun hp _=>sl_nil0) ?_
     exact Zv (Zu (Zi (none,0) rfl trivial)))
  rw [if_neg (by simpa using c34)] at hi3
  have q34:¬(c.toNat:Int)=34:=fun h=>c34 (k34.1 h)
  have n8:=Ys symS c
  by_cases cs:isSym c=true
  ·rw [if_pos cs] at hi3
   have hx:0≤Lib.indexByte symS.data.toList c:=by have:=sym_ix c;rw [cs] at this;simpa using this
   have hmid:(s.data.toList.take (i+1)).drop i=(ofL [c]).data.toList:=by
    rw [YH,List.drop_take,hdr]
    rw [show i+1 - i=1 by omega];rfl
   have hkb:kdB ⟨4,ofL [c],i⟩=c.toNat:=kdB4 rfl rfl
   repeat' (first|refine YY (m:=acc.length) (m2:=1) (fun o' cap'=>?_) (hroom:=hroom)|refine Zh (s:=s) i c hcc ?_|refine ZF ?_|refine ZI ?_|refine ZG ?_|refine ZH ?_|refine ZL ?_|refine ZJ ?_|refine ZN ?_|refine ZK (fun b=>?_)|refine ZM (fun b=>?_)|refine ZC ?_|refine ZA ?_|refine ZD (n8) (fun _ _=>?_)|refine l_call0 (n8) (fun _ _=>?_)|refine Yf (s:=s) (u:=ofL [c]) i (i+1) (by omega) (by omega) hmid ?_|rw [w1]|(refine ZB (fun hc=>?_) (fun hc=>?_)<;>(try simp at hc)<;>(try omega))|(refine ZE (fun hc=>?_) (fun hc=>?_)<;>(try simp at hc)<;>(try omega)))
   all_goals (
    have e1:acc.length+1=(acc++[(⟨4,ofL [c],i⟩:Tk)]).length:=by simp
    have e2:acc.flatMap tkm++[.int .u8 c.toNat,.string (ofL [c]),.int .i64 ((i:Int)+1)]=(acc++[(⟨4,ofL [c],i⟩:Tk)]).flatMap tkm:=by simp [hkb]
    refine YD (T:=110) (sz:=3) (o:=o') (cap:=cap') (m:=acc.length+1) _ _ e1 e2 ?_
    rw [e1]
    exact ZV ⟨(i+1,acc++[⟨4,ofL [c],i⟩],o',cap'),by show i+1≤s.size;omega,by show (acc++[_]).length≤i+1;rw [List.length_append,List.length_singleton];omega,nn,by show (s.data.toList.drop (i+1)).length<nn;rw [List.length_drop] at hdl ⊢;omega,hi3⟩ (by show s.size - (i+1)<s.size - i;omega) ⟨rfl,rfl,rfl,trivial⟩)
  ·rw [if_neg cs] at hi3
   subst hi3
   have cs:isSym c=false:=by simpa using cs
   have hx:¬0≤Lib.indexByte symS.data.toList c:=by have:=sym_ix c;rw [cs] at this;simpa using this
   repeat' (first|refine Zh (s:=s) i c hcc ?_|refine ZF ?_|refine ZI ?_|refine ZG ?_|refine ZH ?_|refine ZL ?_|refine ZJ ?_|refine ZN ?_|refine ZK (fun b=>?_)|refine ZM (fun b=>?_)|refine ZC ?_|refine ZA ?_|refine ZD (n8) (fun _ _=>?_)|refine l_call0 (n8) (fun _ _=>?_)|rw [w1]|(refine ZB (fun hc=>?_) (fun hc=>?_)<;>(try simp at hc)<;>(try omega))|(refine ZE (fun hc=>?_) (fun hc=>?_)<;>(try simp at hc)<;>(try omega)))
   all_goals (
    refine Zn (F1:=[]) (f:=TmS none 0 []) (fun hp _=>sl_nil0) ?_
    exact Zv (Zu (Zi (none,0) rfl trivial)))
 ·have hd:s.data.toList.drop i=[]:=List.drop_eq_nil_of_le (by omega)
  rw [hd] at hi3
  have hi3:(acc,i,true)=r:=hi3
  subst hi3
  have hlt2:¬i<s.size:=by omega
  obtain rfl:i=s.size:=by omega
  have w1:=wrapi (z:=(s.size:Int)+1) (by omega) (by omega)
  repeat' (first|refine ZF ?_|refine ZI ?_|refine ZG ?_|refine ZH ?_|refine ZL ?_|refine ZJ ?_|refine ZN ?_|refine ZK (fun b=>?_)|refine ZM (fun b=>?_)|refine ZC ?_|refine ZA ?_|refine ZO ?_|rw [w1]|(refine ZB (fun hc=>?_) (fun hc=>?_)<;>(try simp at hc)<;>(try omega))|(refine ZE (fun hc=>?_) (fun hc=>?_)<;>(try simp at hc)<;>(try omega)))
  refine Xc (T:=110) (sz:=3) (f:=tkm) (o:=o) (cap:=cap) acc ?_ rfl rfl
  exact ZP (o,cap) rfl trivial
end Go.Proofs.YtodkipbnefngkaaGreatDoor
set_option maxRecDepth 10000
namespace Go.Proofs
open Go.Shelf
def Tryz.lays146_ren:Go.Shelf.Ren:=⟨fun|146=>49|221=>75|268=>112|138=>113|143=>82|195=>144|197=>95|218=>145|219=>116|260=>122|217=>48|225=>120|224=>119|267=>148|266=>74|314=>159|n=>n,fun|9=>9|31=>38|3=>3|4=>4|0=>0|105=>163|21=>21|5=>5|46=>118|119=>206|139=>209|138=>208|146=>149|51=>148|n=>n,fun|1=>0|3=>1|4=>2|n=>n⟩
theorem Tryz.lays146:Go.Proofs.Lays.n146 Tryz.prog Tryz.lays146_ren:={
 mixed:=by kernel_rfl
 f138:=Tryz.func113.trans (congrArg some (by kernel_rfl))
 f143:=Tryz.func82.trans (congrArg some (by kernel_rfl))
 f146:=Tryz.func49.trans (congrArg some (by kernel_rfl))
 f195:=Tryz.func144.trans (congrArg some (by kernel_rfl))
 f197:=Tryz.func95.trans (congrArg some (by kernel_rfl))
 f217:=Tryz.func48.trans (congrArg some (by kernel_rfl))
 f218:=Tryz.func145.trans (congrArg some (by kernel_rfl))
 f219:=Tryz.func116.trans (congrArg some (by kernel_rfl))
 f221:=Tryz.func75.trans (congrArg some (by kernel_rfl))
 f224:=Tryz.func119.trans (congrArg some (by kernel_rfl))
 f225:=Tryz.func120.trans (congrArg some (by kernel_rfl))
 f260:=Tryz.func122.trans (congrArg some (by kernel_rfl))
 f266:=Tryz.func74.trans (congrArg some (by kernel_rfl))
 f267:=Tryz.func148.trans (congrArg some (by kernel_rfl))
 f268:=Tryz.func112.trans (congrArg some (by kernel_rfl))
 f314:=Tryz.func159.trans (congrArg some (by kernel_rfl))
 t0:=Tryz.underlying0
 a0:=Tryz.isAgg0
 z0:=Tryz.sizeOf0
 v0:=Tryz.zeroValue0
 t3:=Tryz.underlying3
 a3:=Tryz.isAgg3
 z3:=Tryz.sizeOf3
 v3:=Tryz.zeroValue3
 t4:=Tryz.underlying4
 a4:=Tryz.isAgg4
 z4:=Tryz.sizeOf4
 v4:=Tryz.zeroValue4
 t5:=Tryz.underlying5
 a5:=Tryz.isAgg5
 z5:=Tryz.sizeOf5
 v5:=Tryz.zeroValue5
 t9:=Tryz.underlying9
 a9:=Tryz.isAgg9
 z9:=Tryz.sizeOf9
 v9:=Tryz.zeroValue9
 t21:=Tryz.underlying21
 a21:=Tryz.isAgg21
 z21:=Tryz.sizeOf21
 v21:=Tryz.zeroValue21
 t31:=Tryz.underlying38
 a31:=Tryz.isAgg38
 z31:=Tryz.sizeOf38
 v31:=Tryz.zeroValue38
 t46:=Tryz.underlying118
 a46:=Tryz.isAgg118
 z46:=Tryz.sizeOf118
 v46:=Tryz.zeroValue118
 t51:=Tryz.underlying148
 a51:=Tryz.isAgg148
 z51:=Tryz.sizeOf148
 v51:=Tryz.zeroValue148
 t105:=Tryz.underlying163
 a105:=Tryz.isAgg163
 z105:=Tryz.sizeOf163
 v105:=Tryz.zeroValue163
 t119:=Tryz.underlying206
 a119:=Tryz.isAgg206
 z119:=Tryz.sizeOf206
 t138:=Tryz.underlying208
 a138:=Tryz.isAgg208
 z138:=Tryz.sizeOf208
 v138:=Tryz.zeroValue208
 t139:=Tryz.underlying209
 a139:=Tryz.isAgg209
 z139:=Tryz.sizeOf209
 v139:=Tryz.zeroValue209
 t146:=Tryz.underlying149
 a146:=Tryz.isAgg149
 z146:=Tryz.sizeOf149
 v146:=Tryz.zeroValue149
 g1:=by kernel_rfl
 g3:=by kernel_rfl
 g4:=by kernel_rfl}
end Go.Proofs
namespace Go.Proofs.YtodkipbnefngkaaGreatDoor
open Go.Proofs.Tryz
open Go.RowKit
theorem unq_len:∀(l:List UInt8) (i:Nat) (acc t:List UInt8) (k:Nat),unqF l i acc=some (t,k)→t.length≤acc.length+l.length
 | [],_,_,_,_,h=>by simp [unqF] at h
 | [c],i,acc,t,k,h=>by
  rw [unqF] at h
  split at h
  ·cases h;simp
  ·cases h
 | c::d::r,i,acc,t,k,h=>by
  rw [unqF] at h
  simp only [List.length_cons]
  split at h
  ·cases h;omega
  ·split at h
   ·split at h
    ·have:=unq_len r _ _ _ _ h;rw [List.length_append,List.length_singleton] at this;omega
    ·split at h
     ·have:=unq_len r _ _ _ _ h;rw [List.length_append,List.length_singleton] at this;omega
     ·cases h
   ·have:=unq_len (d::r) _ _ _ _ h
    simp only [List.length_cons,List.length_append,List.length_nil] at this;omega
theorem take_sz (l:List UInt8) (k:Nat):(ofL (l.take k)).size≤l.length:=by rw [Zs,List.length_take];omega
theorem Wh:∀(n:Nat) (l:List UInt8) (i:Nat) (acc:List Tk),l.length≤100000→(∀t ∈ acc,TmOK t)→∀t ∈ (scanF n l i acc).1,TmOK t
 | 0,l,i,acc,_,h=>by unfold scanF;exact h
 | n+1,[],i,acc,_,h=>by unfold scanF;exact h
 | n+1,c::r,i,acc,hl,h=>by
  have add:∀(t:Tk),TmOK t→∀u ∈ acc++[t],TmOK u:=fun t ht u hu=>by
   rcases List.mem_append.1 hu with hu|hu
   ·exact h u hu
   ·rw [List.mem_singleton.1 hu];exact ht
  have hr:r.length≤100000:=by rw [List.length_cons] at hl;omega
  have hd:∀k,((c::r).drop k).length≤100000:=fun k=>by rw [List.length_drop];omega
  unfold scanF
  split
  ·exact h
  ·split
   ·exact Wh n r _ _ hr h
   ·split
    ·exact Wh n _ _ _ (hd _) (add _ ⟨.inl (.inl rfl),Nat.le_trans (take_sz _ _) hl⟩)
    ·split
     ·exact Wh n _ _ _ (hd _) (add _ ⟨.inl (.inr (.inl rfl)),Nat.le_trans (take_sz _ _) hl⟩)
     ·split
      ·split
       ·rename_i t k hu
        exact Wh n _ _ _ (hd _) (add _ ⟨.inl (.inr (.inr rfl)),by
         have:=unq_len _ _ _ _ _ hu
         show (ofL t).size≤_
         rw [Zs];simp only [List.length_nil] at this;omega⟩)
       ·intro t ht;cases ht
      ·split
       ·rename_i hs
        exact Wh n r _ _ hr (add _ ⟨.inr ⟨rfl,c,hs,rfl⟩,by show (ofL [c]).size≤_;rw [Zs,List.length_singleton];omega⟩)
       ·intro t ht;cases ht
theorem scan_cnt:∀(n:Nat) (l:List UInt8) (i:Nat) (acc:List Tk),(scanF n l i acc).1.length≤acc.length+l.length
 | 0,l,i,acc=>by unfold scanF;show acc.length≤_;omega
 | n+1,[],i,acc=>by unfold scanF;show acc.length≤_;omega
 | n+1,c::r,i,acc=>by
  have step:∀(t:Tk) (k j:Nat),1≤k→(scanF n ((c::r).drop k) j (acc++[t])).1.length≤acc.length+(c::r).length:=fun t k j hk=>by
   have:=scan_cnt n ((c::r).drop k) j (acc++[t])
   rw [List.length_append,List.length_singleton,List.length_drop] at this
   rw [List.length_cons] at this ⊢;omega
  unfold scanF
  split
  ·show acc.length≤_;omega
  ·split
   ·have:=scan_cnt n r (i+1) acc
    rw [List.length_cons];omega
   ·split
    ·rename_i hc
     exact step _ _ _ (by simp [spanF,hc])
    ·split
     ·rename_i hc
      exact step _ _ _ (by simp [spanF,inNum,hc])
     ·split
      ·split
       ·rename_i t k hu
        exact step _ _ _ (by have:=(WK _ _ _ _ _ hu).1;omega)
       ·exact Nat.zero_le _
      ·split
       ·have:=step ⟨4,ofL [c],i⟩ 1 (i+1) (Nat.le_refl _)
        exact this
       ·exact Nat.zero_le _
theorem scan_lok {L:List UInt8} (h:L.length≤100000):LOK (scanF (L.length+1) L 0 []).1:=
 ⟨Wh _ _ _ _ h (fun t ht=>by cases ht),by have:=scan_cnt (L.length+1) L 0 [];simp only [List.length_nil] at this;omega,X7 _ _ _ _ (fun t ht=>by cases ht)⟩
theorem splitK_lines:∀(n:Nat) (l:List UInt8),l.length≤n→Lib.splitK [10] 0 (l.count 10) l=linesF l:=by
 intro n
 induction n with
 | zero=>
  intro l h
  cases l with
  | nil=>rfl
  | cons c l=>simp at h
 | succ n ih=>
  intro l h
  have hx:=VP 10 l
  have hta:=X1 (fun x=>!(x == 10)) l
  have hle:=YB (fun x=>!(x == 10)) l
  by_cases hm:spanF (fun x=>!(x == 10)) l=l.length
  ·rw [Vy l hm]
   rw [hm,List.take_length] at hta
   rw [List.count_eq_zero.2 (fun hh=>by have:=hta 10 hh;simp at this)]
   rfl
  ·have hlt:spanF (fun x=>!(x == 10)) l<l.length:=by omega
   have hst:=Wz (fun x=>!(x == 10)) l hlt
   rw [W3 l hlt]
   rw [if_neg hm] at hx
   generalize spanF (fun x=>!(x == 10)) l=m at *
   have hd:=List.drop_eq_getElem_cons hlt
   have h10:l[m]=10:=by simpa using hst
   rw [h10] at hd
   have hc:l.count 10=(l.drop (m+1)).count 10+1:=by
    conv=>lhs;rw [←List.take_append_drop m l,List.count_append,hd,List.count_cons_self]
    rw [List.count_eq_zero.2 (fun hh=>by have:=hta 10 hh;simp at this)];omega
   rw [hc]
   have hi:Lib.index l [10]=(m:Int):=by rw [Lib.index_one,hx]
   have hn:¬(Lib.index l [10] == -1)=true:=fun e=>by have:=beq_iff_eq.1 e;omega
   rw [Lib.splitK,if_neg hn,hi]
   have e1:((m:Int)).toNat+0=m:=by omega
   have e2:((m:Int)).toNat+([10]:List UInt8).length=m+1:=by simp
   rw [e1,e2,ih _ (by rw [List.length_drop];omega)]
theorem split_lines (s:ByteArray):Lib.splitB nlS 0 (Lib.countB s nlS) s=(linesF s.data.toList).map ofL∧Lib.countB s nlS+1=(linesF s.data.toList).length:=by
 have hc:Lib.countB s nlS=s.data.toList.count 10:=Lib.count_one 10 s.data.toList
 have h:=Lib.splitB_data nlS 0 (Lib.countB s nlS) s
 rw [hc] at h
 have h2:(Lib.splitB nlS 0 (s.data.toList.count 10) s).map (·.data.toList)=linesF s.data.toList:=h.trans (splitK_lines _ _ (Nat.le_refl _))
 have h3:(Lib.splitB nlS 0 (s.data.toList.count 10) s)=(linesF s.data.toList).map ofL:=by
  rw [←h2,List.map_map]
  conv=>lhs;rw [←List.map_id (Lib.splitB nlS 0 (s.data.toList.count 10) s)]
  exact List.map_congr_left fun x _=>rfl
 rw [hc]
 refine ⟨h3,?_⟩
 have h4:=Lib.splitB_all nlS (by decide) 0 _ s hc
 rw [h3,List.length_map] at h4
 exact h4.symm
theorem sSplit_ok (s:ByteArray) (hs:s.size≤1000000):Enters 49∧Spec prog 49 #[.string s,.string nlS] [MxL] []
  ⟨Nat,fun b=>.slice (some ⟨b,0,none⟩) (linesF s.data.toList).length (linesF s.data.toList).length,fun _=>True,fun _=>[MxL],fun b=>[Pt b (.cells (((linesF s.data.toList).map ofL).map Value.string).toArray 9)]⟩:=by
 refine ⟨enters_of func49 (by kernel_rfl) rfl,fun G w hp hs0=>?_⟩
 obtain ⟨h1,h2⟩:=split_lines s
 have hs1:=hs0
 obtain ⟨hp',hr,st⟩:=hs0
 obtain ⟨m,T,fz,hm⟩:=st.f MxL (by simp)
 refine (Any.strings_Split Tryz.lays146 (by kernel_rfl) s nlS m w (by omega) (cell_of (st.inp _ _ hm)) (by decide)).mono ?_
 rintro e w' ⟨rfl,rfl⟩
 rw [h1,h2]
 exact ⟨w.heap.size,rfl,trivial,(hs1.alloc _)⟩
end Go.Proofs.YtodkipbnefngkaaGreatDoor
namespace Go.Proofs.YtodkipbnefngkaaGreatDoor
open Go.RowKit Go.Proofs.Tryz
def LnsP (h:H):List RuM→List LC→Prop
 | [],vs=>vs=[]
 | x::l,vs=>∃v ws,vs=v::ws∧(v.k=x.a.k∧v.t=x.a.t∧LnP h x.c v.p)∧LnsP h l ws
theorem lnsP_mono {h k:H} (s:Sub h k):∀(l:List RuM) (vs:List LC),LnsP h l vs→LnsP k l vs
 | [],_,hh=>hh
 | x::l,_,⟨v,ws,h1,⟨h2,h3,h4⟩,h5⟩=>⟨v,ws,h1,⟨h2,h3,lnP_mono s x.c v.p h4⟩,lnsP_mono s l ws h5⟩
def LnsF (l:List RuM) (vs:List LC):Pf:=⟨fun h=>LnsP h l vs,fun _ _ s hh=>lnsP_mono s l vs hh⟩
theorem lnsP_app {h:H} {x:RuM} {v:LC}:∀{l:List RuM} {vs:List LC},LnsP h l vs→v.k=x.a.k∧v.t=x.a.t∧LnP h x.c v.p→LnsP h (l++[x]) (vs++[v])
 | [],_,h1,h2=>by rw [show _=[] from h1];exact ⟨v,[],rfl,h2,rfl⟩
 | y::l,_,⟨u,ws,h1,h3,h4⟩,h2=>by rw [h1];exact ⟨u,ws++[v],rfl,h3,lnsP_app h4 h2⟩
theorem lnsP_get {h:H}:∀{l:List RuM} {vs:List LC} {i:Nat} {x:RuM} {v:LC},LnsP h l vs→l[i]? = some x→vs[i]? = some v→v.k=x.a.k∧v.t=x.a.t∧LnP h x.c v.p
 | y::l,_,0,x,v,⟨u,ws,h1,h3,h4⟩,e1,e2=>by
  subst h1
  cases e1;cases e2;exact h3
 | y::l,_,i+1,x,v,⟨u,ws,h1,h3,h4⟩,e1,e2=>by
  subst h1
  exact lnsP_get h4 e1 e2
abbrev lnS (o:Option Addr) (cap:Nat) (vs:List LC):Pf:=Sl 61 lnf o cap vs
abbrev MpaP (r:Except (Int×Int×Int) (List RuM)):Post:=match r with
 | .ok l=>⟨List LC×Option Addr×Nat,fun q=>.tuple #[.slice q.2.1 q.1.length q.2.2,.int .i64 0,.int .i64 0,.int .i64 0],fun q=>q.1.length=l.length,fun q=>[lnS q.2.1 q.2.2 q.1,LnsF l q.1],fun _=>[]⟩
 | .error x=>⟨Unit,fun _=>.tuple #[.slice none 0 0,.int .i64 x.1,.int .i64 x.2.1,.int .i64 x.2.2],fun _=>True,fun _=>[],fun _=>[]⟩
theorem lineM_eq {e:List UInt8} {n:Nat} {ts:List Tk} {en:Nat} {ok:Bool} (h:scanF (e.length+1) e 0 []=(ts,en,ok)):lineM e n=if ok=false then (none,(en:Int)+1,6) else match ts with
  | []=>(none,0,0)
  | t::_=>if n=256 then (none,t.pl+1,9) else if (ruleM ⟨ts,(en:Int)+1,0,0,0⟩).2.e≠0 then (none,(ruleM ⟨ts,(en:Int)+1,0,0,0⟩).2.cl,(ruleM ⟨ts,(en:Int)+1,0,0,0⟩).2.e) else (some (ruleM ⟨ts,(en:Int)+1,0,0,0⟩).1,0,0):=by
 unfold lineM
 rw [h]
 rfl
def rwF (x:Option RuM×Int×Int) (l:List (List UInt8)) (i:Nat) (acc:List RuM):Except (Int×Int×Int) (List RuM):=match x with
 | (some x,_,_)=>rowsM l (i+1) (acc++[x])
 | (none,a,e)=>if e=0 then rowsM l (i+1) acc else .error ((i:Int)+1,a,e)
theorem XX (e:List UInt8) (l:List (List UInt8)) (i:Nat) (acc:List RuM):rowsM (e::l) i acc=rwF (lineM e acc.length) l i acc:=by
 rw [rowsM]
 rfl
theorem skl_flat:∀ws:List ByteArray,ws.map Value.string=ws.flatMap skl
 | []=>rfl
 | w::ws=>by rw [List.map_cons,List.flatMap_cons,skl_flat ws];rfl
theorem scan_en:∀(n:Nat) (l:List UInt8) (i:Nat) (acc:List Tk),(scanF n l i acc).2.1≤i+l.length
 | 0,l,i,acc=>by unfold scanF;show i≤_;omega
 | n+1,[],i,acc=>by unfold scanF;show i≤_;omega
 | n+1,c::r,i,acc=>by
  have step:∀(a:List Tk) (k:Nat),k≤(c::r).length→(scanF n ((c::r).drop k) (i+k) a).2.1≤i+(c::r).length:=fun a k hk=>by
   have:=scan_en n ((c::r).drop k) (i+k) a
   rw [List.length_drop] at this
   omega
  unfold scanF
  split
  ·show i≤_;omega
  ·split
   ·exact step acc 1 (by rw [List.length_cons];omega)
   ·split
    ·exact step _ _ (YB _ _)
    ·split
     ·exact step _ _ (YB _ _)
     ·split
      ·split
       ·rename_i t k hu
        exact step _ _ (by have:=(WK _ _ _ _ _ hu).2;rw [List.length_cons];omega)
       ·show i≤_;omega
      ·split
       ·exact step _ 1 (by rw [List.length_cons];omega)
       ·show i≤_;omega
set_option maxHeartbeats 8000000 in
theorem mpParse_ok (s:ByteArray) (hs:s.size≤100000):Enters 27∧Spec prog 27 #[.string s] [MxL] [] (MpaP (parM s)):=by
 have hsz:=lsz s
 by_cases hb:65536<s.size
 ·have e:parM s = .error (0,0,5):=if_pos hb
  rw [e]
  refine ZR [_] func27 ntmps27 fun G w hp=>?_
  repeat' (first|refine ZF ?_|refine ZI ?_|refine ZG ?_|refine ZH ?_|refine ZL ?_|refine ZJ ?_|refine ZN ?_|refine ZK (fun b=>?_)|refine ZM (fun b=>?_)|refine ZC ?_|refine ZA ?_|(refine ZB (fun hc=>?_) (fun hc=>?_)<;>(try simp at hc)<;>(try omega))|(refine ZE (fun hc=>?_) (fun hc=>?_)<;>(try simp at hc)<;>(try omega)))
  exact ZP () rfl trivial
 ·have e0:parM s=rowsM (linesF s.data.toList) 0 []:=if_neg hb
  rw [e0]
  obtain ⟨hl1,hl2⟩:=WT s.data.toList
  have n0:=sSplit_ok s (by omega)
  obtain ⟨R,hR⟩:∃R,rowsM (linesF s.data.toList) 0 []=R:=⟨_,rfl⟩
  rw [hR]
  generalize linesF s.data.toList=LS at *
  obtain ⟨ES,hES⟩:∃ES,LS.map ofL=ES:=⟨_,rfl⟩
  have hEl:LS.length=ES.length:=by rw [←hES,List.length_map]
  rw [hES,hEl] at n0
  refine ZR [_] func27 ntmps27 fun G w hp=>?_
  repeat' (first|refine ZF ?_|refine ZI ?_|refine ZG ?_|refine ZH ?_|refine ZL ?_|refine ZJ ?_|refine ZN ?_|refine ZK (fun b=>?_)|refine ZM (fun b=>?_)|refine ZC ?_|refine ZA ?_|refine ZD (n0) (fun _ _=>?_)|refine l_call0 (n0) (fun _ _=>?_)|(refine ZB (fun hc=>?_) (fun hc=>?_)<;>(try simp at hc)<;>(try omega))|(refine ZE (fun hc=>?_) (fun hc=>?_)<;>(try simp at hc)<;>(try omega)))
  rename_i bL _
  refine Yo (b:=bL) (o:=.cells (ES.map Value.string).toArray 9) ?_
  refine Zn (F1:=[Blk bL (.cells (ES.map Value.string).toArray 9)]) (f:=Sl 9 skl (some ⟨bL,0,none⟩) ES.length ES) (fun hp hF=>X8 (hF _ (.head _)) (skl_flat ES) (Nat.le_refl _)) ?_
  refine Z1 (Lx:=[]) (r:=Row 61 3 none 0 0 []) (fun h _=>XC _ _ h) ?_
  refine k_add (f:=LnsF [] []) (fun _=>rfl) ?_
  refine YK (X:={q:Nat×List RuM×List LC×Option Addr×Nat // q.1≤LS.length∧rowsM (LS.drop q.1) q.1 q.2.1=R∧q.2.2.1.length=q.2.1.length∧q.2.1.length≤256}) (fun q=>[(2,.slice q.1.2.2.2.1 q.1.2.2.1.length q.1.2.2.2.2),(17,.slice (some ⟨bL,0,none⟩) ES.length ES.length),(18,.int .i64 (ES.length:Nat)),(19,.int .i64 (q.1.1:Int))]) (fun q=>[Sl 9 skl (some ⟨bL,0,none⟩) ES.length ES,LnsF q.1.2.1 q.1.2.2.1]) (fun q=>[Row 61 3 q.1.2.2.2.1 q.1.2.2.1.length q.1.2.2.2.2 (q.1.2.2.1.flatMap lnf)]) (fun q=>LS.length - q.1.1) ⟨(0,[],[],none,0),Nat.zero_le _,hR,rfl,by decide⟩ ⟨rfl,rfl,rfl,rfl,trivial⟩ ?_
  rintro ⟨⟨i,acc,vs,o,cap⟩,i1,i2,i3,i4⟩
  dsimp only at i1 i2 i3 i4 ⊢
  by_cases hlt:i<LS.length
  ·have hee:=List.getElem?_eq_getElem hlt
   have hdr:=List.drop_eq_getElem_cons hlt
   have hel:=hl2 _ (List.getElem_mem hlt)
   generalize LS[i]=e at *
   rw [hdr] at i2
   have hlt2:(i:Int)<(ES.length:Int):=by omega
   have hee2:ES[i]? = some (ofL e):=by rw [←hES,List.getElem?_map,hee];rfl
   have hes:(ofL e).size≤100000:=by rw [Zs];omega
   have n1:=mpScan_ok (ofL e) hes
   rw [YH] at n1
   have hlok:=scan_lok (L:=e) (by omega)
   have hen:=scan_en (e.length+1) e 0 []
   obtain ⟨⟨ts,en,ok⟩,hsc⟩:∃r,scanF (e.length+1) e 0 []=r:=⟨_,rfl⟩
   rw [hsc] at n1 hlok hen
   have hle:=lineM_eq (n:=acc.length) hsc
   dsimp only at n1 hlok hen
   have w1:=wrapi (z:=(i:Int)+1) (by omega) (by omega)
   have hroom:(2 * (vs.length+1)+200) * 32≤281474976710656:=by omega
   cases ok with
   | false=>
    have n1:Enters 50∧Spec prog 50 #[.string (ofL e)] [] [] ⟨Option Addr×Nat,fun q=>.tuple #[.slice q.1 ts.length q.2,.int .i64 0,.int .i64 ((en:Int)+1)],fun _=>True,fun q=>[TmS q.1 q.2 ts],fun _=>[]⟩:=n1
    rw [if_pos rfl] at hle
    rw [XX,hle] at i2
    have i2:Except.error ((i:Int)+1,(en:Int)+1,6)=R:=by rw [←i2];rfl
    subst i2
    have hbp:0<(en:Int)+1:=by omega
    repeat' (first|refine ZX ?_|refine ZW (es:=ES) (f:=skl) i (ofL e) hee2 (fun b off=>?_)|refine ZF ?_|refine ZI ?_|refine ZG ?_|refine ZH ?_|refine ZL ?_|refine ZJ ?_|refine ZN ?_|refine ZK (fun b=>?_)|refine ZM (fun b=>?_)|refine ZC ?_|refine ZA ?_|refine ZD (n1) (fun _ _=>?_)|refine l_call0 (n1) (fun _ _=>?_)|rw [w1]|(refine ZB (fun hc=>?_) (fun hc=>?_)<;>(try simp at hc)<;>(try omega))|(refine ZE (fun hc=>?_) (fun hc=>?_)<;>(try simp at hc)<;>(try omega)))
    all_goals exact Zv (Zu (Zi () rfl trivial))
   | true=>
    have n1:Enters 50∧Spec prog 50 #[.string (ofL e)] [] [] ⟨Option Addr×Nat,fun q=>.tuple #[.slice q.1 ts.length q.2,.int .i64 ((en:Int)+1),.int .i64 0],fun _=>True,fun q=>[TmS q.1 q.2 ts],fun _=>[]⟩:=n1
    rw [if_neg (by decide)] at hle
    cases ts with
    | nil=>
     rw [XX,hle] at i2
     have i2:rowsM (LS.drop (i+1)) (i+1) acc=R:=by rw [←i2];rfl
     repeat' (first|refine ZX ?_|refine ZW (es:=ES) (f:=skl) i (ofL e) hee2 (fun b off=>?_)|refine ZF ?_|refine ZI ?_|refine ZG ?_|refine ZH ?_|refine ZL ?_|refine ZJ ?_|refine ZN ?_|refine ZK (fun b=>?_)|refine ZM (fun b=>?_)|refine ZC ?_|refine ZA ?_|refine ZD (n1) (fun _ _=>?_)|refine l_call0 (n1) (fun _ _=>?_)|rw [w1]|(refine ZB (fun hc=>?_) (fun hc=>?_)<;>(try simp at hc)<;>(try omega))|(refine ZE (fun hc=>?_) (fun hc=>?_)<;>(try simp at hc)<;>(try omega)))
     all_goals exact ZV ⟨(i+1,acc,vs,o,cap),by show i+1≤LS.length;omega,i2,i3,i4⟩ (by show LS.length - (i+1)<LS.length - i;omega) ⟨rfl,rfl,rfl,rfl,trivial⟩
    | cons t tl=>
     dsimp only at hle
     have hpos:¬(((t::tl).length:Nat):Int)=0:=by rw [List.length_cons];omega
     have hlb:((((t::tl).length:Nat):Int) == 0)=false:=beq_eq_false_iff_ne.2 hpos
     by_cases h256:acc.length=256
     ·rw [if_pos h256] at hle
      rw [XX,hle] at i2
      have i2:Except.error ((i:Int)+1,t.pl+1,9)=R:=by rw [←i2];rfl
      subst i2
      have hv:((vs.length:Nat):Int)=256:=by omega
      have ht0:(t::tl)[0]? = some t:=rfl
      generalize hlt:t::tl=l at *
      repeat' (first|refine ZX ?_|refine ZW (es:=ES) (f:=skl) i (ofL e) hee2 (fun b off=>?_)|rw [hlb]|refine ZF ?_|refine ZI ?_|refine ZG ?_|refine ZH ?_|refine ZL ?_|refine ZJ ?_|refine ZN ?_|refine ZK (fun b=>?_)|refine ZM (fun b=>?_)|refine ZC ?_|refine ZA ?_|refine Zb ?_|refine Zc ?_|refine Zq ?_|refine Zd ?_|refine r_ldN ?_|refine Zr (fun b=>?_)|refine Zo (fun b=>?_)|refine Zp ?_|refine Za ?_|refine ZD (n1) (fun _ _=>?_)|refine l_call0 (n1) (fun _ _=>?_)|refine ZQ (n1) (fun _ _=>?_)|rw [w1]|refine r_ixe (es:=l) (f:=tkm) 0 t ht0 (fun b off=>?_)|refine r_ldC ?_|(refine ZB (fun hc=>?_) (fun hc=>?_)<;>(try simp at hc)<;>(try omega))|(refine ZU (fun hc=>?_) (fun hc=>?_)<;>(try simp at hc)<;>(try omega))|refine ZT 11 [] [(0,0),(1,0),(2,0),(3,0),(4,0),(5,0),(6,0),(7,0),(8,0),(9,0)] [] ?_|(refine ZE (fun hc=>?_) (fun hc=>?_)<;>(try simp at hc)<;>(try omega)))
      all_goals exact Zv (Zu (Zi () rfl trivial))
     ·rw [if_neg h256] at hle
      have hv:¬((vs.length:Nat):Int)=256:=by omega
      have n2:=fun (bp:Nat) (o:Option Addr) (cap:Nat)=>mpRule_ok bp (t::tl) o cap hlok ⟨t::tl,(en:Int)+1,0,0,0⟩ ⟨0,rfl⟩ (Int.le_refl _) (by show (0:Int)≤32;decide)
      dsimp only at n2
      generalize ruleM ⟨t::tl,(en:Int)+1,0,0,0⟩=y at *
      obtain ⟨⟨yc,ya⟩,ym⟩:=y
      dsimp only at n2 hle
      generalize hlt:t::tl=l at *
      by_cases hye:ym.e=0
      ·rw [if_neg (by simpa using hye)] at hle
       rw [XX,hle] at i2
       have i2:rowsM (LS.drop (i+1)) (i+1) (acc++[⟨yc,ya⟩])=R:=i2
       repeat' (first|refine YY (m:=vs.length) (m2:=1) (fun o' cap'=>?_) (hroom:=hroom)|refine ZX ?_|refine ZW (es:=ES) (f:=skl) i (ofL e) hee2 (fun b off=>?_)|rw [hlb]|refine ZF ?_|refine ZI ?_|refine ZG ?_|refine ZH ?_|refine ZL ?_|refine ZJ ?_|refine ZN ?_|refine ZK (fun b=>?_)|refine ZM (fun b=>?_)|refine ZC ?_|refine ZA ?_|refine ZD (n1) (fun _ _=>?_)|refine l_call0 (n1) (fun _ _=>?_)|refine ZD (n2 _ _ _) (fun _ _=>?_)|refine l_call0 (n2 _ _ _) (fun _ _=>?_)|rw [w1]|(refine ZB (fun hc=>?_) (fun hc=>?_)<;>(try simp at hc)<;>(try omega))|(refine ZE (fun hc=>?_) (fun hc=>?_)<;>(try simp at hc)<;>(try omega)))
       rename_i bp q _ bl
       obtain ⟨yp,kq⟩:=q
       have e1:vs.length+1=(vs++[(⟨yp,ya.k,ya.t⟩:LC)]).length:=by simp
       have e2:vs.flatMap lnf++[.pointer yp,.int .i64 ya.k,.string ya.t]=(vs++[(⟨yp,ya.k,ya.t⟩:LC)]).flatMap lnf:=by simp
       refine YD (T:=61) (sz:=3) (o:=o') (cap:=cap') (m:=vs.length+1) _ _ e1 e2 ?_
       rw [e1]
       refine Zn (F1:=[LnsF acc vs,LnF yc yp]) (f:=LnsF (acc++[(⟨yc,ya⟩:RuM)]) (vs++[(⟨yp,ya.k,ya.t⟩:LC)])) (fun hp hF=>lnsP_app (x:=⟨yc,ya⟩) (v:=⟨yp,ya.k,ya.t⟩) (hF _ (.head _)) ⟨rfl,rfl,hF _ (.tail _ (.head _))⟩) ?_
       exact ZV ⟨(i+1,acc++[⟨yc,ya⟩],vs++[⟨yp,ya.k,ya.t⟩],o',cap'),by show i+1≤LS.length;omega,i2,by show (vs++[_]).length=(acc++[_]).length;simp [i3],by show (acc++[_]).length≤256;rw [List.length_append,List.length_singleton];omega⟩ (by show LS.length - (i+1)<LS.length - i;omega) ⟨rfl,rfl,rfl,rfl,trivial⟩
      ·rw [if_pos (by simpa using hye)] at hle
       rw [XX,hle] at i2
       have i2:Except.error ((i:Int)+1,ym.cl,ym.e)=R:=by
        rw [←i2]
        unfold rwF
        dsimp only
        rw [if_neg hye]
       subst i2
       repeat' (first|refine ZX ?_|refine ZW (es:=ES) (f:=skl) i (ofL e) hee2 (fun b off=>?_)|rw [hlb]|refine ZF ?_|refine ZI ?_|refine ZG ?_|refine ZH ?_|refine ZL ?_|refine ZJ ?_|refine ZN ?_|refine ZK (fun b=>?_)|refine ZM (fun b=>?_)|refine ZC ?_|refine ZA ?_|refine Zb ?_|refine Zc ?_|refine Zq ?_|refine Zd ?_|refine r_ldN ?_|refine Zr (fun b=>?_)|refine Zo (fun b=>?_)|refine Zp ?_|refine Za ?_|refine ZD (n1) (fun _ _=>?_)|refine l_call0 (n1) (fun _ _=>?_)|refine ZQ (n1) (fun _ _=>?_)|refine ZD (n2 _ _ _) (fun _ _=>?_)|refine l_call0 (n2 _ _ _) (fun _ _=>?_)|refine ZQ (n2 _ _ _) (fun _ _=>?_)|rw [w1]|(refine ZB (fun hc=>?_) (fun hc=>?_)<;>(try simp at hc)<;>(try omega))|(refine ZU (fun hc=>?_) (fun hc=>?_)<;>(try simp at hc)<;>(try omega))|refine ZT 15 [] [(0,0),(1,0),(2,0),(3,0),(4,0),(5,0),(6,0),(7,0),(8,0),(9,0),(10,0),(11,0),(12,0),(13,0)] [] ?_|(refine ZE (fun hc=>?_) (fun hc=>?_)<;>(try simp at hc)<;>(try omega)))
       all_goals exact Zv (Zu (Zi () rfl trivial))
  ·rw [List.drop_eq_nil_of_le (by omega)] at i2
   have i2:Except.ok acc=R:=i2
   subst i2
   have hlt2:¬(i:Int)<(ES.length:Int):=by omega
   repeat' (first|refine ZF ?_|refine ZI ?_|refine ZG ?_|refine ZH ?_|refine ZL ?_|refine ZJ ?_|refine ZN ?_|refine ZK (fun b=>?_)|refine ZM (fun b=>?_)|refine ZC ?_|refine ZA ?_|refine ZO ?_|(refine ZB (fun hc=>?_) (fun hc=>?_)<;>(try simp at hc)<;>(try omega))|(refine ZE (fun hc=>?_) (fun hc=>?_)<;>(try simp at hc)<;>(try omega)))
   refine Xc (T:=61) (sz:=3) (f:=lnf) (o:=o) (cap:=cap) vs ?_ rfl rfl
   exact ZP (vs,o,cap) rfl i3
theorem cutM_ok (s:ByteArray):Enters 26∧Spec prog 26 #[.string s] [] [] (RetV (.string (cutS s 1000))):=by
 refine ZR [_] func26 ntmps26 fun G w hp=>?_
 repeat' (first|refine ZF ?_|refine ZI ?_|refine ZG ?_|refine ZH ?_|refine ZL ?_|refine ZJ ?_|refine ZN ?_|refine ZK (fun b=>?_)|refine ZM (fun b=>?_)|refine ZC ?_|refine ZA ?_|refine ZO ?_|refine l_cutS 1000 ?_|refine r_cutS 1000 ?_|(refine ZB (fun hc=>?_) (fun hc=>?_)<;>(try simp at hc))|(refine ZE (fun hc=>?_) (fun hc=>?_)<;>(try simp at hc)))
 exact ZP () rfl trivial
theorem par_err {s:ByteArray} {x:Int×Int×Int} (h:parF s = .error x):x.2.2≠0:=by
 have go:∀(l:List (List UInt8)) (i:Nat) (acc:List Ru),rowsF l i acc = .error x→x.2.2≠0:=by
  intro l
  induction l with
  | nil=>intro i acc h;cases h
  | cons s l ih=>
   intro i acc h
   unfold rowsF at h
   split at h
   ·exact ih _ _ h
   ·split at h
    ·exact ih _ _ h
    ·rename_i he
     obtain rfl:=Except.error.inj h
     exact he
 unfold parF at h
 split at h
 ·obtain rfl:=Except.error.inj h
  exact (by decide:(5:Int)≠0)
 ·exact go _ _ _ h
def knS:ByteArray:=⟨#[105,102,32,109,105,115,115,105,110,103,32,97,110,100,32,99,104,97,110,110,101,108,32,109,97,105,108,58,32,99,111,109,112,101,110,115,97,116,101,32,34,80,108,101,97,115,101,32,105,103,110,111,114,101,32,116,104,101,32,109,97,105,108,32,116,111,32,123,116,97,114,103,101,116,125,46,34,10,105,102,32,110,101,119,32,97,110,100,32,110,111,116,32,40,99,104,97,110,110,101,108,32,111,114,100,101,114,32,111,114,32,115,105,122,101,32,62,32,49,48,48,48,41,58,32,115,101,110,100,10,97,115,107,10]⟩
def knT:ByteArray:=⟨#[80,108,101,97,115,101,32,105,103,110,111,114,101,32,116,104,101,32,109,97,105,108,32,116,111,32,123,116,97,114,103,101,116,125,46]⟩
def knX:ByteArray:=⟨#[80,108,101,97,115,101,32,105,103,110,111,114,101,32,116,104,101,32,109,97,105,108,32,116,111,32,97,64,98,46]⟩
def knA:ByteArray:=⟨#[97,64,98]⟩
def wNew:ByteArray:=⟨#[110,101,119]⟩
def wMis:ByteArray:=⟨#[109,105,115,115,105,110,103]⟩
def knL:List Ru:=[⟨some (.all [.kd wMis 2,.ch (wChan++wSp++⟨#[109,97,105,108]⟩) 1]),⟨2,knT⟩⟩,
 ⟨some (.all [.kd wNew 4,.nt (.any [.ch (wChan++wSp++⟨#[111,114,100,101,114]⟩) 3,.nm ((⟨#[115,105,122,101]⟩:ByteArray)++wSp++⟨#[62]⟩++wSp++ofL (Lib.itoa 1000)) 2 2 1000])]),⟨3,ofL []⟩⟩,⟨none,⟨5,ofL []⟩⟩]
set_option maxHeartbeats 4000000 in
theorem kn_par:parF knS = .ok knL:=by kernel_rfl
def ou0:Ou:=⟨0,ofL [],ofL [],0⟩
def kc1:Cq:=⟨2,ofL [],0,0,⟨1,knA,ofL [],0⟩,0,ou0,0⟩
def kc2:Cq:=⟨4,ofL [],0,0,ou0,0,⟨2,ofL [],ofL [],0⟩,0⟩
def kc3:Cq:=⟨4,ofL [],0,0,ou0,0,⟨3,ofL [],ofL [],0⟩,0⟩
theorem kn_1:decideF knL kc1=(⟨2,knX⟩,0):=by kernel_rfl
theorem kn_2:decideF knL kc2=(⟨3,ofL []⟩,1):=by kernel_rfl
theorem kn_3:decideF knL kc3=(⟨5,ofL []⟩,2):=by kernel_rfl
def eqA:List Nat:=[43]
theorem eqA_ok:eqA.all chkE=true:=by decide +kernel
section
variable {n:Nat} {C:Cx} {Q:Exit→Act→World→Prop} {E E':List (Nat×Value)} {F F' F1 Fs F0:List Pf} {R R' R0 Rs N N' A:List HP} {k k':List Fr} {ops l:List Oper} {L L':List (Nat×Nat)} {Tl:List Nat} {i d:Nat} {t t2 ty0:TypeId} {x y:Operand} {pos:String} {aft:Array Edge} {gd:Option (Nat×Bool)} {xs ys:Array Value}
theorem l_seqA {b:Bool} (nx:Wl n C ops.toArray k Q l ((d,.bool b)::E) F R) (hw:wantL ops E ⟨some d,.binOp .eql t x y t2,ty0,pos,aft,gd⟩=some true:=by rfl) (hn:Nat.blt d n=true:=by rfl)
  (hx:ev E x=some (.agg xs):=by rfl) (hy:ev E y=some (.agg ys):=by rfl) (hm:memN eqA t=true:=by rfl) (he:eqC eqA 20 t (.agg xs) (.agg ys)=some b:=by rfl):Wl n C ops.toArray k Q (⟨some d,.binOp .eql t x y t2,ty0,pos,aft,gd⟩::l) E F R:=
 l_q (fun a w ha=>by
  have hc:=List.all_eq_true.1 eqA_ok t (memN_mem hm)
  simp only [chkE,Bool.and_eq_true,beq_iff_eq] at hc
  have h1:=eqC_ok eqA_ok 20 10000 t _ _ b w (by omega) he
  simp only [execOp,ha.ev (x:=x) (by rw [ZS];exact hx),ha.ev (x:=y) (by rw [ZS];exact hy),Sem.run_bind,run_eqGuard_agg w .eql t x y xs ys hc.2,Result.andThen,run_eql_struct,h1,Sem.run_pure]) nx (by intro c h;cases h) hw hn
end
theorem kc_i:CqI kc1∧CqI kc2∧CqI kc3:=by refine ⟨?_,?_,?_⟩<;>constructor<;>decide
theorem kc_s:CqS kc1∧CqS kc2∧CqS kc3:=by refine ⟨?_,?_,?_⟩<;>constructor<;>decide
set_option maxHeartbeats 4000000 in
theorem known51_ok:Enters 17∧Spec prog 17 #[] [ErA,P10,MxL] [] (RetV (.bool true)):=by
 have n1:=VC knS (by decide)
 rw [kn_par] at n1
 obtain ⟨h1,h2⟩:=par_ok kn_par
 have hz:knS.size≤70000:=by decide
 have d1:=fun b=>WQ b knL kc1 kc_i.1 kc_s.1 hz h2 h1
 have d2:=fun b=>WQ b knL kc2 kc_i.2.1 kc_s.2.1 hz h2 h1
 have d3:=fun b=>WQ b knL kc3 kc_i.2.2 kc_s.2.2 hz h2 h1
 rw [kn_1] at d1;rw [kn_2] at d2;rw [kn_3] at d3
 have l1:=fun b=>ruLen_ok b knL
 rw [show knL.length=3 from rfl] at l1
 generalize knL=l at *
 have bX:(knX.toList == (⟨#[80,108,101,97,115,101,32,105,103,110,111,114,101,32,116,104,101,32,109,97,105,108,32,116,111,32,97,64,98,46]⟩:ByteArray).toList)=true:=beqT rfl
 refine ZR [] func17 ntmps17 fun G w hp=>?_
 repeat' (first|rw [bX]|refine ZF ?_|refine ZI ?_|refine ZG ?_|refine ZH ?_|refine ZL ?_|refine ZJ ?_|refine ZN ?_|refine ZK (fun b=>?_)|refine ZM (fun b=>?_)|refine ZC ?_|refine ZA ?_|refine ZO ?_|refine ZD (n1) (fun _ _=>?_)|refine l_call0 (n1) (fun _ _=>?_)|refine ZD (l1 _) (fun _ _=>?_)|refine l_call0 (l1 _) (fun _ _=>?_)|refine ZD (d1 _) (fun _ _=>?_)|refine l_call0 (d1 _) (fun _ _=>?_)|refine ZD (d2 _) (fun _ _=>?_)|refine l_call0 (d2 _) (fun _ _=>?_)|refine ZD (d3 _) (fun _ _=>?_)|refine l_call0 (d3 _) (fun _ _=>?_)|refine l_seqA ?_|(refine ZB (fun hc=>?_) (fun hc=>?_)<;>(try simp at hc)<;>(try omega))|(refine ZE (fun hc=>?_) (fun hc=>?_)<;>(try simp at hc)<;>(try omega)))
 all_goals exact ZP () rfl trivial
def SzR (x:RuM):Prop:=∀t,x.c=some t→SzT t
theorem rule_szM {m:Mq} (h:OkQ m):SzR (ruleM m).1:=by
 rw [XL]
 intro t ht
 dsimp only at ht
 split at ht
 ·obtain rfl:=Option.some.inj ht
  exact ((szM_all _).2.2.2.1 m.pass).2 (h.sf (.pass m))
 ·cases ht
theorem line_szM {s:List UInt8} {n:Nat} {x:RuM} {y:Int×Int} (hs:s.length≤100000) (h:lineM s n=(some x,y)):SzR x:=by
 have hl:=scan_lok hs
 unfold lineM at h
 dsimp only at h
 generalize scanF (s.length+1) s 0 []=r at *
 split at h
 ·cases h
 ·split at h
  ·cases h
  ·split at h
   ·cases h
   ·split at h
    ·cases h
    ·obtain ⟨h1,_⟩:=Prod.mk.inj h
     rw [←Option.some.inj h1]
     exact rule_szM ⟨fun t ht=>(hl.1 t ht).2,hl.2.1⟩
theorem rows_szM:∀(l:List (List UInt8)) (i:Nat) (acc:List RuM),(∀e ∈ l,e.length≤100000)→(∀x ∈ acc,SzR x)→∀r,rowsM l i acc = .ok r→∀x ∈ r,SzR x
 | [],_,acc,_,h,r,hr=>by cases hr;exact h
 | s::l,i,acc,hl,h,r,hr=>by
  unfold rowsM at hr
  split at hr
  ·rename_i x a e hx
   refine rows_szM l (i+1) _ (fun e he=>hl e (.tail _ he)) (fun z hz=>?_) r hr
   rcases List.mem_append.1 hz with hz|hz
   ·exact h z hz
   ·rcases List.mem_singleton.1 hz with rfl
    exact line_szM (hl s (.head _)) hx
  ·split at hr
   ·exact rows_szM l (i+1) acc (fun e he=>hl e (.tail _ he)) h r hr
   ·cases hr
theorem par_both (s:ByteArray):(∃k:List RuM,parM s = .ok k∧parF s = .ok (k.map ruC)∧(∀x ∈ k,WfR x∧SzR x)∧(k.map ruC).length≤256∧∀x ∈ k.map ruC,RuOK s.size x)∨∃x,parM s = .error x∧parF s = .error x∧x.2.2≠0:=by
 have h:=par_sim s
 cases hf:parF s with
 | error x=>
  rw [hf] at h
  cases hm:parM s with
  | error y=>
   rw [hm] at h
   obtain rfl:x=y:=h
   exact .inr ⟨x,rfl,rfl,par_err hf⟩
  | ok k=>rw [hm] at h;exact absurd h id
 | ok a=>
  rw [hf] at h
  obtain ⟨p1,p2⟩:=par_ok hf
  cases hm:parM s with
  | error y=>rw [hm] at h;exact absurd h id
  | ok k=>
   rw [hm] at h
   obtain ⟨rfl,h2⟩:=h
   refine .inl ⟨k,rfl,rfl,fun x hx=>⟨h2 x hx,?_⟩,p1,p2⟩
   unfold parM at hm
   split at hm
   ·cases hm
   ·rename_i hz
    obtain ⟨_,l2⟩:=WT s.data.toList
    exact rows_szM _ 0 [] (fun e he=>by have:=l2 e he;have:=lsz s;omega) (fun x hx=>by cases hx) k hm x hx
def LnX (t:Option Tr5) (p:Option Addr) (q:Nat×TC):Prop:=match t with
 | none=>p=none
 | some _=>p=some ⟨q.1,0,none⟩
def LnY (t:Option Tr5) (q:Nat×TC):List Pf:=match t with
 | none=>[]
 | some t=>[Blk q.1 (.cells (tcf q.2).toArray 65),TcF t q.2]
theorem ln_open {l:List RuM} {vs:List LC} {i:Nat} {x:RuM} {v:LC} (h1:l[i]? = some x) (h2:vs[i]? = some v) (h:H) (hh:(LnsF l vs).p h):∃q:Nat×TC,(LnX x.c v.p q∧v.k=x.a.k∧v.t=x.a.t)∧∀g ∈ LnY x.c q,g.p h:=by
 obtain ⟨g1,g2,g3⟩:=lnsP_get (show LnsP h l vs from hh) h1 h2
 obtain ⟨xc,xa⟩:=x
 dsimp only at g1 g2 g3 ⊢
 cases xc with
 | none=>exact ⟨(0,⟨eB,none,0,0,eB,eB,0⟩),⟨g3,g1,g2⟩,fun g hg=>by cases hg⟩
 | some t=>
  obtain ⟨b,tc,e1,e2,e3⟩:=g3
  exact ⟨(b,tc),⟨e1,g1,g2⟩,fun g hg=>by
   have hg:g ∈ [Blk b (.cells (tcf tc).toArray 65),TcF t tc]:=hg
   simp only [List.mem_cons,List.not_mem_nil,or_false] at hg
   rcases hg with rfl|rfl
   ·exact e2
   ·exact e3⟩
def lnA (acc:ByteArray):Option Tr5→ByteArray
 | none=>acc
 | some c=>acc++tIf++showT (simpT c) 0++tCol
theorem lnM_e (acc:ByteArray) (c:Option Tr5) (k:Int) (t:ByteArray):lnM acc ⟨c,⟨k,t⟩⟩=(if k=2 then lnA acc c++acW5.getD k.toNat eB++wSp++quoF t else lnA acc c++acW5.getD k.toNat eB)++⟨#[10]⟩:=by
 cases c<;>rfl
set_option maxHeartbeats 8000000 in
theorem mpText_ok (l:List RuM) (vs:List LC) (hlen:vs.length=l.length) (o:Option Addr) (cap:Nat) (hl:∀x ∈ l,WfR x∧SzR x) (hnb:∀x ∈ l,∀c,x.c=some c→NbT c) (ha:∀x ∈ l,1≤x.a.k∧x.a.k≤5∧x.a.t.size≤1000000) (hz:(txM l eB).size≤1000000) (hn:l.length≤256):Enters 34∧Spec prog 34 #[.slice o vs.length cap] [lnS o cap vs,LnsF l vs] [] (RetV (.string (txM l eB))):=by
 obtain ⟨R,hR⟩:∃R,txM l eB=R:=⟨_,rfl⟩
 rw [hR] at hz ⊢
 refine ZR [_] func34 ntmps34 fun G w hp=>?_
 repeat' (first|refine ZF ?_|refine ZI ?_|refine ZG ?_|refine ZH ?_|refine ZL ?_|refine ZJ ?_|refine ZN ?_|refine ZK (fun b=>?_)|refine ZM (fun b=>?_)|refine ZC ?_|refine ZA ?_|(refine ZB (fun hc=>?_) (fun hc=>?_)<;>(try simp at hc)<;>(try omega))|(refine ZE (fun hc=>?_) (fun hc=>?_)<;>(try simp at hc)<;>(try omega)))
 refine Yo (b:=b) (o:=.cells (acW5.map Value.string).toArray 9) ?_
 refine Zn (F1:=[Blk b (.cells (acW5.map Value.string).toArray 9)]) (f:=Sl 9 skl (some ⟨b,0,none⟩) 6 acW5) (fun hp hF=>X8 (hF _ (.head _)) rfl (by decide)) ?_
 refine YK (X:={p:Nat×ByteArray // p.1≤l.length∧txM (l.drop p.1) p.2=R}) (fun p=>[(0,.slice o vs.length cap),(3,.string p.1.2),(4,.slice (some ⟨b,0,none⟩) 6 6),(5,.int .i64 (p.1.1:Int))]) (fun _=>[lnS o cap vs,LnsF l vs,Sl 9 skl (some ⟨b,0,none⟩) 6 acW5]) (fun _=>[]) (fun p=>l.length - p.1.1) ⟨(0,eB),Nat.zero_le _,hR⟩ ⟨rfl,rfl,rfl,rfl,trivial⟩ ?_
 rintro ⟨⟨j,acc⟩,hj0,hRj⟩
 dsimp only at hj0 hRj ⊢
 by_cases hlt:j<l.length
 ·have hxj:=List.getElem?_eq_getElem hlt
  rw [List.drop_eq_getElem_cons hlt,txM] at hRj
  obtain ⟨hxw,hxs⟩:=hl _ (List.getElem_mem hlt)
  have hxn:=hnb _ (List.getElem_mem hlt)
  have hxa:=ha _ (List.getElem_mem hlt)
  generalize l[j]=x at *
  have hyj:=List.getElem?_eq_getElem (show j<vs.length by omega)
  generalize vs[j]=y at *
  have hle:=txM_le (l.drop (j+1)) (lnM acc x)
  rw [hRj] at hle
  have w1:=wrapi (z:=(j:Int)+1) (by omega) (by omega)
  have hjv:(j:Int)<(vs.length:Int):=by omega
  have z1:wSp.size=1:=rfl
  have z2:tIf.size=3:=rfl
  have z3:tCol.size=2:=rfl
  have z4:(⟨#[10]⟩:ByteArray).size=1:=rfl
  refine Yb (f:=LnsF l vs) (by repeat (first|exact Sel.here|apply Sel.there)) (fun h hh=>ln_open hxj hyj h hh) (fun q hq=>?_)
  obtain ⟨hq1,hq2,hq3⟩:=hq
  obtain ⟨yp,yk,yt⟩:=y
  obtain ⟨bt,tc⟩:=q
  obtain ⟨xc,xk,xt⟩:=x
  dsimp only at hq1 hq2 hq3 hxa ⊢
  subst hq2;subst hq3
  obtain ⟨a1,a2,a3⟩:=hxa
  have m2:=X4 yt a3
  obtain ⟨k,rfl⟩:∃k:Nat,yk=(k:Int):=⟨yk.toNat,by omega⟩
  have hk5:k<acW5.length:=by show k<6;omega
  have hwj:=List.getElem?_eq_getElem hk5
  have hgd:acW5.getD k eB=acW5[k]:=by simp [List.getD,hwj]
  have hwz:acW5[k].size≤10:=(by decide:∀w ∈ acW5,w.size≤10) _ (List.getElem_mem hk5)
  have hk6:(k:Int)<6:=by omega
  have e0:=lnM_e acc xc (k:Int) yt
  rw [Int.toNat_natCast] at e0
  rw [hgd] at e0
  generalize acW5[k]=wd at *
  rw [e0] at hRj hle
  generalize quoF yt=qt at *
  cases xc with
  | none=>
   have hq1:yp=none:=hq1
   subst hq1
   rw [show lnA acc none=acc from rfl] at hRj hle
   by_cases hk:(k:Int)=2
   ·rw [if_pos hk] at hRj hle
    simp only [ByteArray.size_append] at hle
    repeat' (first|refine Zj (a:=acc++wd++wSp++qt) (b:=(⟨#[10]⟩:ByteArray)) ?_ (h:=by rw [ByteArray.size_append,ByteArray.size_append,ByteArray.size_append];omega)|refine Zj (a:=acc++wd++wSp) (b:=qt) ?_ (h:=by rw [ByteArray.size_append,ByteArray.size_append];omega)|refine Zj (a:=acc++wd) (b:=wSp) ?_ (h:=by rw [ByteArray.size_append];omega)|refine Zj (a:=acc) (b:=wd) ?_ (h:=by omega)|refine ZX ?_|refine ZW (es:=acW5) (f:=skl) k wd hwj (fun b off=>?_)|refine ZW (es:=vs) (f:=lnf) j _ hyj (fun b off=>?_)|refine ZF ?_|refine ZI ?_|refine ZG ?_|refine ZH ?_|refine ZL ?_|refine ZJ ?_|refine ZN ?_|refine ZK (fun b=>?_)|refine ZM (fun b=>?_)|refine ZC ?_|refine ZA ?_|refine ZD (m2) (fun _ _=>?_)|refine l_call0 (m2) (fun _ _=>?_)|rw [w1]|(refine ZB (fun hc=>?_) (fun hc=>?_)<;>(try simp at hc)<;>(try omega))|(refine ZE (fun hc=>?_) (fun hc=>?_)<;>(try simp at hc)<;>(try omega)))
    all_goals exact ZV ⟨(j+1,acc++wd++wSp++qt++(⟨#[10]⟩:ByteArray)),by show j+1≤l.length;omega,hRj⟩ (by show l.length - (j+1)<l.length - j;omega) ⟨rfl,rfl,rfl,rfl,trivial⟩
   ·rw [if_neg hk] at hRj hle
    simp only [ByteArray.size_append] at hle
    repeat' (first|refine Zj (a:=acc++wd) (b:=(⟨#[10]⟩:ByteArray)) ?_ (h:=by rw [ByteArray.size_append];omega)|refine Zj (a:=acc) (b:=wd) ?_ (h:=by omega)|refine ZX ?_|refine ZW (es:=acW5) (f:=skl) k wd hwj (fun b off=>?_)|refine ZW (es:=vs) (f:=lnf) j _ hyj (fun b off=>?_)|refine ZF ?_|refine ZI ?_|refine ZG ?_|refine ZH ?_|refine ZL ?_|refine ZJ ?_|refine ZN ?_|refine ZK (fun b=>?_)|refine ZM (fun b=>?_)|refine ZC ?_|refine ZA ?_|refine ZD (m2) (fun _ _=>?_)|refine l_call0 (m2) (fun _ _=>?_)|rw [w1]|(refine ZB (fun hc=>?_) (fun hc=>?_)<;>(try simp at hc)<;>(try omega))|(refine ZE (fun hc=>?_) (fun hc=>?_)<;>(try simp at hc)<;>(try omega)))
    all_goals exact ZV ⟨(j+1,acc++wd++(⟨#[10]⟩:ByteArray)),by show j+1≤l.length;omega,hRj⟩ (by show l.length - (j+1)<l.length - j;omega) ⟨rfl,rfl,rfl,rfl,trivial⟩
  | some t=>
   have hq1:yp=some ⟨bt,0,none⟩:=hq1
   subst hq1
   rw [show lnA acc (some t)=acc++tIf++showT (simpT t) 0++tCol from rfl] at hRj hle
   have hsh:(showT (simpT t) 0).size≤1000000:=by
    split at hle<;>simp only [ByteArray.size_append] at hle<;>omega
   have m3:=V8 t (hxs t rfl) tc
   have m4:=fun y=>mpShow_ok (simpT t) (simp_sho t (hxw t rfl) (hxs t rfl) (hxn t rfl)) y 0 (by decide) (by decide) hsh
   generalize simpT t=ts at *
   generalize showT ts 0=S at *
   by_cases hk:(k:Int)=2
   ·rw [if_pos hk] at hRj hle
    simp only [ByteArray.size_append] at hle
    repeat' (first|refine Zj (a:=acc++tIf++S++tCol++wd++wSp++qt) (b:=(⟨#[10]⟩:ByteArray)) ?_ (h:=by rw [ByteArray.size_append,ByteArray.size_append,ByteArray.size_append,ByteArray.size_append,ByteArray.size_append,ByteArray.size_append];omega)|refine Zj (a:=acc++tIf++S++tCol++wd++wSp) (b:=qt) ?_ (h:=by rw [ByteArray.size_append,ByteArray.size_append,ByteArray.size_append,ByteArray.size_append,ByteArray.size_append];omega)|refine Zj (a:=acc++tIf++S++tCol++wd) (b:=wSp) ?_ (h:=by rw [ByteArray.size_append,ByteArray.size_append,ByteArray.size_append,ByteArray.size_append];omega)|refine Zj (a:=acc++tIf++S++tCol) (b:=wd) ?_ (h:=by rw [ByteArray.size_append,ByteArray.size_append,ByteArray.size_append];omega)|refine Zj (a:=acc++tIf++S) (b:=tCol) ?_ (h:=by rw [ByteArray.size_append,ByteArray.size_append];omega)|refine Zj (a:=acc++tIf) (b:=S) ?_ (h:=by rw [ByteArray.size_append];omega)|refine Zj (a:=acc) (b:=tIf) ?_ (h:=by omega)|refine ZX ?_|refine ZW (es:=acW5) (f:=skl) k wd hwj (fun b off=>?_)|refine ZW (es:=vs) (f:=lnf) j _ hyj (fun b off=>?_)|refine ZF ?_|refine ZI ?_|refine ZG ?_|refine ZH ?_|refine ZL ?_|refine ZJ ?_|refine ZN ?_|refine ZK (fun b=>?_)|refine ZM (fun b=>?_)|refine ZC ?_|refine ZA ?_|refine ZD (m2) (fun _ _=>?_)|refine l_call0 (m2) (fun _ _=>?_)|refine ZD (m3) (fun _ _=>?_)|refine l_call0 (m3) (fun _ _=>?_)|refine ZD (m4 _) (fun _ _=>?_)|refine l_call0 (m4 _) (fun _ _=>?_)|rw [w1]|(refine ZB (fun hc=>?_) (fun hc=>?_)<;>(try simp at hc)<;>(try omega))|(refine ZE (fun hc=>?_) (fun hc=>?_)<;>(try simp at hc)<;>(try omega)))
    all_goals exact ZV ⟨(j+1,acc++tIf++S++tCol++wd++wSp++qt++(⟨#[10]⟩:ByteArray)),by show j+1≤l.length;omega,hRj⟩ (by show l.length - (j+1)<l.length - j;omega) ⟨rfl,rfl,rfl,rfl,trivial⟩
   ·rw [if_neg hk] at hRj hle
    simp only [ByteArray.size_append] at hle
    repeat' (first|refine Zj (a:=acc++tIf++S++tCol++wd) (b:=(⟨#[10]⟩:ByteArray)) ?_ (h:=by rw [ByteArray.size_append,ByteArray.size_append,ByteArray.size_append,ByteArray.size_append];omega)|refine Zj (a:=acc++tIf++S++tCol) (b:=wd) ?_ (h:=by rw [ByteArray.size_append,ByteArray.size_append,ByteArray.size_append];omega)|refine Zj (a:=acc++tIf++S) (b:=tCol) ?_ (h:=by rw [ByteArray.size_append,ByteArray.size_append];omega)|refine Zj (a:=acc++tIf) (b:=S) ?_ (h:=by rw [ByteArray.size_append];omega)|refine Zj (a:=acc) (b:=tIf) ?_ (h:=by omega)|refine ZX ?_|refine ZW (es:=acW5) (f:=skl) k wd hwj (fun b off=>?_)|refine ZW (es:=vs) (f:=lnf) j _ hyj (fun b off=>?_)|refine ZF ?_|refine ZI ?_|refine ZG ?_|refine ZH ?_|refine ZL ?_|refine ZJ ?_|refine ZN ?_|refine ZK (fun b=>?_)|refine ZM (fun b=>?_)|refine ZC ?_|refine ZA ?_|refine ZD (m2) (fun _ _=>?_)|refine l_call0 (m2) (fun _ _=>?_)|refine ZD (m3) (fun _ _=>?_)|refine l_call0 (m3) (fun _ _=>?_)|refine ZD (m4 _) (fun _ _=>?_)|refine l_call0 (m4 _) (fun _ _=>?_)|rw [w1]|(refine ZB (fun hc=>?_) (fun hc=>?_)<;>(try simp at hc)<;>(try omega))|(refine ZE (fun hc=>?_) (fun hc=>?_)<;>(try simp at hc)<;>(try omega)))
    all_goals exact ZV ⟨(j+1,acc++tIf++S++tCol++wd++(⟨#[10]⟩:ByteArray)),by show j+1≤l.length;omega,hRj⟩ (by show l.length - (j+1)<l.length - j;omega) ⟨rfl,rfl,rfl,rfl,trivial⟩
 ·rw [List.drop_eq_nil_of_le (by omega),txM] at hRj
  subst hRj
  have hjv:¬(j:Int)<(vs.length:Int):=by omega
  repeat' (first|refine ZF ?_|refine ZI ?_|refine ZG ?_|refine ZH ?_|refine ZL ?_|refine ZJ ?_|refine ZN ?_|refine ZK (fun b=>?_)|refine ZM (fun b=>?_)|refine ZC ?_|refine ZA ?_|refine ZO ?_|(refine ZB (fun hc=>?_) (fun hc=>?_)<;>(try simp at hc)<;>(try omega))|(refine ZE (fun hc=>?_) (fun hc=>?_)<;>(try simp at hc)<;>(try omega)))
  all_goals exact ZP () rfl trivial
set_option maxHeartbeats 4000000 in
theorem ruText_ok (bp:Nat) (l:List Ru) {M:Nat} (hM:M≤70000) (hl:∀x ∈ l,RuOK M x) (hn:l.length≤256) (ht:(txR l).length≤900000000):Enters 32∧Spec prog 32 #[pv0 bp] [RlsF bp l] [] (RetV (.string (ofL (txR l)))):=by
 obtain ⟨T,hT⟩:∃T,txR l=T:=⟨_,rfl⟩
 rw [hT] at ht ⊢
 refine ZR [_] func32 ntmps32 fun G w hp=>?_
 refine Yb (X:=List RI×Option Addr×Nat) (f:=RlsF bp l) .here rls_open (fun q hq=>?_)
 obtain ⟨xs,o,cap⟩:=q
 dsimp only at hq ⊢
 repeat' (first|refine ZF ?_|refine ZI ?_|refine ZG ?_|refine ZH ?_|refine ZL ?_|refine ZJ ?_|refine ZN ?_|refine ZK (fun b=>?_)|refine ZM (fun b=>?_)|refine ZC ?_|refine ZA ?_|(refine ZB (fun hc=>?_) (fun hc=>?_)<;>(try simp at hc)<;>(try omega))|(refine ZE (fun hc=>?_) (fun hc=>?_)<;>(try simp at hc)<;>(try omega)))
 generalize b=b3 at *
 refine Z1 (Lx:=[Pt b3 (.cells #[.pointer none,.slice none 0 0] 82)]) (r:=Bdr b3 []) (fun h hh=>bd_new hh) ?_
 refine YK (X:={q:Nat×List UInt8 // q.1≤xs.length∧q.2++txR (l.drop q.1)=T}) (fun q=>[(3,pv0 b3),(11,.slice o xs.length cap),(12,.int .i64 (xs.length:Int)),(13,.int .i64 (q.1.1:Int))]) (fun _=>[Sl 102 rul o cap xs,RusF l xs]) (fun q=>[Bdr b3 q.1.2]) (fun q=>xs.length - q.1.1) ⟨(0,[]),Nat.zero_le _,hT⟩ ⟨rfl,rfl,rfl,rfl,trivial⟩ ?_
 rintro ⟨⟨j,cs⟩,hj,hR⟩
 dsimp only at hj hR ⊢
 by_cases hlt:j<xs.length
 ·have hyj:=List.getElem?_eq_getElem hlt
  have hltc:j<l.length:=by omega
  have hxj:=List.getElem?_eq_getElem hltc
  rw [List.drop_eq_getElem_cons hltc] at hR
  have hx:=hl _ (List.getElem_mem hltc)
  generalize xs[j]=y at *
  generalize l[j]=x at *
  obtain ⟨iv,a⟩:=y
  have w1:=wrapi (z:=(j:Int)+1) (by omega) (by omega)
  refine Yb (X:=Unit) (Fx:=fun _=>[OcF x.c iv]) (p:=fun _=>x.a=a) (f:=RusF l xs) (.there .here) (fun h hh=>?_) (fun _ ha=>?_)
  ·obtain ⟨g1,g2⟩:=rusP_get (show RusP h l xs from hh) hxj hyj
   exact ⟨(),g2,fun g hg=>by rcases List.mem_singleton.1 hg with rfl;exact g1⟩
  subst ha
  have hR:cs++(lnR x++txR (l.drop (j+1)))=T:=hR
  obtain ⟨xc,⟨ak,at_⟩⟩:=x
  refine Yb (X:=Unit) (Fx:=fun _=>[]) (p:=fun _=>(xc=none∧iv=none)∨∃d i,xc=some d∧iv=some i) (f:=OcF xc iv) .here (fun h hh=>⟨(),?_,fun _ hx=>by cases hx⟩) (fun _ hq2=>?_)
  ·have hh:OcP h xc iv:=hh
   cases xc with
   | none=>cases iv with
    | none=>exact .inl ⟨rfl,rfl⟩
    | some i=>exact hh.elim
   | some d=>cases iv with
    | none=>exact hh.elim
    | some i=>exact .inr ⟨d,i,rfl,rfl⟩
  have hk1:=hx.a.1
  have hk2:=hx.a.2.1
  have hat:=hx.t
  dsimp only at hk1 hk2 hat hyj ⊢
  have hk:ak=1∨ak=2∨ak=3∨ak=4∨ak=5:=by omega
  rcases hq2 with ⟨rfl,rfl⟩|⟨d,⟨T1,u⟩,rfl,rfl⟩
  ·have hlen:=congrArg List.length hR
   simp only [lnR,List.length_append,List.length_singleton,List.length_nil] at hlen
   simp only [lnR] at hR
   rw [lsz] at hlen
   rcases hk with hk|hk|hk|hk|hk
   ·obtain rfl:=hk
    have hwz:tKeep.size≤300000:=by decide
    have e0:actB ⟨1,at_⟩=tKeep:=rfl
    rw [e0] at hlen hR
    have n1:=ZY b3 cs tKeep (by first|omega|(simp only [List.length_append,lsz];omega)) (by omega)
    have n2:=Ze b3 (cs++tKeep.data.toList) 10 (by simp only [List.length_append,lsz];omega)
    repeat' (first|refine Ya underlying100 (.inl ⟨rfl,rfl⟩) ?_|refine ZF ?_|refine ZI ?_|refine ZG ?_|refine ZH ?_|refine ZL ?_|refine ZJ ?_|refine ZN ?_|refine ZK (fun b=>?_)|refine ZM (fun b=>?_)|refine ZC ?_|refine ZA ?_|refine ZD (n1) (fun _ _=>?_)|refine l_call0 (n1) (fun _ _=>?_)|refine ZD (n2) (fun _ _=>?_)|refine l_call0 (n2) (fun _ _=>?_)|refine ZW (es:=xs) (f:=rul) j _ hyj (fun b off=>?_)|refine ZX ?_|refine Zj ?_|rw [w1]|(refine ZB (fun hc=>?_) (fun hc=>?_)<;>(try simp at hc)<;>(try omega))|(refine ZE (fun hc=>?_) (fun hc=>?_)<;>(try simp at hc)<;>(try omega)))
    all_goals exact ZV ⟨(j+1,cs++tKeep.data.toList++[10]),by show j+1≤xs.length;omega,by show cs++tKeep.data.toList++[10]++txR (l.drop (j+1))=T;rw [←hR];simp only [List.append_assoc,List.nil_append]⟩ (by show xs.length - (j+1)<xs.length - j;omega) ⟨rfl,rfl,rfl,rfl,trivial⟩
   ·obtain rfl:=hk
    have q0:=Xp at_
    have m0:=W6 at_ (by omega)
    have hwz:(tComp++quoF at_).size≤300000:=by rw [Yn];have:tComp.size=11:=rfl;omega
    have e0:actB ⟨2,at_⟩=(tComp++quoF at_):=rfl
    rw [e0] at hlen hR
    have n1:=ZY b3 cs (tComp++quoF at_) (by first|omega|(simp only [List.length_append,lsz];omega)) (by omega)
    have n2:=Ze b3 (cs++(tComp++quoF at_).data.toList) 10 (by simp only [List.length_append,lsz];omega)
    generalize hqq:quoF at_=qq at *
    repeat' (first|refine Ya underlying100 (.inl ⟨rfl,rfl⟩) ?_|refine ZF ?_|refine ZI ?_|refine ZG ?_|refine ZH ?_|refine ZL ?_|refine ZJ ?_|refine ZN ?_|refine ZK (fun b=>?_)|refine ZM (fun b=>?_)|refine ZC ?_|refine ZA ?_|refine ZD (n1) (fun _ _=>?_)|refine l_call0 (n1) (fun _ _=>?_)|refine ZD (n2) (fun _ _=>?_)|refine l_call0 (n2) (fun _ _=>?_)|refine ZD (m0) (fun _ _=>?_)|refine l_call0 (m0) (fun _ _=>?_)|refine ZW (es:=xs) (f:=rul) j _ hyj (fun b off=>?_)|refine ZX ?_|refine Zj ?_|rw [w1]|(refine ZB (fun hc=>?_) (fun hc=>?_)<;>(try simp at hc)<;>(try omega))|(refine ZE (fun hc=>?_) (fun hc=>?_)<;>(try simp at hc)<;>(try omega)))
    all_goals exact ZV ⟨(j+1,cs++(tComp++qq).data.toList++[10]),by show j+1≤xs.length;omega,by show cs++(tComp++qq).data.toList++[10]++txR (l.drop (j+1))=T;rw [←hR];simp only [List.append_assoc,List.nil_append]⟩ (by show xs.length - (j+1)<xs.length - j;omega) ⟨rfl,rfl,rfl,rfl,trivial⟩
   ·obtain rfl:=hk
    have hwz:tSend.size≤300000:=by decide
    have e0:actB ⟨3,at_⟩=tSend:=rfl
    rw [e0] at hlen hR
    have n1:=ZY b3 cs tSend (by first|omega|(simp only [List.length_append,lsz];omega)) (by omega)
    have n2:=Ze b3 (cs++tSend.data.toList) 10 (by simp only [List.length_append,lsz];omega)
    repeat' (first|refine Ya underlying100 (.inl ⟨rfl,rfl⟩) ?_|refine ZF ?_|refine ZI ?_|refine ZG ?_|refine ZH ?_|refine ZL ?_|refine ZJ ?_|refine ZN ?_|refine ZK (fun b=>?_)|refine ZM (fun b=>?_)|refine ZC ?_|refine ZA ?_|refine ZD (n1) (fun _ _=>?_)|refine l_call0 (n1) (fun _ _=>?_)|refine ZD (n2) (fun _ _=>?_)|refine l_call0 (n2) (fun _ _=>?_)|refine ZW (es:=xs) (f:=rul) j _ hyj (fun b off=>?_)|refine ZX ?_|refine Zj ?_|rw [w1]|(refine ZB (fun hc=>?_) (fun hc=>?_)<;>(try simp at hc)<;>(try omega))|(refine ZE (fun hc=>?_) (fun hc=>?_)<;>(try simp at hc)<;>(try omega)))
    all_goals exact ZV ⟨(j+1,cs++tSend.data.toList++[10]),by show j+1≤xs.length;omega,by show cs++tSend.data.toList++[10]++txR (l.drop (j+1))=T;rw [←hR];simp only [List.append_assoc,List.nil_append]⟩ (by show xs.length - (j+1)<xs.length - j;omega) ⟨rfl,rfl,rfl,rfl,trivial⟩
   ·obtain rfl:=hk
    have hwz:tHold.size≤300000:=by decide
    have e0:actB ⟨4,at_⟩=tHold:=rfl
    rw [e0] at hlen hR
    have n1:=ZY b3 cs tHold (by first|omega|(simp only [List.length_append,lsz];omega)) (by omega)
    have n2:=Ze b3 (cs++tHold.data.toList) 10 (by simp only [List.length_append,lsz];omega)
    repeat' (first|refine Ya underlying100 (.inl ⟨rfl,rfl⟩) ?_|refine ZF ?_|refine ZI ?_|refine ZG ?_|refine ZH ?_|refine ZL ?_|refine ZJ ?_|refine ZN ?_|refine ZK (fun b=>?_)|refine ZM (fun b=>?_)|refine ZC ?_|refine ZA ?_|refine ZD (n1) (fun _ _=>?_)|refine l_call0 (n1) (fun _ _=>?_)|refine ZD (n2) (fun _ _=>?_)|refine l_call0 (n2) (fun _ _=>?_)|refine ZW (es:=xs) (f:=rul) j _ hyj (fun b off=>?_)|refine ZX ?_|refine Zj ?_|rw [w1]|(refine ZB (fun hc=>?_) (fun hc=>?_)<;>(try simp at hc)<;>(try omega))|(refine ZE (fun hc=>?_) (fun hc=>?_)<;>(try simp at hc)<;>(try omega)))
    all_goals exact ZV ⟨(j+1,cs++tHold.data.toList++[10]),by show j+1≤xs.length;omega,by show cs++tHold.data.toList++[10]++txR (l.drop (j+1))=T;rw [←hR];simp only [List.append_assoc,List.nil_append]⟩ (by show xs.length - (j+1)<xs.length - j;omega) ⟨rfl,rfl,rfl,rfl,trivial⟩
   ·obtain rfl:=hk
    have hwz:tAsk.size≤300000:=by decide
    have e0:actB ⟨5,at_⟩=tAsk:=rfl
    rw [e0] at hlen hR
    have n1:=ZY b3 cs tAsk (by first|omega|(simp only [List.length_append,lsz];omega)) (by omega)
    have n2:=Ze b3 (cs++tAsk.data.toList) 10 (by simp only [List.length_append,lsz];omega)
    repeat' (first|refine Ya underlying100 (.inl ⟨rfl,rfl⟩) ?_|refine ZF ?_|refine ZI ?_|refine ZG ?_|refine ZH ?_|refine ZL ?_|refine ZJ ?_|refine ZN ?_|refine ZK (fun b=>?_)|refine ZM (fun b=>?_)|refine ZC ?_|refine ZA ?_|refine ZD (n1) (fun _ _=>?_)|refine l_call0 (n1) (fun _ _=>?_)|refine ZD (n2) (fun _ _=>?_)|refine l_call0 (n2) (fun _ _=>?_)|refine ZW (es:=xs) (f:=rul) j _ hyj (fun b off=>?_)|refine ZX ?_|refine Zj ?_|rw [w1]|(refine ZB (fun hc=>?_) (fun hc=>?_)<;>(try simp at hc)<;>(try omega))|(refine ZE (fun hc=>?_) (fun hc=>?_)<;>(try simp at hc)<;>(try omega)))
    all_goals exact ZV ⟨(j+1,cs++tAsk.data.toList++[10]),by show j+1≤xs.length;omega,by show cs++tAsk.data.toList++[10]++txR (l.drop (j+1))=T;rw [←hR];simp only [List.append_assoc,List.nil_append]⟩ (by show xs.length - (j+1)<xs.length - j;omega) ⟨rfl,rfl,rfl,rfl,trivial⟩
  ·have hlen:=congrArg List.length hR
   simp only [lnR,List.length_append,List.length_singleton] at hlen
   simp only [lnR] at hR
   rw [lsz (actB _)] at hlen
   obtain ⟨hw,hz,hv⟩:=hx.c d rfl
   have e3:tIf.data.toList.length=3:=rfl
   have e5:tIf.size=3:=rfl
   have e6:tCol.size=2:=rfl
   have e4:tCol.data.toList.length=2:=rfl
   rw [e3,e4] at hlen
   have n3:=ZY b3 cs tIf (by omega) (by decide)
   have n4:=V3 d hw (by omega) (ivOf (T1,u)) b3 (cs++tIf.data.toList) (by rw [List.length_append,e3];omega)
   have n5:=ZY b3 (cs++tIf.data.toList++wrC d) tCol (by simp only [List.length_append,e3];omega) (by decide)
   rcases hk with hk|hk|hk|hk|hk
   ·obtain rfl:=hk
    have hwz:tKeep.size≤300000:=by decide
    have e0:actB ⟨1,at_⟩=tKeep:=rfl
    rw [e0] at hlen hR
    have n1:=ZY b3 (cs++tIf.data.toList++wrC d++tCol.data.toList) tKeep (by first|omega|(simp only [List.length_append,lsz];omega)) (by omega)
    have n2:=Ze b3 ((cs++tIf.data.toList++wrC d++tCol.data.toList)++tKeep.data.toList) 10 (by simp only [List.length_append,lsz];omega)
    repeat' (first|refine Ya underlying100 (.inr ⟨⟨_,_,rfl⟩,rfl⟩) ?_|refine ZF ?_|refine ZI ?_|refine ZG ?_|refine ZH ?_|refine ZL ?_|refine ZJ ?_|refine ZN ?_|refine ZK (fun b=>?_)|refine ZM (fun b=>?_)|refine ZC ?_|refine ZA ?_|refine ZD (n1) (fun _ _=>?_)|refine l_call0 (n1) (fun _ _=>?_)|refine ZD (n2) (fun _ _=>?_)|refine l_call0 (n2) (fun _ _=>?_)|refine ZD (n3) (fun _ _=>?_)|refine l_call0 (n3) (fun _ _=>?_)|refine ZD (n5) (fun _ _=>?_)|refine l_call0 (n5) (fun _ _=>?_)|refine Yy n4 (fun _ _=>?_)|refine ZW (es:=xs) (f:=rul) j _ hyj (fun b off=>?_)|refine ZX ?_|refine Zj ?_|rw [w1]|(refine ZB (fun hc=>?_) (fun hc=>?_)<;>(try simp at hc)<;>(try omega))|(refine ZE (fun hc=>?_) (fun hc=>?_)<;>(try simp at hc)<;>(try omega)))
    all_goals exact ZV ⟨(j+1,(cs++tIf.data.toList++wrC d++tCol.data.toList)++tKeep.data.toList++[10]),by show j+1≤xs.length;omega,by show (cs++tIf.data.toList++wrC d++tCol.data.toList)++tKeep.data.toList++[10]++txR (l.drop (j+1))=T;rw [←hR];simp only [List.append_assoc]⟩ (by show xs.length - (j+1)<xs.length - j;omega) ⟨rfl,rfl,rfl,rfl,trivial⟩
   ·obtain rfl:=hk
    have q0:=Xp at_
    have m0:=W6 at_ (by omega)
    have hwz:(tComp++quoF at_).size≤300000:=by rw [Yn];have:tComp.size=11:=rfl;omega
    have e0:actB ⟨2,at_⟩=(tComp++quoF at_):=rfl
    rw [e0] at hlen hR
    have n1:=ZY b3 (cs++tIf.data.toList++wrC d++tCol.data.toList) (tComp++quoF at_) (by first|omega|(simp only [List.length_append,lsz];omega)) (by omega)
    have n2:=Ze b3 ((cs++tIf.data.toList++wrC d++tCol.data.toList)++(tComp++quoF at_).data.toList) 10 (by simp only [List.length_append,lsz];omega)
    generalize hqq:quoF at_=qq at *
    repeat' (first|refine Ya underlying100 (.inr ⟨⟨_,_,rfl⟩,rfl⟩) ?_|refine ZF ?_|refine ZI ?_|refine ZG ?_|refine ZH ?_|refine ZL ?_|refine ZJ ?_|refine ZN ?_|refine ZK (fun b=>?_)|refine ZM (fun b=>?_)|refine ZC ?_|refine ZA ?_|refine ZD (n1) (fun _ _=>?_)|refine l_call0 (n1) (fun _ _=>?_)|refine ZD (n2) (fun _ _=>?_)|refine l_call0 (n2) (fun _ _=>?_)|refine ZD (m0) (fun _ _=>?_)|refine l_call0 (m0) (fun _ _=>?_)|refine ZD (n3) (fun _ _=>?_)|refine l_call0 (n3) (fun _ _=>?_)|refine ZD (n5) (fun _ _=>?_)|refine l_call0 (n5) (fun _ _=>?_)|refine Yy n4 (fun _ _=>?_)|refine ZW (es:=xs) (f:=rul) j _ hyj (fun b off=>?_)|refine ZX ?_|refine Zj ?_|rw [w1]|(refine ZB (fun hc=>?_) (fun hc=>?_)<;>(try simp at hc)<;>(try omega))|(refine ZE (fun hc=>?_) (fun hc=>?_)<;>(try simp at hc)<;>(try omega)))
    all_goals exact ZV ⟨(j+1,(cs++tIf.data.toList++wrC d++tCol.data.toList)++(tComp++qq).data.toList++[10]),by show j+1≤xs.length;omega,by show (cs++tIf.data.toList++wrC d++tCol.data.toList)++(tComp++qq).data.toList++[10]++txR (l.drop (j+1))=T;rw [←hR];simp only [List.append_assoc]⟩ (by show xs.length - (j+1)<xs.length - j;omega) ⟨rfl,rfl,rfl,rfl,trivial⟩
   ·obtain rfl:=hk
    have hwz:tSend.size≤300000:=by decide
    have e0:actB ⟨3,at_⟩=tSend:=rfl
    rw [e0] at hlen hR
    have n1:=ZY b3 (cs++tIf.data.toList++wrC d++tCol.data.toList) tSend (by first|omega|(simp only [List.length_append,lsz];omega)) (by omega)
    have n2:=Ze b3 ((cs++tIf.data.toList++wrC d++tCol.data.toList)++tSend.data.toList) 10 (by simp only [List.length_append,lsz];omega)
    repeat' (first|refine Ya underlying100 (.inr ⟨⟨_,_,rfl⟩,rfl⟩) ?_|refine ZF ?_|refine ZI ?_|refine ZG ?_|refine ZH ?_|refine ZL ?_|refine ZJ ?_|refine ZN ?_|refine ZK (fun b=>?_)|refine ZM (fun b=>?_)|refine ZC ?_|refine ZA ?_|refine ZD (n1) (fun _ _=>?_)|refine l_call0 (n1) (fun _ _=>?_)|refine ZD (n2) (fun _ _=>?_)|refine l_call0 (n2) (fun _ _=>?_)|refine ZD (n3) (fun _ _=>?_)|refine l_call0 (n3) (fun _ _=>?_)|refine ZD (n5) (fun _ _=>?_)|refine l_call0 (n5) (fun _ _=>?_)|refine Yy n4 (fun _ _=>?_)|refine ZW (es:=xs) (f:=rul) j _ hyj (fun b off=>?_)|refine ZX ?_|refine Zj ?_|rw [w1]|(refine ZB (fun hc=>?_) (fun hc=>?_)<;>(try simp at hc)<;>(try omega))|(refine ZE (fun hc=>?_) (fun hc=>?_)<;>(try simp at hc)<;>(try omega)))
    all_goals exact ZV ⟨(j+1,(cs++tIf.data.toList++wrC d++tCol.data.toList)++tSend.data.toList++[10]),by show j+1≤xs.length;omega,by show (cs++tIf.data.toList++wrC d++tCol.data.toList)++tSend.data.toList++[10]++txR (l.drop (j+1))=T;rw [←hR];simp only [List.append_assoc]⟩ (by show xs.length - (j+1)<xs.length - j;omega) ⟨rfl,rfl,rfl,rfl,trivial⟩
   ·obtain rfl:=hk
    have hwz:tHold.size≤300000:=by decide
    have e0:actB ⟨4,at_⟩=tHold:=rfl
    rw [e0] at hlen hR
    have n1:=ZY b3 (cs++tIf.data.toList++wrC d++tCol.data.toList) tHold (by first|omega|(simp only [List.length_append,lsz];omega)) (by omega)
    have n2:=Ze b3 ((cs++tIf.data.toList++wrC d++tCol.data.toList)++tHold.data.toList) 10 (by simp only [List.length_append,lsz];omega)
    repeat' (first|refine Ya underlying100 (.inr ⟨⟨_,_,rfl⟩,rfl⟩) ?_|refine ZF ?_|refine ZI ?_|refine ZG ?_|refine ZH ?_|refine ZL ?_|refine ZJ ?_|refine ZN ?_|refine ZK (fun b=>?_)|refine ZM (fun b=>?_)|refine ZC ?_|refine ZA ?_|refine ZD (n1) (fun _ _=>?_)|refine l_call0 (n1) (fun _ _=>?_)|refine ZD (n2) (fun _ _=>?_)|refine l_call0 (n2) (fun _ _=>?_)|refine ZD (n3) (fun _ _=>?_)|refine l_call0 (n3) (fun _ _=>?_)|refine ZD (n5) (fun _ _=>?_)|refine l_call0 (n5) (fun _ _=>?_)|refine Yy n4 (fun _ _=>?_)|refine ZW (es:=xs) (f:=rul) j _ hyj (fun b off=>?_)|refine ZX ?_|refine Zj ?_|rw [w1]|(refine ZB (fun hc=>?_) (fun hc=>?_)<;>(try simp at hc)<;>(try omega))|(refine ZE (fun hc=>?_) (fun hc=>?_)<;>(try simp at hc)<;>(try omega)))
    all_goals exact ZV ⟨(j+1,(cs++tIf.data.toList++wrC d++tCol.data.toList)++tHold.data.toList++[10]),by show j+1≤xs.length;omega,by show (cs++tIf.data.toList++wrC d++tCol.data.toList)++tHold.data.toList++[10]++txR (l.drop (j+1))=T;rw [←hR];simp only [List.append_assoc]⟩ (by show xs.length - (j+1)<xs.length - j;omega) ⟨rfl,rfl,rfl,rfl,trivial⟩
   ·obtain rfl:=hk
    have hwz:tAsk.size≤300000:=by decide
    have e0:actB ⟨5,at_⟩=tAsk:=rfl
    rw [e0] at hlen hR
    have n1:=ZY b3 (cs++tIf.data.toList++wrC d++tCol.data.toList) tAsk (by first|omega|(simp only [List.length_append,lsz];omega)) (by omega)
    have n2:=Ze b3 ((cs++tIf.data.toList++wrC d++tCol.data.toList)++tAsk.data.toList) 10 (by simp only [List.length_append,lsz];omega)
    repeat' (first|refine Ya underlying100 (.inr ⟨⟨_,_,rfl⟩,rfl⟩) ?_|refine ZF ?_|refine ZI ?_|refine ZG ?_|refine ZH ?_|refine ZL ?_|refine ZJ ?_|refine ZN ?_|refine ZK (fun b=>?_)|refine ZM (fun b=>?_)|refine ZC ?_|refine ZA ?_|refine ZD (n1) (fun _ _=>?_)|refine l_call0 (n1) (fun _ _=>?_)|refine ZD (n2) (fun _ _=>?_)|refine l_call0 (n2) (fun _ _=>?_)|refine ZD (n3) (fun _ _=>?_)|refine l_call0 (n3) (fun _ _=>?_)|refine ZD (n5) (fun _ _=>?_)|refine l_call0 (n5) (fun _ _=>?_)|refine Yy n4 (fun _ _=>?_)|refine ZW (es:=xs) (f:=rul) j _ hyj (fun b off=>?_)|refine ZX ?_|refine Zj ?_|rw [w1]|(refine ZB (fun hc=>?_) (fun hc=>?_)<;>(try simp at hc)<;>(try omega))|(refine ZE (fun hc=>?_) (fun hc=>?_)<;>(try simp at hc)<;>(try omega)))
    all_goals exact ZV ⟨(j+1,(cs++tIf.data.toList++wrC d++tCol.data.toList)++tAsk.data.toList++[10]),by show j+1≤xs.length;omega,by show (cs++tIf.data.toList++wrC d++tCol.data.toList)++tAsk.data.toList++[10]++txR (l.drop (j+1))=T;rw [←hR];simp only [List.append_assoc]⟩ (by show xs.length - (j+1)<xs.length - j;omega) ⟨rfl,rfl,rfl,rfl,trivial⟩
 ·rw [List.drop_eq_nil_of_le (by omega)] at hR
  have hR:cs++[]=T:=hR
  rw [List.append_nil] at hR
  subst hR
  have n1:=Xb b3 cs (by omega)
  repeat' (first|refine ZF ?_|refine ZI ?_|refine ZG ?_|refine ZH ?_|refine ZL ?_|refine ZJ ?_|refine ZN ?_|refine ZK (fun b=>?_)|refine ZM (fun b=>?_)|refine ZC ?_|refine ZA ?_|refine ZO ?_|refine ZD (n1) (fun _ _=>?_)|refine l_call0 (n1) (fun _ _=>?_)|(refine ZB (fun hc=>?_) (fun hc=>?_)<;>(try simp at hc)<;>(try omega))|(refine ZE (fun hc=>?_) (fun hc=>?_)<;>(try simp at hc)<;>(try omega)))
  exact ZP () rfl trivial
theorem ruEqual_ok (p q:Value) (F:List Pf) (s t:ByteArray) (h1:Enters 32∧Spec prog 32 #[p] F [] (RetV (.string s))) (h2:Enters 32∧Spec prog 32 #[q] F [] (RetV (.string t))) :
  Enters 33∧Spec prog 33 #[p,q] F [] (RetV (.bool (s.toList == t.toList))):=by
 refine ZR [_,_] func33 ntmps33 fun G w hp=>?_
 repeat' (first|refine ZF ?_|refine ZI ?_|refine ZG ?_|refine ZH ?_|refine ZL ?_|refine ZJ ?_|refine ZN ?_|refine ZK (fun b=>?_)|refine ZM (fun b=>?_)|refine ZC ?_|refine ZA ?_|refine ZO ?_|refine ZD h1 (fun _ _=>?_) (hF:=entF_self _)|refine ZD h2 (fun _ _=>?_) (hF:=entF_app _ _)|(refine ZB (fun hc=>?_) (fun hc=>?_)<;>(try simp at hc))|(refine ZE (fun hc=>?_) (fun hc=>?_)<;>(try simp at hc)))
 exact ZP () rfl trivial
theorem specSub {P:Program} {f:FuncId} {args:Array Value} {F F1:List Pf} {R:List HP} {post:Post} (h:∀x ∈ F,x ∈ F1) (s:Spec P f args F R post):Spec P f args F1 R post:=fun G w hp hs=>s G w hp (hs.facts fun _ hh x hx=>hh x (h x hx))
set_option maxHeartbeats 8000000 in
theorem lawParses_ok (s:ByteArray):Enters 12∧Spec prog 12 #[.string s] [ErA,P10,MxL] [] (RetV (.bool true)):=by
 have n1:=known51_ok
 have n2:=cutM_ok s
 have hcz:=cutS_size s 1000
 generalize cutS s 1000=u at *
 have p1:=VC u (by omega)
 have p2:=mpParse_ok u (by omega)
 rcases par_both u with ⟨k,e1,e2,hk,hk1,hk2⟩|⟨x,e1,e2,hx⟩
 ·have hpl:=par_len e2
  have hag:=par_again e2 (by omega) hk1
  have htx:=par_txM e1 e2
  have hpd:=par_pd e1
  have hac:=par_ac e2
  rw [e1] at p2
  rw [e2] at p1
  have p2:Enters 27∧Spec prog 27 #[.string u] [MxL] [] ⟨List LC×Option Addr×Nat,fun q=>.tuple #[.slice q.2.1 q.1.length q.2.2,.int .i64 0,.int .i64 0,.int .i64 0],fun q=>q.1.length=k.length,fun q=>[lnS q.2.1 q.2.2 q.1,LnsF k q.1],fun _=>[]⟩:=p2
  have hml:(k.map ruC).length=k.length:=List.length_map _
  have hz:(ofL (txR (k.map ruC))).size≤38000:=by rw [Zs];omega
  have p3:=VC (ofL (txR (k.map ruC))) (by omega)
  rw [hag] at p3
  have t1:=fun b=>ruText_ok b (k.map ruC) (show u.size≤70000 by omega) hk2 hk1 (by omega)
  have l1:=fun b=>ruLen_ok b (k.map ruC)
  rw [hml] at l1
  have t2:=fun (q:List LC) (h:q.length=k.length) (o:Option Addr) (cap:Nat)=>mpText_ok k q h o cap hk (fun x hx c hc=>pd_nb (hpd x hx c hc)) (fun x hx=>by
   have a:=hac (ruC x) (List.mem_map.2 ⟨x,hx,rfl⟩)
   have b:=(hk2 (ruC x) (List.mem_map.2 ⟨x,hx,rfl⟩)).t
   exact ⟨a.1,a.2.1,Nat.le_trans b (by omega)⟩) (by rw [htx];omega) (by omega)
  rw [htx] at t2
  generalize k.map ruC=rs at *
  have qe:=fun b c=>ruEqual_ok (pv0 b) (pv0 c) [RlsF b rs,RlsF c rs] (ofL (txR rs)) (ofL (txR rs)) ((t1 b).imp_right (specSub fun x hx=>by rw [List.mem_singleton.1 hx];exact .head _)) ((t1 c).imp_right (specSub fun x hx=>by rw [List.mem_singleton.1 hx];exact .tail _ (.head _)))
  have b0:((ofL (txR rs)).toList == (ofL (txR rs)).toList)=true:=beqT rfl
  rw [b0] at qe
  generalize ofL (txR rs)=T at *
  have b1:(T.toList == T.toList)=true:=beqT rfl
  have b2:(((k.length:Nat):Int) == ((k.length:Nat):Int))=true:=beq_self_eq_true _
  refine ZR [_] func12 ntmps12 fun G w hp=>?_
  repeat' (first|rw [b2]|rw [b1]|refine ZF ?_|refine ZI ?_|refine ZG ?_|refine ZH ?_|refine ZL ?_|refine ZJ ?_|refine ZN ?_|refine ZK (fun b=>?_)|refine ZM (fun b=>?_)|refine ZC ?_|refine ZA ?_|refine ZO ?_|refine ZD (n1) (fun _ _=>?_)|refine l_call0 (n1) (fun _ _=>?_)|refine ZD (n2) (fun _ _=>?_)|refine l_call0 (n2) (fun _ _=>?_)|refine ZD (p1) (fun _ _=>?_)|refine l_call0 (p1) (fun _ _=>?_)|refine ZD (p2) (fun _ _=>?_)|refine l_call0 (p2) (fun _ _=>?_)|refine ZD (p3) (fun _ _=>?_)|refine l_call0 (p3) (fun _ _=>?_)|refine ZD (t1 _) (fun _ _=>?_)|refine l_call0 (t1 _) (fun _ _=>?_)|refine ZD (l1 _) (fun _ _=>?_)|refine l_call0 (l1 _) (fun _ _=>?_)|refine ZD (t2 _ (by assumption) _ _) (fun _ _=>?_)|refine l_call0 (t2 _ (by assumption) _ _) (fun _ _=>?_)|refine ZD (qe _ _) (fun _ _=>?_)|refine l_call0 (qe _ _) (fun _ _=>?_)|(refine ZB (fun hc=>?_) (fun hc=>?_)<;>(try simp at hc)<;>(try omega))|(refine ZE (fun hc=>?_) (fun hc=>?_)<;>(try simp at hc)<;>(try omega)))
  all_goals exact ZP () rfl trivial
 ·rw [e1] at p2
  rw [e2] at p1
  obtain ⟨x1,x2,x3⟩:=x
  dsimp only at hx
  refine ZR [_] func12 ntmps12 fun G w hp=>?_
  repeat' (first|refine ZF ?_|refine ZI ?_|refine ZG ?_|refine ZH ?_|refine ZL ?_|refine ZJ ?_|refine ZN ?_|refine ZK (fun b=>?_)|refine ZM (fun b=>?_)|refine ZC ?_|refine ZA ?_|refine ZO ?_|refine ZD (n1) (fun _ _=>?_)|refine l_call0 (n1) (fun _ _=>?_)|refine ZD (n2) (fun _ _=>?_)|refine l_call0 (n2) (fun _ _=>?_)|refine ZD (p1) (fun _ _=>?_)|refine l_call0 (p1) (fun _ _=>?_)|refine ZD (p2) (fun _ _=>?_)|refine l_call0 (p2) (fun _ _=>?_)|(refine ZB (fun hc=>?_) (fun hc=>?_)<;>(try simp at hc)<;>(try omega))|(refine ZE (fun hc=>?_) (fun hc=>?_)<;>(try simp at hc)<;>(try omega)))
  all_goals (refine ZP () ?_ trivial;show Value.bool _=Value.bool true;simp)
end Go.Proofs.YtodkipbnefngkaaGreatDoor
