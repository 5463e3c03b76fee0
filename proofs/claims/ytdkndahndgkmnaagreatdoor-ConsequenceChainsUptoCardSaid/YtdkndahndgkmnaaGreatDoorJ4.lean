/-
  Keys of actions: their order, the search for one.
  The contract of sort.Search, and the search for a key.
  The search for a key in a run, and for a number in a list.
  The writers of a name in a run.
  What was written last for a name, in one run and in two.
  What was written last for a name; whether the values of a name differ.
  Whether the values of a name differ in two runs.
  The step that a difference of a name comes of.
  The reason for a step of one run alone.
  Equality of lists of changes and of lists of reasons.
  What has changed between two actions.
  The reason for a difference of one step.
  A map of slices that are owned.
  A run is made ready: who has written what.
  Why a step differs: the chain of reasons.
  Whether a chain of reasons is the chain.
  The makers of outputs: the program's and the statements'.
  The contract of consequence.Equal.
  The step that made an output of a consequence.
  A rule for the literals of maps.
  The chain behind a consequence.
  copy between parts of an owned slice.
  copy between parts of one owned slice, where the order is drawn.
  The statements' sorted: changes in the order of their names.
  Rules for texts that are joined.
  A byte as a text; decimal numerals.
  The statements' actions: a run of actions.
  What is written is read again; no program in sight.
  The contract of the statements' example, known.
  Texts cut as far as they go.
  The law ConsequenceMakers.
  The law ConsequenceChains.
  Conditions: those that each theorem states.
-/
import Derived.Test.YtdkndahndgkmnaaGreatDoorJ3
import Derived.Test.YtdkndahndgkmnaaGreatDoorJ1
import Derived.Test.YtdkndahndgkmnaaGreatDoorJ2
import Derived.Lib.ItoaNum
set_option maxRecDepth 10000
namespace Go.Proofs.YtdkndahndgkmnaaGreatDoor
open Go.RowKit Go.Proofs.Tryz
theorem or4_ok (b:Nat) (x y z u:Int):Enters 94∧Spec prog 94 #[.slice (some ⟨b,0,none⟩) 4 4] [] [Pt b (.cells #[.int .i64 x,.int .i64 y,.int .i64 z,.int .i64 u] 3)] (RetV (.int .i64 (or0 [x,y,z,u]))):=by
 refine ⟨enters_of func94 (by kernel_rfl) rfl,fun G w hp hs=>?_⟩
 have h1:=(hs.shut (R:=[]) (L:=[Pt b (.cells #[.int .i64 x,.int .i64 y,.int .i64 z,.int .i64 u] 3)]) (x:=Row 3 1 (some ⟨b,0,none⟩) 4 4 [.int .i64 x,.int .i64 y,.int .i64 z,.int .i64 u]) fun h hh=>row_pt rfl h hh)
 have h2:=frz_row (f:=zf) (es:=[x,y,z,u]) rfl rfl Sel.here h1
 exact Yu (or_ok (some ⟨b,0,none⟩) 4 [x,y,z,u] (by simp)) h2 .nil (fun hp hF f hf=>by simp at hf;subst hf;exact hF _ (by simp)) fun x w' hx h3=>⟨x,rfl,hx,h3.facts (F':=[]) (fun _ _ _ h=>by cases h)⟩
theorem Y2 (a b:Ky) (ha:a.l.size≤1000) (hb:b.l.size≤1000):Enters 45∧Spec prog 45 #[kyv a,kyv b] [] [] (RetV (.int .i64 (kcmp a b))):=by
 have n1:=Y9 a.l b.l (by omega) (by omega)
 unfold kcmp
 refine Zb [_,_] func45 ntmps45 fun G w hp=>?_
 repeat' (first|refine ZH ?_|refine ZG ?_|refine ZK ?_|refine ZI ?_|refine ZP ?_|refine ZJ ?_|refine ZM ?_|refine ZN (fun b=>?_)|refine ZO (fun b=>?_)|refine ZA ?_|refine ZB ?_|refine ZR ?_|refine ZZ ?_|refine ZW ?_|refine Zf ?_|refine Za ?_|refine ZY ?_|refine Ze (fun b=>?_)|refine Zg (fun b=>?_)|refine Zd ?_|refine ZX ?_|refine ZF (XD _ _) (fun _ _=>?_)|refine l_call0 (XD _ _) (fun _ _=>?_)|refine ZT (XD _ _) (fun _ _=>?_)|refine ZF (n1) (fun _ _=>?_)|refine l_call0 (n1) (fun _ _=>?_)|refine ZT (n1) (fun _ _=>?_)|refine ZF (or4_ok _ _ _ _ _) (fun _ _=>?_)|refine l_call0 (or4_ok _ _ _ _ _) (fun _ _=>?_)|refine ZT (or4_ok _ _ _ _ _) (fun _ _=>?_)|(refine ZC (fun hc=>?_) (fun hc=>?_)<;>(try simp at hc))|(refine ZL (fun hc=>?_) (fun hc=>?_)<;>(try simp at hc))|refine ZD 1 [] [(0,0),(1,0),(2,0),(3,0),(5,0),(6,0),(7,0),(8,0),(10,0),(11,0),(12,0),(13,0),(15,0),(16,0),(17,0),(18,0),(4,4),(9,4),(14,4),(19,4),(20,1),(21,4),(22,0)] [] ?_|(refine ZE (fun hc=>?_) (fun hc=>?_)<;>(try simp at hc)))
 exact ZS () rfl trivial
theorem incr_step {l:List Ak} {j:Nat} {a b:Ak} (h1:l[j]? = some a) (h2:l[j+1]? = some b):incrF (l.drop j)=(decide (kcmp a.k b.k<0) && incrF (l.drop (j+1))):=by
 obtain ⟨g1,e1⟩:=List.getElem?_eq_some_iff.1 h1
 obtain ⟨g2,e2⟩:=List.getElem?_eq_some_iff.1 h2
 rw [List.drop_eq_getElem_cons g1,List.drop_eq_getElem_cons g2,e1,e2,incrF]
theorem incr_end {l:List Ak} {j:Nat} (h:l.length≤j+1):incrF (l.drop j)=true:=by
 have:(l.drop j).length≤1:=by rw [List.length_drop];omega
 match l.drop j,this with
 | [],_=>rfl
 | [_],_=>rfl
set_option maxHeartbeats 4000000 in
theorem WC (l:List Ak) (vs:List Akc) (o:Option Addr) (cap:Nat) (hlen:vs.length=l.length) (hb:l.length≤1000) (hw:∀a ∈ l,AkOK a):Enters 40∧Spec prog 40 #[.slice o vs.length cap] [AkS o cap vs,AksF l vs] [] (RetV (.bool (incrF l))):=by
 obtain ⟨R,hR⟩:∃R,incrF l=R:=⟨_,rfl⟩
 rw [hR]
 refine Zb [_] func40 ntmps40 fun G w hp=>?_
 repeat' (first|refine ZH ?_|refine ZG ?_|refine ZK ?_|refine ZI ?_|refine ZP ?_|refine ZJ ?_|refine ZM ?_|refine ZN (fun b=>?_)|refine ZO (fun b=>?_)|refine ZA ?_|refine ZB ?_|(refine ZC (fun hc=>?_) (fun hc=>?_)<;>(try simp at hc)<;>(try omega))|(refine ZE (fun hc=>?_) (fun hc=>?_)<;>(try simp at hc)<;>(try omega)))
 refine Z6 (X:={j:Nat // incrF (l.drop j)=R∧j≤l.length}) (fun j=>[(0,.slice o vs.length cap),(3,.int .i64 ((j.1+1:Nat):Int))]) (fun _=>[AkS o cap vs,AksF l vs]) (fun _=>[]) (fun j=>vs.length - j.1) ⟨0,hR,Nat.zero_le _⟩ ⟨rfl,rfl,trivial⟩ ?_
 rintro ⟨j,hRj,hjl⟩
 dsimp only at hRj ⊢
 by_cases hlt:j+1<vs.length
 ·have hj1:j<l.length:=by omega
  have hj2:j+1<l.length:=by omega
  have x1:=List.getElem?_eq_getElem hj1
  have x2:=List.getElem?_eq_getElem hj2
  have y1:=List.getElem?_eq_getElem (show j<vs.length by omega)
  have y2:=List.getElem?_eq_getElem hlt
  have k1:=(hw _ (List.getElem_mem hj1)).1
  have k2:=(hw _ (List.getElem_mem hj2)).1
  generalize l[j]=a at *
  generalize l[j+1]=b at *
  generalize vs[j]=u at *
  generalize vs[j+1]=v at *
  rw [incr_step x1 x2] at hRj
  refine Z1 (f:=AksF l vs) (.there .here) (fun h hh=>YL x1 y1 h hh) (fun q hq=>?_)
  obtain ⟨⟨ro,rc⟩,wo,wc⟩:=q
  dsimp only at hq ⊢
  subst hq
  refine Z1 (f:=AksF l vs) (by repeat (first|exact Sel.here|apply Sel.there)) (fun h hh=>YL x2 y2 h hh) (fun q hq=>?_)
  obtain ⟨⟨ro2,rc2⟩,wo2,wc2⟩:=q
  dsimp only at hq ⊢
  subst hq
  have n1:=Y2 a.k b.k k1 k2
  have w1:IntKind.i64.wrap (((j+1:Nat):Int) - 1)=(j:Int):=by rw [wrapi (by omega) (by omega)];omega
  have w2:IntKind.i64.wrap (((j+1:Nat):Int)+1)=((j+1+1:Nat):Int):=by rw [wrapi (by omega) (by omega)];omega
  generalize kcmp a.k b.k=z at *
  repeat' (first|refine ZH ?_|refine ZG ?_|refine ZK ?_|refine ZI ?_|refine ZP ?_|refine ZJ ?_|refine ZM ?_|refine ZN (fun b=>?_)|refine ZO (fun b=>?_)|refine ZA ?_|refine ZB ?_|refine ZZ ?_|refine ZW ?_|refine Zf ?_|refine Za ?_|refine ZY ?_|refine Ze (fun b=>?_)|refine Zg (fun b=>?_)|refine Zd ?_|refine ZX ?_|refine ZF (n1) (fun _ _=>?_)|refine l_call0 (n1) (fun _ _=>?_)|refine ZT (n1) (fun _ _=>?_)|rw [w1]|rw [w2]|refine YG (es:=vs) (f:=akf) j _ y1 (fun b off=>?_)|refine YG (es:=vs) (f:=akf) (j+1) _ y2 (fun b off=>?_)|refine Yf ?_|(refine ZC (fun hc=>?_) (fun hc=>?_)<;>(try simp at hc)<;>(try omega))|(refine ZL (fun hc=>?_) (fun hc=>?_)<;>(try simp at hc)<;>(try omega))|refine ZD 4 [] [(0,0),(1,0),(2,0),(3,0),(4,0),(5,0),(6,0),(7,0),(8,0),(9,0),(10,0),(11,4),(12,0)] [] ?_|(refine ZE (fun hc=>?_) (fun hc=>?_)<;>(try simp at hc)<;>(try omega)))
  ·rw [decide_eq_false (by omega),Bool.false_and] at hRj
   subst hRj
   exact YR (YX (Z4 () rfl trivial))
  ·rw [decide_eq_true (by omega),Bool.true_and] at hRj
   exact Zc ⟨j+1,hRj,by omega⟩ (by show vs.length - (j+1)<vs.length - j;omega) ⟨rfl,rfl,trivial⟩
 ·rw [incr_end (by omega)] at hRj
  subst hRj
  repeat' (first|refine ZH ?_|refine ZG ?_|refine ZK ?_|refine ZI ?_|refine ZP ?_|refine ZJ ?_|refine ZM ?_|refine ZN (fun b=>?_)|refine ZO (fun b=>?_)|refine ZA ?_|refine ZB ?_|refine ZR ?_|(refine ZC (fun hc=>?_) (fun hc=>?_)<;>(try simp at hc)<;>(try omega))|(refine ZE (fun hc=>?_) (fun hc=>?_)<;>(try simp at hc)<;>(try omega)))
  exact ZS () rfl trivial
abbrev pvE (b:Nat):Value:=.pointer (some ⟨b,0,none⟩)
theorem X5 {f:FuncId} {cs:Array Value} {vs:List Value} {F:List Pf} {R:List HP} {post:Post} (spec:Enters f∧Spec prog f (vs.toArray++cs) F R post):SpecV (.func (.func f) #[] cs) vs F R post:=by
 intro G w hp hsat
 unfold CallsV OpRes
 have e1:(invoke (.fn (.func f) cs) (#[]++vs.toArray)).run prog w = .ok (.enter f (vs.toArray++cs)) w:=by
  simp only [invoke]
  rw [show (#[]++vs.toArray:Array Value)=vs.toArray by rw [←Array.toList_inj];simp]
  exact spec.1 _ w
 simp only [e1]
 refine Calls.mono (spec.2 G w hp hsat) ?_
 rintro e w' ⟨x,rfl,hx,hs⟩
 exact ⟨x,rfl,hx,hs⟩
set_option maxHeartbeats 4000000 in
theorem WA (v:Value) (n:Nat) (p:Nat→Bool) (Fc:Pf) (hn:n≤100000) (hf:∀i,i<n→SpecV v [.int .i64 (i:Int)] [Fc] [] (RetV (.bool (p i)))):Enters 141∧Spec prog 141 #[.int .i64 (n:Int),v] [Fc] [] (RetV (.int .i64 (bsF p n 0 n:Nat))):=by
 obtain ⟨R,hR⟩:∃R,bsF p n 0 n=R:=⟨_,rfl⟩
 rw [hR]
 refine Zb [_,_] func141 ntmps141 fun G w hp=>?_
 repeat' (first|refine ZH ?_|refine ZG ?_|refine ZK ?_|refine ZI ?_|refine ZP ?_|refine ZJ ?_|refine ZM ?_|refine ZN (fun b=>?_)|refine ZO (fun b=>?_)|refine ZA ?_|refine ZB ?_|(refine ZC (fun hc=>?_) (fun hc=>?_)<;>(try simp at hc)<;>(try omega))|(refine ZE (fun hc=>?_) (fun hc=>?_)<;>(try simp at hc)<;>(try omega)))
 refine Z6 (X:={q:Nat×Nat×Nat // q.2.2 - q.2.1≤q.1∧q.2.1≤q.2.2∧q.2.2≤n∧bsF p q.1 q.2.1 q.2.2=R}) (fun q=>[(1,v),(5,.int .i64 (q.1.2.1:Int)),(6,.int .i64 (q.1.2.2:Int))]) (fun _=>[Fc]) (fun _=>[]) (fun q=>q.1.1) ⟨(n,0,n),Nat.le_refl _,Nat.zero_le _,Nat.le_refl _,hR⟩ ⟨rfl,rfl,rfl,trivial⟩ ?_
 rintro ⟨⟨f,i,j⟩,h1,h2,h3,hRj⟩
 dsimp only at h1 h2 h3 hRj ⊢
 by_cases hlt:i<j
 ·obtain ⟨f,rfl⟩:∃g,f=g+1:=⟨f - 1,by omega⟩
  rw [bsF,if_pos hlt] at hRj
  have n1:=hf ((i+j) / 2) (by omega)
  have w1:IntKind.i64.wrap ((i:Int)+(j:Int))=((i+j:Nat):Int):=by rw [wrapi (by omega) (by omega)];omega
  have w2:IntKind.u64.wrap ((i+j:Nat):Int)=((i+j:Nat):Int):=Xs (by omega)
  have w3:((i+j:Nat):Int).fdiv (2 ^ min (Int.toNat 1) IntKind.u64.bits)=(((i+j) / 2:Nat):Int):=by
   have e:(2:Int) ^ min (Int.toNat 1) IntKind.u64.bits=2:=rfl
   rw [e,Int.fdiv_eq_ediv_of_nonneg _ (by decide)];omega
  have w4:=wrapi (z:=(((i+j) / 2:Nat):Int)) (by omega) (by omega)
  have w5:IntKind.i64.wrap ((((i+j) / 2:Nat):Int)+1)=(((i+j) / 2+1:Nat):Int):=by rw [wrapi (by omega) (by omega)];omega
  cases hp2:p ((i+j) / 2) with
  | true=>
   rw [hp2] at n1 hRj
   rw [if_pos rfl] at hRj
   generalize hh:(i+j) / 2=q at *
   repeat' (first|refine ZH ?_|refine ZG ?_|refine ZK ?_|refine ZI ?_|refine ZP ?_|refine ZJ ?_|refine ZM ?_|refine ZN (fun b=>?_)|refine ZO (fun b=>?_)|refine ZA ?_|refine ZB ?_|rw [w1]|rw [w2]|rw [w3]|rw [w4]|refine Yg n1 (fun _ _=>?_)|(refine ZC (fun hc=>?_) (fun hc=>?_)<;>(try simp at hc)<;>(try omega))|(refine ZE (fun hc=>?_) (fun hc=>?_)<;>(try simp at hc)<;>(try omega)))
   exact Zc ⟨(f,i,q),by show q - i≤f;omega,by show i≤q;omega,by show q≤n;omega,hRj⟩ (Nat.lt_succ_self f) ⟨rfl,rfl,rfl,trivial⟩
  | false=>
   rw [hp2] at n1 hRj
   rw [if_neg (by decide)] at hRj
   generalize hh:(i+j) / 2=q at *
   repeat' (first|refine ZH ?_|refine ZG ?_|refine ZK ?_|refine ZI ?_|refine ZP ?_|refine ZJ ?_|refine ZM ?_|refine ZN (fun b=>?_)|refine ZO (fun b=>?_)|refine ZA ?_|refine ZB ?_|rw [w1]|rw [w2]|rw [w3]|rw [w4]|rw [w5]|refine Yg n1 (fun _ _=>?_)|(refine ZC (fun hc=>?_) (fun hc=>?_)<;>(try simp at hc)<;>(try omega))|(refine ZE (fun hc=>?_) (fun hc=>?_)<;>(try simp at hc)<;>(try omega)))
   exact Zc ⟨(f,q+1,j),by show j - (q+1)≤f;omega,by show q+1≤j;omega,h3,hRj⟩ (Nat.lt_succ_self f) ⟨rfl,rfl,rfl,trivial⟩
 ·have hRj:i=R:=by
   cases f with
   | zero=>exact hRj
   | succ f=>rw [bsF,if_neg hlt] at hRj;exact hRj
  subst hRj
  repeat' (first|refine ZH ?_|refine ZG ?_|refine ZK ?_|refine ZI ?_|refine ZP ?_|refine ZJ ?_|refine ZM ?_|refine ZN (fun b=>?_)|refine ZO (fun b=>?_)|refine ZA ?_|refine ZB ?_|refine ZR ?_|(refine ZC (fun hc=>?_) (fun hc=>?_)<;>(try simp at hc)<;>(try omega))|(refine ZE (fun hc=>?_) (fun hc=>?_)<;>(try simp at hc)<;>(try omega)))
  exact ZS () rfl trivial
abbrev rnv (o:Option Addr) (n cap r:Nat):Value:=.agg #[.slice o n cap,.map (some r)]
abbrev rnf (o:Option Addr) (n cap r:Nat):List Value:=[.slice o n cap,.map (some r)]
theorem srchCl_ok (b2 b3:Nat) (l:List Ak) (vs:List Akc) (o:Option Addr) (cap r:Nat) (hb:l.length≤1000) (hw:∀a ∈ l,AkOK a) (k:Ky) (hk:k.l.size≤1000) (i:Nat) (a:Ak) (hi:l[i]? = some a) (hlen:vs.length=l.length) :
  Enters 142∧Spec prog 142 #[.int .i64 (i:Int),pvE b2,pvE b3] [AkS o cap vs,AksF l vs,Blk b2 (.cells (rnf o vs.length cap r).toArray 122),Blk b3 (.cells (kyf k).toArray 41)] [] (RetV (.bool (decide (0≤kcmp a.k k)))):=by
 have hli:i<l.length:=(List.getElem?_eq_some_iff.1 hi).1
 have hyj:=List.getElem?_eq_getElem (show i<vs.length by omega)
 generalize vs[i]=v at *
 have hao:=hw a (List.mem_of_getElem? hi)
 have n1:=Y2 a.k k hao.1 hk
 refine Zb [_,_,_] func142 ntmps142 fun G w hp=>?_
 refine Z1 (f:=AksF l vs) (.there .here) (fun h hh=>YL hi hyj h hh) (fun q hq=>?_)
 obtain ⟨⟨ro,rc⟩,wo,wc⟩:=q
 dsimp only at hq ⊢
 subst hq
 repeat' (first|refine ZH ?_|refine ZG ?_|refine ZK ?_|refine ZI ?_|refine ZP ?_|refine ZJ ?_|refine ZM ?_|refine ZN (fun b=>?_)|refine ZO (fun b=>?_)|refine ZA ?_|refine ZB ?_|refine ZZ ?_|refine ZW ?_|refine Zf ?_|refine Za ?_|refine ZY ?_|refine Ze (fun b=>?_)|refine Zg (fun b=>?_)|refine Zd ?_|refine ZX ?_|refine ZF (n1) (fun _ _=>?_)|refine l_call0 (n1) (fun _ _=>?_)|refine ZT (n1) (fun _ _=>?_)|refine YG (es:=vs) (f:=akf) i _ hyj (fun b off=>?_)|refine Yf ?_|(refine ZC (fun hc=>?_) (fun hc=>?_)<;>(try simp at hc)<;>(try omega))|(refine ZL (fun hc=>?_) (fun hc=>?_)<;>(try simp at hc)<;>(try omega))|refine ZD 1 [] [(0,0),(1,0),(2,0),(3,0),(4,0),(5,0),(6,0),(7,4),(8,0),(9,0)] [] ?_|(refine ZE (fun hc=>?_) (fun hc=>?_)<;>(try simp at hc)<;>(try omega)))
 exact ZS () rfl trivial
def allPf (F:List Pf):Pf:=⟨fun h=>∀f ∈ F,f.p h,fun _ _ s h f hf=>f.m _ _ s (h f hf)⟩
theorem specPack {P:Program} {f:FuncId} {args:Array Value} {F:List Pf} {R:List HP} {post:Post} (s:Enters f∧Spec P f args F R post):Enters f∧Spec P f args [allPf F] R post:=⟨s.1,fun G w hp hs=>s.2 G w hp (hs.facts fun _ h x hx=>h (allPf F) (.head _) x hx)⟩
def geP (l:List Ak) (k:Ky) (i:Nat):Bool:=match l[i]? with
 | some a=>decide (0≤kcmp a.k k)
 | none=>true
theorem srchF_eq (l:List Ak) (k:Ky):srchF l k=bsF (geP l k) l.length 0 l.length:=rfl
theorem srch_le (l:List Ak) (k:Ky):srchF l k≤l.length:=bsF_le _ _ _ _ (Nat.zero_le _)
set_option maxHeartbeats 4000000 in
theorem Wx (l:List Ak) (vs:List Akc) (o:Option Addr) (cap r:Nat) (hlen:vs.length=l.length) (hb:l.length≤1000) (hw:∀a ∈ l,AkOK a) (k:Ky) (hk:k.l.size≤1000) :
  Enters 90∧Spec prog 90 #[rnv o vs.length cap r,kyv k] [AkS o cap vs,AksF l vs] [] (RetV (.tuple #[.int .i64 (srchF l k:Nat),.bool (atF l k).isSome])):=by
 have hsl:=srch_le l k
 have n1:=fun (b2 b3:Nat)=>WA (.func (.func 142) #[] #[pvE b2,pvE b3]) l.length (geP l k) (allPf [AkS o cap vs,AksF l vs,Blk b2 (.cells (rnf o vs.length cap r).toArray 122),Blk b3 (.cells (kyf k).toArray 41)]) (by omega) (fun i hi=>by
  have hx:=List.getElem?_eq_getElem hi
  have e:geP l k i=decide (0≤kcmp l[i].k k):=by unfold geP;rw [hx]
  rw [e]
  exact X5 (specPack (srchCl_ok b2 b3 l vs o cap r hb hw k hk i l[i] hx hlen)))
 rw [←srchF_eq,←hlen] at n1
 obtain ⟨A,hA⟩:∃A,(atF l k).isSome=A:=⟨_,rfl⟩
 rw [hA]
 unfold atF at hA
 generalize srchF l k=s at *
 refine Zb [_,_] func90 ntmps90 fun G w hp=>?_
 repeat' (first|refine YZ (o:=.cells (kyf k).toArray 41) ?_|refine YZ (o:=.cells (rnf o vs.length cap r).toArray 122) ?_|refine ZH ?_|refine ZG ?_|refine ZK ?_|refine ZI ?_|refine ZP ?_|refine ZJ ?_|refine ZM ?_|refine ZN (fun b=>?_)|refine ZO (fun b=>?_)|refine ZA ?_|refine ZB ?_|(refine ZC (fun hc=>?_) (fun hc=>?_)<;>(try simp at hc)<;>(try omega))|(refine ZE (fun hc=>?_) (fun hc=>?_)<;>(try simp at hc)<;>(try omega)))
 rename_i b2
 generalize b=b3 at *
 refine l_mk (F1:=[AkS o cap vs,AksF l vs,Blk b2 (.cells (rnf o vs.length cap r).toArray 122),Blk b3 (.cells (kyf k).toArray 41)]) (f:=allPf [AkS o cap vs,AksF l vs,Blk b2 (.cells (rnf o vs.length cap r).toArray 122),Blk b3 (.cells (kyf k).toArray 41)]) (fun hp hF f hf=>hF f hf) ?_
 have n2:=n1 b2 b3
 by_cases hlt:s<l.length
 ·have hx:=List.getElem?_eq_getElem hlt
  have hy:=List.getElem?_eq_getElem (show s<vs.length by omega)
  have hao:=hw _ (List.getElem_mem hlt)
  generalize l[s]=a at *
  generalize vs[s]=v at *
  rw [hx] at hA
  dsimp only at hA
  have n3:=Y2 a.k k hao.1 hk
  have b0:decide ((s:Int)<(vs.length:Int))=true:=decide_eq_true (by omega)
  refine l_fact (f:=AksF l vs) (by repeat (first|exact Sel.here|apply Sel.there)) (fun h hh=>YL hx hy h hh) (fun q hq=>?_)
  obtain ⟨⟨ro,rc⟩,wo,wc⟩:=q
  dsimp only at hq ⊢
  subst hq
  have hA2:A=(kcmp a.k k == 0):=by
   rw [←hA]
   by_cases hz:kcmp a.k k=0
   ·rw [if_pos hz,hz];rfl
   ·rw [if_neg hz];simp [hz]
  subst hA2
  generalize kcmp a.k k=z at *
  repeat' (first|refine ZH ?_|refine ZG ?_|refine ZK ?_|refine ZI ?_|refine ZP ?_|refine ZJ ?_|refine ZM ?_|refine ZN (fun b=>?_)|refine ZO (fun b=>?_)|refine ZA ?_|refine ZB ?_|refine ZZ ?_|refine ZW ?_|refine Zf ?_|refine Za ?_|refine ZY ?_|refine Ze (fun b=>?_)|refine Zg (fun b=>?_)|refine Zd ?_|refine ZX ?_|refine ZF (n2) (fun _ _=>?_)|refine l_call0 (n2) (fun _ _=>?_)|refine ZT (n2) (fun _ _=>?_)|refine ZF (n3) (fun _ _=>?_)|refine l_call0 (n3) (fun _ _=>?_)|refine ZT (n3) (fun _ _=>?_)|rw [b0]|refine YG (es:=vs) (f:=akf) s _ hy (fun b off=>?_)|refine Yf ?_|(refine ZC (fun hc=>?_) (fun hc=>?_)<;>(try simp at hc)<;>(try omega))|(refine ZL (fun hc=>?_) (fun hc=>?_)<;>(try simp at hc)<;>(try omega))|refine ZD 2 [] [(0,0),(1,0),(2,0),(3,0),(4,0),(5,0),(6,0),(7,0),(8,0),(9,0),(10,0),(11,0),(12,0),(13,0),(14,4),(15,0),(16,0),(17,0),(18,0)] [] ?_|(refine ZE (fun hc=>?_) (fun hc=>?_)<;>(try simp at hc)<;>(try omega)))
  exact ZS () rfl trivial
 ·rw [List.getElem?_eq_none (by omega)] at hA
  subst hA
  have b0:decide ((s:Int)<(vs.length:Int))=false:=decide_eq_false (by omega)
  repeat' (first|refine ZH ?_|refine ZG ?_|refine ZK ?_|refine ZI ?_|refine ZP ?_|refine ZJ ?_|refine ZM ?_|refine ZN (fun b=>?_)|refine ZO (fun b=>?_)|refine ZA ?_|refine ZB ?_|refine ZZ ?_|refine ZW ?_|refine Zf ?_|refine Za ?_|refine ZY ?_|refine Ze (fun b=>?_)|refine Zg (fun b=>?_)|refine Zd ?_|refine ZX ?_|refine ZF (n2) (fun _ _=>?_)|refine l_call0 (n2) (fun _ _=>?_)|refine ZT (n2) (fun _ _=>?_)|rw [b0]|(refine ZC (fun hc=>?_) (fun hc=>?_)<;>(try simp at hc)<;>(try omega))|(refine ZL (fun hc=>?_) (fun hc=>?_)<;>(try simp at hc)<;>(try omega))|refine ZD 2 [] [(0,0),(1,0),(2,0),(3,0),(4,0),(5,0),(6,0),(7,0),(8,0),(9,0),(10,0),(11,0),(12,0),(13,0),(14,4),(15,0),(16,0),(17,0),(18,0)] [] ?_|(refine ZE (fun hc=>?_) (fun hc=>?_)<;>(try simp at hc)<;>(try omega)))
  exact ZS () rfl trivial
section
variable {n:Nat} {C:Cx} {Q:Exit→Act→World→Prop} {E E':List (Nat×Value)} {F F' F1 Fs F0:List Pf} {R R' R0 Rs N N' A:List HP} {k k':List Fr} {ops l:List Oper} {L L':List (Nat×Nat)} {Tl:List Nat} {i d:Nat} {t ty0:TypeId} {x y z:Operand} {pos:String} {aft:Array Edge} {gd:Option (Nat×Bool)} {α β:Type} [DecidableEq α] {K:α→Value} {V:β→Value}
def MpF (K:α→Value) (V:β→Value) (r:Nat) (m:List (α×β)):Pf:=⟨fun h=>Mp K V r m h,fun _ _ s hh=>by
 obtain ⟨es,clock,h1,h2,h3⟩:=hh
 exact ⟨es,clock,s _ _ h1,h2,h3⟩⟩
theorem l_mgetP {kt et r:Nat} {rs te:TRow} {m:List (α×β)} {zv:Value} (hk:KeyOK kt K) (a:α) (nx:Wl n C ops.toArray k Q l ((d,((mget a m).map V).getD zv)::E) F R) (hw:wantL ops E ⟨some d,.lookup t x y false,ty0,pos,aft,gd⟩=some true:=by rfl) (hn:Nat.blt d n=true:=by rfl)
  (hx:ev E x=some (.map (some r)):=by rfl) (hy:ev E y=some (K a):=by rfl) (hts:lookT tab t=some rs:=by rfl) (hrs:rs.k = .map kt et:=by rfl) (hte:lookT tab et=some te:=by rfl) (hzv:zval te=some zv:=by rfl)
  (hs:Sel (MpF K V r m) F F0:=by (repeat (first|exact Sel.here|apply Sel.there));first|done|fail):Wl n C ops.toArray k Q (⟨some d,.lookup t x y false,ty0,pos,aft,gd⟩::l) E F R:=
 Z8 (fun t ht=>by cases ht;exact Nat.le_of_ble_eq_true hn) (fun c hc=>by cases hc) hw fun ac w ha hsat=>by
  obtain ⟨hp,hr,st⟩:=hsat
  obtain ⟨es,clock,h1,he,hB⟩:Mp K V r m hp:=st.f _ hs.mem
  have hb:w.heap[r]? = some (.map es clock):=st.inp _ _ h1
  have hu:=XP (w:=w) hts hrs
  have hg:(getObj r).run prog w = .ok (.map es clock) w:=by simp [getObj,Sem.run,hb]
  have hc:=hk.chk a es.isEmpty w
  have hf:=Yn hk a es.toList m w he
  have hz0:=zval_ok hte hzv w
  have hfg:=XL a m 0
  unfold OpRes
  simp only [execOp,ha.ev (x:=x) (by rw [ZU];exact hx),ha.ev (x:=y) (by rw [ZU];exact hy),Instr.lookup,Sem.run_bind,hu,Result.andThen,hg,hc,hf,Sem.run_pure]
  cases hm:mfind a m 0 with
  | none=>
   rw [hm] at hfg
   simp only [Option.map_none,Sem.run_bind,hz0,Result.andThen,Sem.run_pure,Bool.false_eq_true,if_false]
   intro a' ha'
   rw [←hfg] at nx
   exact nx a' w ha' ⟨hp,hr,st⟩
  | some q=>
   rw [hm] at hfg
   simp only [Option.map_some,Bool.false_eq_true,if_false]
   intro a' ha'
   rw [←hfg] at nx
   exact nx a' w ha' ⟨hp,hr,st⟩
end
abbrev ntf (x:Nat):List Value:=[.int .i64 (x:Int)]
structure SlC where
 o:Option Addr
 cap:Nat
 w:List Nat
def slV (x:SlC):Value:=.slice x.o x.w.length x.cap
abbrev ItS (x:SlC):Pf:=Sl 3 ntf x.o x.cap x.w
def getW (m:List (Nm×SlC)) (n:Nm):List Nat:=match mget n m with
 | some x=>x.w
 | none=>[]
def MwP (l:List Ak) (r:Nat) (h:H):Prop:=∃m:List (Nm×SlC),Mp Nm.v slV r m h∧(∀e ∈ m,(ItS e.2).p h)∧∀n,getW m n=wrsF l n
theorem mget_memX {α β:Type} [DecidableEq α] {a:α} {v:β}:∀{m:List (α×β)},mget a m=some v→(a,v) ∈ m
 | [],h=>by cases h
 | (b,w)::m,h=>by
  unfold mget at h
  split at h
  ·rename_i hb
   cases h;subst hb;exact .head _
  ·exact .tail _ (mget_memX h)
def MwF (l:List Ak) (r:Nat):Pf:=⟨fun h=>MwP l r h,fun _ _ s hh=>by
 obtain ⟨m,h1,h2,h3⟩:=hh
 exact ⟨m,(MpF Nm.v slV r m).m _ _ s h1,fun e he=>(ItS e.2).m _ _ s (h2 e he),h3⟩⟩
def geN (w:List Nat) (x:Nat) (h:Nat):Bool:=match w[h]? with
 | some y=>decide (x≤y)
 | none=>true
theorem intsCl_ok (b2 b3:Nat) (o:Option Addr) (cap:Nat) (wl:List Nat) (x i y:Nat) (hi:wl[i]? = some y):Enters 198∧Spec prog 198 #[.int .i64 (i:Int),pvE b2,pvE b3] [Sl 3 ntf o cap wl,Blk b2 (.cells #[.slice o wl.length cap] 194),Blk b3 (.cells #[.int .i64 (x:Int)] 3)] [] (RetV (.bool (decide (x≤y)))):=by
 have e:decide (x≤y)=decide ((x:Int)≤(y:Int)):=by rw [Bool.eq_iff_iff];simp
 rw [e]
 refine Zb [_,_,_] func198 ntmps198 fun G w hp=>?_
 repeat' (first|refine ZH ?_|refine ZG ?_|refine ZK ?_|refine ZI ?_|refine ZP ?_|refine ZJ ?_|refine ZM ?_|refine ZN (fun b=>?_)|refine ZO (fun b=>?_)|refine ZA ?_|refine ZB ?_|refine ZZ ?_|refine ZW ?_|refine Zf ?_|refine Za ?_|refine ZY ?_|refine Ze (fun b=>?_)|refine Zg (fun b=>?_)|refine Zd ?_|refine ZX ?_|refine YG (es:=wl) (f:=ntf) i _ hi (fun b off=>?_)|refine Yf ?_|(refine ZC (fun hc=>?_) (fun hc=>?_)<;>(try simp at hc)<;>(try omega))|(refine ZL (fun hc=>?_) (fun hc=>?_)<;>(try simp at hc)<;>(try omega))|refine ZD 1 [] [(0,0),(1,0),(2,0),(3,0),(4,0),(5,0),(6,0)] [] ?_|(refine ZE (fun hc=>?_) (fun hc=>?_)<;>(try simp at hc)<;>(try omega)))
 exact ZS () rfl trivial
theorem WB (o:Option Addr) (cap:Nat) (wl:List Nat) (x:Nat) (hw:wl.length≤100000):Enters 148∧Spec prog 148 #[.slice o wl.length cap,.int .i64 (x:Int)] [Sl 3 ntf o cap wl] [] (RetV (.int .i64 (bsF (geN wl x) wl.length 0 wl.length:Nat))):=by
 have n1:=fun (b2 b3:Nat)=>WA (.func (.func 198) #[] #[pvE b2,pvE b3]) wl.length (geN wl x) (allPf [Sl 3 ntf o cap wl,Blk b2 (.cells #[.slice o wl.length cap] 194),Blk b3 (.cells #[.int .i64 (x:Int)] 3)]) hw (fun i hi=>by
  have hx:=List.getElem?_eq_getElem hi
  have e:geN wl x i=decide (x≤wl[i]):=by unfold geN;rw [hx]
  rw [e]
  exact X5 (specPack (intsCl_ok b2 b3 o cap wl x i wl[i] hx)))
 refine Zb [_,_] func148 ntmps148 fun G w hp=>?_
 repeat' (first|refine YZ (o:=.cells #[.int .i64 (x:Int)] 3) ?_|refine YZ (o:=.cells #[.slice o wl.length cap] 194) ?_|refine ZH ?_|refine ZG ?_|refine ZK ?_|refine ZI ?_|refine ZP ?_|refine ZJ ?_|refine ZM ?_|refine ZN (fun b=>?_)|refine ZO (fun b=>?_)|refine ZA ?_|refine ZB ?_|(refine ZC (fun hc=>?_) (fun hc=>?_)<;>(try simp at hc)<;>(try omega))|(refine ZE (fun hc=>?_) (fun hc=>?_)<;>(try simp at hc)<;>(try omega)))
 rename_i b2
 generalize b=b3 at *
 refine l_mk (F1:=[Sl 3 ntf o cap wl,Blk b2 (.cells #[.slice o wl.length cap] 194),Blk b3 (.cells #[.int .i64 (x:Int)] 3)]) (f:=allPf [Sl 3 ntf o cap wl,Blk b2 (.cells #[.slice o wl.length cap] 194),Blk b3 (.cells #[.int .i64 (x:Int)] 3)]) (fun hp hF f hf=>hF f hf) ?_
 have n2:=n1 b2 b3
 repeat' (first|refine ZH ?_|refine ZG ?_|refine ZK ?_|refine ZI ?_|refine ZP ?_|refine ZJ ?_|refine ZM ?_|refine ZN (fun b=>?_)|refine ZO (fun b=>?_)|refine ZA ?_|refine ZB ?_|refine ZF (n2) (fun _ _=>?_)|refine l_call0 (n2) (fun _ _=>?_)|(refine ZC (fun hc=>?_) (fun hc=>?_)<;>(try simp at hc)<;>(try omega))|(refine ZE (fun hc=>?_) (fun hc=>?_)<;>(try simp at hc)<;>(try omega)))
 exact ZS () rfl trivial
structure Rc where
 l:List Ak
 vs:List Akc
 o:Option Addr
 c:Nat
 r:Nat
structure Rc.ok (x:Rc):Prop where
 ln:x.vs.length=x.l.length
 b:x.l.length≤1000
 w:∀a ∈ x.l,AkOK a
abbrev Rc.v (x:Rc):Value:=rnv x.o x.vs.length x.c x.r
abbrev Rc.F (x:Rc):List Pf:=[AkS x.o x.c x.vs,AksF x.l x.vs,MwF x.l x.r]
def wiV (x:Option Nat):Int:=match x with
 | some i=>(i:Int)
 | none=>-1
theorem wri_eq (l:List Ak) (n:Nm) (k:Ky):wriF l n k=if 0<bsF (geN (wrsF l n) (srchF l k)) (wrsF l n).length 0 (wrsF l n).length then (wrsF l n)[bsF (geN (wrsF l n) (srchF l k)) (wrsF l n).length 0 (wrsF l n).length - 1]? else none:=rfl
theorem Wz {f:Nat→List Nat} (h:∀i,(f i).length≤100):∀I:List Nat,(I.flatMap f).length≤100 * I.length
 | []=>by simp
 | i::I=>by
  rw [List.flatMap_cons,List.length_append,List.length_cons]
  have h1:=h i
  have h2:=Wz h I
  omega
theorem flat_len1 {l:List Ak} {n:Nm} (hb:l.length≤1000) (hw:∀a ∈ l,AkOK a):(wrsF l n).length≤100000:=by
 unfold wrsF
 refine Nat.le_trans (Wz (fun i=>?_) _) (by rw [List.length_range];omega)
 split
 ·rename_i a ha
  rw [List.length_map]
  exact Nat.le_trans (List.length_filter_le _ _) (hw a (List.mem_of_getElem? ha)).2.2.1
 ·simp
set_option maxHeartbeats 4000000 in
theorem Xx (x:Rc) (hx:x.ok) (n:Nm) (k:Ky) (hk:k.l.size≤1000):Enters 93∧Spec prog 93 #[x.v,n.v,kyv k] x.F [] (RetV (.int .i64 (wiV (wriF x.l n k)))):=by
 obtain ⟨l,vs,o,cap,r⟩:=x
 obtain ⟨hlen,hb,hw⟩:=hx
 dsimp only at hlen hb hw ⊢
 have n1:=Wx l vs o cap r hlen hb hw k hk
 have hwl:=flat_len1 (n:=n) hb hw
 obtain ⟨V,hV⟩:∃V,wiV (wriF l n k)=V:=⟨_,rfl⟩
 rw [hV]
 rw [wri_eq] at hV
 generalize srchF l k=s at *
 generalize (atF l k).isSome=bb at *
 refine Zb [_,_,_] func93 ntmps93 fun G w hp=>?_
 refine Z1 (X:=List (Nm×SlC)×Option SlC) (f:=MwF l r) (Fx:=fun q=>MpF Nm.v slV r q.1::(match q.2 with|some y=>[ItS y]|none=>[Sl 3 ntf none 0 []])) (p:=fun q=>mget n q.1=q.2∧getW q.1 n=wrsF l n) (.there (.there .here)) (fun h hh=>?_) (fun q hq=>?_)
 ·obtain ⟨m,h1,h2,h3⟩:=(show MwP l r h from hh)
  refine ⟨(m,mget n m),⟨rfl,h3 n⟩,fun g hg=>?_⟩
  dsimp only at hg
  rcases List.mem_cons.1 hg with rfl|hg
  ·exact h1
  ·cases hm:mget n m with
   | none=>
    rw [hm] at hg
    rw [List.mem_singleton.1 hg]
    exact sl_nil _ _ _
   | some y=>
    rw [hm] at hg
    rw [List.mem_singleton.1 hg]
    exact h2 _ (mget_memX hm)
 ·obtain ⟨m,ys⟩:=q
  obtain ⟨hm,hg⟩:=hq
  dsimp only at hm hg
  unfold getW at hg
  rw [hm] at hg
  cases ys with
  | none=>
   dsimp only at hg ⊢
   have hg:[]=wrsF l n:=hg
   rw [←hg] at hV
   have hV : -1=V:=hV
   subst hV
   have n2:=WB none 0 [] s (Nat.zero_le _)
   rw [show bsF (geN [] s) ([]:List Nat).length 0 ([]:List Nat).length=0 from rfl] at n2
   repeat' (first|refine ZH ?_|refine ZG ?_|refine ZK ?_|refine ZI ?_|refine ZP ?_|refine ZJ ?_|refine ZM ?_|refine ZN (fun b=>?_)|refine ZO (fun b=>?_)|refine ZA ?_|refine ZB ?_|refine ZF (n1) (fun _ _=>?_)|refine l_call0 (n1) (fun _ _=>?_)|refine ZF (n2) (fun _ _=>?_)|refine l_call0 (n2) (fun _ _=>?_)|refine l_mgetP YP n ?_|rw [hm]|(refine ZC (fun hc=>?_) (fun hc=>?_)<;>(try simp at hc)<;>(try omega))|(refine ZE (fun hc=>?_) (fun hc=>?_)<;>(try simp at hc)<;>(try omega)))
   exact ZS () rfl trivial
  | some y=>
   dsimp only at hg ⊢
   have hg:y.w=wrsF l n:=hg
   rw [←hg] at hV hwl
   have n2:=WB y.o y.cap y.w s hwl
   have hle:=bsF_le (geN y.w s) y.w.length 0 y.w.length (Nat.zero_le _)
   generalize bsF (geN y.w s) y.w.length 0 y.w.length=i at *
   cases i with
   | zero=>
    have hV : -1=V:=hV
    subst hV
    repeat' (first|refine ZH ?_|refine ZG ?_|refine ZK ?_|refine ZI ?_|refine ZP ?_|refine ZJ ?_|refine ZM ?_|refine ZN (fun b=>?_)|refine ZO (fun b=>?_)|refine ZA ?_|refine ZB ?_|refine ZF (n1) (fun _ _=>?_)|refine l_call0 (n1) (fun _ _=>?_)|refine ZF (n2) (fun _ _=>?_)|refine l_call0 (n2) (fun _ _=>?_)|refine l_mgetP YP n ?_|rw [hm]|(refine ZC (fun hc=>?_) (fun hc=>?_)<;>(try simp at hc)<;>(try omega))|(refine ZE (fun hc=>?_) (fun hc=>?_)<;>(try simp at hc)<;>(try omega)))
    exact ZS () rfl trivial
   | succ i=>
    have hz:=List.getElem?_eq_getElem (show i<y.w.length by omega)
    rw [if_pos (Nat.succ_pos i),Nat.add_sub_cancel,hz] at hV
    have hV:((y.w[i]:Nat):Int)=V:=hV
    generalize y.w[i]=z at *
    subst hV
    have w1:IntKind.i64.wrap (((i+1:Nat):Int) - 1)=(i:Int):=by rw [wrapi (by omega) (by omega)];omega
    repeat' (first|refine ZH ?_|refine ZG ?_|refine ZK ?_|refine ZI ?_|refine ZP ?_|refine ZJ ?_|refine ZM ?_|refine ZN (fun b=>?_)|refine ZO (fun b=>?_)|refine ZA ?_|refine ZB ?_|refine ZF (n1) (fun _ _=>?_)|refine l_call0 (n1) (fun _ _=>?_)|refine ZF (n2) (fun _ _=>?_)|refine l_call0 (n2) (fun _ _=>?_)|refine l_mgetP YP n ?_|rw [hm]|rw [w1]|refine Zp (es:=y.w) (f:=ntf) i z hz (fun b off=>?_)|refine Zm ?_|(refine ZC (fun hc=>?_) (fun hc=>?_)<;>(try simp at hc)<;>(try omega))|(refine ZE (fun hc=>?_) (fun hc=>?_)<;>(try simp at hc)<;>(try omega)))
    exact ZS () rfl trivial
theorem wtn_snoc (n:Nm) (c:Ch):∀l:List Ch,wtnL n (l++[c])=if c.nm=n then some c else wtnL n l
 | []=>by simp [wtnL]
 | d::l=>by
  rw [List.cons_append,wtnL,wtn_snoc n c l,wtnL]
  by_cases h:c.nm=n
  ·rw [if_pos h,if_pos h]
  ·rw [if_neg h,if_neg h]
set_option maxHeartbeats 4000000 in
theorem written_ok (x:Rc) (hx:x.ok) (n:Nm) (i:Nat) (a:Ak) (hi:x.l[i]? = some a):Enters 197∧Spec prog 197 #[x.v,n.v,.int .i64 (i:Int)] x.F [] (RetV (wtnF n a).v):=by
 obtain ⟨l,vs,o,cap,r⟩:=x
 obtain ⟨hlen,hb,hw⟩:=hx
 dsimp only at hlen hb hw hi ⊢
 have hli:i<l.length:=(List.getElem?_eq_some_iff.1 hi).1
 have hyj:=List.getElem?_eq_getElem (show i<vs.length by omega)
 generalize vs[i]=v at *
 have hao:=hw a (List.mem_of_getElem? hi)
 have hwl:=hao.2.2.1
 obtain ⟨R,hR⟩:∃R,wtnF n a=R:=⟨_,rfl⟩
 rw [hR]
 unfold wtnF at hR
 have w0:=wrapi (z:=(a.wr.length:Int) - 1) (by omega) (by omega)
 refine Zb [_,_,_] func197 ntmps197 fun G w hp=>?_
 refine Z1 (f:=AksF l vs) (.there .here) (fun h hh=>YL hi hyj h hh) (fun q hq=>?_)
 obtain ⟨⟨ro,rc⟩,wo,wc⟩:=q
 dsimp only at hq ⊢
 subst hq
 repeat' (first|refine Zm ?_|refine Zp (es:=vs) (f:=akf) i _ hyj (fun b off=>?_)|refine ZH ?_|refine ZG ?_|refine ZK ?_|refine ZI ?_|refine ZP ?_|refine ZJ ?_|refine ZM ?_|refine ZN (fun b=>?_)|refine ZO (fun b=>?_)|refine ZA ?_|refine ZB ?_|rw [w0]|(refine ZC (fun hc=>?_) (fun hc=>?_)<;>(try simp at hc)<;>(try omega))|(refine ZE (fun hc=>?_) (fun hc=>?_)<;>(try simp at hc)<;>(try omega)))
 rename_i b3 b4
 refine Z6 (X:={p:Nat×Int // p.2=(p.1:Int) - 1∧p.1≤a.wr.length∧(wtnL n (a.wr.take p.1)).getD chZ=R}) (fun p=>[(4,pvE b3),(6,pvE b4),(7,.slice wo a.wr.length wc),(8,.int .i64 p.1.2)]) (fun _=>[ChS wo wc a.wr]) (fun _=>[Pt b3 (.cells (nmf n).toArray 46),Pt b4 (.cells (chf chZ).toArray 108)]) (fun p=>p.1.1) ⟨(a.wr.length,(a.wr.length:Int) - 1),rfl,Nat.le_refl _,by rw [List.take_length];exact hR⟩ ⟨rfl,rfl,rfl,rfl,trivial⟩ ?_
 rintro ⟨⟨j,z⟩,hz,hj,hRj⟩
 dsimp only at hz hj hRj ⊢
 cases j with
 | zero=>
  have hz0:¬0≤z:=by omega
  have hRj:chZ=R:=hRj
  subst hRj
  repeat' (first|refine ZH ?_|refine ZG ?_|refine ZK ?_|refine ZI ?_|refine ZP ?_|refine ZJ ?_|refine ZM ?_|refine ZN (fun b=>?_)|refine ZO (fun b=>?_)|refine ZA ?_|refine ZB ?_|refine ZR ?_|refine ZZ ?_|refine ZW ?_|refine Zf ?_|refine Za ?_|refine ZY ?_|refine Ze (fun b=>?_)|refine Zg (fun b=>?_)|refine Zd ?_|refine ZX ?_|(refine ZC (fun hc=>?_) (fun hc=>?_)<;>(try simp at hc)<;>(try omega))|(refine ZL (fun hc=>?_) (fun hc=>?_)<;>(try simp at hc)<;>(try omega))|refine ZD 5 [] [(0,0),(1,0),(2,0),(3,0),(4,0),(5,0),(6,0)] [] ?_|(refine ZE (fun hc=>?_) (fun hc=>?_)<;>(try simp at hc)<;>(try omega)))
  exact ZS () rfl trivial
 | succ j=>
  obtain rfl:z=(j:Int):=by omega
  have hlt:j<a.wr.length:=by omega
  have hck:=List.getElem?_eq_getElem hlt
  rw [List.take_succ_eq_append_getElem hlt,wtn_snoc] at hRj
  generalize a.wr[j]=c at *
  have he:eqC eqS 20 46 c.nm.v n.v=some (decide (c.nm=n)):=eqNm _ _
  have w1:=wrapi (z:=(j:Int) - 1) (by omega) (by omega)
  by_cases hcn:c.nm=n
  ·rw [decide_eq_true hcn] at he
   rw [if_pos hcn] at hRj
   have hRj:c=R:=hRj
   subst hRj
   repeat' (first|refine Zm ?_|refine Zp (es:=a.wr) (f:=chf) j c hck (fun b off=>?_)|refine ZH ?_|refine ZG ?_|refine ZK ?_|refine ZI ?_|refine ZP ?_|refine ZJ ?_|refine ZM ?_|refine ZN (fun b=>?_)|refine ZO (fun b=>?_)|refine ZA ?_|refine ZB ?_|refine ZZ ?_|refine ZW ?_|refine Zf ?_|refine Za ?_|refine ZY ?_|refine Ze (fun b=>?_)|refine Zg (fun b=>?_)|refine Zd ?_|refine ZX ?_|refine YG (es:=a.wr) (f:=chf) j c hck (fun b off=>?_)|refine Yf ?_|refine r_seq ?_ (he:=he)|rw [w1]|(refine ZC (fun hc=>?_) (fun hc=>?_)<;>(try simp at hc)<;>(try omega))|(refine ZL (fun hc=>?_) (fun hc=>?_)<;>(try simp at hc)<;>(try omega))|refine ZD 5 [] [(0,0),(1,0),(2,0),(3,0),(4,0),(5,0),(6,0)] [] ?_|(refine ZE (fun hc=>?_) (fun hc=>?_)<;>(try simp at hc)<;>(try omega)))
   exact YR (YX (Z4 () rfl trivial))
  ·rw [decide_eq_false hcn] at he
   rw [if_neg hcn] at hRj
   repeat' (first|refine ZH ?_|refine ZG ?_|refine ZK ?_|refine ZI ?_|refine ZP ?_|refine ZJ ?_|refine ZM ?_|refine ZN (fun b=>?_)|refine ZO (fun b=>?_)|refine ZA ?_|refine ZB ?_|refine ZZ ?_|refine ZW ?_|refine Zf ?_|refine Za ?_|refine ZY ?_|refine Ze (fun b=>?_)|refine Zg (fun b=>?_)|refine Zd ?_|refine ZX ?_|refine YG (es:=a.wr) (f:=chf) j c hck (fun b off=>?_)|refine Yf ?_|refine r_seq ?_ (he:=he)|rw [w1]|(refine ZC (fun hc=>?_) (fun hc=>?_)<;>(try simp at hc)<;>(try omega))|(refine ZL (fun hc=>?_) (fun hc=>?_)<;>(try simp at hc)<;>(try omega))|refine ZD 5 [] [(0,0),(1,0),(2,0),(3,0),(4,0),(5,0),(6,0)] [] ?_|(refine ZE (fun hc=>?_) (fun hc=>?_)<;>(try simp at hc)<;>(try omega)))
   exact Zc ⟨(j,(j:Int) - 1),rfl,by show j≤a.wr.length;omega,hRj⟩ (Nat.lt_succ_self j) ⟨rfl,rfl,rfl,rfl,trivial⟩
theorem differs_ok (a b:Ch):Enters 144∧Spec prog 144 #[a.v,b.v] [] [] (RetV (.bool (diffF a b))):=by
 obtain ⟨an,av,ab⟩:=a
 obtain ⟨bn,bv,bb⟩:=b
 unfold diffF
 have hs:(av.toList == bv.toList)=decide (av=bv):=beqSv av bv
 have hd:decide (av≠bv) = !decide (av=bv):=by rw [Bool.eq_iff_iff];simp
 dsimp only
 rw [hd,←hs]
 generalize hq:(av.toList == bv.toList)=q at *
 cases ab<;>cases bb
 ·have e:(false != false || !false && !q) = !q:=by cases q<;>rfl
  rw [e]
  refine Zb [_,_] func144 ntmps144 fun G w hp=>?_
  repeat' (first|refine ZH ?_|refine ZG ?_|refine ZK ?_|refine ZI ?_|refine ZP ?_|refine ZJ ?_|refine ZM ?_|refine ZN (fun b=>?_)|refine ZO (fun b=>?_)|refine ZA ?_|refine ZB ?_|refine ZR ?_|rw [hq]|(refine ZC (fun hc=>?_) (fun hc=>?_)<;>(try simp at hc)<;>(try omega))|(refine ZE (fun hc=>?_) (fun hc=>?_)<;>(try simp at hc)<;>(try omega)))
  exact ZS () rfl trivial
 ·refine Zb [_,_] func144 ntmps144 fun G w hp=>?_
  repeat' (first|refine ZH ?_|refine ZG ?_|refine ZK ?_|refine ZI ?_|refine ZP ?_|refine ZJ ?_|refine ZM ?_|refine ZN (fun b=>?_)|refine ZO (fun b=>?_)|refine ZA ?_|refine ZB ?_|refine ZR ?_|(refine ZC (fun hc=>?_) (fun hc=>?_)<;>(try simp at hc)<;>(try omega))|(refine ZE (fun hc=>?_) (fun hc=>?_)<;>(try simp at hc)<;>(try omega)))
  exact ZS () rfl trivial
 ·refine Zb [_,_] func144 ntmps144 fun G w hp=>?_
  repeat' (first|refine ZH ?_|refine ZG ?_|refine ZK ?_|refine ZI ?_|refine ZP ?_|refine ZJ ?_|refine ZM ?_|refine ZN (fun b=>?_)|refine ZO (fun b=>?_)|refine ZA ?_|refine ZB ?_|refine ZR ?_|(refine ZC (fun hc=>?_) (fun hc=>?_)<;>(try simp at hc)<;>(try omega))|(refine ZE (fun hc=>?_) (fun hc=>?_)<;>(try simp at hc)<;>(try omega)))
  exact ZS () rfl trivial
 ·refine Zb [_,_] func144 ntmps144 fun G w hp=>?_
  repeat' (first|refine ZH ?_|refine ZG ?_|refine ZK ?_|refine ZI ?_|refine ZP ?_|refine ZJ ?_|refine ZM ?_|refine ZN (fun b=>?_)|refine ZO (fun b=>?_)|refine ZA ?_|refine ZB ?_|refine ZR ?_|(refine ZC (fun hc=>?_) (fun hc=>?_)<;>(try simp at hc)<;>(try omega))|(refine ZE (fun hc=>?_) (fun hc=>?_)<;>(try simp at hc)<;>(try omega)))
  exact ZS () rfl trivial
abbrev prv (x y:Rc):Value:=.agg #[.slice x.o x.vs.length x.c,.map (some x.r),.slice y.o y.vs.length y.c,.map (some y.r)]
theorem We {l:List Ak} {n:Nm} {k:Ky} {i:Nat} (h:wriF l n k=some i):∃a,l[i]? = some a:=⟨l[i]'(wri_lt h),List.getElem?_eq_getElem (wri_lt h)⟩
set_option maxHeartbeats 4000000 in
theorem vdif_ok (x y:Rc) (hx:x.ok) (hy:y.ok) (n:Nm) (k:Ky) (hk:k.l.size≤1000):Enters 147∧Spec prog 147 #[prv x y,n.v,kyv k] (x.F++y.F) [] (RetV (.bool (vdifF x.l y.l n k))):=by
 have n1:=Xx x hx n k hk
 have n2:=Xx y hy n k hk
 unfold vdifF
 cases h1:wriF x.l n k with
 | none=>
  rw [h1] at n1
  cases h2:wriF y.l n k with
  | none=>
   rw [h2] at n2
   refine Zb [_,_,_] func147 ntmps147 fun G w hp=>?_
   repeat' (first|refine ZH ?_|refine ZG ?_|refine ZK ?_|refine ZI ?_|refine ZP ?_|refine ZJ ?_|refine ZM ?_|refine ZN (fun b=>?_)|refine ZO (fun b=>?_)|refine ZA ?_|refine ZB ?_|refine ZR ?_|refine ZZ ?_|refine ZW ?_|refine Zf ?_|refine Za ?_|refine ZY ?_|refine Ze (fun b=>?_)|refine Zg (fun b=>?_)|refine Zd ?_|refine ZX ?_|refine ZF (n1) (fun _ _=>?_)|refine l_call0 (n1) (fun _ _=>?_)|refine ZT (n1) (fun _ _=>?_)|refine ZF (n2) (fun _ _=>?_)|refine l_call0 (n2) (fun _ _=>?_)|refine ZT (n2) (fun _ _=>?_)|(refine ZC (fun hc=>?_) (fun hc=>?_)<;>(try simp at hc)<;>(try omega))|(refine ZL (fun hc=>?_) (fun hc=>?_)<;>(try simp at hc)<;>(try omega))|refine ZD 1 [] [(0,0),(1,0),(2,0),(3,0),(5,0),(6,0),(7,0),(8,0),(4,4),(9,4),(10,0),(11,0)] [] ?_|(refine ZE (fun hc=>?_) (fun hc=>?_)<;>(try simp at hc)<;>(try omega)))
   all_goals exact ZS () rfl trivial
  | some j=>
   rw [h2] at n2
   have b1:(0:Int)≤(j:Int):=by omega
   have n2:Enters 93∧Spec prog 93 #[y.v,n.v,kyv k] y.F [] (RetV (.int .i64 (j:Int))):=n2
   have b2:decide ((0:Int)≤(j:Int))=true:=decide_eq_true b1
   refine Zb [_,_,_] func147 ntmps147 fun G w hp=>?_
   repeat' (first|refine ZH ?_|refine ZG ?_|refine ZK ?_|refine ZI ?_|refine ZP ?_|refine ZJ ?_|refine ZM ?_|refine ZN (fun b=>?_)|refine ZO (fun b=>?_)|refine ZA ?_|refine ZB ?_|refine ZR ?_|refine ZZ ?_|refine ZW ?_|refine Zf ?_|refine Za ?_|refine ZY ?_|refine Ze (fun b=>?_)|refine Zg (fun b=>?_)|refine Zd ?_|refine ZX ?_|refine ZF (n1) (fun _ _=>?_)|refine l_call0 (n1) (fun _ _=>?_)|refine ZT (n1) (fun _ _=>?_)|refine ZF (n2) (fun _ _=>?_)|refine l_call0 (n2) (fun _ _=>?_)|refine ZT (n2) (fun _ _=>?_)|rw [b2]|(refine ZC (fun hc=>?_) (fun hc=>?_)<;>(try simp at hc)<;>(try omega))|(refine ZL (fun hc=>?_) (fun hc=>?_)<;>(try simp at hc)<;>(try omega))|refine ZD 1 [] [(0,0),(1,0),(2,0),(3,0),(5,0),(6,0),(7,0),(8,0),(4,4),(9,4),(10,0),(11,0)] [] ?_|(refine ZE (fun hc=>?_) (fun hc=>?_)<;>(try simp at hc)<;>(try omega)))
   all_goals exact ZS () rfl trivial
 | some i=>
  rw [h1] at n1
  have n1:Enters 93∧Spec prog 93 #[x.v,n.v,kyv k] x.F [] (RetV (.int .i64 (i:Int))):=n1
  obtain ⟨a,ha⟩:=We h1
  have c1:decide ((0:Int)≤(i:Int))=true:=decide_eq_true (by omega)
  have c2:decide ((i:Int)<0)=false:=decide_eq_false (by omega)
  cases h2:wriF y.l n k with
  | none=>
   rw [h2] at n2
   refine Zb [_,_,_] func147 ntmps147 fun G w hp=>?_
   repeat' (first|refine ZH ?_|refine ZG ?_|refine ZK ?_|refine ZI ?_|refine ZP ?_|refine ZJ ?_|refine ZM ?_|refine ZN (fun b=>?_)|refine ZO (fun b=>?_)|refine ZA ?_|refine ZB ?_|refine ZR ?_|refine ZZ ?_|refine ZW ?_|refine Zf ?_|refine Za ?_|refine ZY ?_|refine Ze (fun b=>?_)|refine Zg (fun b=>?_)|refine Zd ?_|refine ZX ?_|refine ZF (n1) (fun _ _=>?_)|refine l_call0 (n1) (fun _ _=>?_)|refine ZT (n1) (fun _ _=>?_)|refine ZF (n2) (fun _ _=>?_)|refine l_call0 (n2) (fun _ _=>?_)|refine ZT (n2) (fun _ _=>?_)|rw [c1]|rw [c2]|(refine ZC (fun hc=>?_) (fun hc=>?_)<;>(try simp at hc)<;>(try omega))|(refine ZL (fun hc=>?_) (fun hc=>?_)<;>(try simp at hc)<;>(try omega))|refine ZD 1 [] [(0,0),(1,0),(2,0),(3,0),(5,0),(6,0),(7,0),(8,0),(4,4),(9,4),(10,0),(11,0)] [] ?_|(refine ZE (fun hc=>?_) (fun hc=>?_)<;>(try simp at hc)<;>(try omega)))
   all_goals exact ZS () rfl trivial
  | some j=>
   rw [h2] at n2
   have n2:Enters 93∧Spec prog 93 #[y.v,n.v,kyv k] y.F [] (RetV (.int .i64 (j:Int))):=n2
   obtain ⟨b,hb⟩:=We h2
   have d2:decide ((j:Int)<0)=false:=decide_eq_false (by omega)
   dsimp only
   rw [ha,hb]
   dsimp only
   have n3:=written_ok x hx n i a ha
   have n4:=written_ok y hy n j b hb
   have n5:=differs_ok (wtnF n a) (wtnF n b)
   refine Zb [_,_,_] func147 ntmps147 fun G w hp=>?_
   repeat' (first|refine ZH ?_|refine ZG ?_|refine ZK ?_|refine ZI ?_|refine ZP ?_|refine ZJ ?_|refine ZM ?_|refine ZN (fun b=>?_)|refine ZO (fun b=>?_)|refine ZA ?_|refine ZB ?_|refine ZR ?_|refine ZZ ?_|refine ZW ?_|refine Zf ?_|refine Za ?_|refine ZY ?_|refine Ze (fun b=>?_)|refine Zg (fun b=>?_)|refine Zd ?_|refine ZX ?_|refine ZF (n1) (fun _ _=>?_)|refine l_call0 (n1) (fun _ _=>?_)|refine ZT (n1) (fun _ _=>?_)|refine ZF (n2) (fun _ _=>?_)|refine l_call0 (n2) (fun _ _=>?_)|refine ZT (n2) (fun _ _=>?_)|refine ZF (n3) (fun _ _=>?_)|refine l_call0 (n3) (fun _ _=>?_)|refine ZT (n3) (fun _ _=>?_)|refine ZF (n4) (fun _ _=>?_)|refine l_call0 (n4) (fun _ _=>?_)|refine ZT (n4) (fun _ _=>?_)|refine ZF (n5) (fun _ _=>?_)|refine l_call0 (n5) (fun _ _=>?_)|refine ZT (n5) (fun _ _=>?_)|rw [c2]|rw [d2]|(refine ZC (fun hc=>?_) (fun hc=>?_)<;>(try simp at hc)<;>(try omega))|(refine ZL (fun hc=>?_) (fun hc=>?_)<;>(try simp at hc)<;>(try omega))|refine ZD 1 [] [(0,0),(1,0),(2,0),(3,0),(5,0),(6,0),(7,0),(8,0),(4,4),(9,4),(10,0),(11,0)] [] ?_|refine ZD 4 [] [(0,0),(1,0),(2,0),(3,0),(5,0),(6,0),(7,0),(8,0),(4,4),(9,4),(10,4),(11,0)] [] ?_|(refine ZE (fun hc=>?_) (fun hc=>?_)<;>(try simp at hc)<;>(try omega)))
   all_goals exact ZS () rfl trivial
theorem turnsOf_ok (t:Int):Enters 43∧Spec prog 43 #[.int .i64 t] [] [] (RetV (kyv (turnF t))):=by
 refine Zb [_] func43 ntmps43 fun G w hp=>?_
 repeat' (first|refine ZH ?_|refine ZG ?_|refine ZK ?_|refine ZI ?_|refine ZP ?_|refine ZJ ?_|refine ZM ?_|refine ZN (fun b=>?_)|refine ZO (fun b=>?_)|refine ZA ?_|refine ZB ?_|refine ZR ?_|(refine ZC (fun hc=>?_) (fun hc=>?_)<;>(try simp at hc))|(refine ZE (fun hc=>?_) (fun hc=>?_)<;>(try simp at hc)))
 exact ZS () rfl trivial
theorem ofEpo_ok:Enters 146∧Spec prog 146 #[] [] [] (RetV ofEpo.v):=by
 refine Zb [] func146 ntmps146 fun G w hp=>?_
 repeat' (first|refine ZH ?_|refine ZG ?_|refine ZK ?_|refine ZI ?_|refine ZP ?_|refine ZJ ?_|refine ZM ?_|refine ZN (fun b=>?_)|refine ZO (fun b=>?_)|refine ZA ?_|refine ZB ?_|refine ZR ?_|(refine ZC (fun hc=>?_) (fun hc=>?_)<;>(try simp at hc))|(refine ZE (fun hc=>?_) (fun hc=>?_)<;>(try simp at hc)))
 exact ZS () rfl trivial
theorem ofPro_ok (who:ByteArray):Enters 145∧Spec prog 145 #[.string who] [] [] (RetV (ofPro who).v):=by
 refine Zb [_] func145 ntmps145 fun G w hp=>?_
 repeat' (first|refine ZH ?_|refine ZG ?_|refine ZK ?_|refine ZI ?_|refine ZP ?_|refine ZJ ?_|refine ZM ?_|refine ZN (fun b=>?_)|refine ZO (fun b=>?_)|refine ZA ?_|refine ZB ?_|refine ZR ?_|(refine ZC (fun hc=>?_) (fun hc=>?_)<;>(try simp at hc))|(refine ZE (fun hc=>?_) (fun hc=>?_)<;>(try simp at hc)))
 exact ZS () rfl trivial
theorem l_idx {n:Nat} {C:Cx} {Q:Exit→Act→World→Prop} {E:List (Nat×Value)} {F:List Pf} {R:List HP} {k:List Fr} {ops l:List Oper} {d:Nat} {t ty0:TypeId} {x y:Operand} {pos:String} {aft:Array Edge} {gd:Option (Nat×Bool)} {v:Value}
  {cs:Array Value} {z:Int} {kd:IntKind} {m T:Nat} {rs tr:TRow} (j:Nat) (nx:Wl n C ops.toArray k Q l ((d,v)::E) F R)
  (hw:wantL ops E ⟨some d,.index t x y,ty0,pos,aft,gd⟩=some true:=by rfl) (hn:Nat.blt d n=true:=by rfl) (hx:ev E x=some (.agg cs):=by rfl) (hy:ev E y=some (.int kd z):=by rfl)
  (hts:lookT tab t=some rs:=by rfl) (hrs:rs.k = .arr m T:=by rfl) (hlt:j<m:=by decide) (hT:lookT tab T=some tr:=by rfl) (ha:tr.k.isAgg=true:=by rfl) (ho:tr.k≠.other:=by intro h;cases h)
  (hv:cutF cs.toList (j * tr.size) tr.size (fun l=>some (Value.agg l.toArray))=some v:=by rfl) (hz:z=(j:Int):=by first|rfl|omega):Wl n C ops.toArray k Q (⟨some d,.index t x y,ty0,pos,aft,gd⟩::l) E F R:=
 l_q (fun a w ha2=>by
  subst hz
  obtain ⟨d1,hd1,hk1⟩:=Zl.und hts
  rw [hrs] at hk1
  have hu1:(underlying t).run prog w = .ok (.array m T) w:=by
   cases d1<;>simp [chkKind] at hk1
   obtain ⟨rfl,rfl⟩:=hk1
   simp [underlying,hd1,go_sem]
  have hs1:=Zl.sizeOf hT w
  obtain ⟨h2,_,h3⟩:=X8 _ _ _ _ _ hv
  have hia:=Zl.isAgg hT ho w
  rw [ha] at hia
  have hc:(0:Int)≤(j:Int)∧(j:Int)<((m:Nat):Int):=⟨by omega,by omega⟩
  simp only [execOp,ha2.ev (x:=x) (by rw [ZU];exact hx),ha2.ev (x:=y) (by rw [ZU];exact hy),Instr.index,asIntOf,hu1,Sem.run_bind,Result.andThen,Sem.run_pure,if_pos hc,hs1,part,hia,Int.toNat_natCast,if_true]
  rw [←Option.some.inj h2]
  congr 3
  rw [←Array.toList_inj]
  simp [List.extract_eq_take_drop]) nx (by intro c h;cases h) hw hn
def stO (x:Option Ky) (y:Option Ky):Option Ky:=match y,x with
 | none,x=>x
 | some a,none=>some a
 | some a,some b=>if 0<kcmp a b then some a else some b
theorem org_eq (f s:List Ak) (n:Nm) (k:Ky):orgF f s n k=stO (stO none (keyF f n k)) (keyF s n k):=by
 unfold orgF
 cases keyF f n k<;>cases keyF s n k<;>rfl
set_option maxHeartbeats 4000000 in
theorem origin_ok (x y:Rc) (hx:x.ok) (hy:y.ok) (n:Nm) (k:Ky) (hk:k.l.size≤1000):Enters 44∧Spec prog 44 #[prv x y,n.v,kyv k] (x.F++y.F) [] (RetV (.tuple #[kyv ((orgF x.l y.l n k).getD kyZ),.bool (orgF x.l y.l n k).isSome])):=by
 have n1:=Xx x hx n k hk
 have n2:=Xx y hy n k hk
 rw [org_eq]
 refine Zb [_,_,_] func44 ntmps44 fun G w hp=>?_
 repeat' (first|refine ZH ?_|refine ZG ?_|refine ZK ?_|refine ZI ?_|refine ZP ?_|refine ZJ ?_|refine ZM ?_|refine ZN (fun b=>?_)|refine ZO (fun b=>?_)|refine ZA ?_|refine ZB ?_|(refine ZC (fun hc=>?_) (fun hc=>?_)<;>(try simp at hc)<;>(try omega))|(refine ZE (fun hc=>?_) (fun hc=>?_)<;>(try simp at hc)<;>(try omega)))
 rename_i b3 b4 b5 b6
 have hA:∀i,wriF x.l n k=some i→∃(a:Ak) (v:Akc),x.l[i]? = some a∧x.vs[i]? = some v∧keyF x.l n k=some a.k∧AkOK a:=fun i hi=>by
  obtain ⟨a,ha⟩:=We hi
  refine ⟨a,x.vs[i]'(by rw [hx.ln];exact wri_lt hi),ha,List.getElem?_eq_getElem _,?_,hx.w a (List.mem_of_getElem? ha)⟩
  unfold keyF
  rw [hi]
  dsimp only
  rw [ha];rfl
 have hB:∀i,wriF y.l n k=some i→∃(a:Ak) (v:Akc),y.l[i]? = some a∧y.vs[i]? = some v∧keyF y.l n k=some a.k∧AkOK a:=fun i hi=>by
  obtain ⟨a,ha⟩:=We hi
  refine ⟨a,y.vs[i]'(by rw [hy.ln];exact wri_lt hi),ha,List.getElem?_eq_getElem _,?_,hy.w a (List.mem_of_getElem? ha)⟩
  unfold keyF
  rw [hi]
  dsimp only
  rw [ha];rfl
 have hA0:wriF x.l n k=none→keyF x.l n k=none:=fun h=>by unfold keyF;rw [h]
 have hB0:wriF y.l n k=none→keyF y.l n k=none:=fun h=>by unfold keyF;rw [h]
 generalize keyF x.l n k=A at *
 generalize keyF y.l n k=B at *
 refine Z6 (X:={p:Int×Option Ky // (p.1=0∧p.2=none)∨(p.1=1∧p.2=stO none A)∨(p.1=2∧p.2=stO (stO none A) B)}) (fun p=>[(3,pvE b3),(4,pvE b4),(5,pvE b5),(6,pvE b6),(7,.bool false),(8,pvE b),(9,.bool p.1.2.isSome),(18,prv x y),(19,.int .i64 p.1.1)]) (fun _=>x.F++y.F) (fun p=>[Pt b (.cells (kyf (p.1.2.getD kyZ)).toArray 41),Pt b6 (.cells (kyf kyZ).toArray 41),Pt b5 (.cells (kyf k).toArray 41),Pt b4 (.cells (nmf n).toArray 46)]) (fun p=>(2 - p.1.1).toNat) ⟨(0,none),.inl ⟨rfl,rfl⟩⟩ ⟨rfl,rfl,rfl,rfl,rfl,rfl,rfl,rfl,rfl,trivial⟩ ?_
 rintro ⟨⟨j,u⟩,hj⟩
 dsimp only at hj ⊢
 rcases hj with ⟨rfl,rfl⟩|⟨rfl,rfl⟩|⟨rfl,rfl⟩
 ·cases h1:wriF x.l n k with
  | none=>
   rw [h1] at n1
   rw [hA0 h1]
   repeat' (first|refine ZH ?_|refine ZG ?_|refine ZK ?_|refine ZI ?_|refine ZP ?_|refine ZJ ?_|refine ZM ?_|refine ZN (fun b=>?_)|refine ZO (fun b=>?_)|refine ZA ?_|refine ZB ?_|refine ZF (n1) (fun _ _=>?_)|refine l_call0 (n1) (fun _ _=>?_)|refine l_idx 0 ?_|(refine ZC (fun hc=>?_) (fun hc=>?_)<;>(try simp at hc)<;>(try omega))|(refine ZE (fun hc=>?_) (fun hc=>?_)<;>(try simp at hc)<;>(try omega)))
   exact Zc ⟨(1,none),.inr (.inl ⟨rfl,rfl⟩)⟩ (by show (1:Nat)<2;decide) ⟨rfl,rfl,rfl,rfl,rfl,rfl,rfl,rfl,rfl,trivial⟩
  | some i=>
   obtain ⟨a,v,ha,hv,rfl,hao⟩:=hA i h1
   rw [h1] at n1
   have n1:Enters 93∧Spec prog 93 #[x.v,n.v,kyv k] x.F [] (RetV (.int .i64 (i:Int))):=n1
   have c1:decide ((0:Int)≤(i:Int))=true:=decide_eq_true (by omega)
   refine Z1 (f:=AksF x.l x.vs) (by repeat (first|exact Sel.here|apply Sel.there)) (fun h hh=>YL ha hv h hh) (fun q hq=>?_)
   obtain ⟨⟨ro,rc⟩,wo,wc⟩:=q
   dsimp only at hq ⊢
   subst hq
   repeat' (first|refine ZH ?_|refine ZG ?_|refine ZK ?_|refine ZI ?_|refine ZP ?_|refine ZJ ?_|refine ZM ?_|refine ZN (fun b=>?_)|refine ZO (fun b=>?_)|refine ZA ?_|refine ZB ?_|refine ZF (n1) (fun _ _=>?_)|refine l_call0 (n1) (fun _ _=>?_)|rw [c1]|refine l_idx 0 ?_|refine Zp (es:=x.vs) (f:=akf) i _ hv (fun b off=>?_)|refine Zm ?_|(refine ZC (fun hc=>?_) (fun hc=>?_)<;>(try simp at hc)<;>(try omega))|(refine ZE (fun hc=>?_) (fun hc=>?_)<;>(try simp at hc)<;>(try omega)))
   exact Zc ⟨(1,some a.k),.inr (.inl ⟨rfl,rfl⟩)⟩ (by show (1:Nat)<2;decide) ⟨rfl,rfl,rfl,rfl,rfl,rfl,rfl,rfl,rfl,trivial⟩
 ·cases h2:wriF y.l n k with
  | none=>
   rw [h2] at n2
   obtain rfl:=hB0 h2
   have e:stO (stO none A) none=stO none A:=by cases stO none A<;>rfl
   repeat' (first|refine ZH ?_|refine ZG ?_|refine ZK ?_|refine ZI ?_|refine ZP ?_|refine ZJ ?_|refine ZM ?_|refine ZN (fun b=>?_)|refine ZO (fun b=>?_)|refine ZA ?_|refine ZB ?_|refine ZF (n2) (fun _ _=>?_)|refine l_call0 (n2) (fun _ _=>?_)|refine l_idx 1 ?_|(refine ZC (fun hc=>?_) (fun hc=>?_)<;>(try simp at hc)<;>(try omega))|(refine ZE (fun hc=>?_) (fun hc=>?_)<;>(try simp at hc)<;>(try omega)))
   exact Zc ⟨(2,stO none A),.inr (.inr ⟨rfl,e.symm⟩)⟩ (by show (0:Nat)<1;decide) ⟨rfl,rfl,rfl,rfl,rfl,rfl,rfl,rfl,rfl,trivial⟩
  | some i=>
   obtain ⟨a,v,ha,hv,rfl,hao⟩:=hB i h2
   rw [h2] at n2
   have n2:Enters 93∧Spec prog 93 #[y.v,n.v,kyv k] y.F [] (RetV (.int .i64 (i:Int))):=n2
   have c1:decide ((0:Int)≤(i:Int))=true:=decide_eq_true (by omega)
   refine Z1 (f:=AksF y.l y.vs) (by repeat (first|exact Sel.here|apply Sel.there)) (fun h hh=>YL ha hv h hh) (fun q hq=>?_)
   obtain ⟨⟨ro,rc⟩,wo,wc⟩:=q
   dsimp only at hq ⊢
   subst hq
   cases h1:wriF x.l n k with
   | none=>
    obtain rfl:=hA0 h1
    repeat' (first|refine ZH ?_|refine ZG ?_|refine ZK ?_|refine ZI ?_|refine ZP ?_|refine ZJ ?_|refine ZM ?_|refine ZN (fun b=>?_)|refine ZO (fun b=>?_)|refine ZA ?_|refine ZB ?_|refine ZF (n2) (fun _ _=>?_)|refine l_call0 (n2) (fun _ _=>?_)|rw [c1]|refine l_idx 1 ?_|refine Zp (es:=y.vs) (f:=akf) i _ hv (fun b off=>?_)|refine Zm ?_|(refine ZC (fun hc=>?_) (fun hc=>?_)<;>(try simp at hc)<;>(try omega))|(refine ZE (fun hc=>?_) (fun hc=>?_)<;>(try simp at hc)<;>(try omega)))
    exact Zc ⟨(2,some a.k),.inr (.inr ⟨rfl,rfl⟩)⟩ (by show (0:Nat)<1;decide) ⟨rfl,rfl,rfl,rfl,rfl,rfl,rfl,rfl,rfl,trivial⟩
   | some j=>
    obtain ⟨c,_,hc2,_,rfl,hco⟩:=hA j h1
    have n3:=Y2 a.k c.k hao.1 hco.1
    by_cases hlt:0<kcmp a.k c.k
    ·have c2:decide ((0:Int)<kcmp a.k c.k)=true:=decide_eq_true hlt
     have e:stO (stO none (some c.k)) (some a.k)=some a.k:=if_pos hlt
     repeat' (first|refine ZH ?_|refine ZG ?_|refine ZK ?_|refine ZI ?_|refine ZP ?_|refine ZJ ?_|refine ZM ?_|refine ZN (fun b=>?_)|refine ZO (fun b=>?_)|refine ZA ?_|refine ZB ?_|refine ZF (n2) (fun _ _=>?_)|refine l_call0 (n2) (fun _ _=>?_)|refine ZF (n3) (fun _ _=>?_)|refine l_call0 (n3) (fun _ _=>?_)|rw [c1]|rw [c2]|refine l_idx 1 ?_|refine Zp (es:=y.vs) (f:=akf) i _ hv (fun b off=>?_)|refine Zm ?_|(refine ZC (fun hc=>?_) (fun hc=>?_)<;>(try simp at hc)<;>(try omega))|(refine ZE (fun hc=>?_) (fun hc=>?_)<;>(try simp at hc)<;>(try omega)))
     exact Zc ⟨(2,some a.k),.inr (.inr ⟨rfl,e.symm⟩)⟩ (by show (0:Nat)<1;decide) ⟨rfl,rfl,rfl,rfl,rfl,rfl,rfl,rfl,rfl,trivial⟩
    ·have c2:decide ((0:Int)<kcmp a.k c.k)=false:=decide_eq_false hlt
     have e:stO (stO none (some c.k)) (some a.k)=some c.k:=if_neg hlt
     repeat' (first|refine ZH ?_|refine ZG ?_|refine ZK ?_|refine ZI ?_|refine ZP ?_|refine ZJ ?_|refine ZM ?_|refine ZN (fun b=>?_)|refine ZO (fun b=>?_)|refine ZA ?_|refine ZB ?_|refine ZF (n2) (fun _ _=>?_)|refine l_call0 (n2) (fun _ _=>?_)|refine ZF (n3) (fun _ _=>?_)|refine l_call0 (n3) (fun _ _=>?_)|rw [c1]|rw [c2]|refine l_idx 1 ?_|refine Zp (es:=y.vs) (f:=akf) i _ hv (fun b off=>?_)|refine Zm ?_|(refine ZC (fun hc=>?_) (fun hc=>?_)<;>(try simp at hc)<;>(try omega))|(refine ZE (fun hc=>?_) (fun hc=>?_)<;>(try simp at hc)<;>(try omega)))
     exact Zc ⟨(2,some c.k),.inr (.inr ⟨rfl,e.symm⟩)⟩ (by show (0:Nat)<1;decide) ⟨rfl,rfl,rfl,rfl,rfl,rfl,rfl,rfl,rfl,trivial⟩
 ·repeat' (first|refine ZH ?_|refine ZG ?_|refine ZK ?_|refine ZI ?_|refine ZP ?_|refine ZJ ?_|refine ZM ?_|refine ZN (fun b=>?_)|refine ZO (fun b=>?_)|refine ZA ?_|refine ZB ?_|refine ZR ?_|(refine ZC (fun hc=>?_) (fun hc=>?_)<;>(try simp at hc)<;>(try omega))|(refine ZE (fun hc=>?_) (fun hc=>?_)<;>(try simp at hc)<;>(try omega)))
  exact ZS () rfl trivial
abbrev rsf (r:Rn):List Value:=[.int .i64 r.k.t,.int .i64 r.k.c,.int .i64 r.k.n,.string r.k.l,.int .i64 r.kd,.int .i64 r.nm.kind,.string r.nm.owner,.int .i64 r.nm.number,.int .i64 r.nm.index,.string r.nm.text]
abbrev rsv (r:Rn):Value:=.agg #[.int .i64 r.k.t,.int .i64 r.k.c,.int .i64 r.k.n,.string r.k.l,.int .i64 r.kd,.int .i64 r.nm.kind,.string r.nm.owner,.int .i64 r.nm.number,.int .i64 r.nm.index,.string r.nm.text]
set_option maxHeartbeats 4000000 in
theorem alone_ok (x y:Rc) (hx:x.ok) (hy:y.ok) (k:Ky) (kd:Int):Enters 92∧Spec prog 92 #[prv x y,kyv k,.int .i64 kd] (x.F++y.F) [] (RetV (rsv (aloneF x.l y.l k kd))):=by
 have n1:=vdif_ok x y hx hy (ofPro k.l) (turnF k.t) (by show (0:Nat)≤1000;decide)
 have n2:=vdif_ok x y hx hy ofEpo (turnF k.t) (by show (0:Nat)≤1000;decide)
 have m1:=turnsOf_ok k.t
 have m2:=ofEpo_ok
 have m3:=ofPro_ok k.l
 obtain ⟨V,hV⟩:∃V,aloneF x.l y.l k kd=V:=⟨_,rfl⟩
 rw [hV]
 unfold aloneF at hV
 generalize vdifF x.l y.l (ofPro k.l) (turnF k.t)=A at *
 generalize vdifF x.l y.l ofEpo (turnF k.t)=B at *
 by_cases hz:k.c=0
 ·rw [if_pos hz] at hV
  subst hV
  have hz2:decide (k.c=0)=true:=decide_eq_true hz
  refine Zb [_,_,_] func92 ntmps92 fun G w hp=>?_
  repeat' (first|refine ZH ?_|refine ZG ?_|refine ZK ?_|refine ZI ?_|refine ZP ?_|refine ZJ ?_|refine ZM ?_|refine ZN (fun b=>?_)|refine ZO (fun b=>?_)|refine ZA ?_|refine ZB ?_|refine ZZ ?_|refine ZW ?_|refine Zf ?_|refine Za ?_|refine ZY ?_|refine Ze (fun b=>?_)|refine Zg (fun b=>?_)|refine Zd ?_|refine ZX ?_|rw [hz2]|(refine ZC (fun hc=>?_) (fun hc=>?_)<;>(try simp at hc)<;>(try omega))|(refine ZL (fun hc=>?_) (fun hc=>?_)<;>(try simp at hc)<;>(try omega))|refine ZD 7 [] [(0,0),(1,0),(2,0),(3,0),(4,4),(5,4)] [] ?_|(refine ZE (fun hc=>?_) (fun hc=>?_)<;>(try simp at hc)<;>(try omega)))
  exact ZS () rfl trivial
 ·rw [if_neg hz] at hV
  have hz2:decide (k.c=0)=false:=decide_eq_false hz
  refine Zb [_,_,_] func92 ntmps92 fun G w hp=>?_
  repeat' (first|refine ZH ?_|refine ZG ?_|refine ZK ?_|refine ZI ?_|refine ZP ?_|refine ZJ ?_|refine ZM ?_|refine ZN (fun b=>?_)|refine ZO (fun b=>?_)|refine ZA ?_|refine ZB ?_|refine ZF (m2) (fun _ _=>?_)|refine l_call0 (m2) (fun _ _=>?_)|refine ZF (m3) (fun _ _=>?_)|refine l_call0 (m3) (fun _ _=>?_)|rw [hz2]|(refine ZC (fun hc=>?_) (fun hc=>?_)<;>(try simp at hc)<;>(try omega))|(refine ZE (fun hc=>?_) (fun hc=>?_)<;>(try simp at hc)<;>(try omega)))
  rename_i b3 b4 b6 _ _ _ _
  refine Z6 (X:={p:Int // p=0∨(p=1∧A=false)∨(p=2∧A=false∧B=false)}) (fun p=>[(3,pvE b3),(4,pvE b4),(6,pvE b6),(7,pvE b),(21,.agg #[.int .i64 1,.string k.l,.int .i64 0,.int .i64 0,.string ⟨#[]⟩,.int .i64 20,.string ⟨#[]⟩,.int .i64 0,.int .i64 0,.string ⟨#[]⟩]),(22,.int .i64 p.1)]) (fun _=>x.F++y.F) (fun _=>[Pt b (.cells (rsf ⟨k,kd,nmZ⟩).toArray 48),Pt b6 (.cells (rsf rnZ).toArray 48),Pt b4 (.cells (kyf k).toArray 41),Pt b3 (.cells #[.slice x.o x.vs.length x.c,.map (some x.r),.slice y.o y.vs.length y.c,.map (some y.r)] 125)]) (fun p=>(2 - p.1).toNat) ⟨0,.inl rfl⟩ ⟨rfl,rfl,rfl,rfl,rfl,rfl,trivial⟩ ?_
  rintro ⟨j,hj⟩
  dsimp only at hj ⊢
  rcases hj with rfl|⟨rfl,hA⟩|⟨rfl,hA,hB⟩
  ·cases A with
   | true=>
    rw [if_pos rfl] at hV
    subst hV
    repeat' (first|refine ZH ?_|refine ZG ?_|refine ZK ?_|refine ZI ?_|refine ZP ?_|refine ZJ ?_|refine ZM ?_|refine ZN (fun b=>?_)|refine ZO (fun b=>?_)|refine ZA ?_|refine ZB ?_|refine ZZ ?_|refine ZW ?_|refine Zf ?_|refine Za ?_|refine ZY ?_|refine Ze (fun b=>?_)|refine Zg (fun b=>?_)|refine Zd ?_|refine ZX ?_|refine ZF (n1) (fun _ _=>?_)|refine l_call0 (n1) (fun _ _=>?_)|refine ZT (n1) (fun _ _=>?_)|refine ZF (m1) (fun _ _=>?_)|refine l_call0 (m1) (fun _ _=>?_)|refine ZT (m1) (fun _ _=>?_)|refine l_idx 0 ?_|(refine ZC (fun hc=>?_) (fun hc=>?_)<;>(try simp at hc)<;>(try omega))|(refine ZL (fun hc=>?_) (fun hc=>?_)<;>(try simp at hc)<;>(try omega))|refine ZD 7 [] [(0,0),(1,0),(2,0),(3,0),(4,4),(5,4)] [] ?_|(refine ZE (fun hc=>?_) (fun hc=>?_)<;>(try simp at hc)<;>(try omega)))
    all_goals exact YR (YX (Z4 () rfl trivial))
   | false=>
    repeat' (first|refine ZH ?_|refine ZG ?_|refine ZK ?_|refine ZI ?_|refine ZP ?_|refine ZJ ?_|refine ZM ?_|refine ZN (fun b=>?_)|refine ZO (fun b=>?_)|refine ZA ?_|refine ZB ?_|refine ZZ ?_|refine ZW ?_|refine Zf ?_|refine Za ?_|refine ZY ?_|refine Ze (fun b=>?_)|refine Zg (fun b=>?_)|refine Zd ?_|refine ZX ?_|refine ZF (n1) (fun _ _=>?_)|refine l_call0 (n1) (fun _ _=>?_)|refine ZT (n1) (fun _ _=>?_)|refine ZF (m1) (fun _ _=>?_)|refine l_call0 (m1) (fun _ _=>?_)|refine ZT (m1) (fun _ _=>?_)|refine l_idx 0 ?_|(refine ZC (fun hc=>?_) (fun hc=>?_)<;>(try simp at hc)<;>(try omega))|(refine ZL (fun hc=>?_) (fun hc=>?_)<;>(try simp at hc)<;>(try omega))|refine ZD 7 [] [(0,0),(1,0),(2,0),(3,0),(4,4),(5,4)] [] ?_|(refine ZE (fun hc=>?_) (fun hc=>?_)<;>(try simp at hc)<;>(try omega)))
    all_goals exact Zc ⟨1,.inr (.inl ⟨rfl,rfl⟩)⟩ (by show (1:Nat)<2;decide) ⟨rfl,rfl,rfl,rfl,rfl,rfl,trivial⟩
  ·subst hA
   rw [if_neg Bool.false_ne_true] at hV
   cases B with
   | true=>
    rw [if_pos rfl] at hV
    subst hV
    repeat' (first|refine ZH ?_|refine ZG ?_|refine ZK ?_|refine ZI ?_|refine ZP ?_|refine ZJ ?_|refine ZM ?_|refine ZN (fun b=>?_)|refine ZO (fun b=>?_)|refine ZA ?_|refine ZB ?_|refine ZZ ?_|refine ZW ?_|refine Zf ?_|refine Za ?_|refine ZY ?_|refine Ze (fun b=>?_)|refine Zg (fun b=>?_)|refine Zd ?_|refine ZX ?_|refine ZF (n2) (fun _ _=>?_)|refine l_call0 (n2) (fun _ _=>?_)|refine ZT (n2) (fun _ _=>?_)|refine ZF (m1) (fun _ _=>?_)|refine l_call0 (m1) (fun _ _=>?_)|refine ZT (m1) (fun _ _=>?_)|refine l_idx 1 ?_|(refine ZC (fun hc=>?_) (fun hc=>?_)<;>(try simp at hc)<;>(try omega))|(refine ZL (fun hc=>?_) (fun hc=>?_)<;>(try simp at hc)<;>(try omega))|refine ZD 7 [] [(0,0),(1,0),(2,0),(3,0),(4,4),(5,4)] [] ?_|(refine ZE (fun hc=>?_) (fun hc=>?_)<;>(try simp at hc)<;>(try omega)))
    all_goals exact YR (YX (Z4 () rfl trivial))
   | false=>
    repeat' (first|refine ZH ?_|refine ZG ?_|refine ZK ?_|refine ZI ?_|refine ZP ?_|refine ZJ ?_|refine ZM ?_|refine ZN (fun b=>?_)|refine ZO (fun b=>?_)|refine ZA ?_|refine ZB ?_|refine ZZ ?_|refine ZW ?_|refine Zf ?_|refine Za ?_|refine ZY ?_|refine Ze (fun b=>?_)|refine Zg (fun b=>?_)|refine Zd ?_|refine ZX ?_|refine ZF (n2) (fun _ _=>?_)|refine l_call0 (n2) (fun _ _=>?_)|refine ZT (n2) (fun _ _=>?_)|refine ZF (m1) (fun _ _=>?_)|refine l_call0 (m1) (fun _ _=>?_)|refine ZT (m1) (fun _ _=>?_)|refine l_idx 1 ?_|(refine ZC (fun hc=>?_) (fun hc=>?_)<;>(try simp at hc)<;>(try omega))|(refine ZL (fun hc=>?_) (fun hc=>?_)<;>(try simp at hc)<;>(try omega))|refine ZD 7 [] [(0,0),(1,0),(2,0),(3,0),(4,4),(5,4)] [] ?_|(refine ZE (fun hc=>?_) (fun hc=>?_)<;>(try simp at hc)<;>(try omega)))
    all_goals exact Zc ⟨2,.inr (.inr ⟨rfl,rfl,rfl⟩)⟩ (by show (0:Nat)<1;decide) ⟨rfl,rfl,rfl,rfl,rfl,rfl,trivial⟩
  ·subst hA;subst hB
   rw [if_neg Bool.false_ne_true,if_neg Bool.false_ne_true] at hV
   subst hV
   repeat' (first|refine ZH ?_|refine ZG ?_|refine ZK ?_|refine ZI ?_|refine ZP ?_|refine ZJ ?_|refine ZM ?_|refine ZN (fun b=>?_)|refine ZO (fun b=>?_)|refine ZA ?_|refine ZB ?_|refine ZR ?_|refine ZZ ?_|refine ZW ?_|refine Zf ?_|refine Za ?_|refine ZY ?_|refine Ze (fun b=>?_)|refine Zg (fun b=>?_)|refine Zd ?_|refine ZX ?_|(refine ZC (fun hc=>?_) (fun hc=>?_)<;>(try simp at hc)<;>(try omega))|(refine ZL (fun hc=>?_) (fun hc=>?_)<;>(try simp at hc)<;>(try omega))|refine ZD 7 [] [(0,0),(1,0),(2,0),(3,0),(4,4),(5,4)] [] ?_|(refine ZE (fun hc=>?_) (fun hc=>?_)<;>(try simp at hc)<;>(try omega)))
   exact ZS () rfl trivial
theorem eqCh (a b:Ch):eqC eqS 20 108 a.v b.v=some (decide (a=b)):=by
 rw [show eqC eqS 20 108 a.v b.v=some (((a.nm.kind == b.nm.kind) && ((a.nm.owner.toList == b.nm.owner.toList) && ((a.nm.number == b.nm.number) && ((a.nm.index == b.nm.index) && ((a.nm.text.toList == b.nm.text.toList) && true))))) && ((a.val.toList == b.val.toList) && ((a.abs == b.abs) && true))) from rfl]
 congr 1
 obtain ⟨⟨a1,a2,a3,a4,a5⟩,a6,a7⟩:=a
 obtain ⟨⟨b1,b2,b3,b4,b5⟩,b6,b7⟩:=b
 simp only [beqSv,beqIv,Ch.mk.injEq,Nm.mk.injEq]
 rw [Bool.eq_iff_iff];simp [and_assoc]
instance instRnEq:DecidableEq Rn:=fun ⟨a,b,c⟩ ⟨a',b',c'⟩=>if h:a=a'∧b=b'∧c=c' then .isTrue (by rw [h.1,h.2.1,h.2.2]) else .isFalse fun e=>h (by cases e;exact ⟨rfl,rfl,rfl⟩)
theorem eqRn (a b:Rn):eqC eqS 20 48 (rsv a) (rsv b)=some (decide (a=b)):=by
 rw [show eqC eqS 20 48 (rsv a) (rsv b)=some (((a.k.t == b.k.t) && ((a.k.c == b.k.c) && ((a.k.n == b.k.n) && ((a.k.l.toList == b.k.l.toList) && true)))) && ((a.kd == b.kd) && (((a.nm.kind == b.nm.kind) && ((a.nm.owner.toList == b.nm.owner.toList) && ((a.nm.number == b.nm.number) && ((a.nm.index == b.nm.index) && ((a.nm.text.toList == b.nm.text.toList) && true))))) && true))) from rfl]
 congr 1
 obtain ⟨⟨a1,a2,a3,a4⟩,a5,⟨a6,a7,a8,a9,a0⟩⟩:=a
 obtain ⟨⟨b1,b2,b3,b4⟩,b5,⟨b6,b7,b8,b9,b0⟩⟩:=b
 simp only [beqSv,beqIv,Rn.mk.injEq,Nm.mk.injEq,Ky.mk.injEq]
 rw [Bool.eq_iff_iff];simp [and_assoc]
def preE {α:Type} (us ws:List α) (i:Nat):Prop:=∀j,j<i→us[j]? = ws[j]?
theorem eq_preE {α:Type} {us ws:List α} (hl:us.length=ws.length) (h:preE us ws us.length):us=ws:=by
 apply List.ext_getElem?
 intro j
 by_cases hj:j<us.length
 ·exact h j hj
 ·rw [List.getElem?_eq_none (by omega),List.getElem?_eq_none (by omega)]
set_option maxHeartbeats 1000000 in
theorem equalCh_ok (o1 o2:Option Addr) (c1 c2:Nat) (us ws:List Ch) (hl:us.length≤1099511627776) (hlb:ws.length≤1099511627776):Enters 143∧Spec prog 143 #[.slice o1 us.length c1,.slice o2 ws.length c2]
  [Sl 108 chf o1 c1 us,Sl 108 chf o2 c2 ws] [] (RetV (.bool (decide (us=ws)))):=by
 refine Zb [_,_] func143 ntmps143 fun G w hp=>?_
 by_cases hlen:us.length=ws.length
 ·repeat' (first|refine ZH ?_|refine ZG ?_|refine ZK ?_|refine ZI ?_|refine ZP ?_|refine ZJ ?_|refine ZM ?_|refine ZN (fun b=>?_)|refine ZO (fun b=>?_)|refine ZA ?_|refine ZB ?_|refine ZR ?_|refine ZZ ?_|refine ZW ?_|refine Zf ?_|refine Za ?_|refine ZY ?_|refine Ze (fun b=>?_)|refine Zg (fun b=>?_)|refine Zd ?_|refine ZX ?_|(refine ZC (fun hc=>?_) (fun hc=>?_)<;>(try simp at hc)<;>(try omega))|(refine ZL (fun hc=>?_) (fun hc=>?_)<;>(try simp at hc)<;>(try omega))|refine ZD 6 [] [(0,0),(1,0),(2,0),(3,0),(4,0),(5,0),(6,0),(7,0),(8,0)] [] ?_|(refine ZE (fun hc=>?_) (fun hc=>?_)<;>(try simp at hc)<;>(try omega)))
  refine Z6 (X:={i:Nat // i≤us.length∧preE us ws i}) (fun i=>[(0,.slice o1 us.length c1),(1,.slice o2 ws.length c2),(12,.int .i64 (us.length:Int)),(13,.int .i64 (i.1:Int))]) (fun _=>[Sl 108 chf o1 c1 us,Sl 108 chf o2 c2 ws]) (fun _=>[]) (fun i=>us.length - i.1) ⟨0,by omega,fun j hj=>by omega⟩ ⟨rfl,rfl,rfl,rfl,trivial⟩ ?_
  rintro ⟨i,hi,hp⟩
  dsimp only
  by_cases hlt:i<us.length
  ·obtain ⟨x,hx⟩:∃x,us[i]? = some x:=⟨_,List.getElem?_eq_getElem hlt⟩
   obtain ⟨y,hy⟩:∃y,ws[i]? = some y:=⟨_,List.getElem?_eq_getElem (by omega)⟩
   have he:=eqCh x y
   by_cases hxy:x=y
   ·rw [decide_eq_true hxy] at he
    repeat' (first|refine ZH ?_|refine ZG ?_|refine ZK ?_|refine ZI ?_|refine ZP ?_|refine ZJ ?_|refine ZM ?_|refine ZN (fun b=>?_)|refine ZO (fun b=>?_)|refine ZA ?_|refine ZB ?_|refine ZZ ?_|refine ZW ?_|refine Zf ?_|refine Za ?_|refine ZY ?_|refine Ze (fun b=>?_)|refine Zg (fun b=>?_)|refine Zd ?_|refine ZX ?_|refine YG (es:=us) i x hx (fun b off=>?_)|refine YG (es:=ws) i y hy (fun b off=>?_)|refine Yf ?_|refine r_sneq (b:=true) ?_ (he:=he)|(refine ZC (fun hc=>?_) (fun hc=>?_)<;>(try simp at hc)<;>(try omega))|(refine ZL (fun hc=>?_) (fun hc=>?_)<;>(try simp at hc)<;>(try omega))|refine ZD 6 [] [(0,0),(1,0),(2,0),(3,0),(4,0),(5,0),(6,0),(7,0),(8,0)] [] ?_|(refine ZE (fun hc=>?_) (fun hc=>?_)<;>(try simp at hc)<;>(try omega)))
    rw [wrapi (z:=(i:Int)+1) (by omega) (by omega)]
    refine Zc ⟨i+1,by omega,fun j hj=>?_⟩ (by show us.length - (i+1)<us.length - i;omega) ⟨rfl,rfl,rfl,rfl,trivial⟩
    by_cases hji:j=i
    ·subst hji;rw [hx,hy,hxy]
    ·exact hp j (by omega)
   ·rw [decide_eq_false hxy] at he
    have hne:decide (us=ws)=false:=decide_eq_false fun e=>hxy (by subst e;exact Option.some.inj (hx.symm.trans hy))
    rw [hne]
    repeat' (first|refine ZH ?_|refine ZG ?_|refine ZK ?_|refine ZI ?_|refine ZP ?_|refine ZJ ?_|refine ZM ?_|refine ZN (fun b=>?_)|refine ZO (fun b=>?_)|refine ZA ?_|refine ZB ?_|refine ZZ ?_|refine ZW ?_|refine Zf ?_|refine Za ?_|refine ZY ?_|refine Ze (fun b=>?_)|refine Zg (fun b=>?_)|refine Zd ?_|refine ZX ?_|refine YG (es:=us) i x hx (fun b off=>?_)|refine YG (es:=ws) i y hy (fun b off=>?_)|refine Yf ?_|refine r_sneq (b:=false) ?_ (he:=he)|(refine ZC (fun hc=>?_) (fun hc=>?_)<;>(try simp at hc)<;>(try omega))|(refine ZL (fun hc=>?_) (fun hc=>?_)<;>(try simp at hc)<;>(try omega))|refine ZD 6 [] [(0,0),(1,0),(2,0),(3,0),(4,0),(5,0),(6,0),(7,0),(8,0)] [] ?_|(refine ZE (fun hc=>?_) (fun hc=>?_)<;>(try simp at hc)<;>(try omega)))
    exact YR (YX (Z4 () rfl trivial))
  ·obtain rfl:i=us.length:=by omega
   rw [decide_eq_true (eq_preE hlen hp)]
   repeat' (first|refine ZH ?_|refine ZG ?_|refine ZK ?_|refine ZI ?_|refine ZP ?_|refine ZJ ?_|refine ZM ?_|refine ZN (fun b=>?_)|refine ZO (fun b=>?_)|refine ZA ?_|refine ZB ?_|refine ZR ?_|refine ZZ ?_|refine ZW ?_|refine Zf ?_|refine Za ?_|refine ZY ?_|refine Ze (fun b=>?_)|refine Zg (fun b=>?_)|refine Zd ?_|refine ZX ?_|(refine ZC (fun hc=>?_) (fun hc=>?_)<;>(try simp at hc)<;>(try omega))|(refine ZL (fun hc=>?_) (fun hc=>?_)<;>(try simp at hc)<;>(try omega))|refine ZD 6 [] [(0,0),(1,0),(2,0),(3,0),(4,0),(5,0),(6,0),(7,0),(8,0)] [] ?_|(refine ZE (fun hc=>?_) (fun hc=>?_)<;>(try simp at hc)<;>(try omega)))
   exact ZS () rfl trivial
 ·have hne:decide (us=ws)=false:=decide_eq_false fun e=>hlen (by rw [e])
  rw [hne]
  repeat' (first|refine ZH ?_|refine ZG ?_|refine ZK ?_|refine ZI ?_|refine ZP ?_|refine ZJ ?_|refine ZM ?_|refine ZN (fun b=>?_)|refine ZO (fun b=>?_)|refine ZA ?_|refine ZB ?_|refine ZR ?_|refine ZZ ?_|refine ZW ?_|refine Zf ?_|refine Za ?_|refine ZY ?_|refine Ze (fun b=>?_)|refine Zg (fun b=>?_)|refine Zd ?_|refine ZX ?_|(refine ZC (fun hc=>?_) (fun hc=>?_)<;>(try simp at hc)<;>(try omega))|(refine ZL (fun hc=>?_) (fun hc=>?_)<;>(try simp at hc)<;>(try omega))|refine ZD 6 [] [(0,0),(1,0),(2,0),(3,0),(4,0),(5,0),(6,0),(7,0),(8,0)] [] ?_|(refine ZE (fun hc=>?_) (fun hc=>?_)<;>(try simp at hc)<;>(try omega)))
  exact ZS () rfl trivial
set_option maxHeartbeats 1000000 in
theorem equalRn_ok (o1 o2:Option Addr) (c1 c2:Nat) (us ws:List Rn) (hl:us.length≤1099511627776) (hlb:ws.length≤1099511627776):Enters 46∧Spec prog 46 #[.slice o1 us.length c1,.slice o2 ws.length c2]
  [Sl 48 rsf o1 c1 us,Sl 48 rsf o2 c2 ws] [] (RetV (.bool (decide (us=ws)))):=by
 refine Zb [_,_] func46 ntmps46 fun G w hp=>?_
 by_cases hlen:us.length=ws.length
 ·repeat' (first|refine ZH ?_|refine ZG ?_|refine ZK ?_|refine ZI ?_|refine ZP ?_|refine ZJ ?_|refine ZM ?_|refine ZN (fun b=>?_)|refine ZO (fun b=>?_)|refine ZA ?_|refine ZB ?_|refine ZR ?_|refine ZZ ?_|refine ZW ?_|refine Zf ?_|refine Za ?_|refine ZY ?_|refine Ze (fun b=>?_)|refine Zg (fun b=>?_)|refine Zd ?_|refine ZX ?_|(refine ZC (fun hc=>?_) (fun hc=>?_)<;>(try simp at hc)<;>(try omega))|(refine ZL (fun hc=>?_) (fun hc=>?_)<;>(try simp at hc)<;>(try omega))|refine ZD 6 [] [(0,0),(1,0),(2,0),(3,0),(4,0),(5,0),(6,0),(7,0),(8,0)] [] ?_|(refine ZE (fun hc=>?_) (fun hc=>?_)<;>(try simp at hc)<;>(try omega)))
  refine Z6 (X:={i:Nat // i≤us.length∧preE us ws i}) (fun i=>[(0,.slice o1 us.length c1),(1,.slice o2 ws.length c2),(12,.int .i64 (us.length:Int)),(13,.int .i64 (i.1:Int))]) (fun _=>[Sl 48 rsf o1 c1 us,Sl 48 rsf o2 c2 ws]) (fun _=>[]) (fun i=>us.length - i.1) ⟨0,by omega,fun j hj=>by omega⟩ ⟨rfl,rfl,rfl,rfl,trivial⟩ ?_
  rintro ⟨i,hi,hp⟩
  dsimp only
  by_cases hlt:i<us.length
  ·obtain ⟨x,hx⟩:∃x,us[i]? = some x:=⟨_,List.getElem?_eq_getElem hlt⟩
   obtain ⟨y,hy⟩:∃y,ws[i]? = some y:=⟨_,List.getElem?_eq_getElem (by omega)⟩
   have he:=eqRn x y
   by_cases hxy:x=y
   ·rw [decide_eq_true hxy] at he
    repeat' (first|refine ZH ?_|refine ZG ?_|refine ZK ?_|refine ZI ?_|refine ZP ?_|refine ZJ ?_|refine ZM ?_|refine ZN (fun b=>?_)|refine ZO (fun b=>?_)|refine ZA ?_|refine ZB ?_|refine ZZ ?_|refine ZW ?_|refine Zf ?_|refine Za ?_|refine ZY ?_|refine Ze (fun b=>?_)|refine Zg (fun b=>?_)|refine Zd ?_|refine ZX ?_|refine YG (es:=us) i x hx (fun b off=>?_)|refine YG (es:=ws) i y hy (fun b off=>?_)|refine Yf ?_|refine r_sneq (b:=true) ?_ (he:=he)|(refine ZC (fun hc=>?_) (fun hc=>?_)<;>(try simp at hc)<;>(try omega))|(refine ZL (fun hc=>?_) (fun hc=>?_)<;>(try simp at hc)<;>(try omega))|refine ZD 6 [] [(0,0),(1,0),(2,0),(3,0),(4,0),(5,0),(6,0),(7,0),(8,0)] [] ?_|(refine ZE (fun hc=>?_) (fun hc=>?_)<;>(try simp at hc)<;>(try omega)))
    rw [wrapi (z:=(i:Int)+1) (by omega) (by omega)]
    refine Zc ⟨i+1,by omega,fun j hj=>?_⟩ (by show us.length - (i+1)<us.length - i;omega) ⟨rfl,rfl,rfl,rfl,trivial⟩
    by_cases hji:j=i
    ·subst hji;rw [hx,hy,hxy]
    ·exact hp j (by omega)
   ·rw [decide_eq_false hxy] at he
    have hne:decide (us=ws)=false:=decide_eq_false fun e=>hxy (by subst e;exact Option.some.inj (hx.symm.trans hy))
    rw [hne]
    repeat' (first|refine ZH ?_|refine ZG ?_|refine ZK ?_|refine ZI ?_|refine ZP ?_|refine ZJ ?_|refine ZM ?_|refine ZN (fun b=>?_)|refine ZO (fun b=>?_)|refine ZA ?_|refine ZB ?_|refine ZZ ?_|refine ZW ?_|refine Zf ?_|refine Za ?_|refine ZY ?_|refine Ze (fun b=>?_)|refine Zg (fun b=>?_)|refine Zd ?_|refine ZX ?_|refine YG (es:=us) i x hx (fun b off=>?_)|refine YG (es:=ws) i y hy (fun b off=>?_)|refine Yf ?_|refine r_sneq (b:=false) ?_ (he:=he)|(refine ZC (fun hc=>?_) (fun hc=>?_)<;>(try simp at hc)<;>(try omega))|(refine ZL (fun hc=>?_) (fun hc=>?_)<;>(try simp at hc)<;>(try omega))|refine ZD 6 [] [(0,0),(1,0),(2,0),(3,0),(4,0),(5,0),(6,0),(7,0),(8,0)] [] ?_|(refine ZE (fun hc=>?_) (fun hc=>?_)<;>(try simp at hc)<;>(try omega)))
    exact YR (YX (Z4 () rfl trivial))
  ·obtain rfl:i=us.length:=by omega
   rw [decide_eq_true (eq_preE hlen hp)]
   repeat' (first|refine ZH ?_|refine ZG ?_|refine ZK ?_|refine ZI ?_|refine ZP ?_|refine ZJ ?_|refine ZM ?_|refine ZN (fun b=>?_)|refine ZO (fun b=>?_)|refine ZA ?_|refine ZB ?_|refine ZR ?_|refine ZZ ?_|refine ZW ?_|refine Zf ?_|refine Za ?_|refine ZY ?_|refine Ze (fun b=>?_)|refine Zg (fun b=>?_)|refine Zd ?_|refine ZX ?_|(refine ZC (fun hc=>?_) (fun hc=>?_)<;>(try simp at hc)<;>(try omega))|(refine ZL (fun hc=>?_) (fun hc=>?_)<;>(try simp at hc)<;>(try omega))|refine ZD 6 [] [(0,0),(1,0),(2,0),(3,0),(4,0),(5,0),(6,0),(7,0),(8,0)] [] ?_|(refine ZE (fun hc=>?_) (fun hc=>?_)<;>(try simp at hc)<;>(try omega)))
   exact ZS () rfl trivial
 ·have hne:decide (us=ws)=false:=decide_eq_false fun e=>hlen (by rw [e])
  rw [hne]
  repeat' (first|refine ZH ?_|refine ZG ?_|refine ZK ?_|refine ZI ?_|refine ZP ?_|refine ZJ ?_|refine ZM ?_|refine ZN (fun b=>?_)|refine ZO (fun b=>?_)|refine ZA ?_|refine ZB ?_|refine ZR ?_|refine ZZ ?_|refine ZW ?_|refine Zf ?_|refine Za ?_|refine ZY ?_|refine Ze (fun b=>?_)|refine Zg (fun b=>?_)|refine Zd ?_|refine ZX ?_|(refine ZC (fun hc=>?_) (fun hc=>?_)<;>(try simp at hc)<;>(try omega))|(refine ZL (fun hc=>?_) (fun hc=>?_)<;>(try simp at hc)<;>(try omega))|refine ZD 6 [] [(0,0),(1,0),(2,0),(3,0),(4,0),(5,0),(6,0),(7,0),(8,0)] [] ?_|(refine ZE (fun hc=>?_) (fun hc=>?_)<;>(try simp at hc)<;>(try omega)))
  exact ZS () rfl trivial
section
variable {n:Nat} {C:Cx} {Q:Exit→Act→World→Prop} {E:List (Nat×Value)} {F:List Pf} {R R0:List HP} {k:List Fr} {ops l:List Oper} {d:Nat} {t ty0:TypeId} {x y:Operand} {pos:String} {aft:Array Edge} {gd:Option (Nat×Bool)} {α β:Type} [DecidableEq α] {K:α→Value} {V:β→Value}
theorem YN {kt et r:Nat} {rs te:TRow} {m:List (α×β)} {zv:Value} (hk:KeyOK kt K) (a:α) (o:Option β) (ho:mget a m=o) (nx:Wl n C ops.toArray k Q l ((d,.tuple #[(o.map V).getD zv,.bool o.isSome])::E) F R) (hw:wantL ops E ⟨some d,.lookup t x y true,ty0,pos,aft,gd⟩=some true:=by rfl) (hn:Nat.blt d n=true:=by rfl)
  (hx:ev E x=some (.map (some r)):=by rfl) (hy:ev E y=some (K a):=by rfl) (hts:lookT tab t=some rs:=by rfl) (hrs:rs.k = .map kt et:=by rfl) (hte:lookT tab et=some te:=by rfl) (hzv:zval te=some zv:=by rfl)
  (hs:Sel (Mp K V r m) R R0:=by (repeat (first|exact Sel.here|apply Sel.there));first|done|fail):Wl n C ops.toArray k Q (⟨some d,.lookup t x y true,ty0,pos,aft,gd⟩::l) E F R:=by
 rw [←ho] at nx
 exact l_mget2 hk a nx hw hn hx hy hts hrs hte hzv hs
end
theorem best_step {b rd:List Ch} {p:Nat} {u:Option Nm} {c:Ch} (hc:rd[p]? = some c):bestF b (rd.drop p) u=bestF b (rd.drop (p+1)) (match wtnL c.nm b with
  | some o=>if diffF c o && (match u with|none=>true|some m=>decide (cmpO c.nm m<0)) then some c.nm else u
  | none=>u):=by
 obtain ⟨hlt,rfl⟩:=List.getElem?_eq_some_iff.1 hc
 rw [List.drop_eq_getElem_cons hlt]
 rfl
theorem wtn_take {n:Nm} {b:List Ch} {i:Nat} {c:Ch} (hc:b[i]? = some c):wtnL n (b.take (i+1))=if c.nm=n then some c else wtnL n (b.take i):=by
 obtain ⟨hlt,rfl⟩:=List.getElem?_eq_some_iff.1 hc
 rw [List.take_succ_eq_append_getElem hlt,wtn_snoc]
set_option maxHeartbeats 4000000 in
theorem changed_ok (p q:Ak) (hp:AkOK p) (hq:AkOK q) (ro1 wo1 ro2 wo2:Option Addr) (rc1 wc1 wl1 rc2 wc2 wl2:Nat):Enters 91∧Spec prog 91 #[.agg #[.int .i64 p.k.t,.int .i64 p.k.c,.int .i64 p.k.n,.string p.k.l,.slice ro1 p.rd.length rc1,.slice wo1 wl1 wc1],.agg #[.int .i64 q.k.t,.int .i64 q.k.c,.int .i64 q.k.n,.string q.k.l,.slice ro2 q.rd.length rc2,.slice wo2 wl2 wc2]] [ChS ro1 rc1 p.rd,ChS ro2 rc2 q.rd] [] (RetV (.tuple #[rsv (chgF p q).1,.int .i64 (chgF p q).2])):=by
 have hla:=hp.2.1
 have hlb:=hq.2.1
 have n1:=equalCh_ok ro1 ro2 rc1 rc2 p.rd q.rd (by omega) (by omega)
 obtain ⟨V,hV⟩:∃V,chgF p q=V:=⟨_,rfl⟩
 rw [hV]
 unfold chgF at hV
 by_cases hab:p.rd=q.rd
 ·rw [if_pos hab] at hV
  rw [decide_eq_true hab] at n1
  subst hV
  refine Zb [_,_] func91 ntmps91 fun G w hp=>?_
  repeat' (first|refine ZH ?_|refine ZG ?_|refine ZK ?_|refine ZI ?_|refine ZP ?_|refine ZJ ?_|refine ZM ?_|refine ZN (fun b=>?_)|refine ZO (fun b=>?_)|refine ZA ?_|refine ZB ?_|refine ZF (n1) (fun _ _=>?_)|refine l_call0 (n1) (fun _ _=>?_)|(refine ZC (fun hc=>?_) (fun hc=>?_)<;>(try simp at hc)<;>(try omega))|(refine ZE (fun hc=>?_) (fun hc=>?_)<;>(try simp at hc)<;>(try omega)))
  exact ZS () rfl trivial
 ·rw [if_neg hab] at hV
  rw [decide_eq_false hab] at n1
  generalize hrd:p.rd=rd at *
  generalize hre:q.rd=re at *
  have hok:∀c ∈ rd,ChOK c:=by rw [←hrd];exact hp.2.2.2.1
  obtain ⟨W,hW⟩:∃W,bestF re rd none=W:=⟨_,rfl⟩
  rw [hW] at hV
  refine Zb [_,_] func91 ntmps91 fun G w hp=>?_
  repeat' (first|refine ZH ?_|refine ZG ?_|refine ZK ?_|refine ZI ?_|refine ZP ?_|refine ZJ ?_|refine ZM ?_|refine ZN (fun b=>?_)|refine ZO (fun b=>?_)|refine ZA ?_|refine ZB ?_|refine ZF (n1) (fun _ _=>?_)|refine l_call0 (n1) (fun _ _=>?_)|refine XS YP Ch.v (fun r=>?_)|(refine ZC (fun hc=>?_) (fun hc=>?_)<;>(try simp at hc)<;>(try omega))|(refine ZE (fun hc=>?_) (fun hc=>?_)<;>(try simp at hc)<;>(try omega)))
  rename_i b2 b3 _ _
  generalize b=b4 at *
  refine Z6 (X:={p:Nat×List (Nm×Ch) // p.1≤re.length∧∀n,mget n p.2=wtnL n (re.take p.1)}) (fun p=>[(2,pvE b2),(3,pvE b3),(4,pvE b4),(5,.int .i64 0),(6,.map (some r)),(23,.slice ro2 re.length rc2),(24,.int .i64 (re.length:Int)),(25,.int .i64 (p.1.1:Int))]) (fun _=>[ChS ro1 rc1 rd,ChS ro2 rc2 re]) (fun x=>[Mp Nm.v Ch.v r x.1.2,Pt b4 (.cells (rsf rnZ).toArray 48),Pt b2 (.cells #[.int .i64 p.k.t,.int .i64 p.k.c,.int .i64 p.k.n,.string p.k.l,.slice ro1 rd.length rc1,.slice wo1 wl1 wc1] 44)]) (fun p=>re.length - p.1.1) ⟨(0,[]),Nat.zero_le _,fun n=>rfl⟩ ⟨rfl,rfl,rfl,rfl,rfl,rfl,rfl,rfl,trivial⟩ ?_
  rintro ⟨⟨i,m⟩,hi,hm⟩
  dsimp only at hi hm ⊢
  by_cases hlt:i<re.length
  ·have hck:=List.getElem?_eq_getElem hlt
   have h1:=fun n=>wtn_take (n:=n) hck
   generalize re[i]=c at *
   repeat' (first|refine Zm ?_|refine Zp (es:=re) (f:=chf) i c hck (fun b off=>?_)|refine ZH ?_|refine ZG ?_|refine ZK ?_|refine ZI ?_|refine ZP ?_|refine ZJ ?_|refine ZM ?_|refine ZN (fun b=>?_)|refine ZO (fun b=>?_)|refine ZA ?_|refine ZB ?_|refine XJ YP c.nm c ?_|(refine ZC (fun hc=>?_) (fun hc=>?_)<;>(try simp at hc)<;>(try omega))|(refine ZE (fun hc=>?_) (fun hc=>?_)<;>(try simp at hc)<;>(try omega)))
   rw [wrapi (z:=(i:Int)+1) (by omega) (by omega)]
   refine Zc ⟨(i+1,mset c.nm c m),by show i+1≤re.length;omega,fun n=>?_⟩ (by show re.length - (i+1)<re.length - i;omega) ⟨rfl,rfl,rfl,rfl,rfl,rfl,rfl,rfl,trivial⟩
   rw [YO,h1,hm]
  ·obtain rfl:i=re.length:=by omega
   rw [List.take_length] at hm
   repeat' (first|refine ZH ?_|refine ZG ?_|refine ZK ?_|refine ZI ?_|refine ZP ?_|refine ZJ ?_|refine ZM ?_|refine ZN (fun b=>?_)|refine ZO (fun b=>?_)|refine ZA ?_|refine ZB ?_|refine ZR ?_|(refine ZC (fun hc=>?_) (fun hc=>?_)<;>(try simp at hc)<;>(try omega))|(refine ZE (fun hc=>?_) (fun hc=>?_)<;>(try simp at hc)<;>(try omega)))
   generalize b=b9 at *
   refine Z6 (X:={p:Nat×Option Nm // p.1≤rd.length∧bestF re (rd.drop p.1) p.2=W∧∀m,p.2=some m→m.owner.size≤1000}) (fun x=>[(2,pvE b2),(4,pvE b4),(5,.int .i64 0),(6,.map (some r)),(9,pvE b9),(10,.bool x.1.2.isSome),(38,.slice ro1 rd.length rc1),(39,.int .i64 (rd.length:Int)),(40,.int .i64 (x.1.1:Int))]) (fun _=>[ChS ro1 rc1 rd]) (fun x=>[Pt b9 (.cells (rsf ⟨p.k,1,x.1.2.getD nmZ⟩).toArray 48),Mp Nm.v Ch.v r m,Pt b4 (.cells (rsf rnZ).toArray 48)]) (fun p=>rd.length - p.1.1) ⟨(0,none),Nat.zero_le _,hW,fun m hm=>by cases hm⟩ ⟨rfl,rfl,rfl,rfl,rfl,rfl,rfl,rfl,rfl,trivial⟩ ?_
   rintro ⟨⟨i,u⟩,hi,hu,huo⟩
   dsimp only at hi hu huo ⊢
   by_cases hlt:i<rd.length
   ·have hck:=List.getElem?_eq_getElem hlt
    have hco:=hok _ (List.getElem_mem hlt)
    have h1:=best_step (b:=re) (u:=u) hck
    rw [hu] at h1
    generalize rd[i]=c at *
    have hg:=hm c.nm
    have w1:=wrapi (z:=(i:Int)+1) (by omega) (by omega)
    have hnx:i+1≤rd.length:=hlt
    have hmu:rd.length - (i+1)<rd.length - i:=by omega
    cases ho:wtnL c.nm re with
    | none=>
     rw [ho] at hg h1
     repeat' (first|refine Zm ?_|refine Zp (es:=rd) (f:=chf) i c hck (fun b off=>?_)|refine ZH ?_|refine ZG ?_|refine ZK ?_|refine ZI ?_|refine ZP ?_|refine ZJ ?_|refine ZM ?_|refine ZN (fun b=>?_)|refine ZO (fun b=>?_)|refine ZA ?_|refine ZB ?_|refine YN YP c.nm none hg ?_|rw [w1]|(refine ZC (fun hc=>?_) (fun hc=>?_)<;>(try simp at hc)<;>(try omega))|(refine ZE (fun hc=>?_) (fun hc=>?_)<;>(try simp at hc)<;>(try omega)))
     exact Zc ⟨(i+1,u),hnx,h1.symm,huo⟩ hmu ⟨rfl,rfl,rfl,rfl,rfl,rfl,rfl,rfl,rfl,trivial⟩
    | some o=>
     rw [ho] at hg h1
     have n2:=differs_ok c o
     dsimp only at h1
     cases hd:diffF c o with
     | false=>
      rw [hd] at n2 h1
      repeat' (first|refine Zm ?_|refine Zp (es:=rd) (f:=chf) i c hck (fun b off=>?_)|refine ZH ?_|refine ZG ?_|refine ZK ?_|refine ZI ?_|refine ZP ?_|refine ZJ ?_|refine ZM ?_|refine ZN (fun b=>?_)|refine ZO (fun b=>?_)|refine ZA ?_|refine ZB ?_|refine ZF (n2) (fun _ _=>?_)|refine l_call0 (n2) (fun _ _=>?_)|refine YN YP c.nm (some o) hg ?_|rw [w1]|(refine ZC (fun hc=>?_) (fun hc=>?_)<;>(try simp at hc)<;>(try omega))|(refine ZE (fun hc=>?_) (fun hc=>?_)<;>(try simp at hc)<;>(try omega)))
      exact Zc ⟨(i+1,u),hnx,h1.symm,huo⟩ hmu ⟨rfl,rfl,rfl,rfl,rfl,rfl,rfl,rfl,rfl,trivial⟩
     | true=>
      rw [hd] at n2 h1
      rw [Bool.true_and] at h1
      cases u with
      | none=>
       rw [if_pos rfl] at h1
       repeat' (first|refine Zm ?_|refine Zp (es:=rd) (f:=chf) i c hck (fun b off=>?_)|refine ZH ?_|refine ZG ?_|refine ZK ?_|refine ZI ?_|refine ZP ?_|refine ZJ ?_|refine ZM ?_|refine ZN (fun b=>?_)|refine ZO (fun b=>?_)|refine ZA ?_|refine ZB ?_|refine ZF (n2) (fun _ _=>?_)|refine l_call0 (n2) (fun _ _=>?_)|refine YN YP c.nm (some o) hg ?_|rw [w1]|(refine ZC (fun hc=>?_) (fun hc=>?_)<;>(try simp at hc)<;>(try omega))|(refine ZE (fun hc=>?_) (fun hc=>?_)<;>(try simp at hc)<;>(try omega)))
       exact Zc ⟨(i+1,some c.nm),hnx,h1.symm,fun m hm=>by cases hm;exact hco.1⟩ hmu ⟨rfl,rfl,rfl,rfl,rfl,rfl,rfl,rfl,rfl,trivial⟩
      | some v=>
       have hvo:=huo v rfl
       have n3:=YA c.nm v (by have:=hco.1;omega) (by omega)
       have h1:W=bestF re (rd.drop (i+1)) (if decide (cmpO c.nm v<0)=true then some c.nm else some v):=h1
       by_cases hcv:cmpO c.nm v<0
       ·have c2:decide (cmpO c.nm v<0)=true:=decide_eq_true hcv
        rw [if_pos c2] at h1
        repeat' (first|refine Zm ?_|refine Zp (es:=rd) (f:=chf) i c hck (fun b off=>?_)|refine ZH ?_|refine ZG ?_|refine ZK ?_|refine ZI ?_|refine ZP ?_|refine ZJ ?_|refine ZM ?_|refine ZN (fun b=>?_)|refine ZO (fun b=>?_)|refine ZA ?_|refine ZB ?_|refine ZF (n2) (fun _ _=>?_)|refine l_call0 (n2) (fun _ _=>?_)|refine ZF (n3) (fun _ _=>?_)|refine l_call0 (n3) (fun _ _=>?_)|refine YN YP c.nm (some o) hg ?_|rw [w1]|rw [c2]|(refine ZC (fun hc=>?_) (fun hc=>?_)<;>(try simp at hc)<;>(try omega))|(refine ZE (fun hc=>?_) (fun hc=>?_)<;>(try simp at hc)<;>(try omega)))
        exact Zc ⟨(i+1,some c.nm),hnx,h1.symm,fun m hm=>by cases hm;exact hco.1⟩ hmu ⟨rfl,rfl,rfl,rfl,rfl,rfl,rfl,rfl,rfl,trivial⟩
       ·have c2:decide (cmpO c.nm v<0)=false:=decide_eq_false hcv
        rw [if_neg (by rw [c2];exact Bool.false_ne_true)] at h1
        repeat' (first|refine Zm ?_|refine Zp (es:=rd) (f:=chf) i c hck (fun b off=>?_)|refine ZH ?_|refine ZG ?_|refine ZK ?_|refine ZI ?_|refine ZP ?_|refine ZJ ?_|refine ZM ?_|refine ZN (fun b=>?_)|refine ZO (fun b=>?_)|refine ZA ?_|refine ZB ?_|refine ZF (n2) (fun _ _=>?_)|refine l_call0 (n2) (fun _ _=>?_)|refine ZF (n3) (fun _ _=>?_)|refine l_call0 (n3) (fun _ _=>?_)|refine YN YP c.nm (some o) hg ?_|rw [w1]|rw [c2]|(refine ZC (fun hc=>?_) (fun hc=>?_)<;>(try simp at hc)<;>(try omega))|(refine ZE (fun hc=>?_) (fun hc=>?_)<;>(try simp at hc)<;>(try omega)))
        exact Zc ⟨(i+1,some v),hnx,h1.symm,huo⟩ hmu ⟨rfl,rfl,rfl,rfl,rfl,rfl,rfl,rfl,rfl,trivial⟩
   ·obtain rfl:i=rd.length:=by omega
    rw [List.drop_length] at hu
    have hu:u=W:=hu
    subst hu
    cases u with
    | none=>
     subst hV
     repeat' (first|refine ZH ?_|refine ZG ?_|refine ZK ?_|refine ZI ?_|refine ZP ?_|refine ZJ ?_|refine ZM ?_|refine ZN (fun b=>?_)|refine ZO (fun b=>?_)|refine ZA ?_|refine ZB ?_|refine ZR ?_|(refine ZC (fun hc=>?_) (fun hc=>?_)<;>(try simp at hc)<;>(try omega))|(refine ZE (fun hc=>?_) (fun hc=>?_)<;>(try simp at hc)<;>(try omega)))
     exact ZS () rfl trivial
    | some v=>
     subst hV
     repeat' (first|refine ZH ?_|refine ZG ?_|refine ZK ?_|refine ZI ?_|refine ZP ?_|refine ZJ ?_|refine ZM ?_|refine ZN (fun b=>?_)|refine ZO (fun b=>?_)|refine ZA ?_|refine ZB ?_|refine ZR ?_|(refine ZC (fun hc=>?_) (fun hc=>?_)<;>(try simp at hc)<;>(try omega))|(refine ZE (fun hc=>?_) (fun hc=>?_)<;>(try simp at hc)<;>(try omega)))
     exact ZS () rfl trivial
theorem at_get {l:List Ak} {k:Ky} {a:Ak} (h:atF l k=some a):l[srchF l k]? = some a:=by
 unfold atF at h
 split at h
 ·rename_i b hb
  split at h
  ·cases h;exact hb
  ·cases h
 ·cases h
set_option maxHeartbeats 4000000 in
theorem reason_ok (x y:Rc) (hx:x.ok) (hy:y.ok) (k:Ky) (hk:k.l.size≤1000):Enters 42∧Spec prog 42 #[prv x y,kyv k] (x.F++y.F) [] (RetV (.tuple #[rsv (rsnF x.l y.l k).1,.int .i64 (rsnF x.l y.l k).2])):=by
 have n1:=Wx x.l x.vs x.o x.c x.r hx.ln hx.b hx.w k hk
 have n2:=Wx y.l y.vs y.o y.c y.r hy.ln hy.b hy.w k hk
 have n3:=fun kd=>alone_ok x y hx hy k kd
 obtain ⟨V,hV⟩:∃V,rsnF x.l y.l k=V:=⟨_,rfl⟩
 rw [hV]
 unfold rsnF at hV
 cases h1:atF x.l k with
 | none=>
  rw [h1] at n1 hV
  cases h2:atF y.l k with
  | none=>
   rw [h2] at n2 hV
   subst hV
   refine Zb [_,_] func42 ntmps42 fun G w hp=>?_
   repeat' (first|refine ZH ?_|refine ZG ?_|refine ZK ?_|refine ZI ?_|refine ZP ?_|refine ZJ ?_|refine ZM ?_|refine ZN (fun b=>?_)|refine ZO (fun b=>?_)|refine ZA ?_|refine ZB ?_|refine ZR ?_|refine ZZ ?_|refine ZW ?_|refine Zf ?_|refine Za ?_|refine ZY ?_|refine Ze (fun b=>?_)|refine Zg (fun b=>?_)|refine Zd ?_|refine ZX ?_|refine ZF (n1) (fun _ _=>?_)|refine l_call0 (n1) (fun _ _=>?_)|refine ZT (n1) (fun _ _=>?_)|refine ZF (n2) (fun _ _=>?_)|refine l_call0 (n2) (fun _ _=>?_)|refine ZT (n2) (fun _ _=>?_)|(refine ZC (fun hc=>?_) (fun hc=>?_)<;>(try simp at hc)<;>(try omega))|(refine ZL (fun hc=>?_) (fun hc=>?_)<;>(try simp at hc)<;>(try omega))|refine ZD 4 [] [(0,0),(1,0),(2,0),(3,0),(4,0),(5,0),(6,0),(7,0),(8,0),(9,0),(10,0),(11,0),(12,4),(13,0),(14,0)] [15,16] ?_|(refine ZE (fun hc=>?_) (fun hc=>?_)<;>(try simp at hc)<;>(try omega)))
   exact ZS () rfl trivial
  | some b=>
   rw [h2] at n2 hV
   subst hV
   refine Zb [_,_] func42 ntmps42 fun G w hp=>?_
   repeat' (first|refine ZH ?_|refine ZG ?_|refine ZK ?_|refine ZI ?_|refine ZP ?_|refine ZJ ?_|refine ZM ?_|refine ZN (fun b=>?_)|refine ZO (fun b=>?_)|refine ZA ?_|refine ZB ?_|refine ZR ?_|refine ZZ ?_|refine ZW ?_|refine Zf ?_|refine Za ?_|refine ZY ?_|refine Ze (fun b=>?_)|refine Zg (fun b=>?_)|refine Zd ?_|refine ZX ?_|refine ZF (n1) (fun _ _=>?_)|refine l_call0 (n1) (fun _ _=>?_)|refine ZT (n1) (fun _ _=>?_)|refine ZF (n2) (fun _ _=>?_)|refine l_call0 (n2) (fun _ _=>?_)|refine ZT (n2) (fun _ _=>?_)|refine ZF (n3 _) (fun _ _=>?_)|refine l_call0 (n3 _) (fun _ _=>?_)|refine ZT (n3 _) (fun _ _=>?_)|(refine ZC (fun hc=>?_) (fun hc=>?_)<;>(try simp at hc)<;>(try omega))|(refine ZL (fun hc=>?_) (fun hc=>?_)<;>(try simp at hc)<;>(try omega))|refine ZD 4 [] [(0,0),(1,0),(2,0),(3,0),(4,0),(5,0),(6,0),(7,0),(8,0),(9,0),(10,0),(11,0),(12,4),(13,0),(14,0)] [15,16] ?_|(refine ZE (fun hc=>?_) (fun hc=>?_)<;>(try simp at hc)<;>(try omega)))
   exact ZS () rfl trivial
 | some a=>
  rw [h1] at n1 hV
  cases h2:atF y.l k with
  | none=>
   rw [h2] at n2 hV
   subst hV
   refine Zb [_,_] func42 ntmps42 fun G w hp=>?_
   repeat' (first|refine ZH ?_|refine ZG ?_|refine ZK ?_|refine ZI ?_|refine ZP ?_|refine ZJ ?_|refine ZM ?_|refine ZN (fun b=>?_)|refine ZO (fun b=>?_)|refine ZA ?_|refine ZB ?_|refine ZR ?_|refine ZZ ?_|refine ZW ?_|refine Zf ?_|refine Za ?_|refine ZY ?_|refine Ze (fun b=>?_)|refine Zg (fun b=>?_)|refine Zd ?_|refine ZX ?_|refine ZF (n1) (fun _ _=>?_)|refine l_call0 (n1) (fun _ _=>?_)|refine ZT (n1) (fun _ _=>?_)|refine ZF (n2) (fun _ _=>?_)|refine l_call0 (n2) (fun _ _=>?_)|refine ZT (n2) (fun _ _=>?_)|refine ZF (n3 _) (fun _ _=>?_)|refine l_call0 (n3 _) (fun _ _=>?_)|refine ZT (n3 _) (fun _ _=>?_)|(refine ZC (fun hc=>?_) (fun hc=>?_)<;>(try simp at hc)<;>(try omega))|(refine ZL (fun hc=>?_) (fun hc=>?_)<;>(try simp at hc)<;>(try omega))|refine ZD 4 [] [(0,0),(1,0),(2,0),(3,0),(4,0),(5,0),(6,0),(7,0),(8,0),(9,0),(10,0),(11,0),(12,4),(13,0),(14,0)] [15,16] ?_|(refine ZE (fun hc=>?_) (fun hc=>?_)<;>(try simp at hc)<;>(try omega)))
   exact ZS () rfl trivial
  | some e=>
   rw [h2] at n2 hV
   have hV:chgF a e=V:=hV
   subst hV
   have ga:=at_get h1
   have gb:=at_get h2
   have hli:=(List.getElem?_eq_some_iff.1 ga).1
   have hlj:=(List.getElem?_eq_some_iff.1 gb).1
   have oa:=hx.w a (List.mem_of_getElem? ga)
   have ob:=hy.w e (List.mem_of_getElem? gb)
   obtain ⟨v,va⟩:∃v,x.vs[srchF x.l k]? = some v:=⟨_,List.getElem?_eq_getElem (show srchF x.l k<x.vs.length by have:=hx.ln;omega)⟩
   obtain ⟨u,vb⟩:∃u,y.vs[srchF y.l k]? = some u:=⟨_,List.getElem?_eq_getElem (show srchF y.l k<y.vs.length by have:=hy.ln;omega)⟩
   generalize srchF x.l k=i at *
   generalize srchF y.l k=j at *
   refine Zb [_,_] func42 ntmps42 fun G w hp=>?_
   refine Z1 (f:=AksF x.l x.vs) (by repeat (first|exact Sel.here|apply Sel.there)) (fun h hh=>YL ga va h hh) (fun q hq=>?_)
   obtain ⟨⟨ro1,rc1⟩,wo1,wc1⟩:=q
   dsimp only at hq ⊢
   subst hq
   refine Z1 (f:=AksF y.l y.vs) (by repeat (first|exact Sel.here|apply Sel.there)) (fun h hh=>YL gb vb h hh) (fun q hq=>?_)
   obtain ⟨⟨ro2,rc2⟩,wo2,wc2⟩:=q
   dsimp only at hq ⊢
   subst hq
   have n4:=changed_ok a e oa ob ro1 wo1 ro2 wo2 rc1 wc1 a.wr.length rc2 wc2 e.wr.length
   repeat' (first|refine ZH ?_|refine ZG ?_|refine ZK ?_|refine ZI ?_|refine ZP ?_|refine ZJ ?_|refine ZM ?_|refine ZN (fun b=>?_)|refine ZO (fun b=>?_)|refine ZA ?_|refine ZB ?_|refine ZZ ?_|refine ZW ?_|refine Zf ?_|refine Za ?_|refine ZY ?_|refine Ze (fun b=>?_)|refine Zg (fun b=>?_)|refine Zd ?_|refine ZX ?_|refine ZF (n1) (fun _ _=>?_)|refine l_call0 (n1) (fun _ _=>?_)|refine ZT (n1) (fun _ _=>?_)|refine ZF (n2) (fun _ _=>?_)|refine l_call0 (n2) (fun _ _=>?_)|refine ZT (n2) (fun _ _=>?_)|refine ZF (n4) (fun _ _=>?_)|refine l_call0 (n4) (fun _ _=>?_)|refine ZT (n4) (fun _ _=>?_)|refine YG (es:=x.vs) (f:=akf) i _ va (fun b off=>?_)|refine YG (es:=y.vs) (f:=akf) j _ vb (fun b off=>?_)|refine Yf ?_|(refine ZC (fun hc=>?_) (fun hc=>?_)<;>(try simp at hc)<;>(try omega))|(refine ZL (fun hc=>?_) (fun hc=>?_)<;>(try simp at hc)<;>(try omega))|refine ZD 4 [] [(0,0),(1,0),(2,0),(3,0),(4,0),(5,0),(6,0),(7,0),(8,0),(9,0),(10,0),(11,0),(12,4),(13,0),(14,0)] [15,16] ?_|(refine ZE (fun hc=>?_) (fun hc=>?_)<;>(try simp at hc)<;>(try omega)))
   all_goals exact ZS () rfl trivial
variable {n:Nat} {C:Cx} {Q:Exit→Act→World→Prop} {E:List (Nat×Value)} {R R0:List HP} {k:List Fr}
section
variable {F:List Pf}
theorem Sat.frzP {P:HP} {f:Pf} {G:H} {w0 w:World} {hp0:H} (hP:∀h,P h→f.p h) (hsat:Sat G w0 hp0 F (P::R) w):Sat G w0 hp0 (f::F) R w:=by
 obtain ⟨hp,hr,t⟩:=hsat
 obtain ⟨h1,h2,d,s1,s2,hx,hR⟩:=t.r
 have s3:Sub hp (un hp h1):=Zh _ _
 refine ⟨un hp h1,h2,In.un t.inp (t.inr.sub s1),t.inr.sub s2,t.ing,Z2.2 ⟨(t.d1.symm.sub s2).symm,d⟩,Z2.2 ⟨t.d2,t.d3.sub s1⟩,t.d3.sub s2,t.sub.trans s3,
  fun x hx'=>?_,hR,t.same⟩
 rcases List.mem_cons.1 hx' with e|e
 ·subst e;exact x.m _ _ (Zi (t.d1.symm.sub s1).symm) (hP _ hx)
 ·exact x.m _ _ s3 (t.f x e)
theorem k_frzP {P:HP} {f:Pf} (hP:∀h,P h→f.p h) (t:Wk n C k Q E (f::F) R0) (hs:Sel P R R0:=by (repeat (first|exact Sel.here|apply Sel.there));first|done|fail):Wk n C k Q E F R:=
 fun a w ha hsat=>t a w ha (Sat.frzP hP (hsat.sel hs))
end
theorem rows_perm {ε:Type} {A:HP} {f:ε→HP} {pre post:List ε} {e:ε} {h:H}:Sep (A::(pre++e::post).map f) h↔Sep [A,f e,fun h=>Sep ((pre++post).map f) h] h:=by
 have hp:(A::(pre++e::post).map f).Perm ([A,f e]++(pre++post).map f):=by
  refine List.Perm.cons _ ?_
  rw [List.map_append,List.map_cons,List.map_append]
  exact List.perm_middle
 constructor
 ·intro hh
  obtain ⟨h1,h2,d,s1,s2,ha,hb⟩:=YB (Sep.perm hp hh)
  exact Z7 (A:=[A,f e]) (R:=[fun h=>Sep ((pre++post).map f) h]) d s1 s2 ha ⟨h2,emp,(fun _=>.inr rfl),Sub.refl _,(fun _ _ e=>by cases e),hb,trivial⟩
 ·intro hh
  obtain ⟨h1,h2,d,s1,s2,ha,k1,k2,_,t1,_,hb,_⟩:=YB (A:=[A,f e]) hh
  exact Sep.perm hp.symm (Z7 d s1 s2 ha (Sep.sub hb t1))
theorem rows_two {ε:Type} {A:HP} {f:ε→HP} {l:List ε} {h:H}:Sep (A::l.map f) h↔Sep [A,fun h=>Sep (l.map f) h] h:=by
 constructor
 ·intro hh
  obtain ⟨h1,h2,d,s1,s2,ha,hb⟩:=YB (A:=[A]) (R:=l.map f) hh
  exact Z7 (A:=[A]) (R:=[fun h=>Sep (l.map f) h]) d s1 s2 ha ⟨h2,emp,(fun _=>.inr rfl),Sub.refl _,(fun _ _ e=>by cases e),hb,trivial⟩
 ·intro hh
  obtain ⟨h1,h2,d,s1,s2,ha,k1,k2,_,t1,_,hb,_⟩:=YB (A:=[A]) hh
  exact Z7 (A:=[A]) (R:=l.map f) d s1 s2 ha (Sep.sub hb t1)
def SRw (e:Nm×SlC):HP:=Row 3 1 e.2.o e.2.w.length e.2.cap (e.2.w.flatMap ntf)
def WrM (r:Nat) (m:List (Nm×SlC)):HP:=fun h=>Sep (Mp Nm.v slV r m::m.map SRw) h
theorem wrM_one {r:Nat} {pre post:List (Nm×SlC)} {e:Nm×SlC} {h:H}:WrM r (pre++e::post) h↔Sep [Mp Nm.v slV r (pre++e::post),SRw e,fun h=>Sep ((pre++post).map SRw) h] h:=rows_perm
theorem wrM_two {r:Nat} {l:List (Nm×SlC)} {h:H}:WrM r l h↔Sep [Mp Nm.v slV r l,fun h=>Sep (l.map SRw) h] h:=rows_two
theorem wrM_new {r:Nat} {l:List (Nm×SlC)} {e:Nm×SlC} {h:H} (hh:Sep [Mp Nm.v slV r (l++[e]),SRw e,fun h=>Sep (l.map SRw) h] h):WrM r (l++[e]) h:=by
 refine (wrM_one (r:=r) (pre:=l) (post:=[]) (e:=e)).2 ?_
 rw [List.append_nil]
 exact hh
theorem row_slP {α:Type} {T sz:Nat} {f:α→List Value} {o:Option Addr} {cap:Nat} {es:List α} {h:H} (hh:Row T sz o es.length cap (es.flatMap f) h):(Sl T f o cap es).p h:=by
 rcases hh with ⟨_,h3,_,_⟩|⟨bb,rest,fz,rfl,hb,hxl,hcl,hmc,hfz⟩
 ·have h5:es=[]:=List.eq_nil_of_length_eq_zero h3
  exact ⟨by rw [h5];exact Nat.zero_le _,.inl h5⟩
 ·exact ⟨hmc,.inr ⟨bb,_,(T,fz),[],rest,rfl,hb,by simp⟩⟩
theorem sep_mem:∀{L:List HP} {h:H} {P:HP},Sep L h→P ∈ L→∃k,Sub k h∧P k
 | _::_,h,P,⟨h1,_,_,s1,_,hx,_⟩,.head _=>⟨h1,s1,hx⟩
 | _::L,h,P,⟨_,h2,_,_,s2,_,hr⟩,.tail _ hm=>by
  obtain ⟨k,s,hk⟩:=sep_mem hr hm
  exact ⟨k,s.trans s2,hk⟩
theorem wrM_F {l:List Ak} {r:Nat} {m:List (Nm×SlC)} (hm:∀n,getW m n=wrsF l n) (h:H) (hh:WrM r m h):(MwF l r).p h:=by
 obtain ⟨k,s,hk⟩:=sep_mem hh (.head _)
 refine ⟨m,(MpF Nm.v slV r m).m _ _ s hk,fun e he=>?_,hm⟩
 obtain ⟨k,s,hk⟩:=sep_mem hh (.tail _ (List.mem_map_of_mem he))
 exact (ItS e.2).m _ _ s (row_slP hk)
section
variable {α β:Type} [DecidableEq α]
theorem W3 {a:α} {v:β}:∀{m:List (α×β)},mget a m=some v→∃pre post,m=pre++(a,v)::post∧∀u,mset a u m=pre++(a,u)::post
 | [],h=>by cases h
 | (c,w)::m,h=>by
  unfold mget at h
  by_cases hac:a=c
  ·rw [if_pos hac] at h
   cases h
   subst hac
   exact ⟨[],m,rfl,fun u=>by unfold mset;rw [if_pos rfl];rfl⟩
  ·rw [if_neg hac] at h
   obtain ⟨pre,post,h1,h2⟩:=W3 h
   exact ⟨(c,w)::pre,post,by rw [h1];rfl,fun u=>by unfold mset;rw [if_neg hac,h2];rfl⟩
theorem Ws {a:α} {v:β}:∀{m:List (α×β)},mget a m=none→mset a v m=m++[(a,v)]
 | [],_=>rfl
 | (c,w)::m,h=>by
  unfold mget at h
  by_cases hac:a=c
  ·rw [if_pos hac] at h;cases h
  ·rw [if_neg hac] at h
   unfold mset
   rw [if_neg hac,Ws h];rfl
theorem WK {a:α} {u v:β}:∀m:List (α×β),mset a v (mset a u m)=mset a v m
 | []=>by unfold mset;simp [mset]
 | (c,w)::m=>by
  by_cases hac:a=c
  ·simp [mset,hac]
  ·simp [mset,hac,WK m]
end
def wIF (l:List Ak) (n:Nm) (i:Nat):List Nat:=(List.range i).flatMap fun i=>match l[i]? with
 | some a=>(a.wr.filter fun c=>decide (c.nm=n)).map fun _=>i
 | none=>[]
def wJF (a:Ak) (n:Nm) (i j:Nat):List Nat:=((a.wr.take j).filter fun c=>decide (c.nm=n)).map fun _=>i
theorem wIF_end (l:List Ak) (n:Nm):wIF l n l.length=wrsF l n:=rfl
theorem wIF_succ {l:List Ak} {n:Nm} {i:Nat} {a:Ak} (ha:l[i]? = some a):wIF l n (i+1)=wIF l n i++wJF a n i a.wr.length:=by
 unfold wIF wJF
 rw [List.range_succ,List.flatMap_append,List.take_length]
 congr 1
 simp [ha]
theorem wJF_zero (a:Ak) (n:Nm) (i:Nat):wJF a n i 0=[]:=rfl
theorem wJF_succ {a:Ak} {n:Nm} {i j:Nat} {c:Ch} (hc:a.wr[j]? = some c):wJF a n i (j+1)=wJF a n i j++if c.nm=n then [i] else []:=by
 obtain ⟨hlt,rfl⟩:=List.getElem?_eq_some_iff.1 hc
 unfold wJF
 rw [List.take_succ_eq_append_getElem hlt,List.filter_append,List.map_append]
 congr 1
 by_cases h:a.wr[j].nm=n
 ·simp [h]
 ·simp [h]
theorem wIF_len {l:List Ak} {n:Nm} {i:Nat} (hw:∀a ∈ l,AkOK a):(wIF l n i).length≤100 * i:=by
 unfold wIF
 refine Nat.le_trans (Wz (fun i=>?_) _) (by rw [List.length_range];exact Nat.le_refl _)
 split
 ·rename_i a ha
  rw [List.length_map]
  exact Nat.le_trans (List.length_filter_le _ _) (hw a (List.mem_of_getElem? ha)).2.2.1
 ·simp
theorem wJF_len {a:Ak} {n:Nm} {i j:Nat} (h:AkOK a):(wJF a n i j).length≤100:=by
 unfold wJF
 rw [List.length_map]
 refine Nat.le_trans (List.length_filter_le _ _) ?_
 rw [List.length_take]
 have:=h.2.2.1
 omega
theorem getW_set (a:Nm) (y:SlC) (m:List (Nm×SlC)) (n:Nm):getW (mset a y m) n=if a=n then y.w else getW m n:=by
 unfold getW
 rw [YO]
 by_cases h:a=n
 ·subst h;simp
 ·rw [if_neg h,if_neg h]
theorem sep_nil {A N B:HP} {h:H} (hN:N emp) (hh:Sep [A,B] h):Sep [A,N,B] h:=by
 obtain ⟨h1,h2,d,s1,s2,ha,hb⟩:=hh
 exact ⟨h1,h2,d,s1,s2,ha,emp,h2,fun _=>.inl rfl,fun _ _ e=>(by cases e),Sub.refl _,hN,hb⟩
set_option maxHeartbeats 4000000 in
theorem newRun_ok (l:List Ak) (vs:List Akc) (o:Option Addr) (cap:Nat) (hlen:vs.length=l.length) (hb:l.length≤1000) (hw:∀a ∈ l,AkOK a):Enters 41∧Spec prog 41 #[.slice o vs.length cap] [AkS o cap vs,AksF l vs] []
  ⟨Nat,fun r=>rnv o vs.length cap r,fun _=>True,fun r=>[MwF l r],fun _=>[]⟩:=by
 refine Zb [_] func41 ntmps41 fun G w hp=>?_
 repeat' (first|refine ZH ?_|refine ZG ?_|refine ZK ?_|refine ZI ?_|refine ZP ?_|refine ZJ ?_|refine ZM ?_|refine ZN (fun b=>?_)|refine ZO (fun b=>?_)|refine ZA ?_|refine ZB ?_|refine XS YP slV (fun r=>?_)|(refine ZC (fun hc=>?_) (fun hc=>?_)<;>(try simp at hc)<;>(try omega))|(refine ZE (fun hc=>?_) (fun hc=>?_)<;>(try simp at hc)<;>(try omega)))
 rename_i b2
 generalize b=b3 at *
 refine Zs (r:=WrM r []) (Lx:=[Mp Nm.v slV r []]) (fun h hh=>hh) ?_
 refine Z6 (X:={p:Nat×List (Nm×SlC) // p.1≤l.length∧∀n,getW p.2 n=wIF l n p.1}) (fun p=>[(2,pvE b2),(3,pvE b3),(11,.slice o vs.length cap),(12,.int .i64 (vs.length:Int)),(13,.int .i64 (p.1.1:Int))]) (fun _=>[AkS o cap vs,AksF l vs]) (fun p=>[WrM r p.1.2,Pt b3 (.cells (rnf o vs.length cap r).toArray 122),Pt b2 (.cells #[.slice none 0 0,.map none] 122)]) (fun p=>l.length - p.1.1) ⟨(0,[]),Nat.zero_le _,fun n=>rfl⟩ ⟨rfl,rfl,rfl,rfl,rfl,trivial⟩ ?_
 rintro ⟨⟨i,m⟩,hi,hm⟩
 dsimp only at hi hm ⊢
 by_cases hlt:i<l.length
 ·obtain ⟨a,ha⟩:∃a,l[i]? = some a:=⟨_,List.getElem?_eq_getElem hlt⟩
  obtain ⟨v,hv⟩:∃v,vs[i]? = some v:=⟨_,List.getElem?_eq_getElem (by omega)⟩
  have hao:=hw a (List.mem_of_getElem? ha)
  have hwl:=hao.2.2.1
  refine Z1 (f:=AksF l vs) (by repeat (first|exact Sel.here|apply Sel.there)) (fun h hh=>YL ha hv h hh) (fun q hq=>?_)
  obtain ⟨⟨ro,rc⟩,wo,wc⟩:=q
  dsimp only at hq ⊢
  subst hq
  repeat' (first|refine Zm ?_|refine Zp (es:=vs) (f:=akf) i _ hv (fun b off=>?_)|refine ZH ?_|refine ZG ?_|refine ZK ?_|refine ZI ?_|refine ZP ?_|refine ZJ ?_|refine ZM ?_|refine ZN (fun b=>?_)|refine ZO (fun b=>?_)|refine ZA ?_|refine ZB ?_|(refine ZC (fun hc=>?_) (fun hc=>?_)<;>(try simp at hc)<;>(try omega))|(refine ZE (fun hc=>?_) (fun hc=>?_)<;>(try simp at hc)<;>(try omega)))
  refine Z6 (X:={p:Nat×List (Nm×SlC) // p.1≤a.wr.length∧∀n,getW p.2 n=wIF l n i++wJF a n i p.1}) (fun p=>[(2,pvE b2),(3,pvE b3),(4,.int .i64 (i:Int)),(11,.slice o vs.length cap),(12,.int .i64 (vs.length:Int)),(13,.int .i64 (i:Int)),(19,.slice wo a.wr.length wc),(20,.int .i64 (a.wr.length:Int)),(21,.int .i64 (p.1.1:Int))]) (fun _=>[ChS wo wc a.wr,AkS o cap vs,AksF l vs]) (fun p=>[WrM r p.1.2,Pt b3 (.cells (rnf o vs.length cap r).toArray 122),Pt b2 (.cells #[.slice none 0 0,.map none] 122)]) (fun p=>a.wr.length - p.1.1) ⟨(0,m),Nat.zero_le _,fun n=>by rw [hm,wJF_zero,List.append_nil]⟩ ⟨rfl,rfl,rfl,rfl,rfl,rfl,rfl,rfl,rfl,trivial⟩ ?_
  rintro ⟨⟨j,m⟩,hj,hm⟩
  dsimp only at hj hm ⊢
  by_cases hjl:j<a.wr.length
  ·obtain ⟨c,hck⟩:∃c,a.wr[j]? = some c:=⟨_,List.getElem?_eq_getElem hjl⟩
   have w1:=wrapi (z:=(j:Int)+1) (by omega) (by omega)
   have hnx:j+1≤a.wr.length:=hjl
   have hmu:a.wr.length - (j+1)<a.wr.length - j:=by omega
   have hbw:(getW m c.nm).length≤200000:=by
    rw [hm,List.length_append]
    have h1:=wIF_len (n:=c.nm) (i:=i) hw
    have h2:=wJF_len (n:=c.nm) (i:=i) (j:=j) hao
    omega
   have hup:∀y:SlC,y.w=getW m c.nm++[i]→∀n,getW (mset c.nm y m) n=wIF l n i++wJF a n i (j+1):=fun y hy n=>by
    rw [getW_set,wJF_succ hck,←List.append_assoc,←hm]
    by_cases hcn:c.nm=n
    ·subst hcn;rw [if_pos rfl,if_pos rfl,hy]
    ·rw [if_neg hcn,if_neg hcn,List.append_nil]
   cases hg:mget c.nm m with
   | some x=>
    have hgw:getW m c.nm=x.w:=by unfold getW;rw [hg]
    obtain ⟨pre,post,e1,e2⟩:=W3 hg
    have hid:mset c.nm x m=m:=by rw [e2,e1]
    have hroom:(2 * (x.w.length+1)+200) * 8≤281474976710656:=by rw [←hgw];omega
    have hv0:(mget c.nm m).getD ⟨none,0,[]⟩=x:=by rw [hg];rfl
    refine Yo (X:=Unit) (Lx:=fun _=>[Mp Nm.v slV r m,Row 3 1 x.o x.w.length x.cap (x.w.flatMap ntf),fun h=>Sep ((pre++post).map SRw) h]) (p:=fun _=>True) (r:=WrM r m) .here (fun h hh=>⟨(),trivial,by rw [e1] at hh ⊢;exact wrM_one.1 hh⟩) (fun _ _=>?_)
    repeat' (first|refine Zm ?_|refine Zp (es:=a.wr) (f:=chf) j _ hck (fun b off=>?_)|refine ZH ?_|refine ZG ?_|refine ZK ?_|refine ZI ?_|refine ZP ?_|refine ZJ ?_|refine ZM ?_|refine ZN (fun b=>?_)|refine ZO (fun b=>?_)|refine ZA ?_|refine ZB ?_|refine l_ment (V:=slV) YP c.nm (⟨none,0,[]⟩:SlC) x hv0 (fun s=>?_)|refine Yq (m:=x.w.length) (m2:=1) (fun o3 cap3=>?_) (hroom:=hroom)|refine l_estore (V:=slV) (⟨o3,cap3,x.w++[i]⟩:SlC) ?_ (hz:=by show some (Value.slice o3 (x.w.length+1) cap3)=some (Value.slice o3 (x.w++[i]).length cap3);rw [List.length_append];rfl)|rw [w1]|(refine ZC (fun hc=>?_) (fun hc=>?_)<;>(try simp at hc)<;>(try omega))|(refine ZE (fun hc=>?_) (fun hc=>?_)<;>(try simp at hc)<;>(try omega)))
    have e3:SRw (c.nm,(⟨o3,cap3,x.w++[i]⟩:SlC))=Row 3 1 o3 (x.w.length+1) cap3 (x.w.flatMap ntf++[.int .i64 (i:Int)]):=by
     unfold SRw
     rw [List.length_append,List.flatMap_append]
     rfl
    refine Zs (r:=WrM r (mset c.nm ⟨o3,cap3,x.w++[i]⟩ m)) (Lx:=[Mp Nm.v slV r (mset c.nm ⟨o3,cap3,x.w++[i]⟩ (mset c.nm x m)),Row 3 1 o3 (x.w.length+1) cap3 (x.w.flatMap ntf++[.int .i64 (i:Int)]),fun h=>Sep ((pre++post).map SRw) h]) (fun h hh=>by
     rw [WK,e2,←e3] at hh
     rw [e2]
     exact wrM_one.2 hh) ?_
    exact Zc ⟨(j+1,mset c.nm ⟨o3,cap3,x.w++[i]⟩ m),hnx,hup _ (by rw [hgw])⟩ hmu ⟨rfl,rfl,rfl,rfl,rfl,rfl,rfl,rfl,rfl,trivial⟩
   | none=>
    have hgw:getW m c.nm=[]:=by unfold getW;rw [hg]
    have hroom:(2 * (0+1)+200) * 8≤281474976710656:=by decide
    have hv0:(mget c.nm m).getD ⟨none,0,[]⟩=⟨none,0,[]⟩:=by rw [hg];rfl
    refine Yo (X:=Unit) (Lx:=fun _=>[Mp Nm.v slV r m,Row 3 1 none 0 0 [],fun h=>Sep (m.map SRw) h]) (p:=fun _=>True) (r:=WrM r m) .here (fun h hh=>⟨(),trivial,sep_nil (YQ _ _ _) (wrM_two.1 hh)⟩) (fun _ _=>?_)
    repeat' (first|refine Zm ?_|refine Zp (es:=a.wr) (f:=chf) j _ hck (fun b off=>?_)|refine ZH ?_|refine ZG ?_|refine ZK ?_|refine ZI ?_|refine ZP ?_|refine ZJ ?_|refine ZM ?_|refine ZN (fun b=>?_)|refine ZO (fun b=>?_)|refine ZA ?_|refine ZB ?_|refine l_ment (V:=slV) YP c.nm (⟨none,0,[]⟩:SlC) ⟨none,0,[]⟩ hv0 (fun s=>?_)|refine Yq (m:=0) (m2:=1) (fun o3 cap3=>?_) (hroom:=hroom)|refine l_estore (V:=slV) (⟨o3,cap3,[i]⟩:SlC) ?_|rw [w1]|(refine ZC (fun hc=>?_) (fun hc=>?_)<;>(try simp at hc)<;>(try omega))|(refine ZE (fun hc=>?_) (fun hc=>?_)<;>(try simp at hc)<;>(try omega)))
    refine Zs (r:=WrM r (mset c.nm ⟨o3,cap3,[i]⟩ m)) (Lx:=[Mp Nm.v slV r (mset c.nm ⟨o3,cap3,[i]⟩ (mset c.nm ⟨none,0,[]⟩ m)),Row 3 1 o3 (0+1) cap3 ([]++[.int .i64 (i:Int)]),fun h=>Sep (m.map SRw) h]) (fun h hh=>by
     rw [WK,Ws hg] at hh
     rw [Ws hg]
     exact wrM_new hh) ?_
    exact Zc ⟨(j+1,mset c.nm ⟨o3,cap3,[i]⟩ m),hnx,hup _ (by rw [hgw];rfl)⟩ hmu ⟨rfl,rfl,rfl,rfl,rfl,rfl,rfl,rfl,rfl,trivial⟩
  ·obtain rfl:j=a.wr.length:=by omega
   have w1:=wrapi (z:=(i:Int)+1) (by omega) (by omega)
   repeat' (first|refine ZH ?_|refine ZG ?_|refine ZK ?_|refine ZI ?_|refine ZP ?_|refine ZJ ?_|refine ZM ?_|refine ZN (fun b=>?_)|refine ZO (fun b=>?_)|refine ZA ?_|refine ZB ?_|refine ZR ?_|rw [w1]|(refine ZC (fun hc=>?_) (fun hc=>?_)<;>(try simp at hc)<;>(try omega))|(refine ZE (fun hc=>?_) (fun hc=>?_)<;>(try simp at hc)<;>(try omega)))
   exact Zc ⟨(i+1,m),by show i+1≤l.length;omega,fun n=>by rw [wIF_succ ha,hm]⟩ (by show l.length - (i+1)<l.length - i;omega) ⟨rfl,rfl,rfl,rfl,rfl,trivial⟩
 ·obtain rfl:i=l.length:=by omega
  refine k_frzP (P:=WrM r m) (f:=MwF l r) (fun h hh=>wrM_F (fun n=>by rw [hm,wIF_end]) h hh) ?_
  repeat' (first|refine ZH ?_|refine ZG ?_|refine ZK ?_|refine ZI ?_|refine ZP ?_|refine ZJ ?_|refine ZM ?_|refine ZN (fun b=>?_)|refine ZO (fun b=>?_)|refine ZA ?_|refine ZB ?_|refine ZR ?_|(refine ZC (fun hc=>?_) (fun hc=>?_)<;>(try simp at hc)<;>(try omega))|(refine ZE (fun hc=>?_) (fun hc=>?_)<;>(try simp at hc)<;>(try omega)))
  exact ZS r rfl trivial
abbrev RsS (o:Option Addr) (cap:Nat) (es:List Rn):Pf:=Sl 48 rsf o cap es
def exV:Except Int (List Rn)→Option Addr×Nat→Value
 | .ok l,q=>.tuple #[.slice q.1 l.length q.2,.int .i64 0]
 | .error e,_=>.tuple #[.slice none 0 0,.int .i64 e]
def exF:Except Int (List Rn)→Option Addr×Nat→List Pf
 | .ok l,q=>[RsS q.1 q.2 l]
 | .error _,_=>[]
theorem org_ok {f s:List Ak} {n:Nm} {k o:Ky} (h:orgF f s n k=some o) (hf:∀a ∈ f,AkOK a) (hs:∀a ∈ s,AkOK a):o.l.size≤1000:=by
 rcases org_mem h with ⟨a,ha,rfl⟩|⟨a,ha,rfl⟩
 ·exact (hf a ha).1
 ·exact (hs a ha).1
theorem row_sub {T sz:Nat} {o:Option Addr} {m cap:Nat} {xs:List Value} {h k:H} (s:Sub h k) (hh:Row T sz o m cap xs h):Row T sz o m cap xs k:=by
 rcases hh with hh|⟨b,rest,fz,h1,h2,h3⟩
 ·exact .inl hh
 ·exact .inr ⟨b,rest,fz,h1,s _ _ h2,h3⟩
set_option maxHeartbeats 8000000 in
theorem Xd (f s:List Ak) (vs us:List Akc) (o1 o2:Option Addr) (c1 c2:Nat) (h1:vs.length=f.length) (h2:us.length=s.length) (b1:f.length≤1000) (b2:s.length≤1000) (w1:∀a ∈ f,AkOK a) (w2:∀a ∈ s,AkOK a) (k:Ky) (hk:k.l.size≤1000) :
  Enters 12∧Spec prog 12 #[.slice o1 vs.length c1,.slice o2 us.length c2,kyv k] [AkS o1 c1 vs,AksF f vs,AkS o2 c2 us,AksF s us] []
   ⟨Option Addr×Nat,exV (explF f s k),fun _=>True,exF (explF f s k),fun _=>[]⟩:=by
 have n1:=WC f vs o1 c1 h1 b1 w1
 have n2:=WC s us o2 c2 h2 b2 w2
 have n3:=newRun_ok f vs o1 c1 h1 b1 w1
 have n4:=newRun_ok s us o2 c2 h2 b2 w2
 have n5:=fun r1 r2 k hk=>reason_ok ⟨f,vs,o1,c1,r1⟩ ⟨s,us,o2,c2,r2⟩ ⟨h1,b1,w1⟩ ⟨h2,b2,w2⟩ k hk
 have n6:=fun r1 r2 n k hk=>origin_ok ⟨f,vs,o1,c1,r1⟩ ⟨s,us,o2,c2,r2⟩ ⟨h1,b1,w1⟩ ⟨h2,b2,w2⟩ n k hk
 dsimp only at n5 n6
 obtain ⟨RES,hR⟩:∃RES,explF f s k=RES:=⟨_,rfl⟩
 rw [hR]
 unfold explF at hR
 cases hi1:incrF f with
 | false=>
  rw [hi1] at n1 hR
  have hR:Except.error 32=RES:=hR
  subst hR
  refine Zb [_,_,_] func12 ntmps12 fun G w hp=>?_
  repeat' (first|refine ZH ?_|refine ZG ?_|refine ZK ?_|refine ZI ?_|refine ZP ?_|refine ZJ ?_|refine ZM ?_|refine ZN (fun b=>?_)|refine ZO (fun b=>?_)|refine ZA ?_|refine ZB ?_|refine ZR ?_|refine ZF (n1) (fun _ _=>?_)|refine l_call0 (n1) (fun _ _=>?_)|refine ZF (n2) (fun _ _=>?_)|refine l_call0 (n2) (fun _ _=>?_)|(refine ZC (fun hc=>?_) (fun hc=>?_)<;>(try simp at hc)<;>(try omega))|(refine ZE (fun hc=>?_) (fun hc=>?_)<;>(try simp at hc)<;>(try omega)))
  exact ZS (none,0) rfl trivial
 | true=>
  rw [hi1] at n1 hR
  cases hi2:incrF s with
  | false=>
   rw [hi2] at n2 hR
   have hR:Except.error 32=RES:=hR
   subst hR
   refine Zb [_,_,_] func12 ntmps12 fun G w hp=>?_
   repeat' (first|refine ZH ?_|refine ZG ?_|refine ZK ?_|refine ZI ?_|refine ZP ?_|refine ZJ ?_|refine ZM ?_|refine ZN (fun b=>?_)|refine ZO (fun b=>?_)|refine ZA ?_|refine ZB ?_|refine ZR ?_|refine ZF (n1) (fun _ _=>?_)|refine l_call0 (n1) (fun _ _=>?_)|refine ZF (n2) (fun _ _=>?_)|refine l_call0 (n2) (fun _ _=>?_)|(refine ZC (fun hc=>?_) (fun hc=>?_)<;>(try simp at hc)<;>(try omega))|(refine ZE (fun hc=>?_) (fun hc=>?_)<;>(try simp at hc)<;>(try omega)))
   exact ZS (none,0) rfl trivial
  | true=>
   rw [hi2] at n2 hR
   have hR:(if (rsnF f s k).2≠0 then Except.error (rsnF f s k).2 else chainF f s (f.length+s.length+1) (rsnF f s k).1 [(rsnF f s k).1])=RES:=hR
   have n5k:=fun r1 r2=>n5 r1 r2 k hk
   by_cases hz:(rsnF f s k).2=0
   ·rw [if_neg (by rw [hz];exact fun h=>h rfl)] at hR
    have hrk:=X0 hz
    rw [hz] at n5k
    generalize (rsnF f s k).1=r at *
    refine Zb [_,_,_] func12 ntmps12 fun G w hp=>?_
    repeat' (first|refine ZH ?_|refine ZG ?_|refine ZK ?_|refine ZI ?_|refine ZP ?_|refine ZJ ?_|refine ZM ?_|refine ZN (fun b=>?_)|refine ZO (fun b=>?_)|refine ZA ?_|refine ZB ?_|refine ZF (n1) (fun _ _=>?_)|refine l_call0 (n1) (fun _ _=>?_)|refine ZF (n2) (fun _ _=>?_)|refine l_call0 (n2) (fun _ _=>?_)|refine ZF (n3) (fun _ _=>?_)|refine l_call0 (n3) (fun _ _=>?_)|refine ZF (n4) (fun _ _=>?_)|refine l_call0 (n4) (fun _ _=>?_)|refine ZF (n5k _ _) (fun _ _=>?_)|refine l_call0 (n5k _ _) (fun _ _=>?_)|(refine ZC (fun hc=>?_) (fun hc=>?_)<;>(try simp at hc)<;>(try omega))|(refine ZE (fun hc=>?_) (fun hc=>?_)<;>(try simp at hc)<;>(try omega)))
    rename_i b5 _ _ _ _ r1 _ r2 _ b8 _ _ b9
    refine Zs (r:=Row 48 10 (some ⟨b,0,none⟩) 1 1 (rsf r)) (Lx:=[Pt b (.cells (rsf r).toArray 48)]) (fun h hh=>by
     obtain ⟨h1,_,_,s1,_,hx,_⟩:=hh
     exact .inr ⟨b,[],(0,0),rfl,s1 _ _ hx,rfl,rfl,Nat.le_refl _,.inl rfl⟩) ?_
    have m1:=fun t=>turnsOf_ok t
    refine Z6 (X:={p:Nat×Rn×List Rn×(Option Addr×Nat) // chainF f s p.1 p.2.1 p.2.2.1=RES∧meaF f s p.2.1.k<p.1∧p.2.1.k.l.size≤1000∧p.2.2.1.length+p.1≤3000}) (fun p=>[(8,pvE b8),(9,pvE b9),(11,.slice p.1.2.2.2.1 p.1.2.2.1.length p.1.2.2.2.2)]) (fun _=>[AkS o1 c1 vs,AksF f vs,MwF f r1,AkS o2 c2 us,AksF s us,MwF s r2])
     (fun p=>[Row 48 10 p.1.2.2.2.1 p.1.2.2.1.length p.1.2.2.2.2 (p.1.2.2.1.flatMap rsf),Pt b9 (.cells (rsf p.1.2.1).toArray 48),Pt b8 (.cells #[.slice o1 vs.length c1,.map (some r1),.slice o2 us.length c2,.map (some r2)] 125)]) (fun p=>p.1.1)
     ⟨(f.length+s.length+1,r,[r],(some ⟨b,0,none⟩,1)),hR,Nat.lt_succ_of_le (mea_le f s r.k),by rw [hrk];exact hk,by show 1+(f.length+s.length+1)≤3000;omega⟩ ⟨rfl,rfl,rfl,trivial⟩ ?_
    clear hrk n5k hR
    rintro ⟨⟨fu,r,acc,oc,cc⟩,hch,hme,hrs,hal⟩
    dsimp only at hch hme hrs hal ⊢
    have hroom:(2 * (acc.length+1)+200) * 104≤281474976710656:=by omega
    obtain ⟨fu,rfl⟩:∃m,fu=m+1:=⟨fu - 1,by omega⟩
    rw [chainF] at hch
    have he:eqC eqS 20 46 r.nm.v nmZ.v=some (decide (r.nm=nmZ)):=eqNm _ _
    by_cases hnm:r.nm=nmZ
    ·rw [if_pos hnm] at hch
     subst hch
     rw [decide_eq_true hnm] at he
     repeat' (first|refine ZH ?_|refine ZG ?_|refine ZK ?_|refine ZI ?_|refine ZP ?_|refine ZJ ?_|refine ZM ?_|refine ZN (fun b=>?_)|refine ZO (fun b=>?_)|refine ZA ?_|refine ZB ?_|refine ZR ?_|refine Xa (b:=true) ?_ (he:=he)|(refine ZC (fun hc=>?_) (fun hc=>?_)<;>(try simp at hc)<;>(try omega))|(refine ZE (fun hc=>?_) (fun hc=>?_)<;>(try simp at hc)<;>(try omega)))
     refine Xt acc ?_ rfl rfl
     exact ZS (oc,cc) rfl trivial
    ·rw [if_neg hnm] at hch
     rw [decide_eq_false hnm] at he
     by_cases hkd:r.kd=1
     ·rw [if_pos hkd] at hch
      have n6k:=fun r1 r2=>n6 r1 r2 r.nm r.k hrs
      cases horg:orgF f s r.nm r.k with
      | none=>
       rw [horg] at n6k hch
       have hch:Except.error 10=RES:=hch
       subst hch
       repeat' (first|refine ZH ?_|refine ZG ?_|refine ZK ?_|refine ZI ?_|refine ZP ?_|refine ZJ ?_|refine ZM ?_|refine ZN (fun b=>?_)|refine ZO (fun b=>?_)|refine ZA ?_|refine ZB ?_|refine ZF (m1 _) (fun _ _=>?_)|refine l_call0 (m1 _) (fun _ _=>?_)|refine ZF (n6k _ _) (fun _ _=>?_)|refine l_call0 (n6k _ _) (fun _ _=>?_)|refine Xa (b:=false) ?_ (he:=he)|(refine ZC (fun hc=>?_) (fun hc=>?_)<;>(try simp at hc)<;>(try omega))|(refine ZE (fun hc=>?_) (fun hc=>?_)<;>(try simp at hc)<;>(try omega)))
       exact YR (YX (Z4 (none,0) rfl trivial))
      | some o=>
       rw [horg] at n6k hch
       have hos:=org_ok horg w1 w2
       have m2:=Y2 o r.k hos hrs
       have hch:(if 0≤kcmp o r.k then Except.error 10 else if (rsnF f s o).2≠0 then Except.error 10 else chainF f s fu (rsnF f s o).1 (acc++[(rsnF f s o).1]))=RES:=hch
       by_cases hge:0≤kcmp o r.k
       ·rw [if_pos hge] at hch
        subst hch
        have e9:decide (0≤kcmp o r.k)=true:=decide_eq_true hge
        repeat' (first|refine ZH ?_|refine ZG ?_|refine ZK ?_|refine ZI ?_|refine ZP ?_|refine ZJ ?_|refine ZM ?_|refine ZN (fun b=>?_)|refine ZO (fun b=>?_)|refine ZA ?_|refine ZB ?_|refine ZF (m1 _) (fun _ _=>?_)|refine l_call0 (m1 _) (fun _ _=>?_)|refine ZF (m2) (fun _ _=>?_)|refine l_call0 (m2) (fun _ _=>?_)|refine ZF (n6k _ _) (fun _ _=>?_)|refine l_call0 (n6k _ _) (fun _ _=>?_)|refine Xa (b:=false) ?_ (he:=he)|rw [e9]|(refine ZC (fun hc=>?_) (fun hc=>?_)<;>(try simp at hc)<;>(try omega))|(refine ZE (fun hc=>?_) (fun hc=>?_)<;>(try simp at hc)<;>(try omega)))
        exact YR (YX (Z4 (none,0) rfl trivial))
       ·rw [if_neg hge] at hch
        have e9:decide (0≤kcmp o r.k)=false:=decide_eq_false hge
        have hml:=mea_lt horg (q:=r.k) (by omega)
        have n5k:=fun r1 r2=>n5 r1 r2 o hos
        by_cases hz:(rsnF f s o).2=0
        ·rw [if_neg (by rw [hz];exact fun h=>h rfl)] at hch
         have hok:=X0 hz
         rw [hz] at n5k
         generalize (rsnF f s o).1=rn at *
         repeat' (first|refine ZH ?_|refine ZG ?_|refine ZK ?_|refine ZI ?_|refine ZP ?_|refine ZJ ?_|refine ZM ?_|refine ZN (fun b=>?_)|refine ZO (fun b=>?_)|refine ZA ?_|refine ZB ?_|refine ZF (m1 _) (fun _ _=>?_)|refine l_call0 (m1 _) (fun _ _=>?_)|refine ZF (m2) (fun _ _=>?_)|refine l_call0 (m2) (fun _ _=>?_)|refine ZF (n6k _ _) (fun _ _=>?_)|refine l_call0 (n6k _ _) (fun _ _=>?_)|refine ZF (n5k _ _) (fun _ _=>?_)|refine l_call0 (n5k _ _) (fun _ _=>?_)|refine Xa (b:=false) ?_ (he:=he)|rw [e9]|refine Yq (m:=acc.length) (m2:=1) (fun o3 cap3=>?_) (hroom:=hroom)|(refine ZC (fun hc=>?_) (fun hc=>?_)<;>(try simp at hc)<;>(try omega))|(refine ZE (fun hc=>?_) (fun hc=>?_)<;>(try simp at hc)<;>(try omega)))
         refine Zs (r:=Row 48 10 o3 (acc++[rn]).length cap3 ((acc++[rn]).flatMap rsf)) (Lx:=[Row 48 10 o3 (acc.length+1) cap3 (acc.flatMap rsf++rsf rn)]) (fun h hh=>by
          rw [List.length_append,List.flatMap_append]
          obtain ⟨h1,_,_,s1,_,hx,_⟩:=hh
          exact row_sub s1 (by simpa using hx)) ?_
         refine Zc ⟨(fu,rn,acc++[rn],(o3,cap3)),hch,by rw [hok];omega,by rw [hok];exact hos,by rw [List.length_append];show acc.length+1+fu≤3000;omega⟩ (Nat.lt_succ_self fu) ⟨rfl,rfl,?_,trivial⟩
         show some (Value.slice o3 (acc.length+1) cap3)=some (Value.slice o3 (acc++[rn]).length cap3)
         rw [List.length_append];rfl
        ·rw [if_pos hz] at hch
         subst hch
         generalize (rsnF f s o).2=e at *
         repeat' (first|refine ZH ?_|refine ZG ?_|refine ZK ?_|refine ZI ?_|refine ZP ?_|refine ZJ ?_|refine ZM ?_|refine ZN (fun b=>?_)|refine ZO (fun b=>?_)|refine ZA ?_|refine ZB ?_|refine ZF (m1 _) (fun _ _=>?_)|refine l_call0 (m1 _) (fun _ _=>?_)|refine ZF (m2) (fun _ _=>?_)|refine l_call0 (m2) (fun _ _=>?_)|refine ZF (n6k _ _) (fun _ _=>?_)|refine l_call0 (n6k _ _) (fun _ _=>?_)|refine ZF (n5k _ _) (fun _ _=>?_)|refine l_call0 (n5k _ _) (fun _ _=>?_)|refine Xa (b:=false) ?_ (he:=he)|rw [e9]|(refine ZC (fun hc=>?_) (fun hc=>?_)<;>(try simp at hc)<;>(try omega))|(refine ZE (fun hc=>?_) (fun hc=>?_)<;>(try simp at hc)<;>(try omega)))
         exact YR (YX (Z4 (none,0) rfl trivial))
     ·rw [if_neg hkd] at hch
      have n6k:=fun r1 r2=>n6 r1 r2 r.nm (turnF r.k.t) (Nat.zero_le _)
      cases horg:orgF f s r.nm (turnF r.k.t) with
      | none=>
       rw [horg] at n6k hch
       have hch:Except.error 10=RES:=hch
       subst hch
       repeat' (first|refine ZH ?_|refine ZG ?_|refine ZK ?_|refine ZI ?_|refine ZP ?_|refine ZJ ?_|refine ZM ?_|refine ZN (fun b=>?_)|refine ZO (fun b=>?_)|refine ZA ?_|refine ZB ?_|refine ZF (m1 _) (fun _ _=>?_)|refine l_call0 (m1 _) (fun _ _=>?_)|refine ZF (n6k _ _) (fun _ _=>?_)|refine l_call0 (n6k _ _) (fun _ _=>?_)|refine Xa (b:=false) ?_ (he:=he)|(refine ZC (fun hc=>?_) (fun hc=>?_)<;>(try simp at hc)<;>(try omega))|(refine ZE (fun hc=>?_) (fun hc=>?_)<;>(try simp at hc)<;>(try omega)))
       exact YR (YX (Z4 (none,0) rfl trivial))
      | some o=>
       rw [horg] at n6k hch
       have hos:=org_ok horg w1 w2
       have m2:=Y2 o r.k hos hrs
       have hch:(if 0≤kcmp o r.k then Except.error 10 else if (rsnF f s o).2≠0 then Except.error 10 else chainF f s fu (rsnF f s o).1 (acc++[(rsnF f s o).1]))=RES:=hch
       by_cases hge:0≤kcmp o r.k
       ·rw [if_pos hge] at hch
        subst hch
        have e9:decide (0≤kcmp o r.k)=true:=decide_eq_true hge
        repeat' (first|refine ZH ?_|refine ZG ?_|refine ZK ?_|refine ZI ?_|refine ZP ?_|refine ZJ ?_|refine ZM ?_|refine ZN (fun b=>?_)|refine ZO (fun b=>?_)|refine ZA ?_|refine ZB ?_|refine ZF (m1 _) (fun _ _=>?_)|refine l_call0 (m1 _) (fun _ _=>?_)|refine ZF (m2) (fun _ _=>?_)|refine l_call0 (m2) (fun _ _=>?_)|refine ZF (n6k _ _) (fun _ _=>?_)|refine l_call0 (n6k _ _) (fun _ _=>?_)|refine Xa (b:=false) ?_ (he:=he)|rw [e9]|(refine ZC (fun hc=>?_) (fun hc=>?_)<;>(try simp at hc)<;>(try omega))|(refine ZE (fun hc=>?_) (fun hc=>?_)<;>(try simp at hc)<;>(try omega)))
        exact YR (YX (Z4 (none,0) rfl trivial))
       ·rw [if_neg hge] at hch
        have e9:decide (0≤kcmp o r.k)=false:=decide_eq_false hge
        have hml:=mea_lt horg (q:=r.k) (by omega)
        have n5k:=fun r1 r2=>n5 r1 r2 o hos
        by_cases hz:(rsnF f s o).2=0
        ·rw [if_neg (by rw [hz];exact fun h=>h rfl)] at hch
         have hok:=X0 hz
         rw [hz] at n5k
         generalize (rsnF f s o).1=rn at *
         repeat' (first|refine ZH ?_|refine ZG ?_|refine ZK ?_|refine ZI ?_|refine ZP ?_|refine ZJ ?_|refine ZM ?_|refine ZN (fun b=>?_)|refine ZO (fun b=>?_)|refine ZA ?_|refine ZB ?_|refine ZF (m1 _) (fun _ _=>?_)|refine l_call0 (m1 _) (fun _ _=>?_)|refine ZF (m2) (fun _ _=>?_)|refine l_call0 (m2) (fun _ _=>?_)|refine ZF (n6k _ _) (fun _ _=>?_)|refine l_call0 (n6k _ _) (fun _ _=>?_)|refine ZF (n5k _ _) (fun _ _=>?_)|refine l_call0 (n5k _ _) (fun _ _=>?_)|refine Xa (b:=false) ?_ (he:=he)|rw [e9]|refine Yq (m:=acc.length) (m2:=1) (fun o3 cap3=>?_) (hroom:=hroom)|(refine ZC (fun hc=>?_) (fun hc=>?_)<;>(try simp at hc)<;>(try omega))|(refine ZE (fun hc=>?_) (fun hc=>?_)<;>(try simp at hc)<;>(try omega)))
         refine Zs (r:=Row 48 10 o3 (acc++[rn]).length cap3 ((acc++[rn]).flatMap rsf)) (Lx:=[Row 48 10 o3 (acc.length+1) cap3 (acc.flatMap rsf++rsf rn)]) (fun h hh=>by
          rw [List.length_append,List.flatMap_append]
          obtain ⟨h1,_,_,s1,_,hx,_⟩:=hh
          exact row_sub s1 (by simpa using hx)) ?_
         refine Zc ⟨(fu,rn,acc++[rn],(o3,cap3)),hch,by rw [hok];omega,by rw [hok];exact hos,by rw [List.length_append];show acc.length+1+fu≤3000;omega⟩ (Nat.lt_succ_self fu) ⟨rfl,rfl,?_,trivial⟩
         show some (Value.slice o3 (acc.length+1) cap3)=some (Value.slice o3 (acc++[rn]).length cap3)
         rw [List.length_append];rfl
        ·rw [if_pos hz] at hch
         subst hch
         generalize (rsnF f s o).2=e at *
         repeat' (first|refine ZH ?_|refine ZG ?_|refine ZK ?_|refine ZI ?_|refine ZP ?_|refine ZJ ?_|refine ZM ?_|refine ZN (fun b=>?_)|refine ZO (fun b=>?_)|refine ZA ?_|refine ZB ?_|refine ZF (m1 _) (fun _ _=>?_)|refine l_call0 (m1 _) (fun _ _=>?_)|refine ZF (m2) (fun _ _=>?_)|refine l_call0 (m2) (fun _ _=>?_)|refine ZF (n6k _ _) (fun _ _=>?_)|refine l_call0 (n6k _ _) (fun _ _=>?_)|refine ZF (n5k _ _) (fun _ _=>?_)|refine l_call0 (n5k _ _) (fun _ _=>?_)|refine Xa (b:=false) ?_ (he:=he)|rw [e9]|(refine ZC (fun hc=>?_) (fun hc=>?_)<;>(try simp at hc)<;>(try omega))|(refine ZE (fun hc=>?_) (fun hc=>?_)<;>(try simp at hc)<;>(try omega)))
         exact YR (YX (Z4 (none,0) rfl trivial))
   ·rw [if_pos hz] at hR
    subst hR
    generalize (rsnF f s k).2=e at *
    refine Zb [_,_,_] func12 ntmps12 fun G w hp=>?_
    repeat' (first|refine ZH ?_|refine ZG ?_|refine ZK ?_|refine ZI ?_|refine ZP ?_|refine ZJ ?_|refine ZM ?_|refine ZN (fun b=>?_)|refine ZO (fun b=>?_)|refine ZA ?_|refine ZB ?_|refine ZR ?_|refine ZF (n1) (fun _ _=>?_)|refine l_call0 (n1) (fun _ _=>?_)|refine ZF (n2) (fun _ _=>?_)|refine l_call0 (n2) (fun _ _=>?_)|refine ZF (n3) (fun _ _=>?_)|refine l_call0 (n3) (fun _ _=>?_)|refine ZF (n4) (fun _ _=>?_)|refine l_call0 (n4) (fun _ _=>?_)|refine ZF (n5k _ _) (fun _ _=>?_)|refine l_call0 (n5k _ _) (fun _ _=>?_)|(refine ZC (fun hc=>?_) (fun hc=>?_)<;>(try simp at hc)<;>(try omega))|(refine ZE (fun hc=>?_) (fun hc=>?_)<;>(try simp at hc)<;>(try omega)))
    exact ZS (none,0) rfl trivial
def verF (f s:List Ak):List Rn→Bool
 | []=>false
 | r::l=>match explF f s r.k with
  | .ok m=>decide (m=r::l)
  | .error _=>false
theorem chain_err {f s:List Ak}:∀(n:Nat) (r:Rn) (acc:List Rn) (e:Int),chainF f s n r acc = .error e→e=10
 | 0,r,acc,e,h=>by cases h
 | n+1,r,acc,e,h=>by
  rw [chainF] at h
  split at h
  ·cases h
  ·split at h
   ·cases h;rfl
   ·split at h
    ·cases h;rfl
    ·split at h
     ·cases h;rfl
     ·exact chain_err n _ _ e h
theorem expl_err {f s:List Ak} {k:Ky} {e:Int} (h:explF f s k = .error e):e≠0:=by
 unfold explF at h
 split at h
 ·split at h
  ·rename_i hz
   cases h;exact hz
  ·rw [chain_err _ _ _ _ h];decide
 ·cases h;decide
theorem chain_len {f s:List Ak}:∀(n:Nat) (r:Rn) (acc l:List Rn),chainF f s n r acc = .ok l→l.length≤acc.length+n
 | 0,r,acc,l,h=>by cases h;exact Nat.le_refl _
 | n+1,r,acc,l,h=>by
  rw [chainF] at h
  split at h
  ·cases h;exact Nat.le_add_right _ _
  ·split at h
   ·cases h
   ·split at h
    ·cases h
    ·split at h
     ·cases h
     ·have:=chain_len n _ _ l h
      rw [List.length_append] at this
      simp at this
      omega
theorem expl_len {f s:List Ak} {k:Ky} {l:List Rn} (h:explF f s k = .ok l):l.length≤f.length+s.length+2:=by
 unfold explF at h
 split at h
 ·split at h
  ·cases h
  ·have:=chain_len _ _ _ l h
   simp at this
   omega
 ·cases h
set_option maxHeartbeats 4000000 in
theorem verify_ok (f s:List Ak) (vs us:List Akc) (o1 o2:Option Addr) (c1 c2:Nat) (h1:vs.length=f.length) (h2:us.length=s.length) (b1:f.length≤1000) (b2:s.length≤1000) (w1:∀a ∈ f,AkOK a) (w2:∀a ∈ s,AkOK a) (l:List Rn) (o3:Option Addr) (c3:Nat) (hl:l.length≤3000) (hk:∀r ∈ l,r.k.l.size≤1000) :
  Enters 13∧Spec prog 13 #[.slice o1 vs.length c1,.slice o2 us.length c2,.slice o3 l.length c3] [AkS o1 c1 vs,AksF f vs,AkS o2 c2 us,AksF s us,RsS o3 c3 l] [] (RetV (.bool (verF f s l))):=by
 cases l with
 | nil=>
  refine Zb [_,_,_] func13 ntmps13 fun G w hp=>?_
  repeat' (first|refine ZH ?_|refine ZG ?_|refine ZK ?_|refine ZI ?_|refine ZP ?_|refine ZJ ?_|refine ZM ?_|refine ZN (fun b=>?_)|refine ZO (fun b=>?_)|refine ZA ?_|refine ZB ?_|refine ZR ?_|(refine ZC (fun hc=>?_) (fun hc=>?_)<;>(try simp at hc)<;>(try omega))|(refine ZE (fun hc=>?_) (fun hc=>?_)<;>(try simp at hc)<;>(try omega)))
  exact ZS () rfl trivial
 | cons r l=>
  have n1:=Xd f s vs us o1 o2 c1 c2 h1 h2 b1 b2 w1 w2 r.k (hk r (.head _))
  have hD:verF f s (r::l)=match explF f s r.k with
   | .ok m=>decide (m=r::l)
   | .error _=>false:=rfl
  generalize verF f s (r::l)=D at *
  have hx:(r::l)[0]? = some r:=rfl
  generalize hL:r::l=L at *
  have hL0:((L.length:Int) == 0)=false:=by rw [←hL];simp;omega
  cases hE:explF f s r.k with
  | error e=>
   rw [hE] at n1 hD
   have hD:D=false:=hD
   subst hD
   have he:=expl_err hE
   have he2:(e == 0)=false:=by simpa using he
   refine Zb [_,_,_] func13 ntmps13 fun G w hp=>?_
   repeat' (first|refine ZH ?_|refine ZG ?_|refine ZK ?_|refine ZI ?_|refine ZP ?_|refine ZJ ?_|refine ZM ?_|refine ZN (fun b=>?_)|refine ZO (fun b=>?_)|refine ZA ?_|refine ZB ?_|refine ZF (n1) (fun _ _=>?_)|refine l_call0 (n1) (fun _ _=>?_)|refine Zp (es:=L) (f:=rsf) 0 r hx (fun b off=>?_)|refine Zm ?_|rw [hL0]|rw [he2]|(refine ZC (fun hc=>?_) (fun hc=>?_)<;>(try simp at hc)<;>(try omega))|(refine ZE (fun hc=>?_) (fun hc=>?_)<;>(try simp at hc)<;>(try omega)))
   exact ZS () rfl trivial
  | ok m=>
   rw [hE] at n1 hD
   have hD:D=decide (m=L):=hD
   have hml:=expl_len hE
   have n2:=fun o c=>equalRn_ok o o3 c c3 m L (by omega) (by omega)
   rw [hD]
   generalize decide (m=L)=d at *
   refine Zb [_,_,_] func13 ntmps13 fun G w hp=>?_
   repeat' (first|refine ZH ?_|refine ZG ?_|refine ZK ?_|refine ZI ?_|refine ZP ?_|refine ZJ ?_|refine ZM ?_|refine ZN (fun b=>?_)|refine ZO (fun b=>?_)|refine ZA ?_|refine ZB ?_|refine ZF (n1) (fun _ _=>?_)|refine l_call0 (n1) (fun _ _=>?_)|refine ZF (n2 _ _) (fun _ _=>?_)|refine l_call0 (n2 _ _) (fun _ _=>?_)|refine Zp (es:=L) (f:=rsf) 0 r hx (fun b off=>?_)|refine Zm ?_|rw [hL0]|(refine ZC (fun hc=>?_) (fun hc=>?_)<;>(try simp at hc)<;>(try omega))|(refine ZE (fun hc=>?_) (fun hc=>?_)<;>(try simp at hc)<;>(try omega)))
   exact ZS () rfl trivial
def nmOut (by_:ByteArray) (n t:Int):Nm:=⟨18,by_,n,t,⟨#[]⟩⟩
abbrev mkV (r:Option Nat):Value:=match r with
 | some i=>.tuple #[.int .i64 (i:Int),.bool true]
 | none=>.tuple #[.int .i64 0,.bool false]
def anyW (n:Nm) (l:List Ch):Bool:=l.any fun c=>decide (c.nm=n) && !c.abs
theorem lst_succ {l:List Ak} {n:Nm} {i:Nat} {a:Ak} (h:l[i]? = some a):lstF l n (i+1)=if anyW n a.wr then some i else lstF l n i:=by
 rw [lstF,h];rfl
set_option maxHeartbeats 4000000 in
theorem maker_ok (l:List Ak) (vs:List Akc) (o:Option Addr) (cap:Nat) (hlen:vs.length=l.length) (hb:l.length≤1000) (hw:∀a ∈ l,AkOK a) (by_:ByteArray) (n t:Int) :
  Enters 89∧Spec prog 89 #[.slice o vs.length cap,.string by_,.int .i64 n,.int .i64 t] [AkS o cap vs,AksF l vs] [] (RetV (mkV (lstF l (nmOut by_ n t) l.length))):=by
 have n0:=Xb by_ n t
 obtain ⟨R,hR⟩:∃R,lstF l (nmOut by_ n t) l.length=R:=⟨_,rfl⟩
 rw [hR]
 rw [←hlen] at hR
 have w0:=wrapi (z:=(vs.length:Int) - 1) (by omega) (by omega)
 refine Zb [_,_,_,_] func89 ntmps89 fun G w hp=>?_
 repeat' (first|refine ZH ?_|refine ZG ?_|refine ZK ?_|refine ZI ?_|refine ZP ?_|refine ZJ ?_|refine ZM ?_|refine ZN (fun b=>?_)|refine ZO (fun b=>?_)|refine ZA ?_|refine ZB ?_|refine ZF (n0) (fun _ _=>?_)|refine l_call0 (n0) (fun _ _=>?_)|rw [w0]|(refine ZC (fun hc=>?_) (fun hc=>?_)<;>(try simp at hc)<;>(try omega))|(refine ZE (fun hc=>?_) (fun hc=>?_)<;>(try simp at hc)<;>(try omega)))
 generalize b=bn at *
 obtain ⟨N,hN⟩:∃N,nmOut by_ n t=N:=⟨_,rfl⟩
 rw [hN] at hR
 have hv:(Value.agg #[.int .i64 18,.string by_,.int .i64 n,.int .i64 t,.string ⟨#[]⟩])=N.v:=by rw [←hN];rfl
 refine Z6 (X:={p:Nat×Int // p.2=(p.1:Int) - 1∧p.1≤vs.length∧lstF l N p.1=R}) (fun p=>[(0,.slice o vs.length cap),(10,.pointer (some ⟨bn,0,none⟩)),(11,.int .i64 p.1.2)]) (fun _=>[AkS o cap vs,AksF l vs]) (fun _=>[Pt bn (.cells (nmf (nmOut by_ n t)).toArray 46)]) (fun p=>p.1.1) ⟨(vs.length,(vs.length:Int) - 1),rfl,Nat.le_refl _,hR⟩ ⟨rfl,rfl,rfl,trivial⟩ ?_
 rintro ⟨⟨j,z⟩,hz,hj,hRj⟩
 dsimp only at hz hj hRj ⊢
 cases j with
 | zero=>
  have hz0:¬0≤z:=by omega
  rw [lstF] at hRj
  subst hRj
  repeat' (first|refine ZH ?_|refine ZG ?_|refine ZK ?_|refine ZI ?_|refine ZP ?_|refine ZJ ?_|refine ZM ?_|refine ZN (fun b=>?_)|refine ZO (fun b=>?_)|refine ZA ?_|refine ZB ?_|refine ZR ?_|(refine ZC (fun hc=>?_) (fun hc=>?_)<;>(try simp at hc)<;>(try omega))|(refine ZE (fun hc=>?_) (fun hc=>?_)<;>(try simp at hc)<;>(try omega)))
  exact ZS () rfl trivial
 | succ i=>
  obtain rfl:z=(i:Int):=by omega
  have hli:i<l.length:=by omega
  have hxj:=List.getElem?_eq_getElem hli
  have hyj:=List.getElem?_eq_getElem (show i<vs.length by omega)
  have hao:=hw _ (List.getElem_mem hli)
  generalize l[i]=a at *
  generalize vs[i]=v at *
  rw [lst_succ hxj] at hRj
  refine Z1 (f:=AksF l vs) (.there .here) (fun h hh=>YL hxj hyj h hh) (fun q hq=>?_)
  obtain ⟨⟨ro,rc⟩,wo,wc⟩:=q
  dsimp only at hq ⊢
  subst hq
  have w1:=wrapi (z:=(i:Int) - 1) (by omega) (by omega)
  have hwl:=hao.2.2.1
  repeat' (first|refine Zm ?_|refine Zp (es:=vs) (f:=akf) i _ hyj (fun b off=>?_)|refine ZH ?_|refine ZG ?_|refine ZK ?_|refine ZI ?_|refine ZP ?_|refine ZJ ?_|refine ZM ?_|refine ZN (fun b=>?_)|refine ZO (fun b=>?_)|refine ZA ?_|refine ZB ?_|rw [w1]|(refine ZC (fun hc=>?_) (fun hc=>?_)<;>(try simp at hc)<;>(try omega))|(refine ZE (fun hc=>?_) (fun hc=>?_)<;>(try simp at hc)<;>(try omega)))
  refine Z6 (X:={k:Nat // k≤a.wr.length∧anyW N (a.wr.drop k)=anyW N a.wr}) (fun k=>[(0,.slice o vs.length cap),(10,.pointer (some ⟨bn,0,none⟩)),(11,.int .i64 (i:Int)),(29,.slice wo a.wr.length wc),(30,.int .i64 (a.wr.length:Nat)),(31,.int .i64 (k.1:Int))]) (fun _=>[AkS o cap vs,AksF l vs,ChS wo wc a.wr]) (fun _=>[Pt bn (.cells (nmf (nmOut by_ n t)).toArray 46)]) (fun k=>a.wr.length - k.1) ⟨0,Nat.zero_le _,rfl⟩ ⟨rfl,rfl,rfl,rfl,rfl,rfl,trivial⟩ ?_
  rintro ⟨k,hk,hRk⟩
  dsimp only at hk hRk ⊢
  by_cases hlt:k<a.wr.length
  ·have hck:=List.getElem?_eq_getElem hlt
   rw [List.drop_eq_getElem_cons hlt] at hRk
   generalize a.wr[k]=c at *
   have w2:=wrapi (z:=(k:Int)+1) (by omega) (by omega)
   have he:eqC eqS 20 46 c.nm.v (nmOut by_ n t).v=some (decide (c.nm=N)):=by rw [hN];exact eqNm _ _
   by_cases hcn:c.nm=N
   ·rw [decide_eq_true hcn] at he
    cases hab:c.abs with
    | false=>
     have ht:anyW N a.wr=true:=by
      rw [←hRk]
      unfold anyW
      rw [List.any_cons,decide_eq_true hcn,hab];rfl
     rw [ht,if_pos rfl] at hRj
     subst hRj
     repeat' (first|refine Zm ?_|refine Zp (es:=a.wr) (f:=chf) k c hck (fun b off=>?_)|refine ZH ?_|refine ZG ?_|refine ZK ?_|refine ZI ?_|refine ZP ?_|refine ZJ ?_|refine ZM ?_|refine ZN (fun b=>?_)|refine ZO (fun b=>?_)|refine ZA ?_|refine ZB ?_|refine l_seq ?_ (he:=he)|rw [hab]|rw [w2]|(refine ZC (fun hc=>?_) (fun hc=>?_)<;>(try simp at hc)<;>(try omega))|(refine ZE (fun hc=>?_) (fun hc=>?_)<;>(try simp at hc)<;>(try omega)))
     exact YR (YX (Z4 () rfl trivial))
    | true=>
     have hn:anyW N (a.wr.drop (k+1))=anyW N a.wr:=by
      rw [←hRk]
      unfold anyW
      rw [List.any_cons,hab,Bool.not_true,Bool.and_false,Bool.false_or]
     repeat' (first|refine Zm ?_|refine Zp (es:=a.wr) (f:=chf) k c hck (fun b off=>?_)|refine ZH ?_|refine ZG ?_|refine ZK ?_|refine ZI ?_|refine ZP ?_|refine ZJ ?_|refine ZM ?_|refine ZN (fun b=>?_)|refine ZO (fun b=>?_)|refine ZA ?_|refine ZB ?_|refine l_seq ?_ (he:=he)|rw [hab]|rw [w2]|(refine ZC (fun hc=>?_) (fun hc=>?_)<;>(try simp at hc)<;>(try omega))|(refine ZE (fun hc=>?_) (fun hc=>?_)<;>(try simp at hc)<;>(try omega)))
     exact Zc ⟨k+1,by omega,hn⟩ (by show a.wr.length - (k+1)<a.wr.length - k;omega) ⟨rfl,rfl,rfl,rfl,rfl,rfl,trivial⟩
   ·rw [decide_eq_false hcn] at he
    have hn:anyW N (a.wr.drop (k+1))=anyW N a.wr:=by
     rw [←hRk]
     unfold anyW
     rw [List.any_cons,decide_eq_false hcn,Bool.false_and,Bool.false_or]
    repeat' (first|refine Zm ?_|refine Zp (es:=a.wr) (f:=chf) k c hck (fun b off=>?_)|refine ZH ?_|refine ZG ?_|refine ZK ?_|refine ZI ?_|refine ZP ?_|refine ZJ ?_|refine ZM ?_|refine ZN (fun b=>?_)|refine ZO (fun b=>?_)|refine ZA ?_|refine ZB ?_|refine l_seq ?_ (he:=he)|rw [w2]|(refine ZC (fun hc=>?_) (fun hc=>?_)<;>(try simp at hc)<;>(try omega))|(refine ZE (fun hc=>?_) (fun hc=>?_)<;>(try simp at hc)<;>(try omega)))
    exact Zc ⟨k+1,by omega,hn⟩ (by show a.wr.length - (k+1)<a.wr.length - k;omega) ⟨rfl,rfl,rfl,rfl,rfl,rfl,trivial⟩
  ·rw [List.drop_eq_nil_of_le (by omega)] at hRk
   have hf:anyW N a.wr=false:=hRk.symm
   rw [hf,if_neg (by decide)] at hRj
   repeat' (first|refine ZH ?_|refine ZG ?_|refine ZK ?_|refine ZI ?_|refine ZP ?_|refine ZJ ?_|refine ZM ?_|refine ZN (fun b=>?_)|refine ZO (fun b=>?_)|refine ZA ?_|refine ZB ?_|refine ZR ?_|rw [w1]|(refine ZC (fun hc=>?_) (fun hc=>?_)<;>(try simp at hc)<;>(try omega))|(refine ZE (fun hc=>?_) (fun hc=>?_)<;>(try simp at hc)<;>(try omega)))
   exact Zc ⟨(i,(i:Int) - 1),rfl,by show i≤vs.length;omega,hRj⟩ (Nat.lt_succ_self i) ⟨rfl,rfl,rfl,trivial⟩
def curW (n:Nm) (l:List Ak) (i:Nat) (w:List Ch):Option Nat:=if anyW n w then some i else lstF l n i
set_option maxHeartbeats 4000000 in
theorem makerM_ok (l:List Ak) (vs:List Akc) (o:Option Addr) (cap:Nat) (hlen:vs.length=l.length) (hb:l.length≤1000) (hw:∀a ∈ l,AkOK a) (by_:ByteArray) (n t:Int) :
  Enters 11∧Spec prog 11 #[.slice o vs.length cap,.string by_,.int .i64 n,.int .i64 t] [AkS o cap vs,AksF l vs] [] (RetV (mkV (lstF l (nmOut by_ n t) l.length))):=by
 have n0:=Xb by_ n t
 obtain ⟨N,hN⟩:∃N,nmOut by_ n t=N:=⟨_,rfl⟩
 rw [hN]
 refine Zb [_,_,_,_] func11 ntmps11 fun G w hp=>?_
 repeat' (first|refine ZH ?_|refine ZG ?_|refine ZK ?_|refine ZI ?_|refine ZP ?_|refine ZJ ?_|refine ZM ?_|refine ZN (fun b=>?_)|refine ZO (fun b=>?_)|refine ZA ?_|refine ZB ?_|(refine ZC (fun hc=>?_) (fun hc=>?_)<;>(try simp at hc)<;>(try omega))|(refine ZE (fun hc=>?_) (fun hc=>?_)<;>(try simp at hc)<;>(try omega)))
 refine Z6 (X:={j:Nat // j≤vs.length}) (fun j=>[(0,.slice o vs.length cap),(1,.string by_),(2,.int .i64 n),(3,.int .i64 t),(10,.int .i64 (((lstF l N j.1).getD 0:Nat):Int)),(11,.bool (lstF l N j.1).isSome),(12,.int .i64 (j.1:Int))]) (fun _=>[AkS o cap vs,AksF l vs]) (fun _=>[]) (fun j=>vs.length - j.1) ⟨0,Nat.zero_le _⟩ ⟨rfl,rfl,rfl,rfl,rfl,rfl,rfl,trivial⟩ ?_
 rintro ⟨j,hj⟩
 dsimp only
 by_cases hlt:j<vs.length
 ·have hli:j<l.length:=by omega
  have hxj:=List.getElem?_eq_getElem hli
  have hyj:=List.getElem?_eq_getElem hlt
  have hao:=hw _ (List.getElem_mem hli)
  generalize l[j]=a at *
  generalize vs[j]=v at *
  have hwl:=hao.2.2.1
  have hst:=lst_succ (n:=N) hxj
  refine Z1 (f:=AksF l vs) (.there .here) (fun h hh=>YL hxj hyj h hh) (fun q hq=>?_)
  obtain ⟨⟨ro,rc⟩,wo,wc⟩:=q
  dsimp only at hq ⊢
  subst hq
  have w1:=wrapi (z:=(j:Int)+1) (by omega) (by omega)
  have hc0:curW N l j (a.wr.take 0)=lstF l N j:=rfl
  rw [←hc0]
  repeat' (first|refine ZH ?_|refine ZG ?_|refine ZK ?_|refine ZI ?_|refine ZP ?_|refine ZJ ?_|refine ZM ?_|refine ZN (fun b=>?_)|refine ZO (fun b=>?_)|refine ZA ?_|refine ZB ?_|(refine ZC (fun hc=>?_) (fun hc=>?_)<;>(try simp at hc)<;>(try omega))|(refine ZE (fun hc=>?_) (fun hc=>?_)<;>(try simp at hc)<;>(try omega)))
  refine Z6 (X:={k:Nat // k≤a.wr.length}) (fun k=>[(0,.slice o vs.length cap),(1,.string by_),(2,.int .i64 n),(3,.int .i64 t),(10,.int .i64 (((curW N l j (a.wr.take k.1)).getD 0:Nat):Int)),(11,.bool (curW N l j (a.wr.take k.1)).isSome),(12,.int .i64 (j:Int)),(13,.int .i64 (k.1:Int))]) (fun _=>[AkS o cap vs,AksF l vs,ChS wo wc a.wr]) (fun _=>[]) (fun k=>a.wr.length - k.1) ⟨0,Nat.zero_le _⟩ ⟨rfl,rfl,rfl,rfl,rfl,rfl,rfl,rfl,trivial⟩ ?_
  rintro ⟨k,hk⟩
  dsimp only
  by_cases hltk:k<a.wr.length
  ·have hck:=List.getElem?_eq_getElem hltk
   have htk:=List.take_succ_eq_append_getElem hltk
   generalize a.wr[k]=c at *
   have w2:=wrapi (z:=(k:Int)+1) (by omega) (by omega)
   have he:eqC eqS 20 46 c.nm.v (nmOut by_ n t).v=some (decide (c.nm=N)):=by rw [hN];exact eqNm _ _
   have hany:anyW N (a.wr.take (k+1))=(anyW N (a.wr.take k) || (decide (c.nm=N) && !c.abs)):=by
    unfold anyW
    rw [htk,List.any_append,List.any_cons,List.any_nil,Bool.or_false]
   by_cases hcn:c.nm=N
   ·rw [decide_eq_true hcn] at he hany
    cases hab:c.abs with
    | false=>
     have hcur:curW N l j (a.wr.take (k+1))=some j:=by
      unfold curW
      rw [hany,hab]
      simp
     repeat' (first|refine Zm ?_|refine Zp (es:=a.wr) (f:=chf) k c hck (fun b off=>?_)|refine Zp (es:=vs) (f:=akf) j _ hyj (fun b off=>?_)|refine ZH ?_|refine ZG ?_|refine ZK ?_|refine ZI ?_|refine ZP ?_|refine ZJ ?_|refine ZM ?_|refine ZN (fun b=>?_)|refine ZO (fun b=>?_)|refine ZA ?_|refine ZB ?_|refine ZZ ?_|refine ZW ?_|refine Zf ?_|refine Za ?_|refine ZY ?_|refine Ze (fun b=>?_)|refine Zg (fun b=>?_)|refine Zd ?_|refine ZX ?_|refine ZF (n0) (fun _ _=>?_)|refine l_call0 (n0) (fun _ _=>?_)|refine ZT (n0) (fun _ _=>?_)|refine r_seq ?_ (he:=he)|rw [hab]|rw [w2]|(refine ZC (fun hc=>?_) (fun hc=>?_)<;>(try simp at hc)<;>(try omega))|(refine ZL (fun hc=>?_) (fun hc=>?_)<;>(try simp at hc)<;>(try omega))|refine ZD 9 [] [(0,0),(1,0),(2,0),(3,0),(4,0),(5,4),(6,0),(7,0),(8,0),(9,0),(10,0),(11,0)] [] ?_|(refine ZE (fun hc=>?_) (fun hc=>?_)<;>(try simp at hc)<;>(try omega)))
     exact Zc ⟨k+1,by omega⟩ (by show a.wr.length - (k+1)<a.wr.length - k;omega) (by dsimp only;rw [hcur];exact ⟨rfl,rfl,rfl,rfl,rfl,rfl,rfl,rfl,trivial⟩)
    | true=>
     have hcur:curW N l j (a.wr.take (k+1))=curW N l j (a.wr.take k):=by
      unfold curW
      rw [hany,hab]
      simp
     repeat' (first|refine Zm ?_|refine Zp (es:=a.wr) (f:=chf) k c hck (fun b off=>?_)|refine Zp (es:=vs) (f:=akf) j _ hyj (fun b off=>?_)|refine ZH ?_|refine ZG ?_|refine ZK ?_|refine ZI ?_|refine ZP ?_|refine ZJ ?_|refine ZM ?_|refine ZN (fun b=>?_)|refine ZO (fun b=>?_)|refine ZA ?_|refine ZB ?_|refine ZZ ?_|refine ZW ?_|refine Zf ?_|refine Za ?_|refine ZY ?_|refine Ze (fun b=>?_)|refine Zg (fun b=>?_)|refine Zd ?_|refine ZX ?_|refine ZF (n0) (fun _ _=>?_)|refine l_call0 (n0) (fun _ _=>?_)|refine ZT (n0) (fun _ _=>?_)|refine r_seq ?_ (he:=he)|rw [hab]|rw [w2]|(refine ZC (fun hc=>?_) (fun hc=>?_)<;>(try simp at hc)<;>(try omega))|(refine ZL (fun hc=>?_) (fun hc=>?_)<;>(try simp at hc)<;>(try omega))|refine ZD 9 [] [(0,0),(1,0),(2,0),(3,0),(4,0),(5,4),(6,0),(7,0),(8,0),(9,0),(10,0),(11,0)] [] ?_|(refine ZE (fun hc=>?_) (fun hc=>?_)<;>(try simp at hc)<;>(try omega)))
     exact Zc ⟨k+1,by omega⟩ (by show a.wr.length - (k+1)<a.wr.length - k;omega) (by dsimp only;rw [hcur];exact ⟨rfl,rfl,rfl,rfl,rfl,rfl,rfl,rfl,trivial⟩)
   ·rw [decide_eq_false hcn] at he hany
    have hcur:curW N l j (a.wr.take (k+1))=curW N l j (a.wr.take k):=by
     unfold curW
     rw [hany]
     simp
    repeat' (first|refine Zm ?_|refine Zp (es:=a.wr) (f:=chf) k c hck (fun b off=>?_)|refine Zp (es:=vs) (f:=akf) j _ hyj (fun b off=>?_)|refine ZH ?_|refine ZG ?_|refine ZK ?_|refine ZI ?_|refine ZP ?_|refine ZJ ?_|refine ZM ?_|refine ZN (fun b=>?_)|refine ZO (fun b=>?_)|refine ZA ?_|refine ZB ?_|refine ZZ ?_|refine ZW ?_|refine Zf ?_|refine Za ?_|refine ZY ?_|refine Ze (fun b=>?_)|refine Zg (fun b=>?_)|refine Zd ?_|refine ZX ?_|refine ZF (n0) (fun _ _=>?_)|refine l_call0 (n0) (fun _ _=>?_)|refine ZT (n0) (fun _ _=>?_)|refine r_seq ?_ (he:=he)|rw [w2]|(refine ZC (fun hc=>?_) (fun hc=>?_)<;>(try simp at hc)<;>(try omega))|(refine ZL (fun hc=>?_) (fun hc=>?_)<;>(try simp at hc)<;>(try omega))|refine ZD 9 [] [(0,0),(1,0),(2,0),(3,0),(4,0),(5,4),(6,0),(7,0),(8,0),(9,0),(10,0),(11,0)] [] ?_|(refine ZE (fun hc=>?_) (fun hc=>?_)<;>(try simp at hc)<;>(try omega)))
    exact Zc ⟨k+1,by omega⟩ (by show a.wr.length - (k+1)<a.wr.length - k;omega) (by dsimp only;rw [hcur];exact ⟨rfl,rfl,rfl,rfl,rfl,rfl,rfl,rfl,trivial⟩)
  ·have hcur:curW N l j (a.wr.take k)=lstF l N (j+1):=by
    rw [List.take_of_length_le (by omega),hst];rfl
   rw [hcur]
   repeat' (first|refine Zm ?_|refine Zp (es:=vs) (f:=akf) j _ hyj (fun b off=>?_)|refine ZH ?_|refine ZG ?_|refine ZK ?_|refine ZI ?_|refine ZP ?_|refine ZJ ?_|refine ZM ?_|refine ZN (fun b=>?_)|refine ZO (fun b=>?_)|refine ZA ?_|refine ZB ?_|refine ZR ?_|rw [w1]|(refine ZC (fun hc=>?_) (fun hc=>?_)<;>(try simp at hc)<;>(try omega))|(refine ZE (fun hc=>?_) (fun hc=>?_)<;>(try simp at hc)<;>(try omega)))
   exact Zc ⟨j+1,by omega⟩ (by show vs.length - (j+1)<vs.length - j;omega) ⟨rfl,rfl,rfl,rfl,rfl,rfl,rfl,trivial⟩
 ·obtain rfl:j=l.length:=by omega
  cases hL:lstF l N l.length with
  | none=>
   repeat' (first|refine ZH ?_|refine ZG ?_|refine ZK ?_|refine ZI ?_|refine ZP ?_|refine ZJ ?_|refine ZM ?_|refine ZN (fun b=>?_)|refine ZO (fun b=>?_)|refine ZA ?_|refine ZB ?_|refine ZR ?_|(refine ZC (fun hc=>?_) (fun hc=>?_)<;>(try simp at hc)<;>(try omega))|(refine ZE (fun hc=>?_) (fun hc=>?_)<;>(try simp at hc)<;>(try omega)))
   exact ZS () rfl trivial
  | some i=>
   repeat' (first|refine ZH ?_|refine ZG ?_|refine ZK ?_|refine ZI ?_|refine ZP ?_|refine ZJ ?_|refine ZM ?_|refine ZN (fun b=>?_)|refine ZO (fun b=>?_)|refine ZA ?_|refine ZB ?_|refine ZR ?_|(refine ZC (fun hc=>?_) (fun hc=>?_)<;>(try simp at hc)<;>(try omega))|(refine ZE (fun hc=>?_) (fun hc=>?_)<;>(try simp at hc)<;>(try omega)))
   exact ZS () rfl trivial
def Cq.v (c:Cq):Value:=.agg #[.int .i64 c.kind,.string c.who,.int .i64 c.nu,.int .i64 c.place,.int .i64 c.old.ch,.string c.old.tg,.string c.old.tx,.int .i64 c.old.us,.int .i64 c.oldAt,.int .i64 c.new.ch,.string c.new.tg,.string c.new.tx,.int .i64 c.new.us,.int .i64 c.newAt]
def eqq (a b:Cq):Bool:=(a.kind == b.kind) && ((a.who.toList == b.who.toList) && ((a.nu == b.nu) && ((a.place == b.place) && (((a.old.ch == b.old.ch) && ((a.old.tg.toList == b.old.tg.toList) && ((a.old.tx.toList == b.old.tx.toList) && ((a.old.us == b.old.us) && true)))) && ((a.oldAt == b.oldAt) && (((a.new.ch == b.new.ch) && ((a.new.tg.toList == b.new.tg.toList) && ((a.new.tx.toList == b.new.tx.toList) && ((a.new.us == b.new.us) && true)))) && ((a.newAt == b.newAt) && true)))))))
theorem XN {l:List Ak} {n:Nm}:∀{m i:Nat},lstF l n m=some i→∃a,l[i]? = some a
 | 0,i,h=>by cases h
 | m+1,i,h=>by
  rw [lstF] at h
  split at h
  ·rename_i a ha
   split at h
   ·cases h;exact ⟨a,ha⟩
   ·exact XN h
  ·exact XN h
def mkK (l:List Ak) (n:Nm):Option Ky:=match lstF l n l.length with
 | some i=>l[i]?.map Ak.k
 | none=>none
abbrev kbV (x:Option Ky):Value:=.tuple #[kyv (x.getD kyZ),.bool x.isSome]
set_option maxHeartbeats 4000000 in
theorem cqMaker_ok (l:List Ak) (vs:List Akc) (o:Option Addr) (cap:Nat) (hlen:vs.length=l.length) (hb:l.length≤1000) (hw:∀a ∈ l,AkOK a) (c:Cq) (t:Int):Enters 38∧Spec prog 38 #[.slice o vs.length cap,c.v,.int .i64 t] [AkS o cap vs,AksF l vs] [] (RetV (kbV (mkK l (nmOut c.who c.nu t)))):=by
 have n1:=maker_ok l vs o cap hlen hb hw c.who c.nu t
 obtain ⟨V,hV⟩:∃V,mkK l (nmOut c.who c.nu t)=V:=⟨_,rfl⟩
 rw [hV]
 unfold mkK at hV
 cases hm:lstF l (nmOut c.who c.nu t) l.length with
 | none=>
  rw [hm] at n1 hV
  have hV:none=V:=hV
  subst hV
  refine Zb [_,_,_] func38 ntmps38 fun G w hp=>?_
  repeat' (first|refine ZH ?_|refine ZG ?_|refine ZK ?_|refine ZI ?_|refine ZP ?_|refine ZJ ?_|refine ZM ?_|refine ZN (fun b=>?_)|refine ZO (fun b=>?_)|refine ZA ?_|refine ZB ?_|refine ZR ?_|refine ZF (n1) (fun _ _=>?_)|refine l_call0 (n1) (fun _ _=>?_)|(refine ZC (fun hc=>?_) (fun hc=>?_)<;>(try simp at hc)<;>(try omega))|(refine ZE (fun hc=>?_) (fun hc=>?_)<;>(try simp at hc)<;>(try omega)))
  exact ZS () rfl trivial
 | some i=>
  rw [hm] at n1 hV
  obtain ⟨a,ha⟩:=XN hm
  have hV:l[i]?.map Ak.k=V:=hV
  rw [ha] at hV
  have hV:some a.k=V:=hV
  subst hV
  obtain ⟨v,hv⟩:∃v,vs[i]? = some v:=⟨_,List.getElem?_eq_getElem (show i<vs.length by have:=(List.getElem?_eq_some_iff.1 ha).1;omega)⟩
  refine Zb [_,_,_] func38 ntmps38 fun G w hp=>?_
  refine Z1 (f:=AksF l vs) (by repeat (first|exact Sel.here|apply Sel.there)) (fun h hh=>YL ha hv h hh) (fun q hq=>?_)
  obtain ⟨⟨ro,rc⟩,wo,wc⟩:=q
  dsimp only at hq ⊢
  subst hq
  repeat' (first|refine ZH ?_|refine ZG ?_|refine ZK ?_|refine ZI ?_|refine ZP ?_|refine ZJ ?_|refine ZM ?_|refine ZN (fun b=>?_)|refine ZO (fun b=>?_)|refine ZA ?_|refine ZB ?_|refine ZF (n1) (fun _ _=>?_)|refine l_call0 (n1) (fun _ _=>?_)|refine Zp (es:=vs) (f:=akf) i _ hv (fun b off=>?_)|refine Zm ?_|(refine ZC (fun hc=>?_) (fun hc=>?_)<;>(try simp at hc)<;>(try omega))|(refine ZE (fun hc=>?_) (fun hc=>?_)<;>(try simp at hc)<;>(try omega)))
  exact ZS () rfl trivial
section
variable {n:Nat} {C:Cx} {Q:Exit→Act→World→Prop} {E E':List (Nat×Value)} {F F' F1 Fs F0:List Pf} {R R' R0 Rs N N' A:List HP} {k k':List Fr} {ops l:List Oper} {i d:Nat} {t ty0:TypeId} {x y z:Operand} {pos:String} {aft:Array Edge} {gd:Option (Nat×Bool)} {α β:Type} [DecidableEq α] {K:α→Value} {V:β→Value}
theorem YC {kt et r:Nat} {rs:TRow} {m:List (α×β)} (hk:KeyOK kt K) (a:α) (v:β) (nx:Wl n C ops.toArray k Q l E F (Mp K V r (mset a v m)::R0)) (hw:wantL ops E ⟨none,.insert t x y z,ty0,pos,aft,gd⟩=some true:=by rfl)
  (hx:ev E x=some (.map (some r)):=by rfl) (hy:ev E y=some (K a):=by rfl) (hz:ev E z=some (V v):=by rfl) (hts:lookT tab t=some rs:=by rfl) (hrs:rs.k = .map kt et:=by rfl)
  (hs:Sel (Mp K V r m) R R0:=by (repeat (first|exact Sel.here|apply Sel.there));first|done|fail):Wl n C ops.toArray k Q (⟨none,.insert t x y z,ty0,pos,aft,gd⟩::l) E F R:=
 Z8 (fun t ht=>by cases ht) (fun c hc=>by cases hc) hw fun ac w ha hsat=>by
  obtain ⟨es,clock,h1,he,hB⟩:=WM hs hsat
  have hb:=h1.pt Sel.here
  have hu:=XP (w:=w) hts hrs
  have hg:(getObj r).run prog w = .ok (.map es clock) w:=by simp [getObj,Sem.run,hb]
  have hc:=hk.chk a false w
  have hf:=Yn hk a es.toList m w he
  unfold OpRes
  simp only [execOp,ha.ev (x:=x) (by rw [ZU];exact hx),ha.ev (x:=y) (by rw [ZU];exact hy),ha.ev (x:=z) (by rw [ZU];exact hz),Instr.mapUpdate,Sem.run_bind,hu,Result.andThen,hg,hc,hf]
  cases hm:mfind a m 0 with
  | none=>
   simp only [Option.map_none]
   have hset:(setObj r (.map (es.push {key:=K a,val:=V v,born:=clock}) (clock+1))).run prog w = .ok () {w with heap:=w.heap.setIfInBounds r (.map (es.push {key:=K a,val:=V v,born:=clock}) (clock+1))}:=by simp [setObj,Sem.run,hb]
   simp only [hset,Sem.run_pure]
   refine fun a' ha'=>nx a' _ ha' (X2 (YK h1) ?_ ?_)
   ·rw [X3 a v m 0 hm]
    simp [he]
   ·refine ⟨?_,fun e hem=>?_⟩
    ·rw [Array.toList_push,List.map_append]
     refine List.nodup_append.2 ⟨hB.1,by simp,fun b hb c hc=>?_⟩
     obtain ⟨e,hem,rfl⟩:=List.mem_map.1 hb
     have:=hB.2 e hem
     simp at hc
     omega
    ·rw [Array.toList_push] at hem
     rcases List.mem_append.1 hem with hem|hem
     ·have:=hB.2 e hem;omega
     ·obtain rfl:=List.mem_singleton.1 hem
      exact Nat.lt_succ_self _
  | some q=>
   obtain ⟨j,u⟩:=q
   obtain ⟨p,hj,hp,hms⟩:=XR a v m 0 j u hm
   obtain rfl:j=p:=by omega
   have hkey:(es.toList.map (fun e=>(e.key,e.val)))[j]? = some (K a,V u):=by rw [he];simp [hp]
   have hold:((es[j]?).map (·.key)).getD (K a)=K a:=by
    simp only [List.getElem?_map,Array.getElem?_toList,Option.map_eq_some_iff] at hkey
    obtain ⟨e,he1,he2⟩:=hkey
    rw [he1]
    simp only [Prod.mk.injEq] at he2
    simp [he2.1]
   simp only [Option.map_some]
   have hkt:(Instr.keyThatStays (((es[j]?).map (·.key)).getD (K a)) (K a)).run prog w = .ok (K a) w:=by
    rw [hold];simp [Instr.keyThatStays,hk.bits a]
   have hset:(setObj r (.map (es.modify j fun e=>{e with key:=K a,val:=V v}) clock)).run prog w = .ok () {w with heap:=w.heap.setIfInBounds r (.map (es.modify j fun e=>{e with key:=K a,val:=V v}) clock)}:=by simp [setObj,Sem.run,hb]
   simp only [hkt,Sem.run_bind,Result.andThen,hset,Sem.run_pure]
   have hborn:(es.modify j fun e=>{e with key:=K a,val:=V v}).toList.map (·.born)=es.toList.map (·.born):=by
    apply List.ext_getElem?
    intro i
    simp only [List.getElem?_map,Array.getElem?_toList,Array.getElem?_modify]
    split
    ·cases es[i]?<;>rfl
    ·rfl
   refine fun a' ha'=>nx a' _ ha' (X2 (YK h1) ?_ ⟨by rw [hborn];exact hB.1,fun e hem=>?_⟩)
   rotate_left
   ·have h3:e.born ∈ es.toList.map (·.born):=by rw [←hborn];exact List.mem_map_of_mem hem
    obtain ⟨e',hem',he'⟩:=List.mem_map.1 h3
    rw [←he'];exact hB.2 e' hem'
   rw [hms]
   apply List.ext_getElem?
   intro i
   have hei:(es.toList.map (fun e=>(e.key,e.val)))[i]? = (m.map fun x=>(K x.1,V x.2))[i]?:=by rw [he]
   simp only [List.getElem?_map,Array.getElem?_toList,Array.getElem?_modify,List.getElem?_set] at hei ⊢
   by_cases hij:j=i
   ·subst hij
    simp only [if_true]
    have hlt:=(List.getElem?_eq_some_iff.1 hp).1
    rw [if_pos hlt]
    rw [hp] at hei
    simp only [Option.map_some,Option.map_eq_some_iff] at hei
    obtain ⟨e,he1,_⟩:=hei
    simp [he1]
   ·simp only [if_neg hij]
    exact hei
end
def zivE (i:Int):Value:=.int .i64 i
theorem Zn:KeyOK 3 zivE where
 eq a b w:=by
  show (Op.equalIn (9999+1) _ (.int .i64 a) (.int .i64 b)).run prog w = .ok (decide (a=b)) w
  rw [Op.equalIn]
  simp [run_underlying underlying3,beqIv]
 chk a em w:=by
  show (Instr.checkKey em (9999+1) _ (.int .i64 a)).run prog w=_
  rw [Instr.checkKey]
  simp [run_underlying underlying3]
 bits a:=by simp [zivE,Instr.sameBits]
 now:=⟨_,underlying3,fun a b=>by simp [zivE,Instr.sameNow,beqIv]⟩
theorem chain1_ok (b3 b5:Nat) (l:List Ak) (vs:List Akc) (o:Option Addr) (cap:Nat) (hlen:vs.length=l.length) (hb:l.length≤1000) (hw:∀a ∈ l,AkOK a) (c:Cq):Enters 37∧Spec prog 37 #[pvE b3,pvE b5] [AkS o cap vs,AksF l vs,Blk b3 (.cells #[.slice o vs.length cap] 29),Blk b5 (.cells (cqf c).toArray 27)] [] (RetV (kbV (mkK l (nmOut c.who c.nu c.oldAt)))):=by
 have n1:=cqMaker_ok l vs o cap hlen hb hw c c.oldAt
 refine Zb [_,_] func37 ntmps37 fun G w hp=>?_
 repeat' (first|refine ZH ?_|refine ZG ?_|refine ZK ?_|refine ZI ?_|refine ZP ?_|refine ZJ ?_|refine ZM ?_|refine ZN (fun b=>?_)|refine ZO (fun b=>?_)|refine ZA ?_|refine ZB ?_|refine ZR ?_|refine ZF (n1) (fun _ _=>?_)|refine l_call0 (n1) (fun _ _=>?_)|(refine ZC (fun hc=>?_) (fun hc=>?_)<;>(try simp at hc)<;>(try omega))|(refine ZE (fun hc=>?_) (fun hc=>?_)<;>(try simp at hc)<;>(try omega)))
 exact ZS () rfl trivial
theorem chain2_ok (b3 b5:Nat) (l:List Ak) (vs:List Akc) (o:Option Addr) (cap:Nat) (hlen:vs.length=l.length) (hb:l.length≤1000) (hw:∀a ∈ l,AkOK a) (c:Cq):Enters 39∧Spec prog 39 #[pvE b3,pvE b5] [AkS o cap vs,AksF l vs,Blk b3 (.cells #[.slice o vs.length cap] 29),Blk b5 (.cells (cqf c).toArray 27)] [] (RetV (kbV (mkK l (nmOut c.who c.nu c.newAt)))):=by
 have n1:=cqMaker_ok l vs o cap hlen hb hw c c.newAt
 refine Zb [_,_] func39 ntmps39 fun G w hp=>?_
 repeat' (first|refine ZH ?_|refine ZG ?_|refine ZK ?_|refine ZI ?_|refine ZP ?_|refine ZJ ?_|refine ZM ?_|refine ZN (fun b=>?_)|refine ZO (fun b=>?_)|refine ZA ?_|refine ZB ?_|refine ZR ?_|refine ZF (n1) (fun _ _=>?_)|refine l_call0 (n1) (fun _ _=>?_)|(refine ZC (fun hc=>?_) (fun hc=>?_)<;>(try simp at hc)<;>(try omega))|(refine ZE (fun hc=>?_) (fun hc=>?_)<;>(try simp at hc)<;>(try omega)))
 exact ZS () rfl trivial
def chKey (f s:List Ak) (c:Cq):Option Ky:=if c.kind=4 then mkK s (nmOut c.who c.nu c.newAt) else mkK f (nmOut c.who c.nu c.oldAt)
def chainQ (f s:List Ak) (c:Cq):Except Int (List Rn):=
 if c.kind=1 then .error 10 else if c.kind<1∨4<c.kind then .error 11 else match chKey f s c with
  | none=>.error 8
  | some k=>explF f s k
theorem mkK_ok {l:List Ak} {n:Nm} {k:Ky} (h:mkK l n=some k) (hw:∀a ∈ l,AkOK a):k.l.size≤1000:=by
 unfold mkK at h
 split at h
 ·rename_i i hi
  obtain ⟨a,ha⟩:=XN hi
  rw [ha] at h
  cases h
  exact (hw a (List.mem_of_getElem? ha)).1
 ·cases h
def chMap (g h:Value):List (Int×Value):=mset 4 h (mset 3 g (mset 2 g []))
theorem Wy (g h:Value) (k:Int):mget k (chMap g h)=if k=2 then some g else if k=3 then some g else if k=4 then some h else none:=by
 unfold chMap
 rw [YO,YO,YO]
 by_cases h2:k=2
 ·subst h2;rfl
 ·by_cases h3:k=3
  ·subst h3;rfl
  ·by_cases h4:k=4
   ·subst h4;rfl
   ·rw [if_neg (fun e=>h4 e.symm),if_neg (fun e=>h3 e.symm),if_neg (fun e=>h2 e.symm),if_neg h2,if_neg h3,if_neg h4];rfl
set_option maxHeartbeats 8000000 in
theorem chain_ok (f s:List Ak) (vs us:List Akc) (o1 o2:Option Addr) (c1 c2:Nat) (h1:vs.length=f.length) (h2:us.length=s.length) (b1:f.length≤1000) (b2:s.length≤1000) (w1:∀a ∈ f,AkOK a) (w2:∀a ∈ s,AkOK a) (c:Cq) :
  Enters 10∧Spec prog 10 #[.slice o1 vs.length c1,.slice o2 us.length c2,c.v] [AkS o1 c1 vs,AksF f vs,AkS o2 c2 us,AksF s us] []
   ⟨Option Addr×Nat,exV (chainQ f s c),fun _=>True,exF (chainQ f s c),fun _=>[]⟩:=by
 have n1:=fun b3 b5=>X5 (cs:=#[pvE b3,pvE b5]) (vs:=[]) (chain1_ok b3 b5 f vs o1 c1 h1 b1 w1 c)
 have n2:=fun b3 b5=>X5 (cs:=#[pvE b3,pvE b5]) (vs:=[]) (chain2_ok b3 b5 s us o2 c2 h2 b2 w2 c)
 have n3:=fun k hk=>Xd f s vs us o1 o2 c1 c2 h1 h2 b1 b2 w1 w2 k hk
 obtain ⟨RES,hR⟩:∃RES,chainQ f s c=RES:=⟨_,rfl⟩
 rw [hR]
 unfold chainQ at hR
 by_cases k1:c.kind=1
 ·rw [if_pos k1] at hR
  subst hR
  refine Zb [_,_,_] func10 ntmps10 fun G w hp=>?_
  repeat' (first|refine ZH ?_|refine ZG ?_|refine ZK ?_|refine ZI ?_|refine ZP ?_|refine ZJ ?_|refine ZM ?_|refine ZN (fun b=>?_)|refine ZO (fun b=>?_)|refine ZA ?_|refine ZB ?_|(refine ZC (fun hc=>?_) (fun hc=>?_)<;>(try simp at hc)<;>(try omega))|(refine ZE (fun hc=>?_) (fun hc=>?_)<;>(try simp at hc)<;>(try omega)))
  exact ZS (none,0) rfl trivial
 ·rw [if_neg k1] at hR
  by_cases k2:c.kind<1∨4<c.kind
  ·rw [if_pos k2] at hR
   subst hR
   have hg:∀g h:Value,mget c.kind (chMap g h)=none:=fun g h=>by rw [Wy,if_neg (by omega),if_neg (by omega),if_neg (by omega)]
   refine Zb [_,_,_] func10 ntmps10 fun G w hp=>?_
   repeat' (first|refine YZ (o:=.cells (cqf c).toArray 27) ?_|refine YZ (o:=.cells #[.slice o2 us.length c2] 29) ?_|refine YZ (o:=.cells #[.slice o1 vs.length c1] 29) ?_|refine ZH ?_|refine ZG ?_|refine ZK ?_|refine ZI ?_|refine ZP ?_|refine ZJ ?_|refine ZM ?_|refine ZN (fun b=>?_)|refine ZO (fun b=>?_)|refine ZA ?_|refine ZB ?_|refine XS (K:=zivE) Zn (fun v:Value=>v) (fun r=>?_)|refine YC (K:=zivE) (V:=fun v:Value=>v) Zn 2 _ ?_|refine YC (K:=zivE) (V:=fun v:Value=>v) Zn 3 _ ?_|refine YC (K:=zivE) (V:=fun v:Value=>v) Zn 4 _ ?_|refine YN (V:=fun v:Value=>v) Zn c.kind none (hg _ _) ?_|(refine ZC (fun hc=>?_) (fun hc=>?_)<;>(try simp at hc)<;>(try omega))|(refine ZE (fun hc=>?_) (fun hc=>?_)<;>(try simp at hc)<;>(try omega)))
   exact ZS (none,0) rfl trivial
  ·rw [if_neg k2] at hR
   by_cases k4:c.kind=4
   ·rw [show chKey f s c=mkK s (nmOut c.who c.nu c.newAt) from if_pos k4] at hR
    have hg:∀g h:Value,mget c.kind (chMap g h)=some h:=fun g h=>by rw [Wy,k4];rfl
    have hko:∀k,mkK s (nmOut c.who c.nu c.newAt)=some k→k.l.size≤1000:=fun k h=>mkK_ok h w2
    generalize mkK s (nmOut c.who c.nu c.newAt)=K at *
    cases K with
    | none=>
     have hR:Except.error 8=RES:=hR
     subst hR
     refine Zb [_,_,_] func10 ntmps10 fun G w hp=>?_
     repeat' (first|refine YZ (o:=.cells (cqf c).toArray 27) ?_|refine YZ (o:=.cells #[.slice o2 us.length c2] 29) ?_|refine YZ (o:=.cells #[.slice o1 vs.length c1] 29) ?_|refine ZH ?_|refine ZG ?_|refine ZK ?_|refine ZI ?_|refine ZP ?_|refine ZJ ?_|refine ZM ?_|refine ZN (fun b=>?_)|refine ZO (fun b=>?_)|refine ZA ?_|refine ZB ?_|refine XS (K:=zivE) Zn (fun v:Value=>v) (fun r=>?_)|refine YC (K:=zivE) (V:=fun v:Value=>v) Zn 2 _ ?_|refine YC (K:=zivE) (V:=fun v:Value=>v) Zn 3 _ ?_|refine YC (K:=zivE) (V:=fun v:Value=>v) Zn 4 _ ?_|refine YN (V:=fun v:Value=>v) Zn c.kind (some _) (hg _ _) ?_|refine Yg (n2 _ _) (fun _ _=>?_)|(refine ZC (fun hc=>?_) (fun hc=>?_)<;>(try simp at hc)<;>(try omega))|(refine ZE (fun hc=>?_) (fun hc=>?_)<;>(try simp at hc)<;>(try omega)))
     exact ZS (none,0) rfl trivial
    | some k=>
     have hR:explF f s k=RES:=hR
     have n3k:=n3 k (hko k rfl)
     rw [hR] at n3k
     cases RES with
     | ok l=>
      refine Zb [_,_,_] func10 ntmps10 fun G w hp=>?_
      repeat' (first|refine YZ (o:=.cells (cqf c).toArray 27) ?_|refine YZ (o:=.cells #[.slice o2 us.length c2] 29) ?_|refine YZ (o:=.cells #[.slice o1 vs.length c1] 29) ?_|refine ZH ?_|refine ZG ?_|refine ZK ?_|refine ZI ?_|refine ZP ?_|refine ZJ ?_|refine ZM ?_|refine ZN (fun b=>?_)|refine ZO (fun b=>?_)|refine ZA ?_|refine ZB ?_|refine ZF (n3k) (fun _ _=>?_)|refine l_call0 (n3k) (fun _ _=>?_)|refine XS (K:=zivE) Zn (fun v:Value=>v) (fun r=>?_)|refine YC (K:=zivE) (V:=fun v:Value=>v) Zn 2 _ ?_|refine YC (K:=zivE) (V:=fun v:Value=>v) Zn 3 _ ?_|refine YC (K:=zivE) (V:=fun v:Value=>v) Zn 4 _ ?_|refine YN (V:=fun v:Value=>v) Zn c.kind (some _) (hg _ _) ?_|refine Yg (n2 _ _) (fun _ _=>?_)|(refine ZC (fun hc=>?_) (fun hc=>?_)<;>(try simp at hc)<;>(try omega))|(refine ZE (fun hc=>?_) (fun hc=>?_)<;>(try simp at hc)<;>(try omega)))
      rename_i q _
      exact ZS q rfl trivial
     | error e=>
      refine Zb [_,_,_] func10 ntmps10 fun G w hp=>?_
      repeat' (first|refine YZ (o:=.cells (cqf c).toArray 27) ?_|refine YZ (o:=.cells #[.slice o2 us.length c2] 29) ?_|refine YZ (o:=.cells #[.slice o1 vs.length c1] 29) ?_|refine ZH ?_|refine ZG ?_|refine ZK ?_|refine ZI ?_|refine ZP ?_|refine ZJ ?_|refine ZM ?_|refine ZN (fun b=>?_)|refine ZO (fun b=>?_)|refine ZA ?_|refine ZB ?_|refine ZF (n3k) (fun _ _=>?_)|refine l_call0 (n3k) (fun _ _=>?_)|refine XS (K:=zivE) Zn (fun v:Value=>v) (fun r=>?_)|refine YC (K:=zivE) (V:=fun v:Value=>v) Zn 2 _ ?_|refine YC (K:=zivE) (V:=fun v:Value=>v) Zn 3 _ ?_|refine YC (K:=zivE) (V:=fun v:Value=>v) Zn 4 _ ?_|refine YN (V:=fun v:Value=>v) Zn c.kind (some _) (hg _ _) ?_|refine Yg (n2 _ _) (fun _ _=>?_)|(refine ZC (fun hc=>?_) (fun hc=>?_)<;>(try simp at hc)<;>(try omega))|(refine ZE (fun hc=>?_) (fun hc=>?_)<;>(try simp at hc)<;>(try omega)))
      exact ZS (none,0) rfl trivial
   ·rw [show chKey f s c=mkK f (nmOut c.who c.nu c.oldAt) from if_neg k4] at hR
    have hg:∀g h:Value,mget c.kind (chMap g h)=some g:=fun g h=>by rcases (show c.kind=2∨c.kind=3 by omega) with e|e<;>rw [Wy,e]<;>rfl
    have hko:∀k,mkK f (nmOut c.who c.nu c.oldAt)=some k→k.l.size≤1000:=fun k h=>mkK_ok h w1
    generalize mkK f (nmOut c.who c.nu c.oldAt)=K at *
    cases K with
    | none=>
     have hR:Except.error 8=RES:=hR
     subst hR
     refine Zb [_,_,_] func10 ntmps10 fun G w hp=>?_
     repeat' (first|refine YZ (o:=.cells (cqf c).toArray 27) ?_|refine YZ (o:=.cells #[.slice o2 us.length c2] 29) ?_|refine YZ (o:=.cells #[.slice o1 vs.length c1] 29) ?_|refine ZH ?_|refine ZG ?_|refine ZK ?_|refine ZI ?_|refine ZP ?_|refine ZJ ?_|refine ZM ?_|refine ZN (fun b=>?_)|refine ZO (fun b=>?_)|refine ZA ?_|refine ZB ?_|refine XS (K:=zivE) Zn (fun v:Value=>v) (fun r=>?_)|refine YC (K:=zivE) (V:=fun v:Value=>v) Zn 2 _ ?_|refine YC (K:=zivE) (V:=fun v:Value=>v) Zn 3 _ ?_|refine YC (K:=zivE) (V:=fun v:Value=>v) Zn 4 _ ?_|refine YN (V:=fun v:Value=>v) Zn c.kind (some _) (hg _ _) ?_|refine Yg (n1 _ _) (fun _ _=>?_)|(refine ZC (fun hc=>?_) (fun hc=>?_)<;>(try simp at hc)<;>(try omega))|(refine ZE (fun hc=>?_) (fun hc=>?_)<;>(try simp at hc)<;>(try omega)))
     exact ZS (none,0) rfl trivial
    | some k=>
     have hR:explF f s k=RES:=hR
     have n3k:=n3 k (hko k rfl)
     rw [hR] at n3k
     cases RES with
     | ok l=>
      refine Zb [_,_,_] func10 ntmps10 fun G w hp=>?_
      repeat' (first|refine YZ (o:=.cells (cqf c).toArray 27) ?_|refine YZ (o:=.cells #[.slice o2 us.length c2] 29) ?_|refine YZ (o:=.cells #[.slice o1 vs.length c1] 29) ?_|refine ZH ?_|refine ZG ?_|refine ZK ?_|refine ZI ?_|refine ZP ?_|refine ZJ ?_|refine ZM ?_|refine ZN (fun b=>?_)|refine ZO (fun b=>?_)|refine ZA ?_|refine ZB ?_|refine ZF (n3k) (fun _ _=>?_)|refine l_call0 (n3k) (fun _ _=>?_)|refine XS (K:=zivE) Zn (fun v:Value=>v) (fun r=>?_)|refine YC (K:=zivE) (V:=fun v:Value=>v) Zn 2 _ ?_|refine YC (K:=zivE) (V:=fun v:Value=>v) Zn 3 _ ?_|refine YC (K:=zivE) (V:=fun v:Value=>v) Zn 4 _ ?_|refine YN (V:=fun v:Value=>v) Zn c.kind (some _) (hg _ _) ?_|refine Yg (n1 _ _) (fun _ _=>?_)|(refine ZC (fun hc=>?_) (fun hc=>?_)<;>(try simp at hc)<;>(try omega))|(refine ZE (fun hc=>?_) (fun hc=>?_)<;>(try simp at hc)<;>(try omega)))
      rename_i q _
      exact ZS q rfl trivial
     | error e=>
      refine Zb [_,_,_] func10 ntmps10 fun G w hp=>?_
      repeat' (first|refine YZ (o:=.cells (cqf c).toArray 27) ?_|refine YZ (o:=.cells #[.slice o2 us.length c2] 29) ?_|refine YZ (o:=.cells #[.slice o1 vs.length c1] 29) ?_|refine ZH ?_|refine ZG ?_|refine ZK ?_|refine ZI ?_|refine ZP ?_|refine ZJ ?_|refine ZM ?_|refine ZN (fun b=>?_)|refine ZO (fun b=>?_)|refine ZA ?_|refine ZB ?_|refine ZF (n3k) (fun _ _=>?_)|refine l_call0 (n3k) (fun _ _=>?_)|refine XS (K:=zivE) Zn (fun v:Value=>v) (fun r=>?_)|refine YC (K:=zivE) (V:=fun v:Value=>v) Zn 2 _ ?_|refine YC (K:=zivE) (V:=fun v:Value=>v) Zn 3 _ ?_|refine YC (K:=zivE) (V:=fun v:Value=>v) Zn 4 _ ?_|refine YN (V:=fun v:Value=>v) Zn c.kind (some _) (hg _ _) ?_|refine Yg (n1 _ _) (fun _ _=>?_)|(refine ZC (fun hc=>?_) (fun hc=>?_)<;>(try simp at hc)<;>(try omega))|(refine ZE (fun hc=>?_) (fun hc=>?_)<;>(try simp at hc)<;>(try omega)))
      exact ZS (none,0) rfl trivial
def cpL {α:Type} (es:List α) (d s n:Nat):List α:=es.take d++((es.drop s).take n++es.drop (d+n))
theorem cpL_len {α:Type} {es:List α} {d s n:Nat} (h1:s+n≤es.length) (h2:d+n≤es.length):(cpL es d s n).length=es.length:=by
 simp [cpL];omega
theorem flat_drop {α:Type} {f:α→List Value} {sz:Nat} (hf:∀e,(f e).length=sz) {es:List α} {r:List Value} {s:Nat} (h:s≤es.length):(es.flatMap f++r).drop (s * sz)=(es.drop s).flatMap f++r:=by
 have e1:es.flatMap f++r=(es.take s).flatMap f++((es.drop s).flatMap f++r):=by rw [←List.append_assoc,←List.flatMap_append,List.take_append_drop]
 have e2:((es.take s).flatMap f).length=s * sz:=by rw [Zw hf,List.length_take,Nat.min_eq_left h]
 rw [e1,←e2,List.drop_left]
theorem flat_take {α:Type} {f:α→List Value} {sz:Nat} (hf:∀e,(f e).length=sz) {es:List α} {r:List Value} {s:Nat} (h:s≤es.length):(es.flatMap f++r).take (s * sz)=(es.take s).flatMap f:=by
 have e1:es.flatMap f++r=(es.take s).flatMap f++((es.drop s).flatMap f++r):=by rw [←List.append_assoc,←List.flatMap_append,List.take_append_drop]
 have e2:((es.take s).flatMap f).length=s * sz:=by rw [Zw hf,List.length_take,Nat.min_eq_left h]
 rw [e1,←e2,List.take_left]
theorem flat_all {α:Type} {f:α→List Value} (h1:∀e,(f e).all one1=true):∀es:List α,(es.flatMap f).all one1=true
 | []=>rfl
 | e::es=>by rw [List.flatMap_cons,List.all_append,h1,flat_all h1 es];rfl
variable {E':List (Nat×Value)} {F' F1 Fs F0:List Pf} {R' Rs N N' A:List HP} {k':List Fr} {ops l:List Oper} {L L':List (Nat×Nat)} {Tl:List Nat} {i d:Nat} {t t2 ty0:TypeId} {x y:Operand} {pos:String} {aft:Array Edge} {gd:Option (Nat×Bool)} {α:Type}
section
variable {F:List Pf} {f:α→List Value} {es:List α} {q:List Value×(Nat×Nat)}
theorem run_copyE {T T0 b dd s dl dc sl sc sz m:Nat} {ts tx:TypeId} {rs tr:TRow} {w:World} (hts:lookT tab ts=some rs) (hrs:rs.k = .slice T0) (hT:lookT tab T0=some tr) (hsz:tr.size=sz)
  (hb:w.heap[b]? = some (.cells (es.flatMap f++q.1).toArray T q.2)) (hq:AxOK (es.length * sz) q) (hf:∀e,(f e).length=sz) (h1:∀e,(f e).all one1=true) (hm:min sl dl=m) (hs:s+m≤es.length) (hd:dd+m≤es.length) :
  ∃w',(Builtin.copy_ #[ts,tx] ty0 #[.slice (some ⟨b,dd * sz,none⟩) dl dc,.slice (some ⟨b,s * sz,none⟩) sl sc]).run prog w = .ok (.int .i64 (m:Int)) w'∧w'.heap[b]? = some (.cells ((cpL es dd s m).flatMap f++q.1).toArray T q.2)∧Same w w'∧∀e,e≠b→w'.heap[e]? = w.heap[e]?:=by
 have hs1:=Zl.sizeOf hT w
 rw [hsz] at hs1
 have hlen:((es.drop s).take m).flatMap f=(((es.flatMap f++q.1).drop (s * sz)).take (m * sz)):=by
  rw [flat_drop hf (by omega),flat_take hf (by rw [List.length_drop];omega)]
 have hvl:(((es.drop s).take m).flatMap f).length=m * sz:=by
  rw [Zw hf,List.length_take,List.length_drop,Nat.min_eq_left (by omega)]
 have hel:(es.flatMap f).length=es.length * sz:=Zw hf es
 have hms:dd * sz+m * sz≤es.length * sz:=by rw [←Nat.add_mul];exact Nat.mul_le_mul_right _ hd
 have hss:s * sz+m * sz≤es.length * sz:=by rw [←Nat.add_mul];exact Nat.mul_le_mul_right _ hs
 have hld:(Go.loadCells ⟨b,s * sz,none⟩ (m * sz)).run prog w = .ok (((es.drop s).take m).flatMap f).toArray w:=by
  unfold Go.loadCells
  have:=Go.Proofs.YtdkndahndgkmnaaGreatDoor.run_loadCells (P:=prog) hb (s * sz) (m * sz) 0 #[] (by simp [hel];omega)
  rw [this,hlen]
  simp
 obtain ⟨w',g1,g2,g3,g4⟩:=Yc (P:=prog) (b:=b) (ty:=T) (fz:=q.2) (dd * sz) (((es.drop s).take m).flatMap f) 0 w (es.flatMap f++q.1) hb (by
  rcases hq with h|h
  ·exact .inl h
  ·exact .inr (by rw [List.length_append,hel];exact h)) (flat_all h1 _) (by rw [hvl,List.length_append,hel];omega)
 refine ⟨w',?_,?_,g3,g4⟩
 ·have hmn:Nat.min sl dl=m:=hm
  simp only [Builtin.copy_,List.getElem?_toArray,List.getElem?_cons_zero,List.getElem?_cons_succ,Sem.run_bind,XC hts hrs,Result.andThen,Builtin.lenOf,Sem.run_pure,hs1,Builtin.firstCells,hmn,hld,g1]
  rfl
 ·rw [g2,Nat.add_zero,hvl,cpL,←Nat.add_mul,flat_take hf (by omega),flat_drop hf (by omega)]
  simp
end
section
variable {F:List Pf} {f:α→List Value} {es:List α} {q:List Value×(Nat×Nat)}
theorem r_slP {T sz m cap b:Nat} {z:Int} {rs tr:TRow} (lo:Nat) (hlo:lo≤m) (hc:lo<cap)
  (nx:Wr n C ops k Q Tl Fs R L ((d,.slice (some ⟨b,lo * sz,none⟩) (m - lo) (cap - lo))::E) F N)
  (ho:nth ops i=some ⟨some d,.slice t x (some y) none none,ty0,pos,aft,gd⟩:=by rfl) (hw:wantL ops E ⟨some d,.slice t x (some y) none none,ty0,pos,aft,gd⟩=some true:=by rfl) (hx:ev E x=some (.slice (some ⟨b,0,none⟩) m cap):=by rfl) (hy:ev E y=some (.int .i64 z):=by rfl)
  (hts:lookT tab t=some rs:=by rfl) (hrs:rs.k = .slice T:=by rfl) (hT:lookT tab T=some tr:=by rfl) (hsz:tr.size=sz:=by rfl) (hz:z=(lo:Int):=by first|rfl|omega):Wr n C ops k Q Tl Fs R ((i,0)::L) E F N:=
 r_q (fun a w ha=>by
  subst hz
  have hs1:=Zl.sizeOf hT w
  rw [hsz] at hs1
  have hc1:(0:Int)≤(lo:Int)∧(lo:Int)≤(m:Int):=⟨by omega,by omega⟩
  simp only [execOp,ha.ev (x:=x) (by rw [ZU];exact hx),ha.ev (x:=y) (by rw [ZU];exact hy),Option.map_some,Option.map_none,Instr.sliceAt,Instr.slice,XC hts hrs,Instr.sliceBounds,Instr.sliceBound,asIntOf,Sem.run_bind,Result.andThen,Sem.run_pure,if_pos hc1,hs1,Int.toNat_natCast]
  rw [if_neg (by omega),Xf rfl,Nat.zero_add]) nx ho hw
theorem r_slP0 {T sz m cap b:Nat} {z:Int} {rs tr:TRow} (hc:m=cap)
  (nx:Wr n C ops k Q Tl Fs R L ((d,.slice (some ⟨b,0,none⟩) 0 0)::E) F N)
  (ho:nth ops i=some ⟨some d,.slice t x (some y) none none,ty0,pos,aft,gd⟩:=by rfl) (hw:wantL ops E ⟨some d,.slice t x (some y) none none,ty0,pos,aft,gd⟩=some true:=by rfl) (hx:ev E x=some (.slice (some ⟨b,0,none⟩) m cap):=by rfl) (hy:ev E y=some (.int .i64 z):=by rfl)
  (hts:lookT tab t=some rs:=by rfl) (hrs:rs.k = .slice T:=by rfl) (hT:lookT tab T=some tr:=by rfl) (hsz:tr.size=sz:=by rfl) (hz:z=(m:Int):=by first|rfl|omega):Wr n C ops k Q Tl Fs R ((i,0)::L) E F N:=
 r_q (fun a w ha=>by
  subst hz hc
  have hs1:=Zl.sizeOf hT w
  rw [hsz] at hs1
  have hc1:(0:Int)≤(m:Int)∧(m:Int)≤(m:Int):=⟨by omega,by omega⟩
  simp only [execOp,ha.ev (x:=x) (by rw [ZU];exact hx),ha.ev (x:=y) (by rw [ZU];exact hy),Option.map_some,Option.map_none,Instr.sliceAt,Instr.slice,XC hts hrs,Instr.sliceBounds,Instr.sliceBound,asIntOf,Sem.run_bind,Result.andThen,Sem.run_pure,if_pos hc1,hs1,Int.toNat_natCast]
  simp) nx ho hw
theorem r_copyE {T T0 b o1 o2 dl dc sl sc sz:Nat} {ts tx:TypeId} {rs tr:TRow} (dd s m:Nat) (hq:AxOK (es.length * sz) q) (hm:min sl dl=m) (hsl:s+m≤es.length) (hdl:dd+m≤es.length) (nx:Wr n C ops k Q Tl Fs R L ((d,.int .i64 (m:Int))::E) F (Ax T f b (cpL es dd s m) q::N'))
  (ho:nth ops i=some ⟨some d,.call ⟨.builtin .copy,#[x,y],#[ts,tx]⟩,ty0,pos,aft,gd⟩:=by rfl) (hw:wantL ops E ⟨some d,.call ⟨.builtin .copy,#[x,y],#[ts,tx]⟩,ty0,pos,aft,gd⟩=some true:=by rfl) (hx:ev E x=some (.slice (some ⟨b,o1,none⟩) dl dc):=by rfl) (hy:ev E y=some (.slice (some ⟨b,o2,none⟩) sl sc):=by rfl)
  (hts:lookT tab ts=some rs:=by rfl) (hrs:rs.k = .slice T0:=by rfl) (hT:lookT tab T0=some tr:=by rfl) (hsz:tr.size=sz:=by rfl) (hs:Sel (Ax T f b es q) N N':=by (repeat (first|exact Sel.here|apply Sel.there));first|done|fail) (hf:∀e,(f e).length=sz:=by intro;rfl) (h1:∀e,(f e).all one1=true:=by intro;rfl)
  (ho1:o1=dd * sz:=by first|rfl|omega) (ho2:o2=s * sz:=by first|rfl|omega):Wr n C ops k Q Tl Fs R ((i,4)::L) E F N:=
 YY ho fun hp hr w st hz sb=>by
  simp only [Zr hw]
  subst ho1 ho2
  refine ⟨⟨Unit,fun _=>.int .i64 (m:Int),fun _=>True,fun _=>F,fun _=>Ax T f b (cpL es dd s m) q::N'⟩,fun a G w hp' ha hsub hsat=>?_,fun _ _=>nx hp hr w st hz sb⟩
  obtain ⟨w',g1,g2,g3,g4⟩:=run_copyE (ty0:=ty0) (tx:=tx) (dc:=dc) (sc:=sc) hts hrs hT hsz (hsat.pt hs) hq hf h1 hm hsl hdl
  unfold OpRes
  have e1:=ha.ev (x:=x) (by rw [ZU];exact hx)
  have e2:=ha.ev (x:=y) (by rw [ZU];exact hy)
  simp only [execOp,resolve,Sem.run_bind,Sem.run_pure,Result.andThen,invoke,builtin,List.map_toArray,List.map_cons,List.map_nil,e1,e2,g1]
  exact ⟨(),trivial,trivial,(hsat.sel hs).write g3 g2 fun c hc _=>g4 c hc⟩
end
theorem cp_ins {α:Type} (A B:List α) (z x:α):(∃h,(cpL (A++(B++[z])) (A.length+1) A.length B.length)[A.length]? = some h)∧(cpL (A++(B++[z])) (A.length+1) A.length B.length).set A.length x=A++x::B:=by
 obtain ⟨h,t,ht⟩:∃h t,B++[z]=h::t:=by
  cases B with
  | nil=>exact ⟨z,[],rfl⟩
  | cons b B=>exact ⟨b,B++[z],rfl⟩
 have hl:(h::t).length=B.length+1:=by rw [←ht];simp
 have e:cpL (A++(B++[z])) (A.length+1) A.length B.length=A++(h::B):=by
  unfold cpL
  rw [List.drop_left,List.take_left' (show B.length=B.length from rfl),List.drop_eq_nil_of_le (by simp;omega),ht]
  rw [List.take_append,List.take_of_length_le (by omega),show A.length+1 - A.length=1 by omega]
  simp
 rw [e]
 refine ⟨⟨h,by simp⟩,?_⟩
 rw [List.set_append,if_neg (Nat.lt_irrefl _),Nat.sub_self]
 rfl
theorem X4 {b m cap:Nat} {es:List Ch} {q:List Value×(Nat×Nat)} (hm:es.length=m) (hc:es.length * 7+q.1.length=cap * 7) (hmc:m≤cap) (hf:q.2=(0,0)∨es.length * 7+q.1.length≤q.2.1) (h:H) (hh:Sep [Ax 108 chf b es q] h):Row 108 7 (some ⟨b,0,none⟩) m cap (es.flatMap chf) h:=
 row_shut (q:=(b,q)) ⟨rfl,by rw [Zw (f:=chf) (sz:=7) (fun _=>rfl),hm],by rw [List.length_append,Zw (f:=chf) (sz:=7) (fun _=>rfl)];exact hc,hmc,by rw [List.length_append,Zw (f:=chf) (sz:=7) (fun _=>rfl)];exact hf⟩ h hh
theorem perm_ins {P Q:List Ch} {x:Ch} {k:Nat} (h:P.Perm Q):(P.take k++x::P.drop k).Perm (Q++[x]):=by
 refine (List.perm_middle).trans ?_
 rw [List.take_append_drop]
 exact ((h.cons x)).trans (List.perm_append_comm (l₁:=[x]) (l₂:=Q))
set_option maxHeartbeats 8000000 in
theorem sortedL_ok (o:Option Addr) (cap:Nat) (es:List Ch) (hes:es.length≤100) (hz:∀c ∈ es,ChOK c):Enters 36∧Spec prog 36 #[.slice o es.length cap] [ChS o cap es] []
  ⟨List Ch×Option Addr×Nat,fun q=>.slice q.2.1 q.1.length q.2.2,fun q=>q.1.Perm es,fun q=>[ChS q.2.1 q.2.2 q.1],fun _=>[]⟩:=by
 refine Zb [_] func36 ntmps36 fun G w hp=>?_
 repeat' (first|refine ZH ?_|refine ZG ?_|refine ZK ?_|refine ZI ?_|refine ZP ?_|refine ZJ ?_|refine ZM ?_|refine ZN (fun b=>?_)|refine ZO (fun b=>?_)|refine ZA ?_|refine ZB ?_|(refine ZC (fun hc=>?_) (fun hc=>?_)<;>(try simp at hc)<;>(try omega))|(refine ZE (fun hc=>?_) (fun hc=>?_)<;>(try simp at hc)<;>(try omega)))
 refine Zs (Lx:=[]) (r:=Row 108 7 none 0 0 []) (fun h _=>YQ _ _ h) ?_
 refine Z6 (X:={q:Nat×List Ch×Option Addr×Nat // q.1≤es.length∧q.2.1.Perm (es.take q.1)}) (fun q=>[(0,.slice o es.length cap),(3,.slice q.1.2.2.1 q.1.2.1.length q.1.2.2.2),(4,.int .i64 (q.1.1:Int))]) (fun _=>[ChS o cap es]) (fun q=>[Row 108 7 q.1.2.2.1 q.1.2.1.length q.1.2.2.2 (q.1.2.1.flatMap chf)]) (fun q=>es.length - q.1.1) ⟨(0,[],none,0),Nat.zero_le _,List.Perm.refl _⟩ ⟨rfl,rfl,rfl,trivial⟩ ?_
 rintro ⟨⟨i,P,o1,cap1⟩,hi,hP⟩
 dsimp only at hi hP ⊢
 have hPl:P.length=i:=by rw [hP.length_eq,List.length_take];omega
 by_cases hlt:i<es.length
 ·have hxi:=List.getElem?_eq_getElem hlt
  have htk:=List.take_succ_eq_append_getElem hlt
  have hxz:=hz _ (List.getElem_mem hlt)
  generalize es[i]=x at *
  have w1:=wrapi (z:=(i:Int)+1) (by omega) (by omega)
  repeat' (first|refine ZH ?_|refine ZG ?_|refine ZK ?_|refine ZI ?_|refine ZP ?_|refine ZJ ?_|refine ZM ?_|refine ZN (fun b=>?_)|refine ZO (fun b=>?_)|refine ZA ?_|refine ZB ?_|(refine ZC (fun hc=>?_) (fun hc=>?_)<;>(try simp at hc)<;>(try omega))|(refine ZE (fun hc=>?_) (fun hc=>?_)<;>(try simp at hc)<;>(try omega)))
  refine Yz (X:={k:Nat // k≤P.length}) (Y:={k:Nat // k≤P.length}) (fun k=>[(0,.slice o es.length cap),(3,.slice o1 P.length cap1),(4,.int .i64 (i:Int)),(5,.int .i64 (k.1:Int))]) (fun _=>[ChS o cap es]) (fun _=>[Row 108 7 o1 P.length cap1 (P.flatMap chf)]) (fun k=>k.1)
   (fun k=>[(0,.slice o es.length cap),(3,.slice o1 P.length cap1),(4,.int .i64 (i:Int)),(5,.int .i64 (k.1:Int))]) (fun _=>[ChS o cap es]) (fun _=>[Row 108 7 o1 P.length cap1 (P.flatMap chf)]) ⟨P.length,Nat.le_refl _⟩ ⟨rfl,rfl,rfl,rfl,trivial⟩ ?_ ?_
  ·rintro ⟨k,hk⟩
   dsimp only at hk ⊢
   have hroom:(2 * (P.length+1)+200) * 80≤281474976710656:=by omega
   repeat' (first|refine Yq (m:=P.length) (m2:=1) (fun o' cap'=>?_) (hroom:=hroom)|refine ZH ?_|refine ZG ?_|refine ZK ?_|refine ZI ?_|refine ZP ?_|refine ZJ ?_|refine ZM ?_|refine ZN (fun b=>?_)|refine ZO (fun b=>?_)|refine ZA ?_|refine ZB ?_|(refine ZC (fun hc=>?_) (fun hc=>?_)<;>(try simp at hc)<;>(try omega))|(refine ZE (fun hc=>?_) (fun hc=>?_)<;>(try simp at hc)<;>(try omega)))
   refine Ys (T:=108) (sz:=7) (o:=o') (cap:=cap') (m:=P.length+1) (m':=(P++[chZ]).length) _ ((P++[chZ]).flatMap chf) (by simp) (by rw [List.flatMap_append]) ?_
   refine k_row (m:=(P++[chZ]).length) (by rw [List.length_append];exact Nat.succ_pos _) fun p hp=>?_
   obtain ⟨bp,qp⟩:=p
   have ho:=hp.o
   subst ho
   have hq:AxOK ((P++[chZ]).length * 7) qp:=by
    rcases hp.f with h|h
    ·exact .inl h
    ·exact .inr (by rw [List.length_append,hp.l] at h;exact h)
   have hcp:=hp.c
   have hmc:=hp.m
   have hff:=hp.f
   rw [List.length_append,hp.l] at hcp hff
   obtain ⟨A,B,hAB,hAk⟩:∃A B,P=A++B∧A.length=k:=⟨P.take k,P.drop k,(List.take_append_drop k P).symm,by rw [List.length_take];omega⟩
   have hpi:(A++x::B).Perm (es.take (i+1)):=by
    rw [htk]
    have h:=perm_ins (x:=x) (k:=k) hP
    rw [hAB,←hAk,List.take_left,List.drop_left] at h
    exact h
   have hls:(P++[chZ]).length=A.length+B.length+1:=by rw [hAB];simp;omega
   have hPL:P.length=A.length+B.length:=by rw [hAB];simp
   have hns:(A++x::B).length=A.length+B.length+1:=by simp;omega
   have eP:P++[chZ]=A++(B++[chZ]):=by rw [hAB,List.append_assoc]
   refine k_ax (T:=108) (f:=chf) (b:=bp) (q:=qp) (es:=P++[chZ]) (A++(B++[chZ])) eP ?_
   rw [eP] at hq
   obtain ⟨⟨hh,he⟩,hset⟩:=cp_ins A B chZ x
   rw [hls] at hcp hmc hff
   clear hp
   generalize P.length=pl at *
   subst hPL
   subst hAk
   have w4:=wrapi (z:=(A.length:Int)+1) (by omega) (by omega)
   have hql:AxOK ((cpL (A++(B++[chZ])) (A.length+1) A.length B.length).length * 7) qp:=by rw [cpL_len (by simp only [List.length_append,List.length_cons,List.length_nil];omega) (by simp only [List.length_append,List.length_cons,List.length_nil];omega)];exact hq
   have hcl:((cpL (A++(B++[chZ])) (A.length+1) A.length B.length).set A.length x).length=A.length+B.length+1:=by rw [hset,hns]
   by_cases hkc:A.length+1<cap'
   ·have he2:=he
    have hq2:=hql
    have hAl:A.length<A.length+B.length+1:=by omega
    have hm1:min (A.length+B.length+1 - A.length) (A.length+B.length+1 - (A.length+1))=B.length:=by omega
    have hm2:A.length+B.length≤(A++(B++[chZ])).length:=by simp only [List.length_append];omega
    have hm3:A.length+1+B.length≤(A++(B++[chZ])).length:=by simp only [List.length_append,List.length_cons,List.length_nil];omega
    repeat' (first|refine ZH ?_|refine ZG ?_|refine ZK ?_|refine ZI ?_|refine ZP ?_|refine ZJ ?_|refine ZM ?_|refine ZN (fun b=>?_)|refine ZO (fun b=>?_)|refine ZA ?_|refine ZB ?_|refine ZZ ?_|refine ZW ?_|refine Zf ?_|refine Za ?_|refine ZY ?_|refine Ze (fun b=>?_)|refine Zg (fun b=>?_)|refine Zd ?_|refine ZX ?_|rw [w4]|rw [w1]|refine r_slP (m:=A.length+B.length+1) (cap:=cap') (A.length+1) (by omega) hkc ?_|refine r_slP (m:=A.length+B.length+1) (cap:=cap') A.length (by omega) (by omega) ?_|refine r_copyE (A.length+1) A.length B.length hq hm1 hm2 hm3 ?_|refine Zp (es:=es) (f:=chf) i x hxi (fun b off=>?_)|refine Zm ?_|refine l_ixS (m:=A.length+B.length+1) A.length hAl ?_|refine Z0 7 A.length 0 x he2 hq2 ?_|(refine ZC (fun hc=>?_) (fun hc=>?_)<;>(try simp at hc)<;>(try omega))|(refine ZL (fun hc=>?_) (fun hc=>?_)<;>(try simp at hc)<;>(try omega))|refine ZD 9 [Ax _ _ _ _ _] [(0,0),(1,0),(2,0),(3,0),(4,0),(5,0),(6,0),(7,4)] [] ?_|(refine ZE (fun hc=>?_) (fun hc=>?_)<;>(try simp at hc)<;>(try omega)))
    refine k_ax (T:=108) (f:=chf) (b:=bp) (q:=qp) (A++x::B) hset ?_
    refine Zs (Lx:=[Ax 108 chf bp (A++x::B) qp]) (fun h hh=>X4 rfl (by rw [hns];exact hcp) (by rw [hns];exact hmc) (by rw [hns];exact hff) h hh) ?_
    exact Zc ⟨(i+1,A++x::B,some ⟨bp,0,none⟩,cap'),by show i+1≤es.length;omega,hpi⟩ (by show es.length - (i+1)<es.length - i;omega) ⟨rfl,(by show look _ _=some (Value.slice (some ⟨bp,0,none⟩) (A++x::B).length cap');rw [hns];rfl),rfl,trivial⟩
   ·have hB:B=[]:=List.length_eq_zero_iff.1 (by omega)
    subst hB
    have hAl:A.length<A.length+0+1:=by omega
    have hm1:min (A.length+0+1 - A.length) 0=0:=by omega
    have hm2:A.length+0≤(A++([]++[chZ])).length:=by simp
    have hm3:0+0≤(A++([]++[chZ])).length:=by simp
    have e0:cpL (A++([]++[chZ])) 0 A.length 0=A++[chZ]:=by unfold cpL;simp
    have he2:(cpL (A++([]++[chZ])) 0 A.length 0)[A.length]? = some chZ:=by rw [e0];simp
    have hq2:AxOK ((cpL (A++([]++[chZ])) 0 A.length 0).length * 7) qp:=by rw [e0];exact hq
    have hset2:(cpL (A++([]++[chZ])) 0 A.length 0).set A.length x=A++x::[]:=by rw [e0,List.set_append,if_neg (Nat.lt_irrefl _),Nat.sub_self];rfl
    repeat' (first|refine ZH ?_|refine ZG ?_|refine ZK ?_|refine ZI ?_|refine ZP ?_|refine ZJ ?_|refine ZM ?_|refine ZN (fun b=>?_)|refine ZO (fun b=>?_)|refine ZA ?_|refine ZB ?_|refine ZZ ?_|refine ZW ?_|refine Zf ?_|refine Za ?_|refine ZY ?_|refine Ze (fun b=>?_)|refine Zg (fun b=>?_)|refine Zd ?_|refine ZX ?_|rw [w4]|rw [w1]|refine r_slP0 (m:=A.length+0+1) (cap:=cap') (by simp only [List.length_nil] at hmc;omega) ?_|refine r_slP (m:=A.length+0+1) (cap:=cap') A.length (by omega) (by simp only [List.length_nil] at hmc;omega) ?_|refine r_copyE 0 A.length 0 hq hm1 hm2 hm3 ?_|refine Zp (es:=es) (f:=chf) i x hxi (fun b off=>?_)|refine Zm ?_|refine l_ixS (m:=A.length+0+1) A.length hAl ?_|refine Z0 7 A.length 0 x he2 hq2 ?_|(refine ZC (fun hc=>?_) (fun hc=>?_)<;>(try simp at hc)<;>(try omega))|(refine ZL (fun hc=>?_) (fun hc=>?_)<;>(try simp at hc)<;>(try omega))|refine ZD 9 [Ax _ _ _ _ _] [(0,0),(1,0),(2,0),(3,0),(4,0),(5,0),(6,0),(7,4)] [] ?_|(refine ZE (fun hc=>?_) (fun hc=>?_)<;>(try simp at hc)<;>(try omega)))
    refine k_ax (T:=108) (f:=chf) (b:=bp) (q:=qp) (A++x::[]) hset2 ?_
    refine Zs (Lx:=[Ax 108 chf bp (A++x::[]) qp]) (fun h hh=>X4 rfl (by rw [hns];exact hcp) (by rw [hns];exact hmc) (by rw [hns];exact hff) h hh) ?_
    exact Zc ⟨(i+1,A++x::[],some ⟨bp,0,none⟩,cap'),by show i+1≤es.length;omega,hpi⟩ (by show es.length - (i+1)<es.length - i;omega) ⟨rfl,(by show look _ _=some (Value.slice (some ⟨bp,0,none⟩) (A++x::[]).length cap');rw [hns];rfl),rfl,trivial⟩
  ·intro hx
   rintro ⟨k,hk⟩
   dsimp only at hk ⊢
   cases k with
   | zero=>
    repeat' (first|refine ZH ?_|refine ZG ?_|refine ZK ?_|refine ZI ?_|refine ZP ?_|refine ZJ ?_|refine ZM ?_|refine ZN (fun b=>?_)|refine ZO (fun b=>?_)|refine ZA ?_|refine ZB ?_|refine ZZ ?_|refine ZW ?_|refine Zf ?_|refine Za ?_|refine ZY ?_|refine Ze (fun b=>?_)|refine Zg (fun b=>?_)|refine Zd ?_|refine ZX ?_|(refine ZC (fun hc=>?_) (fun hc=>?_)<;>(try simp at hc)<;>(try omega))|(refine ZL (fun hc=>?_) (fun hc=>?_)<;>(try simp at hc)<;>(try omega))|refine ZD 6 [] [(0,0),(1,0),(2,0),(3,0),(4,0),(5,0),(6,0),(7,0),(8,0),(9,0),(10,0),(11,0),(12,0),(13,0),(14,4),(15,0),(16,0)] [] ?_|refine ZD 9 [] [(0,0),(1,0),(2,0),(3,0),(4,0),(5,0),(6,0),(7,4)] [] ?_|(refine ZE (fun hc=>?_) (fun hc=>?_)<;>(try simp at hc)<;>(try omega)))
    exact YD hx ⟨0,Nat.zero_le _⟩ ⟨rfl,rfl,rfl,rfl,trivial⟩
   | succ k=>
    refine k_row (m:=P.length) (by omega) fun p hp=>?_
    obtain ⟨bp,qp⟩:=p
    have ho:=hp.o
    subst ho
    have hcp:=hp.c
    have hmc:=hp.m
    have hff:=hp.f
    rw [List.length_append,hp.l] at hcp hff
    have g:=List.getElem?_eq_getElem (show k<P.length by omega)
    have hym:P[k] ∈ es:=List.mem_of_mem_take (hP.mem_iff.1 (List.getElem_mem (show k<P.length by omega)))
    have hyz:=hz _ hym
    generalize P[k]=y at *
    have b0:decide ((0:Int)<((k+1:Nat):Int))=true:=decide_eq_true (by omega)
    have w3:IntKind.i64.wrap (((k+1:Nat):Int) - 1)=(k:Int):=by rw [wrapi (by omega) (by omega)];omega
    have n1:=YA y.nm x.nm (by have:=hyz.1;omega) (by have:=hxz.1;omega)
    have hk2:k<P.length:=by omega
    repeat' (first|refine ZH ?_|refine ZG ?_|refine ZK ?_|refine ZI ?_|refine ZP ?_|refine ZJ ?_|refine ZM ?_|refine ZN (fun b=>?_)|refine ZO (fun b=>?_)|refine ZA ?_|refine ZB ?_|refine ZZ ?_|refine ZW ?_|refine Zf ?_|refine Za ?_|refine ZY ?_|refine Ze (fun b=>?_)|refine Zg (fun b=>?_)|refine Zd ?_|refine ZX ?_|refine ZF (n1) (fun _ _=>?_)|refine l_call0 (n1) (fun _ _=>?_)|refine ZT (n1) (fun _ _=>?_)|rw [b0]|rw [w3]|refine r_ixP (m:=P.length) k hk2 ?_|refine Zo 7 k 0 g ?_|refine YG (es:=es) (f:=chf) i x hxi (fun b off=>?_)|refine Yf ?_|(refine ZC (fun hc=>?_) (fun hc=>?_)<;>(try simp at hc)<;>(try omega))|(refine ZL (fun hc=>?_) (fun hc=>?_)<;>(try simp at hc)<;>(try omega))|refine ZD 6 [] [(0,0),(1,0),(2,0),(3,0),(4,0),(5,0),(6,0),(7,0),(8,0),(9,0),(10,0),(11,0),(12,0),(13,0),(14,4),(15,0),(16,0)] [] ?_|refine ZD 9 [] [(0,0),(1,0),(2,0),(3,0),(4,0),(5,0),(6,0),(7,4)] [] ?_|(refine ZE (fun hc=>?_) (fun hc=>?_)<;>(try simp at hc)<;>(try omega)))
    ·refine Zs (Lx:=[Ax 108 chf bp P qp]) (fun h hh=>X4 rfl hcp hmc hff h hh) ?_
     exact Zc ⟨k,by omega⟩ (Nat.lt_succ_self k) ⟨rfl,rfl,rfl,rfl,trivial⟩
    ·refine Zs (Lx:=[Ax 108 chf bp P qp]) (fun h hh=>X4 rfl hcp hmc hff h hh) ?_
     exact YD hx ⟨k+1,hk⟩ ⟨rfl,rfl,rfl,rfl,trivial⟩
 ·have hie:i=es.length:=by omega
  repeat' (first|refine ZH ?_|refine ZG ?_|refine ZK ?_|refine ZI ?_|refine ZP ?_|refine ZJ ?_|refine ZM ?_|refine ZN (fun b=>?_)|refine ZO (fun b=>?_)|refine ZA ?_|refine ZB ?_|refine ZR ?_|(refine ZC (fun hc=>?_) (fun hc=>?_)<;>(try simp at hc)<;>(try omega))|(refine ZE (fun hc=>?_) (fun hc=>?_)<;>(try simp at hc)<;>(try omega)))
  refine Xt (T:=108) (sz:=7) (f:=chf) (o:=o1) (cap:=cap1) P ?_ rfl rfl
  refine ZS (P,o1,cap1) rfl ?_
  rw [hie,List.take_length] at hP
  exact hP
theorem bsz (a:Array UInt8):(ByteArray.mk a).size=a.size:=rfl
section
variable {F:List Pf}
theorem run_cat {a b:ByteArray} {ac:Act} {w:World} (h:a.size+b.size≤9223372036854775807) (ha:Agree n C.ds (look E) ac) (hx:ev E x=some (.string a)) (hy:ev E y=some (.string b)) :
  (execOp ac.eval ⟨some d,.binOp .add t x y t2,ty0,pos,aft,gd⟩).run prog w = .ok (.value (.string (a++b))) w:=by
 have h1:¬(((a.size+b.size:Nat):Int) > IntKind.i64.max):=by
  have:IntKind.i64.max=9223372036854775807:=by decide
  omega
 have hg:(eqGuard .add t x y (.string a) (.string b)).run prog w = .ok () w:=by simp [eqGuard]
 have hb:(binOp .add t (.string a) (.string b)).run prog w = .ok (.string (a++b)) w:=by
  simp only [binOp,Op.stringOp]
  rw [if_neg h1];rfl
 simp only [execOp,ha.ev (x:=x) (by rw [ZU];exact hx),ha.ev (x:=y) (by rw [ZU];exact hy),Sem.run_bind,hg,Result.andThen,hb,Sem.run_pure]
theorem l_cat {a b:ByteArray} (nx:Wl n C ops.toArray k Q l ((d,.string (a++b))::E) F R) (hw:wantL ops E ⟨some d,.binOp .add t x y t2,ty0,pos,aft,gd⟩=some true:=by rfl) (hn:Nat.blt d n=true:=by rfl)
  (hx:ev E x=some (.string a):=by rfl) (hy:ev E y=some (.string b):=by rfl) (h:a.size+b.size≤9223372036854775807:=by simp only [ByteArray.size_append,bsz,List.size_toArray,List.length_cons,List.length_nil,List.length_append]<;>omega) :
  Wl n C ops.toArray k Q (⟨some d,.binOp .add t x y t2,ty0,pos,aft,gd⟩::l) E F R:=
 l_q (fun _ _ ha=>run_cat h ha hx hy) nx (by intro c h;cases h) hw hn
theorem r_cat {a b:ByteArray} (nx:Wr n C ops k Q Tl Fs R L ((d,.string (a++b))::E) F N) (ho:nth ops i=some ⟨some d,.binOp .add t x y t2,ty0,pos,aft,gd⟩:=by rfl) (hw:wantL ops E ⟨some d,.binOp .add t x y t2,ty0,pos,aft,gd⟩=some true:=by rfl)
  (hx:ev E x=some (.string a):=by rfl) (hy:ev E y=some (.string b):=by rfl) (h:a.size+b.size≤9223372036854775807:=by simp only [ByteArray.size_append,bsz,List.size_toArray,List.length_cons,List.length_nil,List.length_append]<;>omega) :
  Wr n C ops k Q Tl Fs R ((i,0)::L) E F N:=
 r_q (fun _ _ ha=>run_cat h ha hx hy) nx ho hw
end
theorem run_b2s1 {w:World} {b:Nat} {z:Int} {cs:Array Value} {T:TypeId} {fz:Nat×Nat} (hb:w.heap[b]? = some (.cells cs T fz)) (hcs:cs.toList=[.int .u8 z]) :
  (Conv.bytesToString (.slice (some ⟨b,0,none⟩) 1 1)).run prog w = .ok (.string ⟨#[UInt8.ofNat z.toNat]⟩) w:=by
 rw [run_bytesToString (ns:=[z])]
 ·rfl
 ·unfold loadCells
  have hl:cs.size=1:=by rw [←Array.length_toList,hcs];rfl
  rw [run_loadCells hb 0 1 0 #[] (by omega)]
  simp [hcs]
section
variable {F:List Pf} {b:Nat} {td:TypeId}
theorem r_b2s1 {T ic dc ty1:Nat} {op:Op} {z:Int} {cs:Array Value} {ty:TypeId} {fzn:Nat×Nat} {rs tr rd:TRow} {pos1:String} {aft1:Array Edge} {gd1:Option (Nat×Bool)}
  (nx:∀b,Wr n C ops k Q Tl Fs R L ((dc,.string ⟨#[UInt8.ofNat z.toNat]⟩)::(d,.slice (some ⟨b,0,none⟩) 1 1)::E) F N)
  (ho:nth ops i=some ⟨some d,op,ty0,pos,aft,gd⟩:=by rfl) (hw:wantL ops E ⟨some d,op,ty0,pos,aft,gd⟩=some true:=by rfl)
  (ha:allocOf tab (look E) op=some (.cells cs ty fzn,fun b=>.slice (some ⟨b,0,none⟩) 1 1):=by rfl) (hcs:cs.toList=[.int .u8 z]:=by rfl)
  (hoc:nth ops ic=some ⟨some dc,.convert t td (.tmp d),ty1,pos1,aft1,gd1⟩:=by rfl) (hwc:∀b,wantL ops ((d,.slice (some ⟨b,0,none⟩) 1 1)::E) ⟨some dc,.convert t td (.tmp d),ty1,pos1,aft1,gd1⟩=some true:=by intro;rfl)
  (hts:lookT tab t=some rs:=by rfl) (hrs:rs.k = .slice T:=by rfl) (hT:lookT tab T=some tr:=by rfl) (hTk:tr.k = .int .u8:=by rfl) (htd:lookT tab td=some rd:=by rfl) (hrd:rd.k = .str:=by rfl) :
  Wr n C ops k Q Tl Fs R ((i,2)::(ic,0)::L) E F N:=
 YY ho fun hp hr w st hz sb=>by
  simp only [Zr hw]
  refine ⟨_,_,ha,fun b hb=>?_⟩
  have h1:Wr n C ops k Q Tl Fs R L ((dc,.string ⟨#[UInt8.ofNat z.toNat]⟩)::(d,.slice (some ⟨b,0,none⟩) 1 1)::E) F N:=nx b
  intro o' ho'
  rw [Yh] at hoc
  simp only [List.getElem?_toArray] at ho'
  obtain rfl:=Option.some.inj (ho'.symm.trans hoc)
  have e:upd (look E) (some d) (.slice (some ⟨b,0,none⟩) 1 1)=look ((d,.slice (some ⟨b,0,none⟩) 1 1)::E):=rfl
  simp only [e,Zr (hwc b)]
  refine ⟨.string ⟨#[UInt8.ofNat z.toNat]⟩,fun a w ha2 hin=>?_,h1 hp hr w st _ (sb.trans (Wh hb))⟩
  have hr1:=run_b2s1 (w:=w) (b:=b) (T:=ty) (fz:=fzn) (hin b _ (by unfold un one;simp)) hcs
  have hev:ev ((d,.slice (some ⟨b,0,none⟩) 1 1)::E) (.tmp d)=some (.slice (some ⟨b,0,none⟩) 1 1):=by simp [ev,look]
  simp only [execOp,ha2.ev (x:=.tmp d) (by rw [ZU];exact hev),convert,XC hts hrs,Y4 htd hrd,run_undI hT hTk,Sem.run_bind,Result.andThen,Sem.run_pure,hr1]
end
def nmClk:Nm:=⟨15,⟨#[]⟩,0,0,⟨#[]⟩⟩
def nmBox:Nm:=⟨17,⟨#[]⟩,0,0,⟨#[97]⟩⟩
theorem WI:Enters 31∧Spec prog 31 #[] [] [] (RetV nmClk.v):=by
 refine Zb [] func31 ntmps31 fun G w hp=>?_
 repeat' (first|refine ZH ?_|refine ZG ?_|refine ZK ?_|refine ZI ?_|refine ZP ?_|refine ZJ ?_|refine ZM ?_|refine ZN (fun b=>?_)|refine ZO (fun b=>?_)|refine ZA ?_|refine ZB ?_|refine ZR ?_|(refine ZC (fun hc=>?_) (fun hc=>?_)<;>(try simp at hc))|(refine ZE (fun hc=>?_) (fun hc=>?_)<;>(try simp at hc)))
 exact ZS () rfl trivial
theorem ofBox_ok:Enters 32∧Spec prog 32 #[.string ⟨#[97]⟩] [] [] (RetV nmBox.v):=by
 refine Zb [_] func32 ntmps32 fun G w hp=>?_
 repeat' (first|refine ZH ?_|refine ZG ?_|refine ZK ?_|refine ZI ?_|refine ZP ?_|refine ZJ ?_|refine ZM ?_|refine ZN (fun b=>?_)|refine ZO (fun b=>?_)|refine ZA ?_|refine ZB ?_|refine ZR ?_|(refine ZC (fun hc=>?_) (fun hc=>?_)<;>(try simp at hc))|(refine ZE (fun hc=>?_) (fun hc=>?_)<;>(try simp at hc)))
 exact ZS () rfl trivial
theorem outputOf_ok (x:It) (hx:x.tx.size≤1099511627776):Enters 34∧Spec prog 34 #[x.v] [] [] (RetV (ito x).v):=by
 have n1:=out_ok x hx
 refine Zb [_] func34 ntmps34 fun G w hp=>?_
 repeat' (first|refine ZH ?_|refine ZG ?_|refine ZK ?_|refine ZI ?_|refine ZP ?_|refine ZJ ?_|refine ZM ?_|refine ZN (fun b=>?_)|refine ZO (fun b=>?_)|refine ZA ?_|refine ZB ?_|refine ZR ?_|refine ZF (n1) (fun _ _=>?_)|refine l_call0 (n1) (fun _ _=>?_)|(refine ZC (fun hc=>?_) (fun hc=>?_)<;>(try simp at hc))|(refine ZE (fun hc=>?_) (fun hc=>?_)<;>(try simp at hc)))
 exact ZS () rfl trivial
abbrev pvA (b:Nat):Value:=.pointer (some ⟨b,0,none⟩)
def vS (s:ByteArray):Value:=.string s
abbrev AcP:Post:=⟨List Ak×List Akc×Option Addr×Nat,fun q=>.slice q.2.2.1 q.2.1.length q.2.2.2,fun q=>q.2.1.length=q.1.length∧q.1.length≤20∧∀a ∈ q.1,AkOK a,fun q=>[AkS q.2.2.1 q.2.2.2 q.2.1,AksF q.1 q.2.1],fun _=>[]⟩
structure AcI where
 i:Nat
 tk:Nat
 inp:Nat
 m:List (Nm×ByteArray)
 l:List Ak
 vs:List Akc
 o:Option Addr
 c:Nat
def AcI.ok (n:Nat) (x:AcI):Prop:=(x.i≤n∧x.i≤20)∧x.tk≤2 * x.i∧x.inp≤x.i+1∧(∀e ∈ x.m,e.2.size≤11)∧x.vs.length=x.l.length∧x.l.length≤x.i∧∀a ∈ x.l,AkOK a
abbrev ActS (o:Option Addr) (cap:Nat) (es:List Aq):Pf:=Sl 102 aqf o cap es
abbrev NmS (o:Option Addr) (cap:Nat) (es:List Nm):Pf:=Sl 46 nmf o cap es
abbrev ChR (o:Option Addr) (cap:Nat) (es:List Ch):HP:=Row 108 7 o es.length cap (es.flatMap chf)
abbrev AkR (o:Option Addr) (cap:Nat) (vs:List Akc):HP:=Row 44 6 o vs.length cap (vs.flatMap akf)
theorem mset_sz {n:Nm} {v:ByteArray} {m:List (Nm×ByteArray)} {k:Nat} (h:∀e ∈ m,e.2.size≤k) (hv:v.size≤k):∀e ∈ mset n v m,e.2.size≤k:=by
 induction m with
 | nil=>
  intro e he
  unfold mset at he
  rw [List.mem_singleton.1 he];exact hv
 | cons a m ih=>
  intro e he
  obtain ⟨b,w⟩:=a
  unfold mset at he
  split at he
  ·rcases List.mem_cons.1 he with rfl|he
   ·exact hv
   ·exact h e (.tail _ he)
  ·rcases List.mem_cons.1 he with rfl|he
   ·exact h _ (.head _)
   ·exact ih (fun e he=>h e (.tail _ he)) e he
theorem mget_sz {n:Nm} {m:List (Nm×ByteArray)} {k:Nat} (h:∀e ∈ m,e.2.size≤k):∃(s:ByteArray) (b:Bool),((mget n m).map vS).getD (.string ⟨#[]⟩) = .string s∧(mget n m).isSome=b∧s.size≤k:=by
 cases hg:mget n m with
 | none=>exact ⟨⟨#[]⟩,false,rfl,rfl,Nat.zero_le _⟩
 | some v=>
  obtain ⟨pre,post,hm⟩:∃pre post,m=pre++(n,v)::post:=by
   clear h
   induction m with
   | nil=>cases hg
   | cons a m ih=>
    obtain ⟨b,w⟩:=a
    unfold mget at hg
    split at hg
    ·rename_i hb
     cases hg
     subst hb
     exact ⟨[],m,rfl⟩
    ·obtain ⟨pre,post,h⟩:=ih hg
     exact ⟨(b,w)::pre,post,by rw [h];rfl⟩
  exact ⟨v,true,rfl,rfl,h (n,v) (by rw [hm];simp)⟩
theorem Wm {u v:Nm} {j:Nat} (h:j<2):∃x,[u,v][j]? = some x∧(x=u∨x=v):=by
 match j,h with
 | 0,_=>exact ⟨u,rfl,.inl rfl⟩
 | 1,_=>exact ⟨v,rfl,.inr rfl⟩
set_option maxHeartbeats 16000000 in
theorem actions_ok (o:Option Addr) (cap:Nat) (es:List Aq) (ch:UInt8):Enters 8∧Spec prog 8 #[.slice o es.length cap,.int .u8 ch.toNat] [ActS o cap es,Usg] [] AcP:=by
 refine Zb [_,_] func8 ntmps8 fun G w hp=>?_
 repeat' (first|refine ZH ?_|refine ZG ?_|refine ZK ?_|refine ZI ?_|refine ZP ?_|refine ZJ ?_|refine ZM ?_|refine ZN (fun b=>?_)|refine ZO (fun b=>?_)|refine ZA ?_|refine ZB ?_|refine XS YP vS (fun r=>?_)|(refine ZC (fun hc=>?_) (fun hc=>?_)<;>(try simp at hc)<;>(try omega))|(refine ZE (fun hc=>?_) (fun hc=>?_)<;>(try simp at hc)<;>(try omega)))
 refine Zs (Lx:=[]) (r:=AkR none 0 []) (fun h _=>YQ _ _ h) ?_
 refine k_add (f:=AksF [] []) (fun _=>rfl) ?_
 refine Z6 (X:={x:AcI // x.ok es.length}) (fun x=>[(0,.slice o es.length cap),(1,.int .u8 ch.toNat),(5,.slice x.1.o x.1.vs.length x.1.c),(6,.int .i64 (x.1.tk:Int)),(7,.int .i64 (x.1.inp:Int)),(8,.map (some r)),(9,.int .i64 (x.1.i:Int))]) (fun x=>[ActS o cap es,Usg,AksF x.1.l x.1.vs]) (fun x=>[Mp Nm.v vS r x.1.m,AkR x.1.o x.1.c x.1.vs]) (fun x=>es.length - x.1.i)
  ⟨⟨0,0,1,[],[],[],none,0⟩,⟨Nat.zero_le _,by decide⟩,by decide,by decide,(fun e he=>by cases he),rfl,Nat.le_refl _,(fun a ha=>by cases ha)⟩ ⟨rfl,rfl,rfl,rfl,rfl,rfl,rfl,trivial⟩ ?_
 rintro ⟨⟨i,tk,inp,m,l,vs,o1,c1⟩,⟨hi1,hi2⟩,htk,hinp,hm,hvl,hll,hok⟩
 dsimp only at hi1 hi2 htk hinp hm hvl hll hok ⊢
 by_cases hlt:i<es.length∧i<20
 ·have hxi:=List.getElem?_eq_getElem hlt.1
  generalize es[i]=x at *
  have hlt1:=hlt.1
  have hlt2:=hlt.2
  have w1:=wrapi (z:=(i:Int)+1) (by omega) (by omega)
  have t1:(x.wt.toNat:Int).tmod 2=((x.wt.toNat % 2:Nat):Int):=tmodN _ 2
  have t2:(x.who.toNat:Int).tmod 3=((x.who.toNat % 3:Nat):Int):=tmodN _ 3
  have t3:(x.who.toNat:Int).tmod 4=((x.who.toNat % 4:Nat):Int):=tmodN _ 4
  have w2:=Zx (z:=((x.wt.toNat % 2:Nat):Int)) (by omega) (by omega)
  have w3:IntKind.i64.wrap ((tk:Int)+1)=((tk+1:Nat):Int):=by rw [Zx (by omega) (by omega)];omega
  have w4:IntKind.i64.wrap (((tk+1:Nat):Int)+((x.wt.toNat % 2:Nat):Int))=((tk+1+x.wt.toNat % 2:Nat):Int):=by rw [Zx (by omega) (by omega)];omega
  have w5:IntKind.i64.wrap ((inp:Int)+1)=((inp+1:Nat):Int):=by rw [Zx (by omega) (by omega)];omega
  have htk2:tk+1+x.wt.toNat % 2≤2 * (i+1):=by omega
  have hwz:=WU (x.who.toNat % 3)
  repeat' (first|refine Zm ?_|refine Zp (es:=es) (f:=aqf) i x hxi (fun b off=>?_)|refine ZH ?_|refine ZG ?_|refine ZK ?_|refine ZI ?_|refine ZP ?_|refine ZJ ?_|refine ZM ?_|refine ZN (fun b=>?_)|refine ZO (fun b=>?_)|refine ZA ?_|refine ZB ?_|rw [t1]|rw [w2]|rw [w3]|rw [w4]|(refine ZC (fun hc=>?_) (fun hc=>?_)<;>(try simp at hc)<;>(try omega))|(refine ZE (fun hc=>?_) (fun hc=>?_)<;>(try simp at hc)<;>(try omega)))
  generalize b=bA at *
  generalize htke:tk+1+x.wt.toNat % 2=tk2 at *
  refine k_cutd 2 (Y:={p:Nat×Ky×Nat // p.2.1.l.size≤1000∧p.2.2≤i+2}) (fun p=>[(0,.slice o es.length cap),(1,.int .u8 ch.toNat),(5,.slice o1 vs.length c1),(6,.int .i64 (tk2:Int)),(7,.int .i64 (p.1.2.2:Int)),(8,.map (some r)),(9,.int .i64 (i:Int)),(10,pvA bA),(11,pvA p.1.1)]) (fun _=>[ActS o cap es,Usg,AksF l vs]) (fun p=>[Mp Nm.v vS r m,AkR o1 c1 vs,Pt bA (.cells (aqf x).toArray 102),Pt p.1.1 (.cells (kyf p.1.2.1).toArray 41)]) ?_ ?_
  ·rintro ⟨⟨bK,ky,inp2⟩,hkl,hinp2⟩
   dsimp only at hkl hinp2 ⊢
   refine k_cutd 1 (Y:=Unit) (fun _=>[(0,.slice o es.length cap),(1,.int .u8 ch.toNat),(5,.slice o1 vs.length c1),(6,.int .i64 (tk2:Int)),(7,.int .i64 (inp2:Int)),(8,.map (some r)),(9,.int .i64 (i:Int)),(10,pvA bA),(11,pvA bK)]) (fun _=>[ActS o cap es,Usg,AksF l vs]) (fun _=>[Mp Nm.v vS r m,AkR o1 c1 vs,Pt bA (.cells (aqf x).toArray 102),Pt bK (.cells (kyf ky).toArray 41)]) ?_ ?_
   ·rintro ⟨⟩
    have n2:=fun b=>sortTwo_ok b nmClk nmBox (by decide) (by decide) (by decide)
    repeat' (first|refine ZH ?_|refine ZG ?_|refine ZK ?_|refine ZI ?_|refine ZP ?_|refine ZJ ?_|refine ZM ?_|refine ZN (fun b=>?_)|refine ZO (fun b=>?_)|refine ZA ?_|refine ZB ?_|refine ZZ ?_|refine ZW ?_|refine Zf ?_|refine Za ?_|refine ZY ?_|refine Ze (fun b=>?_)|refine Zg (fun b=>?_)|refine Zd ?_|refine ZX ?_|refine ZF (WI) (fun _ _=>?_)|refine l_call0 (WI) (fun _ _=>?_)|refine ZT (WI) (fun _ _=>?_)|refine ZF (ofBox_ok) (fun _ _=>?_)|refine l_call0 (ofBox_ok) (fun _ _=>?_)|refine ZT (ofBox_ok) (fun _ _=>?_)|refine ZF (n2 _) (fun _ _=>?_)|refine l_call0 (n2 _) (fun _ _=>?_)|refine ZT (n2 _) (fun _ _=>?_)|(refine ZC (fun hc=>?_) (fun hc=>?_)<;>(try simp at hc)<;>(try omega))|(refine ZL (fun hc=>?_) (fun hc=>?_)<;>(try simp at hc)<;>(try omega))|refine ZD 9 [] [(0,0),(2,0),(3,0),(4,0),(1,4),(5,0),(6,0),(7,1)] [8] ?_|(refine ZE (fun hc=>?_) (fun hc=>?_)<;>(try simp at hc)<;>(try omega)))
    rename_i bX _ _ _ _ q hq
    obtain ⟨⟨u,v⟩,o2,c2⟩:=q
    have hnm:∀y,y=u∨y=v→y.owner.size≤1000∧y.text.size≤1000:=fun y hy=>by
     have h1:y ∈ [u,v]:=by rcases hy with rfl|rfl<;>simp
     have h2:=(List.Perm.mem_iff hq).1 h1
     simp only [List.mem_cons,List.not_mem_nil,or_false] at h2
     rcases h2 with rfl|rfl
     ·exact ⟨by decide,by decide⟩
     ·exact ⟨by decide,by decide⟩
    refine Zs (Lx:=[]) (r:=ChR none 0 []) (fun h _=>YQ _ _ h) ?_
    refine Z6 (X:={q:Nat×List Ch×(Option Addr×Nat)×ByteArray // q.1≤2∧q.2.1.length≤q.1∧(∀c ∈ q.2.1,ChOK c)∧q.2.2.2.size≤11 * q.1}) (fun q=>[(0,.slice o es.length cap),(1,.int .u8 ch.toNat),(5,.slice o1 vs.length c1),(6,.int .i64 (tk2:Int)),(7,.int .i64 (inp2:Int)),(8,.map (some r)),(9,.int .i64 (i:Int)),(10,pvA bA),(12,pvA bX),(13,.string q.1.2.2.2),(14,.slice o2 2 c2),(15,.int .i64 (q.1.1:Int))]) (fun _=>[ActS o cap es,Usg,AksF l vs,NmS o2 c2 [u,v]]) (fun q=>[Mp Nm.v vS r m,AkR o1 c1 vs,Pt bA (.cells (aqf x).toArray 102),Pt bX (.cells (akf ⟨ky,q.1.2.2.1.1,q.1.2.1.length,q.1.2.2.1.2,none,0,0⟩).toArray 44),ChR q.1.2.2.1.1 q.1.2.2.1.2 q.1.2.1]) (fun q=>2 - q.1.1) ⟨(0,[],(none,0),⟨#[]⟩),Nat.zero_le _,Nat.le_refl _,(fun c hc=>by cases hc),Nat.le_refl _⟩ ⟨rfl,rfl,rfl,rfl,rfl,rfl,rfl,rfl,rfl,rfl,rfl,rfl,trivial⟩ ?_
    rintro ⟨⟨j,rds,⟨ro,rc⟩,seen⟩,hj,hrl,hrok,hsz⟩
    dsimp only at hj hrl hrok hsz ⊢
    rcases Nat.eq_or_lt_of_le (show 0≤j by omega) with hjn|hjn
    ·subst hjn
     obtain ⟨y,hy,hyu⟩:=Wm (u:=u) (v:=v) (j:=0) (by decide)
     have hys:=hnm y hyu
     obtain ⟨sv,is,g1,g2,g3⟩:=mget_sz (n:=y) hm
     have hroom:(2 * (rds.length+1)+200) * 80≤281474976710656:=by omega
     have w6:IntKind.i64.wrap (((0:Nat):Int)+1)=((1:Nat):Int):=by rfl
     repeat' (first|refine Zm ?_|refine Zp (es:=[u,v]) (f:=nmf) 0 y hy (fun b off=>?_)|refine ZH ?_|refine ZG ?_|refine ZK ?_|refine ZI ?_|refine ZP ?_|refine ZJ ?_|refine ZM ?_|refine ZN (fun b=>?_)|refine ZO (fun b=>?_)|refine ZA ?_|refine ZB ?_|refine ZZ ?_|refine ZW ?_|refine Zf ?_|refine Za ?_|refine ZY ?_|refine Ze (fun b=>?_)|refine Zg (fun b=>?_)|refine Zd ?_|refine ZX ?_|refine l_mget2 YP y ?_|rw [g1]|rw [g2]|rw [w6]|refine YG (es:=[u,v]) (f:=nmf) 0 y hy (fun b off=>?_)|refine Yf ?_|refine Xo (m:=rds.length) (m2:=1) (fun o3 cap3=>?_) (hroom:=hroom)|refine l_cat (a:=seen) (b:=sv) ?_ (h:=by omega)|refine Y0 ?_|(refine ZC (fun hc=>?_) (fun hc=>?_)<;>(try simp at hc)<;>(try omega))|(refine ZL (fun hc=>?_) (fun hc=>?_)<;>(try simp at hc)<;>(try omega))|refine ZD 9 [] [(0,0),(2,0),(3,0),(4,0),(1,4),(5,0),(6,0),(7,1)] [8] ?_|refine ZD 22 [Pt _ (.cells _ 44 _),Row 108 _ _ _ _ _] [(0,0),(2,0),(3,0),(4,0),(6,0),(7,0),(8,0),(1,3),(5,3),(9,0),(10,1),(11,4),(12,0)] [13] ?_|(refine ZE (fun hc=>?_) (fun hc=>?_)<;>(try simp at hc)<;>(try omega)))
     ·exact Zc ⟨(1,rds,(ro,rc),seen),by show 1≤2;omega,by show rds.length≤1;omega,hrok,by show seen.size≤11 * 1;omega⟩ (by show 2 - 1<2 - 0;omega) ⟨rfl,rfl,rfl,rfl,rfl,rfl,rfl,rfl,rfl,rfl,rfl,rfl,trivial⟩
     ·have e1:rds.length+1=(rds++[(⟨y,sv,!is⟩:Ch)]).length:=by simp
      refine Ys (T:=108) (sz:=7) (o:=o3) (cap:=cap3) (m:=rds.length+1) _ ((rds++[(⟨y,sv,!is⟩:Ch)]).flatMap chf) e1 (by rw [List.flatMap_append]) ?_
      rw [e1]
      exact Zc ⟨(1,rds++[⟨y,sv,!is⟩],(o3,cap3),seen++sv),by show 1≤2;omega,by show (rds++[_]).length≤1;rw [List.length_append,List.length_singleton];omega,fun c hc=>by
       rcases List.mem_append.1 hc with hc|hc
       ·exact hrok c hc
       ·rw [List.mem_singleton.1 hc];exact hys,by show (seen++sv).size≤11 * 1;rw [ByteArray.size_append];omega⟩ (by show 2 - 1<2 - 0;omega) ⟨rfl,rfl,rfl,rfl,rfl,rfl,rfl,rfl,rfl,rfl,rfl,rfl,trivial⟩
    rcases Nat.eq_or_lt_of_le (show 1≤j by omega) with hjn|hjn
    ·subst hjn
     obtain ⟨y,hy,hyu⟩:=Wm (u:=u) (v:=v) (j:=1) (by decide)
     have hys:=hnm y hyu
     obtain ⟨sv,is,g1,g2,g3⟩:=mget_sz (n:=y) hm
     have hroom:(2 * (rds.length+1)+200) * 80≤281474976710656:=by omega
     have w6:IntKind.i64.wrap (((1:Nat):Int)+1)=((2:Nat):Int):=by rfl
     repeat' (first|refine Zm ?_|refine Zp (es:=[u,v]) (f:=nmf) 1 y hy (fun b off=>?_)|refine ZH ?_|refine ZG ?_|refine ZK ?_|refine ZI ?_|refine ZP ?_|refine ZJ ?_|refine ZM ?_|refine ZN (fun b=>?_)|refine ZO (fun b=>?_)|refine ZA ?_|refine ZB ?_|refine ZZ ?_|refine ZW ?_|refine Zf ?_|refine Za ?_|refine ZY ?_|refine Ze (fun b=>?_)|refine Zg (fun b=>?_)|refine Zd ?_|refine ZX ?_|refine l_mget2 YP y ?_|rw [g1]|rw [g2]|rw [w6]|refine YG (es:=[u,v]) (f:=nmf) 1 y hy (fun b off=>?_)|refine Yf ?_|refine Xo (m:=rds.length) (m2:=1) (fun o3 cap3=>?_) (hroom:=hroom)|refine l_cat (a:=seen) (b:=sv) ?_ (h:=by omega)|refine Y0 ?_|(refine ZC (fun hc=>?_) (fun hc=>?_)<;>(try simp at hc)<;>(try omega))|(refine ZL (fun hc=>?_) (fun hc=>?_)<;>(try simp at hc)<;>(try omega))|refine ZD 9 [] [(0,0),(2,0),(3,0),(4,0),(1,4),(5,0),(6,0),(7,1)] [8] ?_|refine ZD 22 [Pt _ (.cells _ 44 _),Row 108 _ _ _ _ _] [(0,0),(2,0),(3,0),(4,0),(6,0),(7,0),(8,0),(1,3),(5,3),(9,0),(10,1),(11,4),(12,0)] [13] ?_|(refine ZE (fun hc=>?_) (fun hc=>?_)<;>(try simp at hc)<;>(try omega)))
     ·exact Zc ⟨(2,rds,(ro,rc),seen),by show 2≤2;omega,by show rds.length≤2;omega,hrok,by show seen.size≤11 * 2;omega⟩ (by show 2 - 2<2 - 1;omega) ⟨rfl,rfl,rfl,rfl,rfl,rfl,rfl,rfl,rfl,rfl,rfl,rfl,trivial⟩
     ·have e1:rds.length+1=(rds++[(⟨y,sv,!is⟩:Ch)]).length:=by simp
      refine Ys (T:=108) (sz:=7) (o:=o3) (cap:=cap3) (m:=rds.length+1) _ ((rds++[(⟨y,sv,!is⟩:Ch)]).flatMap chf) e1 (by rw [List.flatMap_append]) ?_
      rw [e1]
      exact Zc ⟨(2,rds++[⟨y,sv,!is⟩],(o3,cap3),seen++sv),by show 2≤2;omega,by show (rds++[_]).length≤2;rw [List.length_append,List.length_singleton];omega,fun c hc=>by
       rcases List.mem_append.1 hc with hc|hc
       ·exact hrok c hc
       ·rw [List.mem_singleton.1 hc];exact hys,by show (seen++sv).size≤11 * 2;rw [ByteArray.size_append];omega⟩ (by show 2 - 2<2 - 1;omega) ⟨rfl,rfl,rfl,rfl,rfl,rfl,rfl,rfl,rfl,rfl,rfl,rfl,trivial⟩
    obtain rfl:j=2:=by omega
    refine Xt (T:=108) (sz:=7) (f:=chf) (o:=ro) (cap:=rc) rds ?_ rfl rfl
    repeat' (first|refine ZH ?_|refine ZG ?_|refine ZK ?_|refine ZI ?_|refine ZP ?_|refine ZJ ?_|refine ZM ?_|refine ZN (fun b=>?_)|refine ZO (fun b=>?_)|refine ZA ?_|refine ZB ?_|refine ZR ?_|refine ZZ ?_|refine ZW ?_|refine Zf ?_|refine Za ?_|refine ZY ?_|refine Ze (fun b=>?_)|refine Zg (fun b=>?_)|refine Zd ?_|refine ZX ?_|(refine ZC (fun hc=>?_) (fun hc=>?_)<;>(try simp at hc)<;>(try omega))|(refine ZL (fun hc=>?_) (fun hc=>?_)<;>(try simp at hc)<;>(try omega))|refine ZD 9 [] [(0,0),(2,0),(3,0),(4,0),(1,4),(5,0),(6,0),(7,1)] [8] ?_|(refine ZE (fun hc=>?_) (fun hc=>?_)<;>(try simp at hc)<;>(try omega)))
    refine Zs (Lx:=[]) (r:=ChR none 0 []) (fun h _=>YQ _ _ h) ?_
    refine Z6 (X:={q:Nat×List Ch×(Option Addr×Nat)×List (Nm×ByteArray) // q.1≤2∧q.2.1.length≤q.1∧(∀c ∈ q.2.1,ChOK c)∧∀e ∈ q.2.2.2,e.2.size≤11}) (fun q=>[(0,.slice o es.length cap),(1,.int .u8 ch.toNat),(5,.slice o1 vs.length c1),(6,.int .i64 (tk2:Int)),(7,.int .i64 (inp2:Int)),(8,.map (some r)),(9,.int .i64 (i:Int)),(10,pvA bA),(12,pvA bX),(13,.string seen),(14,.slice o2 2 c2),(18,.int .i64 (q.1.1:Int))]) (fun _=>[ActS o cap es,Usg,AksF l vs,NmS o2 c2 [u,v],ChS ro rc rds]) (fun q=>[Mp Nm.v vS r q.1.2.2.2,AkR o1 c1 vs,Pt bA (.cells (aqf x).toArray 102),Pt bX (.cells (akf ⟨ky,ro,rds.length,rc,q.1.2.2.1.1,q.1.2.1.length,q.1.2.2.1.2⟩).toArray 44),ChR q.1.2.2.1.1 q.1.2.2.1.2 q.1.2.1]) (fun q=>2 - q.1.1) ⟨(0,[],(none,0),m),Nat.zero_le _,Nat.le_refl _,(fun c hc=>by cases hc),hm⟩ ⟨rfl,rfl,rfl,rfl,rfl,rfl,rfl,rfl,rfl,rfl,rfl,rfl,trivial⟩ ?_
    rintro ⟨⟨j,wrs,⟨wo,wc⟩,m⟩,hj,hwl,hwok,hm⟩
    dsimp only at hj hwl hwok hm ⊢
    have hmin:(if (10:Int)<(seen.size:Int) then (10:Int) else (seen.size:Int))=((min seen.size 10:Nat):Int):=by split<;>omega
    have w7:IntKind.u8.wrap (i:Int)=(i:Int):=by simp [IntKind.wrap,IntKind.bits,IntKind.signed];omega
    have w8:IntKind.u8.wrap (97+(i:Int))=((97+i:Nat):Int):=by simp [IntKind.wrap,IntKind.bits,IntKind.signed];omega
    obtain ⟨nv,hnv⟩:∃nv:ByteArray,seen.extract 0 (min seen.size 10)++⟨#[UInt8.ofNat (((97+i:Nat):Int)).toNat]⟩=nv:=⟨_,rfl⟩
    have hez:(seen.extract 0 (min seen.size 10)).size≤10:=by rw [ByteArray.size_extract];omega
    have hnz:nv.size≤11:=by rw [←hnv,ByteArray.size_append];have:(ByteArray.mk #[UInt8.ofNat (((97+i:Nat):Int)).toNat]).size=1:=rfl;omega
    rcases Nat.eq_or_lt_of_le (show 0≤j by omega) with hjn|hjn
    ·subst hjn
     obtain ⟨y,hy,hyu⟩:=Wm (u:=u) (v:=v) (j:=0) (by decide)
     have hys:=hnm y hyu
     have hroom:(2 * (wrs.length+1)+200) * 80≤281474976710656:=by omega
     have w6:IntKind.i64.wrap (((0:Nat):Int)+1)=((1:Nat):Int):=by rfl
     repeat' (first|refine Zm ?_|refine Zp (es:=[u,v]) (f:=nmf) 0 y hy (fun b off=>?_)|refine ZH ?_|refine ZG ?_|refine ZK ?_|refine ZI ?_|refine ZP ?_|refine ZJ ?_|refine ZM ?_|refine ZN (fun b=>?_)|refine ZO (fun b=>?_)|refine ZA ?_|refine ZB ?_|refine ZZ ?_|refine ZW ?_|refine Zf ?_|refine Za ?_|refine ZY ?_|refine Ze (fun b=>?_)|refine Zg (fun b=>?_)|refine Zd ?_|refine ZX ?_|rw [w6]|rw [w7]|rw [w8]|rw [hmin]|refine r_ssl (s:=seen) (min seen.size 10) (by omega) ?_|refine r_b2s1 (fun b=>?_)|refine r_cat (a:=seen.extract 0 (min seen.size 10)) (b:=⟨#[UInt8.ofNat (((97+i:Nat):Int)).toNat]⟩) ?_|rw [hnv]|refine XJ (V:=vS) YP y nv ?_|refine YG (es:=[u,v]) (f:=nmf) 0 y hy (fun b off=>?_)|refine Yf ?_|refine Xo (m:=wrs.length) (m2:=1) (fun o3 cap3=>?_) (hroom:=hroom)|refine Y0 ?_|(refine ZC (fun hc=>?_) (fun hc=>?_)<;>(try simp at hc)<;>(try omega))|(refine ZL (fun hc=>?_) (fun hc=>?_)<;>(try simp at hc)<;>(try omega))|refine ZD 9 [] [(0,0),(2,0),(3,0),(4,0),(1,4),(5,0),(6,0),(7,1)] [8] ?_|refine ZD 28 [] [(0,0),(1,0),(2,0),(3,0),(4,0),(5,0),(6,0),(7,0),(8,2),(9,0),(10,0),(11,0)] [] ?_|refine ZD 30 [Pt _ (.cells _ 44 _),Row 108 _ _ _ _ _] [(0,0),(2,0),(3,0),(4,0),(6,0),(1,3),(5,3),(7,0),(8,1),(9,4),(10,0)] [11] ?_|(refine ZE (fun hc=>?_) (fun hc=>?_)<;>(try simp at hc)<;>(try omega)))
     ·exact Zc ⟨(1,wrs,(wo,wc),m),by show 1≤2;omega,by show wrs.length≤1;omega,hwok,hm⟩ (by show 2 - 1<2 - 0;omega) ⟨rfl,rfl,rfl,rfl,rfl,rfl,rfl,rfl,rfl,rfl,rfl,rfl,trivial⟩
     ·have e1:wrs.length+1=(wrs++[(⟨y,nv,false⟩:Ch)]).length:=by simp
      refine Ys (T:=108) (sz:=7) (o:=o3) (cap:=cap3) (m:=wrs.length+1) _ ((wrs++[(⟨y,nv,false⟩:Ch)]).flatMap chf) e1 (by rw [List.flatMap_append]) ?_
      rw [e1]
      exact Zc ⟨(1,wrs++[⟨y,nv,false⟩],(o3,cap3),mset y nv m),by show 1≤2;omega,by show (wrs++[_]).length≤1;rw [List.length_append,List.length_singleton];omega,fun c hc=>by
       rcases List.mem_append.1 hc with hc|hc
       ·exact hwok c hc
       ·rw [List.mem_singleton.1 hc];exact hys,mset_sz hm hnz⟩ (by show 2 - 1<2 - 0;omega) ⟨rfl,rfl,rfl,rfl,rfl,rfl,rfl,rfl,rfl,rfl,rfl,rfl,trivial⟩
    rcases Nat.eq_or_lt_of_le (show 1≤j by omega) with hjn|hjn
    ·subst hjn
     obtain ⟨y,hy,hyu⟩:=Wm (u:=u) (v:=v) (j:=1) (by decide)
     have hys:=hnm y hyu
     have hroom:(2 * (wrs.length+1)+200) * 80≤281474976710656:=by omega
     have w6:IntKind.i64.wrap (((1:Nat):Int)+1)=((2:Nat):Int):=by rfl
     repeat' (first|refine Zm ?_|refine Zp (es:=[u,v]) (f:=nmf) 1 y hy (fun b off=>?_)|refine ZH ?_|refine ZG ?_|refine ZK ?_|refine ZI ?_|refine ZP ?_|refine ZJ ?_|refine ZM ?_|refine ZN (fun b=>?_)|refine ZO (fun b=>?_)|refine ZA ?_|refine ZB ?_|refine ZZ ?_|refine ZW ?_|refine Zf ?_|refine Za ?_|refine ZY ?_|refine Ze (fun b=>?_)|refine Zg (fun b=>?_)|refine Zd ?_|refine ZX ?_|rw [w6]|rw [w7]|rw [w8]|rw [hmin]|refine r_ssl (s:=seen) (min seen.size 10) (by omega) ?_|refine r_b2s1 (fun b=>?_)|refine r_cat (a:=seen.extract 0 (min seen.size 10)) (b:=⟨#[UInt8.ofNat (((97+i:Nat):Int)).toNat]⟩) ?_|rw [hnv]|refine XJ (V:=vS) YP y nv ?_|refine YG (es:=[u,v]) (f:=nmf) 1 y hy (fun b off=>?_)|refine Yf ?_|refine Xo (m:=wrs.length) (m2:=1) (fun o3 cap3=>?_) (hroom:=hroom)|refine Y0 ?_|(refine ZC (fun hc=>?_) (fun hc=>?_)<;>(try simp at hc)<;>(try omega))|(refine ZL (fun hc=>?_) (fun hc=>?_)<;>(try simp at hc)<;>(try omega))|refine ZD 9 [] [(0,0),(2,0),(3,0),(4,0),(1,4),(5,0),(6,0),(7,1)] [8] ?_|refine ZD 28 [] [(0,0),(1,0),(2,0),(3,0),(4,0),(5,0),(6,0),(7,0),(8,2),(9,0),(10,0),(11,0)] [] ?_|refine ZD 30 [Pt _ (.cells _ 44 _),Row 108 _ _ _ _ _] [(0,0),(2,0),(3,0),(4,0),(6,0),(1,3),(5,3),(7,0),(8,1),(9,4),(10,0)] [11] ?_|(refine ZE (fun hc=>?_) (fun hc=>?_)<;>(try simp at hc)<;>(try omega)))
     ·exact Zc ⟨(2,wrs,(wo,wc),m),by show 2≤2;omega,by show wrs.length≤2;omega,hwok,hm⟩ (by show 2 - 2<2 - 1;omega) ⟨rfl,rfl,rfl,rfl,rfl,rfl,rfl,rfl,rfl,rfl,rfl,rfl,trivial⟩
     ·have e1:wrs.length+1=(wrs++[(⟨y,nv,false⟩:Ch)]).length:=by simp
      refine Ys (T:=108) (sz:=7) (o:=o3) (cap:=cap3) (m:=wrs.length+1) _ ((wrs++[(⟨y,nv,false⟩:Ch)]).flatMap chf) e1 (by rw [List.flatMap_append]) ?_
      rw [e1]
      exact Zc ⟨(2,wrs++[⟨y,nv,false⟩],(o3,cap3),mset y nv m),by show 2≤2;omega,by show (wrs++[_]).length≤2;rw [List.length_append,List.length_singleton];omega,fun c hc=>by
       rcases List.mem_append.1 hc with hc|hc
       ·exact hwok c hc
       ·rw [List.mem_singleton.1 hc];exact hys,mset_sz hm hnz⟩ (by show 2 - 2<2 - 1;omega) ⟨rfl,rfl,rfl,rfl,rfl,rfl,rfl,rfl,rfl,rfl,rfl,rfl,trivial⟩
    obtain rfl:j=2:=by omega
    repeat' (first|refine ZH ?_|refine ZG ?_|refine ZK ?_|refine ZI ?_|refine ZP ?_|refine ZJ ?_|refine ZM ?_|refine ZN (fun b=>?_)|refine ZO (fun b=>?_)|refine ZA ?_|refine ZB ?_|refine ZZ ?_|refine ZW ?_|refine Zf ?_|refine Za ?_|refine ZY ?_|refine Ze (fun b=>?_)|refine Zg (fun b=>?_)|refine Zd ?_|refine ZX ?_|(refine ZC (fun hc=>?_) (fun hc=>?_)<;>(try simp at hc)<;>(try omega))|(refine ZL (fun hc=>?_) (fun hc=>?_)<;>(try simp at hc)<;>(try omega))|refine ZD 9 [] [(0,0),(2,0),(3,0),(4,0),(1,4),(5,0),(6,0),(7,1)] [8] ?_|(refine ZE (fun hc=>?_) (fun hc=>?_)<;>(try simp at hc)<;>(try omega)))
    refine ZR ?_
    have hIt:seen.size≤1099511627776:=by omega
    have n3:=outputOf_ok ⟨x.it.who,x.it.nu,x.it.tk,x.it.ch,seen⟩ hIt
    have n4:=Wq (ito ⟨x.it.who,x.it.nu,x.it.tk,x.it.ch,seen⟩)
    generalize ito ⟨x.it.who,x.it.nu,x.it.tk,x.it.ch,seen⟩=ou at *
    generalize oencS ou=oe at *
    have s4:(x.it.who.toNat:Int).tmod 3=((x.it.who.toNat % 3:Nat):Int):=tmodN _ 3
    have s5:(x.it.nu.toNat:Int).tmod 4=((x.it.nu.toNat % 4:Nat):Int):=tmodN _ 4
    have s6:(x.it.tk.toNat:Int).tmod 8=((x.it.tk.toNat % 8:Nat):Int):=tmodN _ 8
    have s7:=Zx (z:=((x.it.nu.toNat % 4:Nat):Int)) (by omega) (by omega)
    have s8:=Zx (z:=((x.it.tk.toNat % 8:Nat):Int)) (by omega) (by omega)
    have n6:=Xb (Yk (x.it.who.toNat % 3)) ((x.it.nu.toNat % 4:Nat):Int) ((x.it.tk.toNat % 8:Nat):Int)
    have hw4:(Yk (x.it.who.toNat % 3)).size≤3:=WU _
    have g4:=WR (j:=x.it.who.toNat % 3) (by omega)
    obtain ⟨cN,hcN⟩:∃c:Ch,(⟨⟨18,Yk (x.it.who.toNat % 3),((x.it.nu.toNat % 4:Nat):Int),((x.it.tk.toNat % 8:Nat):Int),⟨#[]⟩⟩,oe,false⟩:Ch)=c:=⟨_,rfl⟩
    have hcO:ChOK cN:=by rw [←hcN];exact ⟨by show (Yk _).size≤1000;omega,by show (ByteArray.mk #[]).size≤1000;decide⟩
    have hroomW:(2 * (wrs.length+1)+200) * 80≤281474976710656:=by omega
    refine k_cutd 1 (Y:={q:List Ch×Option Addr×Nat // q.1.length≤3∧∀c ∈ q.1,ChOK c}) (fun q=>[(0,.slice o es.length cap),(1,.int .u8 ch.toNat),(5,.slice o1 vs.length c1),(6,.int .i64 (tk2:Int)),(7,.int .i64 (inp2:Int)),(8,.map (some r)),(9,.int .i64 (i:Int)),(12,pvA bX)]) (fun q=>[ActS o cap es,Usg,AksF l vs,ChS ro rc rds]) (fun q=>[Mp Nm.v vS r m,AkR o1 c1 vs,Pt bX (.cells (akf ⟨ky,ro,rds.length,rc,q.1.2.1,q.1.1.length,q.1.2.2⟩).toArray 44),ChR q.1.2.1 q.1.2.2 q.1.1]) ?_ ?_
    ·rintro ⟨⟨ws,wo,wc⟩,hws,hwo⟩
     dsimp only at hws hwo ⊢
     refine Xt (T:=108) (sz:=7) (f:=chf) (o:=wo) (cap:=wc) ws ?_ rfl rfl
     have n5:=sortedL_ok wo wc ws (by omega) hwo
     have hroom:(2 * (vs.length+1)+200) * 88≤281474976710656:=by omega
     repeat' (first|refine Yq (m:=vs.length) (m2:=1) (fun o3 cap3=>?_) (hroom:=hroom)|refine ZH ?_|refine ZG ?_|refine ZK ?_|refine ZI ?_|refine ZP ?_|refine ZJ ?_|refine ZM ?_|refine ZN (fun b=>?_)|refine ZO (fun b=>?_)|refine ZA ?_|refine ZB ?_|refine ZF (n5) (fun _ _=>?_)|refine l_call0 (n5) (fun _ _=>?_)|rw [w1]|(refine ZC (fun hc=>?_) (fun hc=>?_)<;>(try simp at hc)<;>(try omega))|(refine ZE (fun hc=>?_) (fun hc=>?_)<;>(try simp at hc)<;>(try omega)))
     rename_i q hq
     obtain ⟨ss,so,sc⟩:=q
     have hq:ss.Perm ws:=hq
     have hsl:=hq.length_eq
     have e1:vs.length+1=(vs++[(⟨ky,ro,rds.length,rc,so,ss.length,sc⟩:Akc)]).length:=by simp
     refine Ys (T:=44) (sz:=6) (o:=o3) (cap:=cap3) (m:=vs.length+1) _ ((vs++[(⟨ky,ro,rds.length,rc,so,ss.length,sc⟩:Akc)]).flatMap akf) e1 (by rw [List.flatMap_append]) ?_
     rw [e1]
     refine k_mk (F1:=[AksF l vs,ChS ro rc rds,ChS so sc ss]) (f:=AksF (l++[(⟨ky,rds,ss⟩:Ak)]) (vs++[(⟨ky,ro,rds.length,rc,so,ss.length,sc⟩:Akc)])) (fun hp hF=>aksP_app (hF _ (.head _)) ⟨⟨rfl,rfl,rfl⟩,hF _ (.tail _ (.head _)),hF _ (.tail _ (.tail _ (.head _)))⟩) ?_
     exact Zc ⟨⟨i+1,tk2,inp2,m,l++[⟨ky,rds,ss⟩],vs++[⟨ky,ro,rds.length,rc,so,ss.length,sc⟩],o3,cap3⟩,⟨hlt1,hlt2⟩,htk2,by show inp2≤i+1+1;omega,hm,by show (vs++[_]).length=(l++[_]).length;simp [hvl],by show (l++[_]).length≤i+1;rw [List.length_append,List.length_singleton];omega,fun a ha=>by
      rcases List.mem_append.1 ha with ha|ha
      ·exact hok a ha
      ·rw [List.mem_singleton.1 ha]
       exact ⟨hkl,by show rds.length≤100;omega,by show ss.length≤100;omega,hrok,fun c hc=>hwo c (hq.mem_iff.1 hc)⟩⟩ (by show es.length - (i+1)<es.length - i;omega) ⟨rfl,rfl,rfl,rfl,rfl,rfl,rfl,trivial⟩
    ·intro hx3
     repeat' (first|refine Xh ?_|refine k_to hx3 ⟨(wrs,wo,wc),⟨Nat.le_succ_of_le hwl,hwok⟩⟩ ⟨rfl,rfl,rfl,rfl,rfl,rfl,rfl,rfl,trivial⟩|refine ZH ?_|refine ZG ?_|refine ZK ?_|refine ZI ?_|refine ZP ?_|refine ZJ ?_|refine ZM ?_|refine ZN (fun b=>?_)|refine ZO (fun b=>?_)|refine ZA ?_|refine ZB ?_|refine ZZ ?_|refine ZW ?_|refine Zf ?_|refine Za ?_|refine ZY ?_|refine Ze (fun b=>?_)|refine Zg (fun b=>?_)|refine Zd ?_|refine ZX ?_|refine ZF (n3) (fun _ _=>?_)|refine l_call0 (n3) (fun _ _=>?_)|refine ZT (n3) (fun _ _=>?_)|refine ZF (n4) (fun _ _=>?_)|refine l_call0 (n4) (fun _ _=>?_)|refine ZT (n4) (fun _ _=>?_)|(refine ZC (fun hc=>?_) (fun hc=>?_)<;>(try simp at hc)<;>(try omega))|(refine ZL (fun hc=>?_) (fun hc=>?_)<;>(try simp at hc)<;>(try omega))|refine ZD 9 [] [(0,0),(2,0),(3,0),(4,0),(1,4),(5,0),(6,0),(7,1)] [8] ?_|(refine ZE (fun hc=>?_) (fun hc=>?_)<;>(try simp at hc)<;>(try omega)))
     generalize b=bI at *
     refine k_cut (Y:=Option Addr×Nat) (fun p=>[(0,.slice o es.length cap),(1,.int .u8 ch.toNat),(5,.slice o1 vs.length c1),(6,.int .i64 (tk2:Int)),(7,.int .i64 (inp2:Int)),(8,.map (some r)),(9,.int .i64 (i:Int)),(12,pvA bX),(195,.slice p.1 (wrs.length+1) p.2)]) (fun _=>[ActS o cap es,Usg,AksF l vs,ChS ro rc rds]) (fun p=>[Mp Nm.v vS r m,AkR o1 c1 vs,Pt bX (.cells (akf ⟨ky,ro,rds.length,rc,p.1,wrs.length+1,p.2⟩).toArray 44),Row 108 7 p.1 (wrs.length+1) p.2 (wrs.flatMap chf++chf cN)]) ?_ ?_
     ·rintro ⟨o3,c3⟩
      dsimp only
      have e1:wrs.length+1=(wrs++[cN]).length:=by simp
      refine Ys (T:=108) (sz:=7) (o:=o3) (cap:=c3) (m:=wrs.length+1) _ ((wrs++[cN]).flatMap chf) e1 (by rw [List.flatMap_append]) ?_
      rw [e1]
      exact k_to hx3 ⟨(wrs++[cN],o3,c3),by show (wrs++[_]).length≤3;rw [List.length_append,List.length_singleton];omega,fun c hc=>by
       rcases List.mem_append.1 hc with hc|hc
       ·exact hwok c hc
       ·rw [List.mem_singleton.1 hc];exact hcO⟩ ⟨rfl,rfl,rfl,rfl,rfl,rfl,rfl,rfl,trivial⟩
     ·intro hx4
      rw [←hcN] at hx4
      repeat' (first|refine k_to hx4 (_,_) ⟨rfl,rfl,rfl,rfl,rfl,rfl,rfl,rfl,rfl,trivial⟩|refine ZH ?_|refine ZG ?_|refine ZK ?_|refine ZI ?_|refine ZP ?_|refine ZJ ?_|refine ZM ?_|refine ZN (fun b=>?_)|refine ZO (fun b=>?_)|refine ZA ?_|refine ZB ?_|refine ZZ ?_|refine ZW ?_|refine Zf ?_|refine Za ?_|refine ZY ?_|refine Ze (fun b=>?_)|refine Zg (fun b=>?_)|refine Zd ?_|refine ZX ?_|refine ZF (Z9) (fun _ _=>?_)|refine l_call0 (Z9) (fun _ _=>?_)|refine ZT (Z9) (fun _ _=>?_)|refine r_callP (Z9) (fun _ _=>?_)|refine ZF (n6) (fun _ _=>?_)|refine l_call0 (n6) (fun _ _=>?_)|refine ZT (n6) (fun _ _=>?_)|refine r_callP (n6) (fun _ _=>?_)|rw [s4]|rw [s5]|rw [s6]|rw [s7]|rw [s8]|refine r_aix (x.it.who.toNat % 3) _ g4 ?_|refine Xo (m:=wrs.length) (m2:=1) (fun o3 cap3=>?_) (hroom:=hroomW)|refine Y0 ?_|(refine ZC (fun hc=>?_) (fun hc=>?_)<;>(try simp at hc)<;>(try omega))|(refine ZL (fun hc=>?_) (fun hc=>?_)<;>(try simp at hc)<;>(try omega))|refine ZD 9 [] [(0,0),(2,0),(3,0),(4,0),(1,4),(5,0),(6,0),(7,1)] [8] ?_|refine ZD 35 [Pt _ (.cells _ 44 _),Row 108 _ _ _ _ _] [(0,0),(3,0),(4,0),(5,0),(7,0),(8,0),(9,0),(10,0),(11,0),(12,0),(13,0),(14,0),(16,0),(1,3),(2,5),(6,0),(15,5),(17,0),(18,1),(19,4),(20,0)] [21] ?_|(refine ZE (fun hc=>?_) (fun hc=>?_)<;>(try simp at hc)<;>(try omega)))
   ·intro hx2
    repeat' (first|refine Xh ?_|refine k_to hx2 () ⟨rfl,rfl,rfl,rfl,rfl,rfl,rfl,rfl,rfl,trivial⟩|refine ZH ?_|refine ZG ?_|refine ZK ?_|refine ZI ?_|refine ZP ?_|refine ZJ ?_|refine ZM ?_|refine ZN (fun b=>?_)|refine ZO (fun b=>?_)|refine ZA ?_|refine ZB ?_|refine ZZ ?_|refine ZW ?_|refine Zf ?_|refine Za ?_|refine ZY ?_|refine Ze (fun b=>?_)|refine Zg (fun b=>?_)|refine Zd ?_|refine ZX ?_|rw [w1]|(refine ZC (fun hc=>?_) (fun hc=>?_)<;>(try simp at hc)<;>(try omega))|(refine ZL (fun hc=>?_) (fun hc=>?_)<;>(try simp at hc)<;>(try omega))|refine ZD 9 [] [(0,0),(2,0),(3,0),(4,0),(1,4),(5,0),(6,0),(7,1)] [8] ?_|refine ZD 22 [] [(0,0),(1,0),(2,0),(3,0),(4,0),(5,0),(6,0),(7,0),(8,0),(9,0),(10,1),(11,4),(12,0)] [13] ?_|refine ZD 28 [] [(0,0),(1,0),(2,0),(3,0),(4,0),(5,0),(6,0),(7,0),(8,2),(9,0),(10,0),(11,0)] [] ?_|refine ZD 30 [] [(0,0),(1,0),(2,0),(3,0),(4,0),(5,0),(6,0),(7,0),(8,1),(9,4),(10,0)] [11] ?_|refine ZD 35 [] [(0,0),(1,0),(3,0),(4,0),(5,0),(7,0),(8,0),(9,0),(10,0),(11,0),(12,0),(13,0),(14,0),(16,0),(2,4),(6,0),(15,4),(17,0),(18,1),(19,4),(20,0)] [21] ?_|(refine ZE (fun hc=>?_) (fun hc=>?_)<;>(try simp at hc)<;>(try omega)))
    exact Zc ⟨⟨i+1,tk2,inp2,m,l,vs,o1,c1⟩,⟨hlt1,hlt2⟩,htk2,by show inp2≤i+1+1;omega,hm,hvl,by show l.length≤i+1;omega,hok⟩ (by show es.length - (i+1)<es.length - i;omega) ⟨rfl,rfl,rfl,rfl,rfl,rfl,rfl,trivial⟩
  ·intro hx
   repeat' (first|rw [w5]|refine Xh ?_|refine k_to hx ⟨(_,⟨(tk2:Int),2,0,Yk (x.who.toNat % 3)⟩,_),?_⟩ ⟨rfl,rfl,rfl,rfl,rfl,rfl,rfl,rfl,rfl,trivial⟩|refine k_to hx ⟨(_,⟨(tk2:Int),0,(inp:Int),⟨#[]⟩⟩,_),?_⟩ ⟨rfl,rfl,rfl,rfl,rfl,rfl,rfl,rfl,rfl,trivial⟩|refine ZH ?_|refine ZG ?_|refine ZK ?_|refine ZI ?_|refine ZP ?_|refine ZJ ?_|refine ZM ?_|refine ZN (fun b=>?_)|refine ZO (fun b=>?_)|refine ZA ?_|refine ZB ?_|refine ZZ ?_|refine ZW ?_|refine Zf ?_|refine Za ?_|refine ZY ?_|refine Ze (fun b=>?_)|refine Zg (fun b=>?_)|refine Zd ?_|refine ZX ?_|refine ZF (Z9) (fun _ _=>?_)|refine l_call0 (Z9) (fun _ _=>?_)|refine ZT (Z9) (fun _ _=>?_)|rw [t2]|rw [t3]|refine r_aix (x.who.toNat % 3) _ (WR (by omega)) ?_|(refine ZC (fun hc=>?_) (fun hc=>?_)<;>(try simp at hc)<;>(try omega))|(refine ZL (fun hc=>?_) (fun hc=>?_)<;>(try simp at hc)<;>(try omega))|refine ZD 9 [] [(0,0),(2,0),(3,0),(4,0),(1,4),(5,0),(6,0),(7,1)] [8] ?_|refine ZD 22 [] [(0,0),(1,0),(2,0),(3,0),(4,0),(5,0),(6,0),(7,0),(8,0),(9,0),(10,1),(11,4),(12,0)] [13] ?_|refine ZD 28 [] [(0,0),(1,0),(2,0),(3,0),(4,0),(5,0),(6,0),(7,0),(8,2),(9,0),(10,0),(11,0)] [] ?_|refine ZD 30 [] [(0,0),(1,0),(2,0),(3,0),(4,0),(5,0),(6,0),(7,0),(8,1),(9,4),(10,0)] [11] ?_|refine ZD 35 [] [(0,0),(1,0),(3,0),(4,0),(5,0),(7,0),(8,0),(9,0),(10,0),(11,0),(12,0),(13,0),(14,0),(16,0),(2,4),(6,0),(15,4),(17,0),(18,1),(19,4),(20,0)] [21] ?_|(refine ZE (fun hc=>?_) (fun hc=>?_)<;>(try simp at hc)<;>(try omega)))
   ·exact ⟨by show (ByteArray.mk #[]).size≤1000;decide,by show inp+1≤i+2;omega⟩
   ·exact ⟨by show (Yk _).size≤1000;omega,by show inp≤i+2;omega⟩
 ·repeat' (first|refine ZH ?_|refine ZG ?_|refine ZK ?_|refine ZI ?_|refine ZP ?_|refine ZJ ?_|refine ZM ?_|refine ZN (fun b=>?_)|refine ZO (fun b=>?_)|refine ZA ?_|refine ZB ?_|refine ZR ?_|(refine ZC (fun hc=>?_) (fun hc=>?_)<;>(try simp at hc)<;>(try omega))|(refine ZE (fun hc=>?_) (fun hc=>?_)<;>(try simp at hc)<;>(try omega)))
  all_goals refine Xt (T:=44) (sz:=6) (f:=akf) (o:=o1) (cap:=c1) vs ?_ rfl rfl
  all_goals exact ZS (l,vs,o1,c1) rfl ⟨hvl,by show l.length≤20;omega,hok⟩
theorem venc_props:∀(k u:Nat),u≤k→∃init last,venc u=init++[last]∧(∀b ∈ init,128≤b.toNat)∧last.toNat<128∧(0<u→last.toNat≠0)∧(init≠[]→0<u)∧dval (venc u)=u:=by
 intro k
 induction k with
 | zero=>
  intro u hu
  obtain rfl:u=0:=by omega
  refine ⟨[],0,?_,by simp,by decide,by simp,by simp,?_⟩
  ·rw [venc];simp
  ·rw [venc];simp [dval]
 | succ k ih=>
  intro u hu
  by_cases h:u<128
  ·have hv:venc u=[UInt8.ofNat u]:=by rw [venc,if_pos h]
   have ht:(UInt8.ofNat u).toNat=u:=by simp;omega
   refine ⟨[],UInt8.ofNat u,by rw [hv];rfl,by simp,by omega,fun h0=>by omega,by simp,?_⟩
   rw [hv,dval,dval,ht];omega
  ·have hv:venc u=UInt8.ofNat (u % 128+128)::venc (u / 128):=by rw [venc,if_neg h]
   have ht:(UInt8.ofNat (u % 128+128)).toNat=u % 128+128:=by simp;omega
   obtain ⟨init,last,h1,h2,h3,h4,h5,h6⟩:=ih (u / 128) (by omega)
   refine ⟨UInt8.ofNat (u % 128+128)::init,last,by rw [hv,h1];rfl,fun b hb=>?_,h3,fun _=>h4 (by omega),fun _=>by omega,?_⟩
   ·rcases List.mem_cons.1 hb with rfl|hb
    ·omega
    ·exact h2 b hb
   ·rw [hv,dval,h6,ht];omega
theorem pnat_venc (u:Nat) (hu:u<9223372036854775808) (rest:List UInt8):pnat (venc u++rest) 9=(u,(venc u).length,0):=by
 obtain ⟨init,last,h1,h2,h3,h4,h5,h6⟩:=venc_props u u (Nat.le_refl _)
 have hl:(venc u).length≤9:=venc_len 8 u (by simpa using hu)
 have hlen:(venc u).length=init.length+1:=by rw [h1];simp
 have hlast:lastN (venc u++rest) 9=init.length:=by
  refine Xr (by simp;omega) (by omega) (fun i hi=>?_) (.inr (.inr ⟨last,?_,h3⟩))
  ·refine ⟨init[i],?_,h2 _ (List.getElem_mem hi)⟩
   rw [h1,List.append_assoc,List.getElem?_append_left hi]
   exact List.getElem?_eq_getElem hi
  ·rw [h1,List.append_assoc,List.getElem?_append_right (Nat.le_refl _)]
   simp
 have hget:(venc u++rest)[init.length]? = some last:=by
  rw [h1,List.append_assoc,List.getElem?_append_right (Nat.le_refl _)];simp
 have htk:(venc u++rest).take (init.length+1)=venc u:=by rw [←hlen];simp
 unfold pnat
 dsimp only
 rw [hlast,if_neg (by omega),hget]
 dsimp only
 rw [if_neg,if_neg (by omega),htk,h6,hlen,Nat.mod_eq_of_lt (by omega)]
 rintro ⟨g1,g2⟩
 exact h4 (h5 (fun e=>by rw [e] at g1;simp at g1)) g2
theorem rnum_venc (u:Nat) (hu:u<9223372036854775808) (rest:List UInt8) (pos:Nat) (most:Int) (hm:(u:Int)≤most):rnum ⟨venc u++rest,pos,0⟩ most=((u:Int),⟨rest,pos+(venc u).length,0⟩):=by
 have hp:pnum (venc u++rest) most=((u:Int),(venc u).length,0):=by
  unfold pnum
  rw [pnat_venc u hu rest]
  dsimp only
  rw [if_neg (by omega)]
 unfold rnum rstep
 dsimp only
 rw [hp]
 simp
theorem rtext_venc (s:ByteArray) (rest:List UInt8) (pos:Nat) (most:Int) (hm:(s.size:Int)≤most) (h2:s.size≤16777216):rtext ⟨venc s.size++s.data.toList++rest,pos,0⟩ most=(s,⟨rest,pos+((venc s.size).length+s.size),0⟩):=by
 have hs:s.data.toList.length=s.size:=by simp
 have e1:(venc s.size++(s.data.toList++rest)).drop ((venc s.size).length+s.size)=rest:=by
  rw [←List.append_assoc,←hs,←List.length_append,List.drop_left]
 have e2:((venc s.size++(s.data.toList++rest)).take ((venc s.size).length+s.size)).drop (venc s.size).length=s.data.toList:=by
  rw [←List.append_assoc,←hs,←List.length_append,List.take_left,List.drop_left]
 have hp:ptext (venc s.size++(s.data.toList++rest)) most=(s,(venc s.size).length+s.size,0):=by
  unfold ptext
  rw [pnat_venc s.size (by omega) (s.data.toList++rest)]
  dsimp only
  rw [if_neg (by simp),if_neg (by omega),if_neg (by simp only [List.length_append];omega),e2]
 unfold rtext rstep
 dsimp only
 rw [List.append_assoc,hp,if_neg (by simp),if_neg (by simp)]
 dsimp only
 rw [e1]
theorem odec_enc {o:Ou} (h:ochk o=0):odec (oencS o)=some o:=by
 obtain ⟨h1,h2,h3,h4⟩:=W0 h
 have e1:((o.ch.toNat:Nat):Int)=o.ch:=by omega
 have e2:((o.us.toNat:Nat):Int)=o.us:=by omega
 have hr:∃p,oread ⟨oenc o,0,0⟩=(o,⟨[],p,0⟩):=by
  unfold oread oenc
  simp only [List.append_assoc]
  rw [rnum_venc o.ch.toNat (by omega) _ 0 4 (by omega)]
  dsimp only
  rw [show venc o.tg.size++(o.tg.data.toList++(venc o.tx.size++(o.tx.data.toList++venc o.us.toNat)))=venc o.tg.size++o.tg.data.toList++(venc o.tx.size++(o.tx.data.toList++venc o.us.toNat)) by simp]
  rw [rtext_venc o.tg _ _ 64 (by omega) (by omega)]
  dsimp only
  rw [show venc o.tx.size++(o.tx.data.toList++venc o.us.toNat)=venc o.tx.size++o.tx.data.toList++venc o.us.toNat by simp]
  rw [rtext_venc o.tx _ _ 4096 (by omega) (by omega)]
  dsimp only
  have h5:=rnum_venc o.us.toNat (by omega) [] (0+(venc o.ch.toNat).length+((venc o.tg.size).length+o.tg.size)+((venc o.tx.size).length+o.tx.size)) 65535 (by omega)
  rw [List.append_nil] at h5
  rw [h5,e1,e2]
  exact ⟨_,rfl⟩
 obtain ⟨p,hr⟩:=hr
 unfold odec
 rw [oencS,if_pos h]
 dsimp only
 rw [hr]
 simp [h]
def kx:It:=⟨1,0,0,0,⟨#[120]⟩⟩
def ky:It:=⟨1,0,0,0,⟨#[121]⟩⟩
def kc:Cq:=⟨3,nm1,0,0,ito ky,0,ito kx,0⟩
theorem all_one (x:It):allE (stF [] [x])=[⟨Yk (x.who.toNat % 3),(x.nu.toNat % 4:Nat),(x.tk.toNat % 8:Nat),ito x⟩]:=by
 have h0:cmpO (itn x) (itn x)=0:=YU.self _
 have h1:stF [] [x]=[(itn x,oencS (ito x))]:=rfl
 have h2:kn [(itn x,oencS (ito x))] 18=[itn x]:=by simp [kn,itn]
 have h3:getO (itn x) [(itn x,oencS (ito x))]=some (oencS (ito x)):=by simp [getO,h0]
 rw [allE,h1,h2]
 unfold allN
 simp only [List.filterMap_cons,List.filterMap_nil,entO,h3,Option.getD_some,odec_enc (WZ x),Option.map_some]
 rfl
theorem known_cons:consE (allE (stF [] ([kx].take 20))) (ldF ([ky].take 20))=[kc]:=by
 have h1:allE (stF [] ([kx].take 20))=[⟨nm1,0,0,ito kx⟩]:=all_one kx
 have h2:ldF ([ky].take 20)=[⟨⟨nm1,0,0,ito ky⟩,9,0⟩]:=rfl
 have h3:ito ky≠ito kx:=fun h=>by
  have:=congrArg Ou.tx h
  exact absurd this (by decide)
 rw [h1,h2]
 simp [consE,YM,YH,con1,knw,h3,En.sd,kc]
set_option maxHeartbeats 1000000 in
theorem known_ok:Enters 7∧Spec prog 7 #[] [Usg] [] (RetV (.bool true)):=by
 have n1:=fun o1 o2 c1 c2=>build_ok o1 o2 c1 c2 [kx] [ky] (by decide) (by decide) (by decide) (by decide)
 have n2:=fun b bs=>consCompare_ok b bs (stF [] ([kx].take 20)) (ldF ([ky].take 20)) (by decide) (by rw [show allE (stF [] ([kx].take 20))=_ from all_one kx];decide)
 simp only [known_cons] at n2
 have hy:(kc.old.tx.toList == ByteArray.toList ⟨#[121]⟩)=true:=by rw [Zt,Zt];decide
 have hxx:(kc.new.tx.toList == ByteArray.toList ⟨#[120]⟩)=true:=by rw [Zt,Zt];decide
 refine Zb [] func7 ntmps7 fun G w hp=>?_
 repeat' (first|refine ZH ?_|refine ZG ?_|refine ZK ?_|refine ZI ?_|refine ZP ?_|refine ZJ ?_|refine ZM ?_|refine ZN (fun b=>?_)|refine ZO (fun b=>?_)|refine ZA ?_|refine ZB ?_|refine ZR ?_|refine ZC (fun hc=>?_) (fun hc=>?_)|refine ZE (fun hc=>?_) (fun hc=>?_))
 refine l_shut (Lx:=[Pt b (.cells #[.int .u8 1,.int .u8 0,.int .u8 0,.int .u8 0,.string ⟨#[121]⟩] 95)]) (r:=Row 95 5 (some ⟨b,0,none⟩) 1 1 (itf ky)) (fun h hh=>row_pt rfl h hh) ?_
 refine l_frz (T:=95) (sz:=5) (f:=itf) (o:=some ⟨b,0,none⟩) (cap:=1) [ky] ?_ rfl rfl
 rename_i b1
 refine l_shut (Lx:=[Pt b1 (.cells #[.int .u8 1,.int .u8 0,.int .u8 0,.int .u8 0,.string ⟨#[120]⟩] 95)]) (r:=Row 95 5 (some ⟨b1,0,none⟩) 1 1 (itf kx)) (fun h hh=>row_pt rfl h hh) ?_
 refine l_frz (T:=95) (sz:=5) (f:=itf) (o:=some ⟨b1,0,none⟩) (cap:=1) [kx] ?_ rfl rfl
 repeat' (first|refine ZH ?_|refine ZG ?_|refine ZK ?_|refine ZI ?_|refine ZP ?_|refine ZJ ?_|refine ZM ?_|refine ZN (fun b=>?_)|refine ZO (fun b=>?_)|refine ZA ?_|refine ZB ?_|refine ZR ?_|refine ZF (n1 _ _ _ _) (fun _ _=>?_)|refine l_call0 (n1 _ _ _ _) (fun _ _=>?_)|refine ZF (n2 _ _) (fun _ _=>?_)|refine l_call0 (n2 _ _) (fun _ _=>?_)|refine Zp (es:=[kc]) 0 kc rfl (fun b off=>?_)|refine Zm ?_|rw [hy]|rw [hxx]|refine ZC (fun hc=>?_) (fun hc=>?_)|refine ZE (fun hc=>?_) (fun hc=>?_))
 exact ZS () rfl trivial
section
variable {F:List Pf}
def cutS (s:ByteArray) (m:Nat):ByteArray:=s.extract 0 (min s.size m)
end
section
variable {F:List Pf} {b off:Nat} {v:Value}
end
theorem Wj (z y:Int) (m:Nat) (hy:y=(m:Int)) (hm:m≤7):∃o:Nat,o≤m∧IntKind.i64.wrap (((BitVec.ofInt IntKind.i64.bits z &&& BitVec.ofInt IntKind.i64.bits y).toNat:Nat):Int)=(o:Int):=by
 subst hy
 have h2:(BitVec.ofInt IntKind.i64.bits z &&& BitVec.ofInt IntKind.i64.bits (m:Int)).toNat≤m:=by
  rw [BitVec.toNat_and]
  refine Nat.le_trans Nat.and_le_right ?_
  show (BitVec.ofInt 64 (m:Int)).toNat≤m
  rw [BitVec.toNat_ofInt]
  omega
 exact ⟨_,h2,wrapi (by omega) (by omega)⟩
theorem chain_ks {f s:List Ak} (hf:∀a ∈ f,AkOK a) (hs:∀a ∈ s,AkOK a):∀(n:Nat) (r:Rn) (acc l:List Rn),(∀q ∈ acc,q.k.l.size≤1000)→chainF f s n r acc = .ok l→∀q ∈ l,q.k.l.size≤1000
 | 0,r,acc,l,ha,h=>by cases h;exact ha
 | n+1,r,acc,l,ha,h=>by
  rw [chainF] at h
  split at h
  ·cases h;exact ha
  ·split at h
   ·cases h
   ·rename_i o ho
    split at h
    ·cases h
    ·split at h
     ·cases h
     ·rename_i hz
      refine chain_ks hf hs n _ _ l (fun q hq=>?_) h
      rcases List.mem_append.1 hq with hq|hq
      ·exact ha q hq
      ·rw [List.mem_singleton.1 hq,X0 (Classical.not_not.1 hz)]
       exact org_ok ho hf hs
theorem expl_ks {f s:List Ak} {k:Ky} {l:List Rn} (hf:∀a ∈ f,AkOK a) (hs:∀a ∈ s,AkOK a) (hk:k.l.size≤1000) (h:explF f s k = .ok l):∀q ∈ l,q.k.l.size≤1000:=by
 unfold explF at h
 split at h
 ·split at h
  ·cases h
  ·rename_i he
   refine chain_ks hf hs _ _ _ l (fun q hq=>?_) h
   rw [List.mem_singleton.1 hq,X0 (Classical.not_not.1 he)]
   exact hk
 ·cases h
theorem expl_ver {f s:List Ak} {k:Ky} {l:List Rn} (h:explF f s k = .ok l):verF f s l=true:=by
 obtain ⟨x,v,rfl,hx⟩:=expl_key h
 show (match explF f s x.k with
  | .ok m=>decide (m=x::v)
  | .error _=>false)=true
 rw [hx,h]
 exact decide_eq_true rfl
theorem chq_none {f s:List Ak} {c:Cq} (k1:¬c.kind=1) (k2:¬(c.kind<1∨4<c.kind)) (h:chKey f s c=none):chainQ f s c = .error 8:=by
 unfold chainQ
 rw [if_neg k1,if_neg k2,h]
theorem chq_some {f s:List Ak} {c:Cq} {k:Ky} (k1:¬c.kind=1) (k2:¬(c.kind<1∨4<c.kind)) (h:chKey f s c=some k):chainQ f s c=explF f s k:=by
 unfold chainQ
 rw [if_neg k1,if_neg k2,h]
theorem mkK_none {l:List Ak} {n:Nm} (h:lstF l n l.length=none):mkK l n=none:=by unfold mkK;rw [h]
theorem mkK_some {l:List Ak} {n:Nm} {i:Nat} {a:Ak} (h:lstF l n l.length=some i) (ha:l[i]? = some a):mkK l n=some a.k:=by unfold mkK;rw [h];show l[i]?.map Ak.k=_;rw [ha];rfl
set_option maxHeartbeats 8000000 in
theorem lawChains_ok (o:Option Addr) (cap:Nat) (es:List Aq) (ch:UInt8) (c:Cq):Enters 3∧Spec prog 3 #[.slice o es.length cap,.int .u8 ch.toNat,c.v] [ActS o cap es,Usg] [] (RetV (.bool true)):=by
 have n1:=actions_ok o cap es 0
 have n2:=actions_ok o cap es ch
 have n3:=Z9
 have n4:=known_ok
 obtain ⟨⟩:=c
 rename_i kind who nu place old oldAt new newAt
 obtain ⟨⟩:=old
 obtain ⟨⟩:=new
 rename_i g1 g2 g3 g4 g5 g6 g7 g8
 obtain ⟨i1,p1,e1⟩:=Wj nu 1 1 rfl (by decide)
 obtain ⟨i2,p2,e2⟩:=Wj nu 3 3 rfl (by decide)
 obtain ⟨i3,p3,e3⟩:=Wj oldAt 7 7 rfl (by decide)
 obtain ⟨i4,p4,e4⟩:=Wj newAt 7 7 rfl (by decide)
 have gw:=WR (j:=i1) (by omega)
 simp only [Cq.v]
 refine Zb [_,_,_] func3 ntmps3 fun G w hp=>?_
 repeat' (first|refine ZH ?_|refine ZG ?_|refine ZK ?_|refine ZI ?_|refine ZP ?_|refine ZJ ?_|refine ZM ?_|refine ZN (fun b=>?_)|refine ZO (fun b=>?_)|refine ZA ?_|refine ZB ?_|refine ZZ ?_|refine ZW ?_|refine Zf ?_|refine Za ?_|refine ZY ?_|refine Ze (fun b=>?_)|refine Zg (fun b=>?_)|refine Zd ?_|refine ZX ?_|refine ZF (n4) (fun _ _=>?_)|refine l_call0 (n4) (fun _ _=>?_)|refine ZT (n4) (fun _ _=>?_)|refine ZF (n1) (fun _ _=>?_)|refine l_call0 (n1) (fun _ _=>?_)|refine ZT (n1) (fun _ _=>?_)|refine ZF (n2) (fun _ _=>?_)|refine l_call0 (n2) (fun _ _=>?_)|refine ZT (n2) (fun _ _=>?_)|(refine ZC (fun hc=>?_) (fun hc=>?_)<;>(try simp at hc)<;>(try omega))|(refine ZL (fun hc=>?_) (fun hc=>?_)<;>(try simp at hc)<;>(try omega))|refine ZD 10 [] [(0,0),(1,0),(2,0),(3,0),(4,0)] [] ?_|refine ZD 12 [] [(0,0),(1,0),(2,0),(3,0),(4,0)] [] ?_|refine ZD 22 [] [(0,0),(1,0),(2,0),(3,0),(4,0),(5,0),(6,0),(7,0),(8,0)] [] ?_|(refine ZE (fun hc=>?_) (fun hc=>?_)<;>(try simp at hc)<;>(try omega)))
 rename_i q hq q' hq'
 obtain ⟨f,vs,o1,c1⟩:=q
 obtain ⟨h1,b1,w1⟩:=hq
 obtain ⟨s,us,o2,c2⟩:=q'
 obtain ⟨h2,b2,w2⟩:=hq'
 dsimp only at h1 b1 w1 h2 b2 w2 ⊢
 have m1:=fun cc=>chain_ok f s vs us o1 o2 c1 c2 h1 h2 (by omega) (by omega) w1 w2 cc
 have m1:=m1 ⟨kind,Yk i1,(i2:Int),place,⟨g1,g2,g3,g4⟩,(i3:Int),⟨g5,g6,g7,g8⟩,(i4:Int)⟩
 simp only [Cq.v] at m1
 repeat' (first|refine ZH ?_|refine ZG ?_|refine ZK ?_|refine ZI ?_|refine ZP ?_|refine ZJ ?_|refine ZM ?_|refine ZN (fun b=>?_)|refine ZO (fun b=>?_)|refine ZA ?_|refine ZB ?_|refine ZZ ?_|refine ZW ?_|refine Zf ?_|refine Za ?_|refine ZY ?_|refine Ze (fun b=>?_)|refine Zg (fun b=>?_)|refine Zd ?_|refine ZX ?_|refine ZF (n3) (fun _ _=>?_)|refine l_call0 (n3) (fun _ _=>?_)|refine ZT (n3) (fun _ _=>?_)|refine r_callP (n3) (fun _ _=>?_)|rw [e1]|rw [e2]|rw [e3]|rw [e4]|refine r_aix i1 _ gw ?_|(refine ZC (fun hc=>?_) (fun hc=>?_)<;>(try simp at hc)<;>(try omega))|(refine ZL (fun hc=>?_) (fun hc=>?_)<;>(try simp at hc)<;>(try omega))|refine ZD 4 [Pt _ (.cells #[.int .i64 kind,.string who,.int .i64 nu,_,_,_,_,_,_,_,_,_,_,_] _)] [(1,0),(5,0),(8,0),(11,0),(2,3),(3,0),(6,3),(7,0),(9,3),(10,0),(12,3),(13,0),(0,5),(4,0),(14,0),(15,4),(16,0),(17,4),(18,0),(19,4),(20,0)] [21] ?_|refine ZD 10 [] [(0,0),(1,0),(2,0),(3,0),(4,0)] [] ?_|refine ZD 12 [] [(0,0),(1,0),(2,0),(3,0),(4,0)] [] ?_|refine ZD 22 [] [(0,0),(1,0),(2,0),(3,0),(4,0),(5,0),(6,0),(7,0),(8,0)] [] ?_|(refine ZE (fun hc=>?_) (fun hc=>?_)<;>(try simp at hc)<;>(try omega)))
 by_cases k1:kind=1
 ·have hq:chainQ f s ⟨kind,Yk i1,(i2:Int),place,⟨g1,g2,g3,g4⟩,(i3:Int),⟨g5,g6,g7,g8⟩,(i4:Int)⟩ = .error 10:=by unfold chainQ;rw [if_pos k1]
  rw [hq] at m1
  subst k1
  repeat' (first|refine ZH ?_|refine ZG ?_|refine ZK ?_|refine ZI ?_|refine ZP ?_|refine ZJ ?_|refine ZM ?_|refine ZN (fun b=>?_)|refine ZO (fun b=>?_)|refine ZA ?_|refine ZB ?_|refine ZZ ?_|refine ZW ?_|refine Zf ?_|refine Za ?_|refine ZY ?_|refine Ze (fun b=>?_)|refine Zg (fun b=>?_)|refine Zd ?_|refine ZX ?_|refine ZF (m1) (fun _ _=>?_)|refine l_call0 (m1) (fun _ _=>?_)|refine ZT (m1) (fun _ _=>?_)|(refine ZC (fun hc=>?_) (fun hc=>?_)<;>(try simp at hc)<;>(try omega))|(refine ZL (fun hc=>?_) (fun hc=>?_)<;>(try simp at hc)<;>(try omega))|refine ZD 4 [] [(1,0),(2,0),(3,0),(5,0),(6,0),(7,0),(8,0),(9,0),(10,0),(11,0),(12,0),(13,0),(0,4),(4,0),(14,0),(15,4),(16,0),(17,4),(18,0),(19,4),(20,0)] [21] ?_|refine ZD 10 [] [(0,0),(1,0),(2,0),(3,0),(4,0)] [] ?_|refine ZD 12 [] [(0,0),(1,0),(2,0),(3,0),(4,0)] [] ?_|refine ZD 22 [] [(0,0),(1,0),(2,0),(3,0),(4,0),(5,0),(6,0),(7,0),(8,0)] [] ?_|(refine ZE (fun hc=>?_) (fun hc=>?_)<;>(try simp at hc)<;>(try omega)))
  exact ZS () rfl trivial
 by_cases k2:kind<1∨4<kind
 ·have hq:chainQ f s ⟨kind,Yk i1,(i2:Int),place,⟨g1,g2,g3,g4⟩,(i3:Int),⟨g5,g6,g7,g8⟩,(i4:Int)⟩ = .error 11:=by unfold chainQ;rw [if_neg k1,if_pos k2]
  rw [hq] at m1
  repeat' (first|refine ZH ?_|refine ZG ?_|refine ZK ?_|refine ZI ?_|refine ZP ?_|refine ZJ ?_|refine ZM ?_|refine ZN (fun b=>?_)|refine ZO (fun b=>?_)|refine ZA ?_|refine ZB ?_|refine ZZ ?_|refine ZW ?_|refine Zf ?_|refine Za ?_|refine ZY ?_|refine Ze (fun b=>?_)|refine Zg (fun b=>?_)|refine Zd ?_|refine ZX ?_|refine ZF (m1) (fun _ _=>?_)|refine l_call0 (m1) (fun _ _=>?_)|refine ZT (m1) (fun _ _=>?_)|(refine ZC (fun hc=>?_) (fun hc=>?_)<;>(try simp at hc)<;>(try omega))|(refine ZL (fun hc=>?_) (fun hc=>?_)<;>(try simp at hc)<;>(try omega))|refine ZD 4 [] [(1,0),(2,0),(3,0),(5,0),(6,0),(7,0),(8,0),(9,0),(10,0),(11,0),(12,0),(13,0),(0,4),(4,0),(14,0),(15,4),(16,0),(17,4),(18,0),(19,4),(20,0)] [21] ?_|refine ZD 10 [] [(0,0),(1,0),(2,0),(3,0),(4,0)] [] ?_|refine ZD 12 [] [(0,0),(1,0),(2,0),(3,0),(4,0)] [] ?_|refine ZD 22 [] [(0,0),(1,0),(2,0),(3,0),(4,0),(5,0),(6,0),(7,0),(8,0)] [] ?_|(refine ZE (fun hc=>?_) (fun hc=>?_)<;>(try simp at hc)<;>(try omega)))
  all_goals exact ZS () rfl trivial
 by_cases k4:kind=4
 ·obtain ⟨X,hRm⟩:∃X,lstF s (nmOut (Yk i1) (i2:Int) (i4:Int)) s.length=X:=⟨_,rfl⟩
  have m2:=makerM_ok s us o2 c2 h2 (by omega) w2 (Yk i1) (i2:Int) (i4:Int)
  rw [hRm] at m2
  cases X with
  | none=>
   rw [chq_none (f:=f) (s:=s) (c:=⟨kind,Yk i1,(i2:Int),place,⟨g1,g2,g3,g4⟩,(i3:Int),⟨g5,g6,g7,g8⟩,(i4:Int)⟩) k1 k2 ((if_pos k4).trans (mkK_none hRm))] at m1
   repeat' (first|refine ZH ?_|refine ZG ?_|refine ZK ?_|refine ZI ?_|refine ZP ?_|refine ZJ ?_|refine ZM ?_|refine ZN (fun b=>?_)|refine ZO (fun b=>?_)|refine ZA ?_|refine ZB ?_|refine ZZ ?_|refine ZW ?_|refine Zf ?_|refine Za ?_|refine ZY ?_|refine Ze (fun b=>?_)|refine Zg (fun b=>?_)|refine Zd ?_|refine ZX ?_|refine ZF (m1) (fun _ _=>?_)|refine l_call0 (m1) (fun _ _=>?_)|refine ZT (m1) (fun _ _=>?_)|refine ZF (m2) (fun _ _=>?_)|refine l_call0 (m2) (fun _ _=>?_)|refine ZT (m2) (fun _ _=>?_)|(refine ZC (fun hc=>?_) (fun hc=>?_)<;>(try simp at hc)<;>(try omega))|(refine ZL (fun hc=>?_) (fun hc=>?_)<;>(try simp at hc)<;>(try omega))|refine ZD 4 [] [(1,0),(2,0),(3,0),(5,0),(6,0),(7,0),(8,0),(9,0),(10,0),(11,0),(12,0),(13,0),(0,4),(4,0),(14,0),(15,4),(16,0),(17,4),(18,0),(19,4),(20,0)] [21] ?_|refine ZD 10 [] [(0,0),(1,0),(2,0),(3,0),(4,0)] [] ?_|refine ZD 12 [] [(0,0),(1,0),(2,0),(3,0),(4,0)] [] ?_|refine ZD 22 [] [(0,0),(1,0),(2,0),(3,0),(4,0),(5,0),(6,0),(7,0),(8,0)] [] ?_|(refine ZE (fun hc=>?_) (fun hc=>?_)<;>(try simp at hc)<;>(try omega)))
   exact ZS () rfl trivial
  | some i=>
   obtain ⟨a,ha⟩:=XN hRm
   have hil:=(List.getElem?_eq_some_iff.1 ha).1
   have hak:a.k.l.size≤1000:=(w2 a (List.mem_of_getElem? ha)).1
   obtain ⟨v,hv⟩:∃v,us[i]? = some v:=⟨_,List.getElem?_eq_getElem (show i<us.length by omega)⟩
   rw [chq_some (f:=f) (s:=s) (c:=⟨kind,Yk i1,(i2:Int),place,⟨g1,g2,g3,g4⟩,(i3:Int),⟨g5,g6,g7,g8⟩,(i4:Int)⟩) (k:=a.k) k1 k2 ((if_pos k4).trans (mkK_some hRm ha))] at m1
   have m3:=Xd f s vs us o1 o2 c1 c2 h1 h2 (by omega) (by omega) w1 w2 a.k hak
   have hks:=fun l=>expl_ks (l:=l) w1 w2 hak
   have hvr:=fun l=>expl_ver (f:=f) (s:=s) (k:=a.k) (l:=l)
   have hln:=fun l=>expl_len (f:=f) (s:=s) (k:=a.k) (l:=l)
   have her:=fun e=>expl_err (f:=f) (s:=s) (k:=a.k) (e:=e)
   refine l_fact (f:=AksF s us) (by repeat (first|exact Sel.here|apply Sel.there)) (fun h hh=>YL ha hv h hh) (fun q hq=>?_)
   obtain ⟨⟨ro,rc⟩,wo,wc⟩:=q
   dsimp only at hq
   subst hq
   generalize explF f s a.k=RES at *
   cases RES with
   | error e=>
    have he:=her e rfl
    have he2:(e != 0)=true:=by simpa using he
    have he3:(e != e)=false:=by simp
    repeat' (first|refine ZH ?_|refine ZG ?_|refine ZK ?_|refine ZI ?_|refine ZP ?_|refine ZJ ?_|refine ZM ?_|refine ZN (fun b=>?_)|refine ZO (fun b=>?_)|refine ZA ?_|refine ZB ?_|refine ZZ ?_|refine ZW ?_|refine Zf ?_|refine Za ?_|refine ZY ?_|refine Ze (fun b=>?_)|refine Zg (fun b=>?_)|refine Zd ?_|refine ZX ?_|refine ZF (m1) (fun _ _=>?_)|refine l_call0 (m1) (fun _ _=>?_)|refine ZT (m1) (fun _ _=>?_)|refine ZF (m2) (fun _ _=>?_)|refine l_call0 (m2) (fun _ _=>?_)|refine ZT (m2) (fun _ _=>?_)|refine ZF (m3) (fun _ _=>?_)|refine l_call0 (m3) (fun _ _=>?_)|refine ZT (m3) (fun _ _=>?_)|refine Zp (es:=us) (f:=akf) i _ hv (fun b off=>?_)|refine Zm ?_|rw [he3]|(refine ZC (fun hc=>?_) (fun hc=>?_)<;>(try simp at hc)<;>(try omega))|(refine ZL (fun hc=>?_) (fun hc=>?_)<;>(try simp at hc)<;>(try omega))|refine ZD 4 [] [(1,0),(2,0),(3,0),(5,0),(6,0),(7,0),(8,0),(9,0),(10,0),(11,0),(12,0),(13,0),(0,4),(4,0),(14,0),(15,4),(16,0),(17,4),(18,0),(19,4),(20,0)] [21] ?_|refine ZD 10 [] [(0,0),(1,0),(2,0),(3,0),(4,0)] [] ?_|refine ZD 12 [] [(0,0),(1,0),(2,0),(3,0),(4,0)] [] ?_|refine ZD 22 [] [(0,0),(1,0),(2,0),(3,0),(4,0),(5,0),(6,0),(7,0),(8,0)] [] ?_|(refine ZE (fun hc=>?_) (fun hc=>?_)<;>(try simp at hc)<;>(try omega)))
    refine Z6 (X:=Unit) (fun _=>[(9,.slice none 0 0),(10,.int .i64 e),(17,.int .i64 0)]) (fun _=>[]) (fun _=>[]) (fun _=>0) () ⟨rfl,rfl,rfl,trivial⟩ ?_
    rintro ⟨⟩
    repeat' (first|refine ZH ?_|refine ZG ?_|refine ZK ?_|refine ZI ?_|refine ZP ?_|refine ZJ ?_|refine ZM ?_|refine ZN (fun b=>?_)|refine ZO (fun b=>?_)|refine ZA ?_|refine ZB ?_|refine ZR ?_|refine ZZ ?_|refine ZW ?_|refine Zf ?_|refine Za ?_|refine ZY ?_|refine Ze (fun b=>?_)|refine Zg (fun b=>?_)|refine Zd ?_|refine ZX ?_|rw [he2]|(refine ZC (fun hc=>?_) (fun hc=>?_)<;>(try simp at hc)<;>(try omega))|(refine ZL (fun hc=>?_) (fun hc=>?_)<;>(try simp at hc)<;>(try omega))|refine ZD 4 [] [(1,0),(2,0),(3,0),(5,0),(6,0),(7,0),(8,0),(9,0),(10,0),(11,0),(12,0),(13,0),(0,4),(4,0),(14,0),(15,4),(16,0),(17,4),(18,0),(19,4),(20,0)] [21] ?_|refine ZD 10 [] [(0,0),(1,0),(2,0),(3,0),(4,0)] [] ?_|refine ZD 12 [] [(0,0),(1,0),(2,0),(3,0),(4,0)] [] ?_|refine ZD 22 [] [(0,0),(1,0),(2,0),(3,0),(4,0),(5,0),(6,0),(7,0),(8,0)] [] ?_|(refine ZE (fun hc=>?_) (fun hc=>?_)<;>(try simp at hc)<;>(try omega)))
    exact ZS () rfl trivial
   | ok l=>
    have hl:=hln l rfl
    have m4:=fun o3 c3=>verify_ok f s vs us o1 o2 c1 c2 h1 h2 (by omega) (by omega) w1 w2 l o3 c3 (by omega) (hks l rfl)
    rw [hvr l rfl] at m4
    have hll:((l.length:Int) != (l.length:Int))=false:=by simp
    repeat' (first|refine ZH ?_|refine ZG ?_|refine ZK ?_|refine ZI ?_|refine ZP ?_|refine ZJ ?_|refine ZM ?_|refine ZN (fun b=>?_)|refine ZO (fun b=>?_)|refine ZA ?_|refine ZB ?_|refine ZZ ?_|refine ZW ?_|refine Zf ?_|refine Za ?_|refine ZY ?_|refine Ze (fun b=>?_)|refine Zg (fun b=>?_)|refine Zd ?_|refine ZX ?_|refine ZF (m1) (fun _ _=>?_)|refine l_call0 (m1) (fun _ _=>?_)|refine ZT (m1) (fun _ _=>?_)|refine ZF (m2) (fun _ _=>?_)|refine l_call0 (m2) (fun _ _=>?_)|refine ZT (m2) (fun _ _=>?_)|refine ZF (m3) (fun _ _=>?_)|refine l_call0 (m3) (fun _ _=>?_)|refine ZT (m3) (fun _ _=>?_)|refine Zp (es:=us) (f:=akf) i _ hv (fun b off=>?_)|refine Zm ?_|rw [hll]|(refine ZC (fun hc=>?_) (fun hc=>?_)<;>(try simp at hc)<;>(try omega))|(refine ZL (fun hc=>?_) (fun hc=>?_)<;>(try simp at hc)<;>(try omega))|refine ZD 4 [] [(1,0),(2,0),(3,0),(5,0),(6,0),(7,0),(8,0),(9,0),(10,0),(11,0),(12,0),(13,0),(0,4),(4,0),(14,0),(15,4),(16,0),(17,4),(18,0),(19,4),(20,0)] [21] ?_|refine ZD 10 [] [(0,0),(1,0),(2,0),(3,0),(4,0)] [] ?_|refine ZD 12 [] [(0,0),(1,0),(2,0),(3,0),(4,0)] [] ?_|refine ZD 22 [] [(0,0),(1,0),(2,0),(3,0),(4,0),(5,0),(6,0),(7,0),(8,0)] [] ?_|(refine ZE (fun hc=>?_) (fun hc=>?_)<;>(try simp at hc)<;>(try omega)))
    rename_i y _ _ _ _ _ _ y' _
    obtain ⟨o3,c3⟩:=y
    obtain ⟨o4,c4⟩:=y'
    refine Z6 (X:={j:Nat // j≤l.length}) (fun j=>[(7,.slice o1 vs.length c1),(8,.slice o2 us.length c2),(9,.slice o3 l.length c3),(10,.int .i64 0),(15,.slice o4 l.length c4),(17,.int .i64 (j.1:Int))]) (fun _=>[AkS o1 c1 vs,AksF f vs,AkS o2 c2 us,AksF s us,RsS o3 c3 l,RsS o4 c4 l]) (fun _=>[]) (fun j=>l.length - j.1) ⟨0,Nat.zero_le _⟩ ⟨rfl,rfl,rfl,rfl,rfl,rfl,trivial⟩ ?_
    rintro ⟨j,hj⟩
    dsimp only
    by_cases hlt:j<l.length
    ·obtain ⟨x,hx⟩:∃x,l[j]? = some x:=⟨_,List.getElem?_eq_getElem hlt⟩
     have hxe:=eqRn x x
     rw [decide_eq_true rfl] at hxe
     repeat' (first|refine ZH ?_|refine ZG ?_|refine ZK ?_|refine ZI ?_|refine ZP ?_|refine ZJ ?_|refine ZM ?_|refine ZN (fun b=>?_)|refine ZO (fun b=>?_)|refine ZA ?_|refine ZB ?_|refine ZZ ?_|refine ZW ?_|refine Zf ?_|refine Za ?_|refine ZY ?_|refine Ze (fun b=>?_)|refine Zg (fun b=>?_)|refine Zd ?_|refine ZX ?_|refine YG (es:=l) j x hx (fun b off=>?_)|refine Yf ?_|refine r_sneq (b:=true) ?_ (he:=hxe)|(refine ZC (fun hc=>?_) (fun hc=>?_)<;>(try simp at hc)<;>(try omega))|(refine ZL (fun hc=>?_) (fun hc=>?_)<;>(try simp at hc)<;>(try omega))|refine ZD 4 [] [(1,0),(2,0),(3,0),(5,0),(6,0),(7,0),(8,0),(9,0),(10,0),(11,0),(12,0),(13,0),(0,4),(4,0),(14,0),(15,4),(16,0),(17,4),(18,0),(19,4),(20,0)] [21] ?_|refine ZD 10 [] [(0,0),(1,0),(2,0),(3,0),(4,0)] [] ?_|refine ZD 12 [] [(0,0),(1,0),(2,0),(3,0),(4,0)] [] ?_|refine ZD 22 [] [(0,0),(1,0),(2,0),(3,0),(4,0),(5,0),(6,0),(7,0),(8,0)] [] ?_|(refine ZE (fun hc=>?_) (fun hc=>?_)<;>(try simp at hc)<;>(try omega)))
     rw [wrapi (z:=(j:Int)+1) (by omega) (by omega)]
     exact Zc ⟨j+1,by omega⟩ (by show l.length - (j+1)<l.length - j;omega) ⟨rfl,rfl,rfl,rfl,rfl,rfl,trivial⟩
    ·obtain rfl:j=l.length:=by omega
     repeat' (first|refine ZH ?_|refine ZG ?_|refine ZK ?_|refine ZI ?_|refine ZP ?_|refine ZJ ?_|refine ZM ?_|refine ZN (fun b=>?_)|refine ZO (fun b=>?_)|refine ZA ?_|refine ZB ?_|refine ZR ?_|refine ZZ ?_|refine ZW ?_|refine Zf ?_|refine Za ?_|refine ZY ?_|refine Ze (fun b=>?_)|refine Zg (fun b=>?_)|refine Zd ?_|refine ZX ?_|refine ZF (m4 _ _) (fun _ _=>?_)|refine l_call0 (m4 _ _) (fun _ _=>?_)|refine ZT (m4 _ _) (fun _ _=>?_)|(refine ZC (fun hc=>?_) (fun hc=>?_)<;>(try simp at hc)<;>(try omega))|(refine ZL (fun hc=>?_) (fun hc=>?_)<;>(try simp at hc)<;>(try omega))|refine ZD 4 [] [(1,0),(2,0),(3,0),(5,0),(6,0),(7,0),(8,0),(9,0),(10,0),(11,0),(12,0),(13,0),(0,4),(4,0),(14,0),(15,4),(16,0),(17,4),(18,0),(19,4),(20,0)] [21] ?_|refine ZD 10 [] [(0,0),(1,0),(2,0),(3,0),(4,0)] [] ?_|refine ZD 12 [] [(0,0),(1,0),(2,0),(3,0),(4,0)] [] ?_|refine ZD 22 [] [(0,0),(1,0),(2,0),(3,0),(4,0),(5,0),(6,0),(7,0),(8,0)] [] ?_|(refine ZE (fun hc=>?_) (fun hc=>?_)<;>(try simp at hc)<;>(try omega)))
     exact ZS () rfl trivial
 ·obtain ⟨X,hRm⟩:∃X,lstF f (nmOut (Yk i1) (i2:Int) (i3:Int)) f.length=X:=⟨_,rfl⟩
  have m2:=makerM_ok f vs o1 c1 h1 (by omega) w1 (Yk i1) (i2:Int) (i3:Int)
  rw [hRm] at m2
  cases X with
  | none=>
   rw [chq_none (f:=f) (s:=s) (c:=⟨kind,Yk i1,(i2:Int),place,⟨g1,g2,g3,g4⟩,(i3:Int),⟨g5,g6,g7,g8⟩,(i4:Int)⟩) k1 k2 ((if_neg k4).trans (mkK_none hRm))] at m1
   repeat' (first|refine ZH ?_|refine ZG ?_|refine ZK ?_|refine ZI ?_|refine ZP ?_|refine ZJ ?_|refine ZM ?_|refine ZN (fun b=>?_)|refine ZO (fun b=>?_)|refine ZA ?_|refine ZB ?_|refine ZZ ?_|refine ZW ?_|refine Zf ?_|refine Za ?_|refine ZY ?_|refine Ze (fun b=>?_)|refine Zg (fun b=>?_)|refine Zd ?_|refine ZX ?_|refine ZF (m1) (fun _ _=>?_)|refine l_call0 (m1) (fun _ _=>?_)|refine ZT (m1) (fun _ _=>?_)|refine ZF (m2) (fun _ _=>?_)|refine l_call0 (m2) (fun _ _=>?_)|refine ZT (m2) (fun _ _=>?_)|(refine ZC (fun hc=>?_) (fun hc=>?_)<;>(try simp at hc)<;>(try omega))|(refine ZL (fun hc=>?_) (fun hc=>?_)<;>(try simp at hc)<;>(try omega))|refine ZD 4 [] [(1,0),(2,0),(3,0),(5,0),(6,0),(7,0),(8,0),(9,0),(10,0),(11,0),(12,0),(13,0),(0,4),(4,0),(14,0),(15,4),(16,0),(17,4),(18,0),(19,4),(20,0)] [21] ?_|refine ZD 10 [] [(0,0),(1,0),(2,0),(3,0),(4,0)] [] ?_|refine ZD 12 [] [(0,0),(1,0),(2,0),(3,0),(4,0)] [] ?_|refine ZD 22 [] [(0,0),(1,0),(2,0),(3,0),(4,0),(5,0),(6,0),(7,0),(8,0)] [] ?_|(refine ZE (fun hc=>?_) (fun hc=>?_)<;>(try simp at hc)<;>(try omega)))
   exact ZS () rfl trivial
  | some i=>
   obtain ⟨a,ha⟩:=XN hRm
   have hil:=(List.getElem?_eq_some_iff.1 ha).1
   have hak:a.k.l.size≤1000:=(w1 a (List.mem_of_getElem? ha)).1
   obtain ⟨v,hv⟩:∃v,vs[i]? = some v:=⟨_,List.getElem?_eq_getElem (show i<vs.length by omega)⟩
   rw [chq_some (f:=f) (s:=s) (c:=⟨kind,Yk i1,(i2:Int),place,⟨g1,g2,g3,g4⟩,(i3:Int),⟨g5,g6,g7,g8⟩,(i4:Int)⟩) (k:=a.k) k1 k2 ((if_neg k4).trans (mkK_some hRm ha))] at m1
   have m3:=Xd f s vs us o1 o2 c1 c2 h1 h2 (by omega) (by omega) w1 w2 a.k hak
   have hks:=fun l=>expl_ks (l:=l) w1 w2 hak
   have hvr:=fun l=>expl_ver (f:=f) (s:=s) (k:=a.k) (l:=l)
   have hln:=fun l=>expl_len (f:=f) (s:=s) (k:=a.k) (l:=l)
   have her:=fun e=>expl_err (f:=f) (s:=s) (k:=a.k) (e:=e)
   refine l_fact (f:=AksF f vs) (by repeat (first|exact Sel.here|apply Sel.there)) (fun h hh=>YL ha hv h hh) (fun q hq=>?_)
   obtain ⟨⟨ro,rc⟩,wo,wc⟩:=q
   dsimp only at hq
   subst hq
   generalize explF f s a.k=RES at *
   cases RES with
   | error e=>
    have he:=her e rfl
    have he2:(e != 0)=true:=by simpa using he
    have he3:(e != e)=false:=by simp
    repeat' (first|refine ZH ?_|refine ZG ?_|refine ZK ?_|refine ZI ?_|refine ZP ?_|refine ZJ ?_|refine ZM ?_|refine ZN (fun b=>?_)|refine ZO (fun b=>?_)|refine ZA ?_|refine ZB ?_|refine ZZ ?_|refine ZW ?_|refine Zf ?_|refine Za ?_|refine ZY ?_|refine Ze (fun b=>?_)|refine Zg (fun b=>?_)|refine Zd ?_|refine ZX ?_|refine ZF (m1) (fun _ _=>?_)|refine l_call0 (m1) (fun _ _=>?_)|refine ZT (m1) (fun _ _=>?_)|refine ZF (m2) (fun _ _=>?_)|refine l_call0 (m2) (fun _ _=>?_)|refine ZT (m2) (fun _ _=>?_)|refine ZF (m3) (fun _ _=>?_)|refine l_call0 (m3) (fun _ _=>?_)|refine ZT (m3) (fun _ _=>?_)|refine Zp (es:=vs) (f:=akf) i _ hv (fun b off=>?_)|refine Zm ?_|rw [he3]|(refine ZC (fun hc=>?_) (fun hc=>?_)<;>(try simp at hc)<;>(try omega))|(refine ZL (fun hc=>?_) (fun hc=>?_)<;>(try simp at hc)<;>(try omega))|refine ZD 4 [] [(1,0),(2,0),(3,0),(5,0),(6,0),(7,0),(8,0),(9,0),(10,0),(11,0),(12,0),(13,0),(0,4),(4,0),(14,0),(15,4),(16,0),(17,4),(18,0),(19,4),(20,0)] [21] ?_|refine ZD 10 [] [(0,0),(1,0),(2,0),(3,0),(4,0)] [] ?_|refine ZD 12 [] [(0,0),(1,0),(2,0),(3,0),(4,0)] [] ?_|refine ZD 22 [] [(0,0),(1,0),(2,0),(3,0),(4,0),(5,0),(6,0),(7,0),(8,0)] [] ?_|(refine ZE (fun hc=>?_) (fun hc=>?_)<;>(try simp at hc)<;>(try omega)))
    refine Z6 (X:=Unit) (fun _=>[(9,.slice none 0 0),(10,.int .i64 e),(17,.int .i64 0)]) (fun _=>[]) (fun _=>[]) (fun _=>0) () ⟨rfl,rfl,rfl,trivial⟩ ?_
    rintro ⟨⟩
    repeat' (first|refine ZH ?_|refine ZG ?_|refine ZK ?_|refine ZI ?_|refine ZP ?_|refine ZJ ?_|refine ZM ?_|refine ZN (fun b=>?_)|refine ZO (fun b=>?_)|refine ZA ?_|refine ZB ?_|refine ZR ?_|refine ZZ ?_|refine ZW ?_|refine Zf ?_|refine Za ?_|refine ZY ?_|refine Ze (fun b=>?_)|refine Zg (fun b=>?_)|refine Zd ?_|refine ZX ?_|rw [he2]|(refine ZC (fun hc=>?_) (fun hc=>?_)<;>(try simp at hc)<;>(try omega))|(refine ZL (fun hc=>?_) (fun hc=>?_)<;>(try simp at hc)<;>(try omega))|refine ZD 4 [] [(1,0),(2,0),(3,0),(5,0),(6,0),(7,0),(8,0),(9,0),(10,0),(11,0),(12,0),(13,0),(0,4),(4,0),(14,0),(15,4),(16,0),(17,4),(18,0),(19,4),(20,0)] [21] ?_|refine ZD 10 [] [(0,0),(1,0),(2,0),(3,0),(4,0)] [] ?_|refine ZD 12 [] [(0,0),(1,0),(2,0),(3,0),(4,0)] [] ?_|refine ZD 22 [] [(0,0),(1,0),(2,0),(3,0),(4,0),(5,0),(6,0),(7,0),(8,0)] [] ?_|(refine ZE (fun hc=>?_) (fun hc=>?_)<;>(try simp at hc)<;>(try omega)))
    exact ZS () rfl trivial
   | ok l=>
    have hl:=hln l rfl
    have m4:=fun o3 c3=>verify_ok f s vs us o1 o2 c1 c2 h1 h2 (by omega) (by omega) w1 w2 l o3 c3 (by omega) (hks l rfl)
    rw [hvr l rfl] at m4
    have hll:((l.length:Int) != (l.length:Int))=false:=by simp
    repeat' (first|refine ZH ?_|refine ZG ?_|refine ZK ?_|refine ZI ?_|refine ZP ?_|refine ZJ ?_|refine ZM ?_|refine ZN (fun b=>?_)|refine ZO (fun b=>?_)|refine ZA ?_|refine ZB ?_|refine ZZ ?_|refine ZW ?_|refine Zf ?_|refine Za ?_|refine ZY ?_|refine Ze (fun b=>?_)|refine Zg (fun b=>?_)|refine Zd ?_|refine ZX ?_|refine ZF (m1) (fun _ _=>?_)|refine l_call0 (m1) (fun _ _=>?_)|refine ZT (m1) (fun _ _=>?_)|refine ZF (m2) (fun _ _=>?_)|refine l_call0 (m2) (fun _ _=>?_)|refine ZT (m2) (fun _ _=>?_)|refine ZF (m3) (fun _ _=>?_)|refine l_call0 (m3) (fun _ _=>?_)|refine ZT (m3) (fun _ _=>?_)|refine Zp (es:=vs) (f:=akf) i _ hv (fun b off=>?_)|refine Zm ?_|rw [hll]|(refine ZC (fun hc=>?_) (fun hc=>?_)<;>(try simp at hc)<;>(try omega))|(refine ZL (fun hc=>?_) (fun hc=>?_)<;>(try simp at hc)<;>(try omega))|refine ZD 4 [] [(1,0),(2,0),(3,0),(5,0),(6,0),(7,0),(8,0),(9,0),(10,0),(11,0),(12,0),(13,0),(0,4),(4,0),(14,0),(15,4),(16,0),(17,4),(18,0),(19,4),(20,0)] [21] ?_|refine ZD 10 [] [(0,0),(1,0),(2,0),(3,0),(4,0)] [] ?_|refine ZD 12 [] [(0,0),(1,0),(2,0),(3,0),(4,0)] [] ?_|refine ZD 22 [] [(0,0),(1,0),(2,0),(3,0),(4,0),(5,0),(6,0),(7,0),(8,0)] [] ?_|(refine ZE (fun hc=>?_) (fun hc=>?_)<;>(try simp at hc)<;>(try omega)))
    rename_i y _ _ _ _ _ _ y' _
    obtain ⟨o3,c3⟩:=y
    obtain ⟨o4,c4⟩:=y'
    refine Z6 (X:={j:Nat // j≤l.length}) (fun j=>[(7,.slice o1 vs.length c1),(8,.slice o2 us.length c2),(9,.slice o3 l.length c3),(10,.int .i64 0),(15,.slice o4 l.length c4),(17,.int .i64 (j.1:Int))]) (fun _=>[AkS o1 c1 vs,AksF f vs,AkS o2 c2 us,AksF s us,RsS o3 c3 l,RsS o4 c4 l]) (fun _=>[]) (fun j=>l.length - j.1) ⟨0,Nat.zero_le _⟩ ⟨rfl,rfl,rfl,rfl,rfl,rfl,trivial⟩ ?_
    rintro ⟨j,hj⟩
    dsimp only
    by_cases hlt:j<l.length
    ·obtain ⟨x,hx⟩:∃x,l[j]? = some x:=⟨_,List.getElem?_eq_getElem hlt⟩
     have hxe:=eqRn x x
     rw [decide_eq_true rfl] at hxe
     repeat' (first|refine ZH ?_|refine ZG ?_|refine ZK ?_|refine ZI ?_|refine ZP ?_|refine ZJ ?_|refine ZM ?_|refine ZN (fun b=>?_)|refine ZO (fun b=>?_)|refine ZA ?_|refine ZB ?_|refine ZZ ?_|refine ZW ?_|refine Zf ?_|refine Za ?_|refine ZY ?_|refine Ze (fun b=>?_)|refine Zg (fun b=>?_)|refine Zd ?_|refine ZX ?_|refine YG (es:=l) j x hx (fun b off=>?_)|refine Yf ?_|refine r_sneq (b:=true) ?_ (he:=hxe)|(refine ZC (fun hc=>?_) (fun hc=>?_)<;>(try simp at hc)<;>(try omega))|(refine ZL (fun hc=>?_) (fun hc=>?_)<;>(try simp at hc)<;>(try omega))|refine ZD 4 [] [(1,0),(2,0),(3,0),(5,0),(6,0),(7,0),(8,0),(9,0),(10,0),(11,0),(12,0),(13,0),(0,4),(4,0),(14,0),(15,4),(16,0),(17,4),(18,0),(19,4),(20,0)] [21] ?_|refine ZD 10 [] [(0,0),(1,0),(2,0),(3,0),(4,0)] [] ?_|refine ZD 12 [] [(0,0),(1,0),(2,0),(3,0),(4,0)] [] ?_|refine ZD 22 [] [(0,0),(1,0),(2,0),(3,0),(4,0),(5,0),(6,0),(7,0),(8,0)] [] ?_|(refine ZE (fun hc=>?_) (fun hc=>?_)<;>(try simp at hc)<;>(try omega)))
     rw [wrapi (z:=(j:Int)+1) (by omega) (by omega)]
     exact Zc ⟨j+1,by omega⟩ (by show l.length - (j+1)<l.length - j;omega) ⟨rfl,rfl,rfl,rfl,rfl,rfl,trivial⟩
    ·obtain rfl:j=l.length:=by omega
     repeat' (first|refine ZH ?_|refine ZG ?_|refine ZK ?_|refine ZI ?_|refine ZP ?_|refine ZJ ?_|refine ZM ?_|refine ZN (fun b=>?_)|refine ZO (fun b=>?_)|refine ZA ?_|refine ZB ?_|refine ZR ?_|refine ZZ ?_|refine ZW ?_|refine Zf ?_|refine Za ?_|refine ZY ?_|refine Ze (fun b=>?_)|refine Zg (fun b=>?_)|refine Zd ?_|refine ZX ?_|refine ZF (m4 _ _) (fun _ _=>?_)|refine l_call0 (m4 _ _) (fun _ _=>?_)|refine ZT (m4 _ _) (fun _ _=>?_)|(refine ZC (fun hc=>?_) (fun hc=>?_)<;>(try simp at hc)<;>(try omega))|(refine ZL (fun hc=>?_) (fun hc=>?_)<;>(try simp at hc)<;>(try omega))|refine ZD 4 [] [(1,0),(2,0),(3,0),(5,0),(6,0),(7,0),(8,0),(9,0),(10,0),(11,0),(12,0),(13,0),(0,4),(4,0),(14,0),(15,4),(16,0),(17,4),(18,0),(19,4),(20,0)] [21] ?_|refine ZD 10 [] [(0,0),(1,0),(2,0),(3,0),(4,0)] [] ?_|refine ZD 12 [] [(0,0),(1,0),(2,0),(3,0),(4,0)] [] ?_|refine ZD 22 [] [(0,0),(1,0),(2,0),(3,0),(4,0),(5,0),(6,0),(7,0),(8,0)] [] ?_|(refine ZE (fun hc=>?_) (fun hc=>?_)<;>(try simp at hc)<;>(try omega)))
     exact ZS () rfl trivial
end Go.Proofs.YtdkndahndgkmnaaGreatDoor
