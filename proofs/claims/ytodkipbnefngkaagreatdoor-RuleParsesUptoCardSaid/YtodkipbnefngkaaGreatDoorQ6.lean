/-
  From contracts to the statements' form: memory that was there stays; plain data read the same everywhere; the table of the kinds.
  Slices of plain data as arguments: the fact that they lie in memory, and that they read the same later.
  The settled world; arguments of plain types, opened.
  Contracts of the statements' own functions: names, out, build.
  The statements' arguments, opened: items, bytes.
  The contract of the statements' example, known.
  What the consequences of a ledger and a state hold; no program in sight.
  The contract of consequence.Equal.
  Contracts of consequence.Differences and consequence.Count.
  The statement ConsequenceErrors, walked.
  The statement ConsequenceCounts, walked.
  More of the statements' arguments, opened: a consequence, small integers.
  What the given cards of the laws about rules lay in memory, and an argument that is a consequence.
  Conditions: those that each theorem states.
-/
import Derived.Test.YtodkipbnefngkaaGreatDoorQ2
import Derived.Test.YtodkipbnefngkaaGreatDoorRows
import Derived.Test.YtodkipbnefngkaaGreatDoorCards
import Derived.Test.YtodkipbnefngkaaGreatDoorTie
import Derived.ChangeSame
import Derived.ProofKit
import Derived.OpenShut
import Derived.MakeChecks
import Derived.Deep.DeepHandedRow
import Derived.Stop.LaidErr
import Derived.Deep.DeepWitnessRowRef
import Derived.Deep.DeepLaidRun
import Derived.Lib.LaidU8
import Derived.Lib.DecodeN
import Derived.Shelf.Vars
import Derived.Test.YtodkipbnefngkaaGreatDoorQ3
import Derived.Test.YtodkipbnefngkaaGreatDoorQ4
set_option maxRecDepth 10000
namespace Go.Proofs.YtodkipbnefngkaaGreatDoor
open Go.RowKit Go.Proofs.Tryz
section
open Go.ChangeShapes Go.WideShapes Go.ChangeAt
structure Kept (W W':World):Prop where
 os:W'.os=W.os
 output:W'.output=W.output
 heap:∀(b:Nat) (o:Obj),W.heap[b]? = some o→W'.heap[b]? = some o
theorem Kept.but {W W':World} (h:Kept W W') (may:MemPlace→Prop):W.keptBut W' may:=by
 refine ⟨h.os,h.output,fun i hi=>?_⟩
 have h1:W.heap[i]? = some W.heap[i]:=Array.getElem?_eq_getElem hi
 have h2:=h.heap i _ h1
 rw [h1,h2]
 split
 ·rename_i c t fr c' t' fr' e1 e2
  rw [e1] at e2
  injection e2 with e2
  injection e2 with a1 a2 a3
  subst a1 a2 a3
  exact ⟨rfl,rfl,rfl,fun _ _=>rfl⟩
 ·rename_i es clock es' clock' e1 e2
  rw [e1] at e2
  injection e2 with e2
  injection e2 with a1 a2
  subst a1 a2
  exact .inr ⟨rfl,rfl⟩
 ·rfl
theorem calls_law {f:FuncId} {args:Array Value} {F:List Pf} {v:Value} (h:Spec prog f args F [] (RetV v)) (W:World) (hF:∀x ∈ F,x.p fun b=>W.heap[b]?) :
  Calls prog f args W fun e W'=>e = .returned v∧Kept W W':=by
 have hs:Sat emp W (fun b=>W.heap[b]?) F [] W:=⟨fun b=>W.heap[b]?,emp,fun _ _ e=>e,(fun _ _ e=>by cases e),(fun _ _ e=>by cases e),fun _=>.inr rfl,fun _=>.inr rfl,fun _=>.inr rfl,Sub.refl _,hF,trivial,Same.refl _⟩
 refine (h _ _ _ hs).mono ?_
 rintro e W' ⟨_,rfl,_,hp',hr,st⟩
 exact ⟨rfl,st.same.os,st.same.output,fun b o hb=>st.inp b o (st.sub b o hb)⟩
def contig (P:Program):Nat→List Field→Option Nat
 | o,[]=>some o
 | o,f::fs=>if f.offset=o then contig P (o+P.cellsOf f.type) fs else none
def plainT (P:Program):Nat→TypeId→Bool
 | 0,_=>false
 | k+1,t=>match P.underlying t with
  | some .bool=>true
  | some (.int _)=>true
  | some .string=>true
  | some (.struct fs)=>(fs.toList.all fun f=>plainT P k f.type) && (contig P 0 fs.toList == some (P.cellsOf t))
  | some (.array n e)=>plainT P k e && (P.cellsOf t == n * P.cellsOf e)
  | _=>false
variable {H:Type} {enc:TypeId×Value→H} {P:Program}
theorem Wj {α β:Type} {f g:α→Option β}:∀{l:List α} {r:List β},(∀a ∈ l,∀x,f a=some x→g a=some x)→l.mapM f=some r→l.mapM g=some r
 | [],r,_,h=>h
 | a::l,r,hfg,h=>by
  rw [List.mapM_cons] at h ⊢
  simp only [Option.bind_eq_bind,Option.bind_eq_some_iff,Option.pure_def,Option.some.injEq] at h ⊢
  obtain ⟨x,hx,xs,hxs,rfl⟩:=h
  exact ⟨x,hfg a (by simp) x hx,xs,Wj (fun b hb=>hfg b (by simp [hb])) hxs,rfl⟩
theorem mapM_all {α β:Type} {f:α→Option β} {p:β→Prop}:∀{l:List α} {r:List β},(∀a ∈ l,∀x,f a=some x→p x)→l.mapM f=some r→∀x ∈ r,p x
 | [],r,_,h=>by simp at h;subst h;simp
 | a::l,r,hfg,h=>by
  rw [List.mapM_cons] at h
  simp only [Option.bind_eq_bind,Option.bind_eq_some_iff,Option.pure_def,Option.some.injEq] at h
  obtain ⟨x,hx,xs,hxs,rfl⟩:=h
  intro y hy
  rcases List.mem_cons.1 hy with rfl|hy
  ·exact hfg a (by simp) y hx
  ·exact mapM_all (fun b hb=>hfg b (by simp [hb])) hxs y hy
theorem X2 {β γ:Type} {f:β→List γ}:∀{l:List β},(∀x ∈ l,f x=[])→l.flatMap f=[]
 | [],_=>rfl
 | a::l,h=>by rw [List.flatMap_cons,h a (by simp),X2 (fun x hx=>h x (by simp [hx]))];rfl
theorem VA:∀(n k:Nat) (t:TypeId) (w:World) (base:Nat) (sp:Nat→Bool) (hd:Bool) (cs:List Value) (x:DataW H×List MemPlace),plainT P k t=true→DataW.trod enc P w base sp hd n t cs=some x→
  x.2=[]∧∀w' base' sp' hd',DataW.trod enc P w' base' sp' hd' n t cs=some x
 | 0,_,_,_,_,_,_,_,_,_,h=>by simp [DataW.trod] at h
 | n+1,0,_,_,_,_,_,_,_,hp,_=>by simp [plainT] at hp
 | n+1,k+1,t,w,base,sp,hd,cs,x,hp,h=>by
  unfold plainT at hp
  split at hp
  ·rename_i hu
   obtain ⟨b,rfl,rfl⟩:=DataW.trod_bool hu h
   exact ⟨rfl,fun _ _ _ _=>by simp [DataW.trod,hu]⟩
  ·rename_i hu
   obtain ⟨z,rfl,rfl,hz⟩:=DataW.trod_int hu h
   exact ⟨rfl,fun _ _ _ _=>by simp [DataW.trod,hu,hz]⟩
  ·rename_i hu
   obtain ⟨s,rfl,rfl,hs⟩:=DataW.trod_string hu h
   exact ⟨rfl,fun _ _ _ _=>by simp [DataW.trod,hu,hs]⟩
  ·rename_i fs hu
   rw [Bool.and_eq_true,List.all_eq_true] at hp
   simp only [DataW.trod,hu] at h ⊢
   split at h
   ·rename_i hl
    simp only [Option.map_eq_some_iff] at h
    obtain ⟨xs,hxs,rfl⟩:=h
    have ih:∀f ∈ fs.toList,∀y,DataW.trod enc P w base sp hd n f.type ((cs.drop f.offset).take (P.cellsOf f.type))=some y→y.2=[]∧∀w' base' sp' hd',DataW.trod enc P w' base' sp' hd' n f.type ((cs.drop f.offset).take (P.cellsOf f.type))=some y:=fun f hf y hy=>
     VA n k f.type w base sp hd _ y (hp.1 f hf) hy
    refine ⟨X2 (mapM_all (fun f hf y hy=>(ih f hf y hy).1) hxs),fun w' base' sp' hd'=>?_⟩
    rw [if_pos hl,Wj (fun f hf y hy=>(ih f hf y hy).2 w' base' sp' hd') hxs]
    rfl
   ·cases h
  ·rename_i m e hu
   rw [Bool.and_eq_true] at hp
   simp only [DataW.trod,hu] at h ⊢
   split at h
   ·rename_i hl
    simp only [Option.map_eq_some_iff] at h
    obtain ⟨xs,hxs,rfl⟩:=h
    have ih:∀i ∈ List.range m,∀y,DataW.trod enc P w base sp hd n e ((cs.drop (i * P.cellsOf e)).take (P.cellsOf e))=some y→y.2=[]∧∀w' base' sp' hd',DataW.trod enc P w' base' sp' hd' n e ((cs.drop (i * P.cellsOf e)).take (P.cellsOf e))=some y:=fun i _ y hy=>
     VA n k e w base sp hd _ y hp.1 hy
    refine ⟨X2 (mapM_all (fun i hi y hy=>(ih i hi y hy).1) hxs),fun w' base' sp' hd'=>?_⟩
    rw [if_pos hl,Wj (fun i hi y hy=>(ih i hi y hy).2 w' base' sp' hd') hxs]
    rfl
   ·cases h
  ·cases hp
theorem XJ {α β:Type} {f:α→Option β}:∀{l:List α} {r:List β},l.mapM f=some r→∀(i:Nat) (a:α),l[i]? = some a→∃b,r[i]? = some b∧f a=some b
 | [],r,_,i,a,hi=>by simp at hi
 | c::l,r,h,i,a,hi=>by
  rw [List.mapM_cons] at h
  simp only [Option.bind_eq_bind,Option.bind_eq_some_iff,Option.pure_def,Option.some.injEq] at h
  obtain ⟨x,hx,xs,hxs,rfl⟩:=h
  cases i with
  | zero=>simp at hi;subst hi;exact ⟨x,by simp,hx⟩
  | succ i=>simpa using XJ hxs i a (by simpa using hi)
theorem cover:∀(fs:List Field) (o total:Nat) (cs cs':List Value),contig P o fs=some total→cs.length=total→cs'.length=total→
  (∀f ∈ fs,(cs.drop f.offset).take (P.cellsOf f.type)=(cs'.drop f.offset).take (P.cellsOf f.type))→cs.drop o=cs'.drop o
 | [],o,total,cs,cs',h,h1,h2,_=>by
  simp only [contig,Option.some.injEq] at h
  rw [List.drop_eq_nil_of_le (by omega),List.drop_eq_nil_of_le (by omega)]
 | f::fs,o,total,cs,cs',h,h1,h2,hp=>by
  unfold contig at h
  split at h
  ·rename_i ho
   have ih:=cover fs (o+P.cellsOf f.type) total cs cs' h h1 h2 fun g hg=>hp g (by simp [hg])
   have h3:=hp f (by simp)
   rw [ho] at h3
   rw [←List.take_append_drop (P.cellsOf f.type) (cs.drop o),←List.take_append_drop (P.cellsOf f.type) (cs'.drop o),List.drop_drop,List.drop_drop,h3,ih]
  ·cases h
theorem trod_inj {H':Type} {enc':TypeId×Value→H'}:∀(n n' k:Nat) (t:TypeId) (w w':World) (base base':Nat) (sp sp':Nat→Bool) (hd hd':Bool) (cs cs':List Value) (x x':DataW H×List MemPlace),plainT P k t=true→
  DataW.trod enc P w base sp hd n t cs=some x→DataW.trod enc P w' base' sp' hd' n' t cs'=some x'→x.1=x'.1→cs=cs'
 | 0,_,_,_,_,_,_,_,_,_,_,_,_,_,_,_,_,h,_,_=>by simp [DataW.trod] at h
 | _+1,0,_,_,_,_,_,_,_,_,_,_,_,_,_,_,_,_,h,_=>by simp [DataW.trod] at h
 | n+1,n'+1,0,_,_,_,_,_,_,_,_,_,_,_,_,_,hp,_,_,_=>by simp [plainT] at hp
 | n+1,n'+1,k+1,t,w,w',base,base',sp,sp',hd,hd',cs,cs',x,x',hp,h,h',he=>by
  unfold plainT at hp
  split at hp
  ·rename_i hu
   obtain ⟨b,rfl,rfl⟩:=DataW.trod_bool hu h
   obtain ⟨b',rfl,rfl⟩:=DataW.trod_bool hu h'
   simp at he;subst he;rfl
  ·rename_i hu
   obtain ⟨z,rfl,rfl,hz⟩:=DataW.trod_int hu h
   obtain ⟨z',rfl,rfl,hz'⟩:=DataW.trod_int hu h'
   simp at he;subst he;rfl
  ·rename_i hu
   obtain ⟨s,rfl,rfl,hs⟩:=DataW.trod_string hu h
   obtain ⟨s',rfl,rfl,hs'⟩:=DataW.trod_string hu h'
   simp at he
   rw [XA (by rw [he]:s.data.toList=s'.data.toList)]
  ·rename_i fs hu
   rw [Bool.and_eq_true,List.all_eq_true,beq_iff_eq] at hp
   simp only [DataW.trod,hu] at h h'
   split at h
   ·rename_i hl
    split at h'
    ·rename_i hl'
     simp only [Option.map_eq_some_iff] at h h'
     obtain ⟨xs,hxs,rfl⟩:=h
     obtain ⟨xs',hxs',rfl⟩:=h'
     simp only [DataW.agg.injEq] at he
     have:=cover fs.toList 0 _ cs cs' hp.2 hl hl' fun f hf=>by
      obtain ⟨i,hi,rfl⟩:=List.mem_iff_getElem.1 hf
      have hi':=List.getElem?_eq_getElem hi
      obtain ⟨y,hy1,hy2⟩:=XJ hxs i _ hi'
      obtain ⟨y',hy1',hy2'⟩:=XJ hxs' i _ hi'
      have hyy:y.1=y'.1:=by
       have h1:(xs.map (·.1))[i]? = some y.1:=by simp [hy1]
       have h2:(xs'.map (·.1))[i]? = some y'.1:=by simp [hy1']
       rw [he] at h1
       exact Option.some.inj (h1.symm.trans h2)
      exact trod_inj (enc':=enc') n n' k _ w w' base base' sp sp' hd hd' _ _ y y' (hp.1 _ hf) hy2 hy2' hyy
     simpa using this
    ·cases h'
   ·cases h
  ·rename_i m e hu
   rw [Bool.and_eq_true,beq_iff_eq] at hp
   simp only [DataW.trod,hu] at h h'
   split at h
   ·rename_i hl
    split at h'
    ·rename_i hl'
     simp only [Option.map_eq_some_iff] at h h'
     obtain ⟨xs,hxs,rfl⟩:=h
     obtain ⟨xs',hxs',rfl⟩:=h'
     simp only [DataW.agg.injEq] at he
     have hpart:∀i,i<m→(cs.drop (i * P.cellsOf e)).take (P.cellsOf e)=(cs'.drop (i * P.cellsOf e)).take (P.cellsOf e):=fun i hi=>by
      have hi':(List.range m)[i]? = some i:=by simp [hi]
      obtain ⟨y,hy1,hy2⟩:=XJ hxs i _ hi'
      obtain ⟨y',hy1',hy2'⟩:=XJ hxs' i _ hi'
      have hyy:y.1=y'.1:=by
       have h1:(xs.map (·.1))[i]? = some y.1:=by simp [hy1]
       have h2:(xs'.map (·.1))[i]? = some y'.1:=by simp [hy1']
       rw [he] at h1
       exact Option.some.inj (h1.symm.trans h2)
      exact trod_inj (enc':=enc') n n' k _ w w' base base' sp sp' hd hd' _ _ y y' hp.1 hy2 hy2' hyy
     apply List.ext_getElem?
     intro j
     by_cases hj:j<m * P.cellsOf e
     ·have hc:0<P.cellsOf e:=Nat.pos_of_ne_zero fun h0=>by rw [h0] at hj;simp at hj
      have h1:=congrArg (fun l=>l[j % P.cellsOf e]?) (hpart (j / P.cellsOf e) (Nat.div_lt_of_lt_mul (by rw [Nat.mul_comm];exact hj)))
      simp only [List.getElem?_take,List.getElem?_drop,if_pos (Nat.mod_lt j hc)] at h1
      rw [show j / P.cellsOf e * P.cellsOf e+j % P.cellsOf e=j by rw [Nat.mul_comm];exact Nat.div_add_mod j _] at h1
      exact h1
     ·rw [List.getElem?_eq_none (by omega),List.getElem?_eq_none (by omega)]
    ·cases h'
   ·cases h
  ·cases hp
theorem post_kept {f:Func} {s:ChangeSpec} {apart fresh handsOn again:Bool} {W W':World} {args:Array Value} {v:Value} {ds gs:List (DataW H)} {before pa pv:List MemPlace}
  (hW:DataW.Whole enc P f.params.toList s.vars apart W args.toList ds gs before)
  (hres:∀(b:Nat) (sp:Nat→Bool) (hd:Bool),DataW.TrodAll enc P W' b sp hd f.resultTypes.toList (v.resultList f.resultTypes.size) (s.fn H (ds++gs)).results [])
  (hargs:∀sp:Nat→Bool,(∀b<W.heap.size,sp b=true)→DataW.TrodAll enc P W' 0 sp true f.params.toList args.toList (s.fn H (ds++gs)).args pa)
  (hvars:∀sp:Nat→Bool,(∀b<W.heap.size,sp b=true)→DataW.TrodVars enc P W' sp s.vars (s.fn H (ds++gs)).vars pv)
  (hps:before=pa++pv) (hk:Kept W W')
  (hok:∀(j:Nat) (t:TypeId) (r:Value),f.resultTypes[j]? = some t→(v.resultList f.resultTypes.size)[j]? = some r→Value.okWide P W' .any 0 t r) :
  s.post enc P f apart fresh handsOn again W args v W':=by
 have hlt:=hW.lt
 refine ⟨ds,gs,before,[],pa,pv,hW,hres _ _ _,hargs _ (fun b hb=>by simpa using hb),hvars _ (fun b hb=>by simpa using hb),World.keptBut_mono (fun p hp=>⟨hp,?_⟩) (hk.but (· ∈ before)),fun _=>?_⟩
 ·rw [hps,List.mem_append] at hp
  exact Or.inr hp
 ·obtain ⟨_,_,_,_,_,hz,hn⟩:=hW
  refine ⟨hok,_,_,([]++pa)++pv,⟨[]++pa,pv,trodAll_append (hargs _ (fun _ _=>rfl)) (hres _ _ _),hvars _ (fun _ _=>rfl),rfl,?_,?_⟩,?_⟩
  ·intro b off hp
   have hm:MemPlace.cell b off ∈ before:=by rw [hps];simpa using hp
   have h1:=hz b off hm
   have h2:b<W.heap.size:=hlt _ hm
   have h4:W.heap[b]? = some W.heap[b]:=Array.getElem?_eq_getElem h2
   have h3:=hk.heap b _ h4
   unfold World.frozen? at h1 ⊢
   dsimp only at h1 ⊢
   rw [h4] at h1
   rw [h3]
   exact h1
  ·intro ha
   have:=hn ha
   rw [hps] at this
   simpa using this
  ·intro p hp _
   rw [hps]
   simpa using hp
inductive SK where
 | b
 | i (k:IntKind)
 | s
def sksF (g:TypeId→Option (List SK)):List Field→Option (List SK)
 | []=>some []
 | f::fs=>match g f.type,sksF g fs with
  | some a,some r=>some (a++r)
  | _,_=>none
def sks (P:Program):Nat→TypeId→Option (List SK)
 | 0,_=>none
 | k+1,t=>match P.underlying t with
  | some .bool=>some [.b]
  | some (.int ik)=>some [.i ik]
  | some .string=>some [.s]
  | some (.struct fs)=>sksF (sks P k) fs.toList
  | some (.array n e)=>(sks P k e).map fun l=>(List.replicate n l).flatten
  | _=>none
def CellOK (M:Nat):SK→Value→Prop
 | .b,v=>∃b,v = .bool b
 | .i k,v=>∃z,v = .int k z∧(Lit.int k z).wf=true
 | .s,v=>∃s:ByteArray,v = .string s∧s.size≤M
def CellsOK (M:Nat):List SK→List Value→Prop
 | [],[]=>True
 | k::ks,v::vs=>CellOK M k v∧CellsOK M ks vs
 | _,_=>False
theorem XW {M:Nat}:∀{a b:List SK} {x y:List Value},CellsOK M a x→CellsOK M b y→CellsOK M (a++b) (x++y)
 | [],_,[],_,_,h=>h
 | _::_,_,_::_,_,⟨h1,h2⟩,h=>⟨h1,XW h2 h⟩
theorem X3 {M M':Nat} (hM:M≤M'):∀{a:List SK} {x:List Value},CellsOK M a x→CellsOK M' a x
 | [],[],_=>trivial
 | k::_,_::_,⟨h1,h2⟩=>⟨by
   cases k with
   | b=>exact h1
   | i k=>exact h1
   | s=>obtain ⟨s,hs,hl⟩:=h1;exact ⟨s,hs,Nat.le_trans hl hM⟩,X3 hM h2⟩
theorem bulk_mem:∀{l:List (DataW H)} {d:DataW H},d ∈ l→Rows.uptoBulk d≤Rows.uptoBulkAll l
 | c::l,d,h=>by
  rcases List.mem_cons.1 h with rfl|h
  ·simp only [Rows.uptoBulkAll];omega
  ·have:=bulk_mem h
   simp only [Rows.uptoBulkAll];omega
theorem sksF_ok {M:Nat} {g:TypeId→Option (List SK)}:∀(fs:List Field) (o total:Nat) (cs:List Value) (ks:List SK),contig P o fs=some total→cs.length=total→sksF g fs=some ks→
  (∀f ∈ fs,∀k,g f.type=some k→CellsOK M k ((cs.drop f.offset).take (P.cellsOf f.type)))→CellsOK M ks (cs.drop o)
 | [],o,total,cs,ks,h,h1,h2,_=>by
  simp only [contig,Option.some.injEq] at h
  simp only [sksF,Option.some.injEq] at h2
  rw [←h2,List.drop_eq_nil_of_le (by omega)];trivial
 | f::fs,o,total,cs,ks,h,h1,h2,hp=>by
  unfold contig at h
  split at h
  ·rename_i ho
   unfold sksF at h2
   split at h2
   ·rename_i a r ha hr
    obtain rfl:=Option.some.inj h2
    have ih:=sksF_ok fs (o+P.cellsOf f.type) total cs r h h1 hr fun g hg=>hp g (by simp [hg])
    have h3:=hp f (by simp) a ha
    rw [ho] at h3
    rw [←List.take_append_drop (P.cellsOf f.type) (cs.drop o),List.drop_drop]
    exact XW h3 ih
   ·cases h2
  ·cases h
theorem arr_cells {M c:Nat} {l:List SK}:∀(m:Nat) (cs:List Value),cs.length=m * c→(∀i,i<m→CellsOK M l ((cs.drop (i * c)).take c))→CellsOK M (List.replicate m l).flatten cs
 | 0,cs,h,_=>by
  have:cs=[]:=List.length_eq_zero_iff.1 (by omega)
  subst this;trivial
 | m+1,cs,h,hp=>by
  have h0:=hp 0 (by omega)
  rw [Nat.zero_mul,List.drop_zero] at h0
  have hl:cs.length=m * c+c:=by rw [h,Nat.succ_mul]
  have ih:=arr_cells (M:=M) (c:=c) (l:=l) m (cs.drop c) (by rw [List.length_drop];omega) fun i hi=>by
   have:=hp (i+1) (by omega)
   rw [List.drop_drop,show c+i * c=(i+1) * c by rw [Nat.succ_mul];omega]
   exact this
  rw [List.replicate_succ,List.flatten_cons,←List.take_append_drop c cs]
  exact XW h0 ih
theorem Wx:∀(n k:Nat) (t:TypeId) (w:World) (base:Nat) (sp:Nat→Bool) (hd:Bool) (cs:List Value) (x:DataW H×List MemPlace) (ks:List SK),plainT P k t=true→sks P k t=some ks→DataW.trod enc P w base sp hd n t cs=some x→CellsOK (Rows.uptoBulk x.1) ks cs
 | 0,_,_,_,_,_,_,_,_,_,_,_,h=>by simp [DataW.trod] at h
 | n+1,0,_,_,_,_,_,_,_,_,hp,_,_=>by simp [plainT] at hp
 | n+1,k+1,t,w,base,sp,hd,cs,x,ks,hp,hk,h=>by
  unfold plainT at hp
  unfold sks at hk
  split at hp
  ·rename_i hu
   rw [hu] at hk
   obtain rfl:=Option.some.inj hk
   obtain ⟨b,rfl,rfl⟩:=DataW.trod_bool hu h
   exact ⟨⟨b,rfl⟩,trivial⟩
  ·rename_i hu
   rw [hu] at hk
   obtain rfl:=Option.some.inj hk
   obtain ⟨z,rfl,rfl,hz⟩:=DataW.trod_int hu h
   exact ⟨⟨z,rfl,hz⟩,trivial⟩
  ·rename_i hu
   rw [hu] at hk
   obtain rfl:=Option.some.inj hk
   obtain ⟨s,rfl,rfl,hs⟩:=DataW.trod_string hu h
   refine ⟨⟨s,rfl,?_⟩,trivial⟩
   have hsz:s.data.toList.length=s.size:=by simp
   simp only [Rows.uptoBulk];omega
  ·rename_i fs hu
   rw [hu] at hk
   rw [Bool.and_eq_true,List.all_eq_true,beq_iff_eq] at hp
   simp only [DataW.trod,hu] at h
   split at h
   ·rename_i hl
    simp only [Option.map_eq_some_iff] at h
    obtain ⟨xs,hxs,rfl⟩:=h
    have:=sksF_ok (M:=Rows.uptoBulk (.agg (xs.map (·.1)))) (g:=sks P k) fs.toList 0 _ cs ks hp.2 hl hk fun f hf k' hk'=>by
     obtain ⟨i,hi,rfl⟩:=List.mem_iff_getElem.1 hf
     obtain ⟨y,hy1,hy2⟩:=XJ hxs i _ (List.getElem?_eq_getElem hi)
     refine X3 ?_ (Wx n k _ w base sp hd _ y k' (hp.1 _ hf) hk' hy2)
     have hm:y.1 ∈ xs.map (·.1):=List.mem_map.2 ⟨y,List.mem_of_getElem? hy1,rfl⟩
     have:=bulk_mem hm
     simp only [Rows.uptoBulk];omega
    simpa using this
   ·cases h
  ·rename_i m e hu
   rw [hu] at hk
   rw [Bool.and_eq_true,beq_iff_eq] at hp
   simp only [DataW.trod,hu] at h
   split at h
   ·rename_i hl
    simp only [Option.map_eq_some_iff] at h hk
    obtain ⟨xs,hxs,rfl⟩:=h
    obtain ⟨l,hl2,rfl⟩:=hk
    refine arr_cells m cs (by rw [hl,hp.2]) fun i hi=>?_
    have hi':(List.range m)[i]? = some i:=by simp [hi]
    obtain ⟨y,hy1,hy2⟩:=XJ hxs i _ hi'
    refine X3 ?_ (Wx n k _ w base sp hd _ y l hp.1 hl2 hy2)
    have hm:y.1 ∈ xs.map (·.1):=List.mem_map.2 ⟨y,List.mem_of_getElem? hy1,rfl⟩
    have:=bulk_mem hm
    simp only [Rows.uptoBulk];omega
   ·cases h
  ·cases hp
end
section
open Go.ChangeShapes Go.WideShapes Go.ChangeAt
theorem Kept.cell {W W':World} (h:Kept W W') {a:Addr} {v:Value} (hc:W.cell? a=some v):W'.cell? a=some v:=by
 unfold World.cell? at hc ⊢
 split at hc
 ·rename_i c T fz hb
  rw [h.heap _ _ hb]
  exact hc
 ·cases hc
theorem Kept.cells {W W':World} (h:Kept W W') {a:Addr} {n:Nat} {cs:List Value} (hc:W.cells? 0 a n=some cs):W'.cells? 0 a n=some cs:=by
 unfold World.cells? at hc ⊢
 rw [if_pos (Nat.zero_le _)] at hc ⊢
 exact Wj (fun i _ x hx=>h.cell hx) hc
variable {H:Type} {enc:TypeId×Value→H} {P:Program}
end
section
open Go.ChangeShapes Go.WideShapes Go.ChangeAt
theorem own:ownKnob prog.godebug=none:=by kernel_rfl
theorem cells_s {M:Nat} {ks:List SK} {cs:List Value} (h:CellsOK M (.s::ks) cs):∃(s:ByteArray) (cs':List Value),cs = .string s::cs'∧s.size≤M∧CellsOK M ks cs':=by
 obtain _|⟨v,cs⟩:=cs
 ·exact h.elim
 ·obtain ⟨⟨z,rfl,hz⟩,h⟩:=h
  exact ⟨z,cs,rfl,hz,h⟩
section
variable {H:Type} {enc:TypeId×Value→H} {W:World} {base:Nat} {v:Value} {d:DataW H} {p:List MemPlace}
theorem open_str {t:TypeId} (hu:prog.underlying t=some .string) (hv:Value.okWide prog W .any base t v) (h:DataW.Trod enc prog W 0 (fun _=>true) true t v d p) :
  ∃s:ByteArray,v = .string s∧s.size≤Rows.uptoBulk d∧p=[]∧∀w' base' sp' hd',DataW.Trod enc prog w' base' sp' hd' t v d []:=by
 obtain ⟨s,rfl⟩:=okWide_string hu hv
 obtain ⟨n,hn⟩:=h
 have hpl:plainT prog 5 t=true:=by unfold plainT;rw [hu]
 have hsk:sks prog 5 t=some [.s]:=by unfold sks;rw [hu]
 have hc:=Wx n 5 _ W 0 _ _ _ _ _ hpl hsk hn
 obtain ⟨hp,hr⟩:=VA n 5 _ W 0 _ _ _ _ hpl hn
 dsimp only at hp
 subst hp
 obtain ⟨s',cs',h1,h2,_⟩:=cells_s hc
 injection h1 with h3 _
 injection h3 with h4
 exact ⟨s,rfl,by rw [h4];exact h2,rfl,fun w' base' sp' hd'=>⟨n,hr w' base' sp' hd'⟩⟩
end
end
section
variable {n:Nat} {C:Cx} {Q:Exit→Act→World→Prop} {E E':List (Nat×Value)} {F F' F1 Fs F0:List Pf} {R R' R0 Rs N N' A:List HP} {k k':List Fr} {ops l:List Oper} {L L':List (Nat×Nat)} {Tl:List Nat} {i d:Nat} {t ty0:TypeId} {x y:Operand} {pos:String} {aft:Array Edge} {gd:Option (Nat×Bool)} {v:Value}
end
structure It where
 who:UInt8
 nu:UInt8
 tk:UInt8
 ch:UInt8
 tx:ByteArray
def itf (x:It):List Value:=[.int .u8 x.who.toNat,.int .u8 x.nu.toNat,.int .u8 x.tk.toNat,.int .u8 x.ch.toNat,.string x.tx]
def It.v (x:It):Value:=.agg #[.int .u8 x.who.toNat,.int .u8 x.nu.toNat,.int .u8 x.tk.toNat,.int .u8 x.ch.toNat,.string x.tx]
def nm0:ByteArray:=⟨#[49]⟩
def nm1:ByteArray:=⟨#[49,46,50]⟩
def nm2:ByteArray:=⟨#[51]⟩
def who3 (j:Nat):ByteArray:=if j=0 then nm0 else if j=1 then nm1 else nm2
def ito (x:It):Ou:=⟨1+(x.ch.toNat % 4:Nat),⟨#[116]⟩,x.tx.extract 0 (min x.tx.size 20),5⟩
def itn (x:It):Nm:=⟨18,who3 (x.who.toNat % 3),(x.nu.toNat % 4:Nat),(x.tk.toNat % 8:Nat),⟨#[]⟩⟩
def itl (x:It) (p:Nat):Lf:=⟨⟨who3 (x.who.toNat % 3),(x.nu.toNat % 4:Nat),(x.tk.toNat % 8:Nat),ito x⟩,(9+p:Nat),(p / 5:Nat)⟩
def stF (es:Al) (l:List It):Al:=l.foldl (fun es x=>insO (itn x) (oencS (ito x)) es) es
def ldF (l:List It):List Lf:=l.mapIdx fun p x=>itl x p
structure B1 (now:List It) where
 i:Nat
 q:Option Addr
 es:Al
 h1:i≤now.length∧i≤20
 h2:es=stF [] (now.take i)
 h3:es.length≤i
structure B2 (left:List It) where
 i:Nat
 h1:i≤left.length∧i≤20
section
open Go.ChangeShapes Go.WideShapes Go.ChangeAt

end
def kx:It:=⟨1,0,0,0,⟨#[120]⟩⟩
def ky:It:=⟨1,0,0,0,⟨#[121]⟩⟩
def kc:Cq:=⟨3,nm1,0,0,ito ky,0,ito kx,0⟩
def sameC (c:Cq) (y:En):Bool:=decide (c.who=y.who) && (decide (c.nu=y.nu) && (decide (c.newAt=y.tk) && decide (c.new=y.o)))
def Cq.v (c:Cq):Value:=.agg #[.int .i64 c.kind,.string c.who,.int .i64 c.nu,.int .i64 c.place,.int .i64 c.old.ch,.string c.old.tg,.string c.old.tx,.int .i64 c.old.us,.int .i64 c.oldAt,.int .i64 c.new.ch,.string c.new.tg,.string c.new.tx,.int .i64 c.new.us,.int .i64 c.newAt]
def eqq (a b:Cq):Bool:=(a.kind == b.kind) && ((a.who.toList == b.who.toList) && ((a.nu == b.nu) && ((a.place == b.place) && (((a.old.ch == b.old.ch) && ((a.old.tg.toList == b.old.tg.toList) && ((a.old.tx.toList == b.old.tx.toList) && ((a.old.us == b.old.us) && true)))) && ((a.oldAt == b.oldAt) && (((a.new.ch == b.new.ch) && ((a.new.tg.toList == b.new.tg.toList) && ((a.new.tx.toList == b.new.tx.toList) && ((a.new.us == b.new.us) && true)))) && ((a.newAt == b.newAt) && true)))))))
def difE (l:List Cq):List Cq:=l.filter fun c=>decide (c.kind≠1)
def cn (j:Int) (l:List Cq):Nat:=l.countP fun c=>decide (c.kind=j)
def cn0 (l:List Cq):Nat:=l.countP fun c=>decide (c.kind<1∨4<c.kind)
def cntC (l:List Cq):List Value:=[.int .i64 (cn0 l:Int),.int .i64 (cn 1 l:Int),.int .i64 (cn 2 l:Int),.int .i64 (cn 3 l:Int),.int .i64 (cn 4 l:Int)]
structure D1 (l:List Cq) where
 i:Nat
 o:Option Addr
 cap:Nat
 hi:i≤l.length
structure D2 (l:List Cq) where
 i:Nat
 hi:i≤l.length

def i8f (x:Int8):List Value:=[.int .i8 x.toInt]
def kq (c:Cq) (k:Int8) (p:Nat):Cq:={c with kind:=k.toInt,place:=p}
def kqs (c:Cq) (ks:List Int8):List Cq:=ks.mapIdx fun p k=>kq c k p
structure N1 (ks:List Int8) where
 i:Nat
 o:Option Addr
 cap:Nat
 o':Option Addr
 cap':Nat
 hi:i≤ks.length
section
open Go.ChangeShapes Go.WideShapes Go.ChangeAt

end
section
open Go.ChangeShapes Go.WideShapes Go.ChangeAt
def laidR : List (String × DataW Unit) := [("math/bits.deBruijn32tab", Rows.laid_math_bits_deBruijn32tab), ("math/bits.deBruijn64tab", Rows.laid_math_bits_deBruijn64tab), ("internal/strconv.uint64pow10", Rows.laid_internal_strconv_uint64pow10), ("unicode/utf8.acceptRanges", Rows.laid_unicode_utf8_acceptRanges), ("strconv.ErrRange", Rows.laid_strconv_ErrRange), ("strconv.ErrSyntax", Rows.laid_strconv_ErrSyntax), ("unicode/utf8.first", Rows.laid_unicode_utf8_first)]
theorem tP10:(prog.globals[3]?).map (·.type)=some 218:=by kernel_rfl
theorem plP10:plainT prog 5 218=true:=by decide +kernel
theorem rdP10 (w:World):DataW.trod (fun _=>()) prog w 0 (fun _=>true) false 8 218 (Lib.pow10Tab.map fun z=>Value.int .u64 z)=some (Rows.laid_internal_strconv_uint64pow10,[]):=by kernel_rfl
theorem star_err : "*" ++ "errors.errorString" = "*errors.errorString" := by decide
theorem row_err (u : TypeId) (h : prog.typeName? 3 u = some "*errors.errorString") : u = 242 :=
 typeName_ptr_named (nm := "errors.errorString") (by rw [star_err]; kernel_rfl) (by kernel_rfl) (by decide) u (by rw [star_err]; exact h)
theorem var_one {W:World} {g:Nat} {n:String} {v:Value} (hg:prog.globalNamed n=some g) (h:W.var? prog n=some #[v]):∃T fz,W.heap[g]? = some (.cells #[v] T fz):=by
 simp only [World.var?,hg,Option.bind_some] at h
 split at h
 ·rename_i cs t fr hb
  obtain rfl:=Option.some.inj h
  exact ⟨t,fr,hb⟩
 ·cases h
theorem tabsR {W:World} (h:laidMetH prog laidR W):(ErA.p fun b=>W.heap[b]?)∧P10.p fun b=>W.heap[b]?:=by
 rw [MakeChecks.laidMetH_plain _ _ _ (by kernel_rfl)] at h
 have h3:=h.tail.tail
 have h5:=h3.tail.tail
 have h6:=h5.tail
 refine ⟨?_,?_⟩
 ·obtain ⟨a1, s1, hv1, _⟩ := laid_sentinel h5 (show prog.globalNamed "strconv.ErrRange" = some 7 by kernel_rfl) (show (prog.globals[7]?).map (·.type) = some 84 by kernel_rfl) underlying84 row_err underlying242 underlying244 rfl rfl underlying9 (by kernel_rfl) (by kernel_rfl)
  obtain ⟨a2, s2, hv2, _⟩ := laid_sentinel h6 (show prog.globalNamed "strconv.ErrSyntax" = some 6 by kernel_rfl) (show (prog.globals[6]?).map (·.type) = some 84 by kernel_rfl) underlying84 row_err underlying242 underlying244 rfl rfl underlying9 (by kernel_rfl) (by kernel_rfl)
  obtain ⟨T1, f1, e1⟩ := var_one (show prog.globalNamed "strconv.ErrRange" = some 7 by kernel_rfl) hv1
  obtain ⟨T2, f2, e2⟩ := var_one (show prog.globalNamed "strconv.ErrSyntax" = some 6 by kernel_rfl) hv2
  exact ⟨⟨_,T2,f2,.inr ⟨_,_,rfl⟩,e2⟩,⟨_,T1,f1,.inr ⟨_,_,rfl⟩,e1⟩⟩
 ·obtain ⟨ps,⟨g1,t1,cs1,f1,p1,q1,hg1,ht1,hv1,hd1,_⟩,_⟩:=h3
  obtain rfl := Option.some.inj ((show prog.globalNamed "internal/strconv.uint64pow10" = some 3 by kernel_rfl).symm.trans hg1)
  obtain rfl:=Option.some.inj (tP10.symm.trans ht1)
  have hcs:cs1.toList=Lib.pow10Tab.map fun z=>Value.int .u64 z:=trod_inj (enc':=fun _=>()) _ _ _ _ W W _ _ _ _ _ _ _ _ _ _ plP10 hd1 (rdP10 W) rfl
  unfold World.var? at hv1
  rw [hg1] at hv1
  simp only [Option.bind_some] at hv1
  split at hv1
  ·rename_i cs t fr hb
   obtain rfl:=Option.some.inj hv1
   exact ⟨t,fr,by rw [←hcs];simpa using hb⟩
  ·cases hv1
theorem mxlR {W:World} (h:W.ShapedOpen prog):MxL.p fun b=>W.heap[b]?:=by
 obtain ⟨cs,hh,hs,hr⟩:=h.1 0 #[.int .i64 0] 3 (of_decide_eq_true (by kernel_rfl)) (by kernel_rfl)
 obtain ⟨ts,hts,_,hall⟩:=hr (by kernel_rfl)
 rw [show prog.cellTypes prog.depth 3=some [3] by kernel_rfl] at hts
 cases hts
 have hs:cs.size=1:=hs
 have h1:0<cs.size:=by omega
 obtain ⟨u,hu',hok⟩:=hall 0 cs[0] (by simp [h1])
 have:u=3:=by simpa using hu'.symm
 subst this
 have e:cs = #[cs[0]]:=by
  apply Array.ext
  ·simp [hs]
  ·intro i hi hj
   obtain rfl:i=0:=by simp at hj;omega
   rfl
 unfold Cell.ok at hok
 rw [underlying3] at hok
 cases hv:cs[0]<;>rw [hv] at hok<;>simp at hok
 case int k n=>
  rw [hv,hok.1] at e
  exact ⟨n,3,(0,0),by show W.heap[_]? = _;rw [hh,e]⟩
def bits (l:List Int):List Value:=l.map fun z=>Value.int .u8 z
def b32:List Int:=[0,1,28,2,29,14,24,3,30,22,20,15,25,17,4,8,31,27,13,23,21,19,16,7,26,12,18,6,11,5,10,9]
def b64:List Int:=[0,1,56,2,57,49,28,3,61,58,42,50,38,29,17,4,62,47,59,36,45,43,51,22,53,39,33,30,24,18,12,5,63,55,48,27,60,41,37,16,46,35,44,21,52,32,23,11,54,26,40,15,34,20,31,10,25,14,19,9,13,8,7,6]
noncomputable def laidWorldR (os:Os):World:=
 let N:=(World.settled prog os).heap.size
 let w0:=World.holding prog os ⟨#[.cells #[.string ⟨#[118,97,108,117,101,32,111,117,116,32,111,102,32,114,97,110,103,101]⟩] 244,.cells #[.string ⟨#[105,110,118,97,108,105,100,32,115,121,110,116,97,120]⟩] 244],#[],[]⟩
 let put (h:Array Obj) (g:Nat) (cs:Array Value):Array Obj:=h.modify g fun
  | .cells _ t frozen=>.cells cs t frozen
  | o=>o
 let h1:=put w0.heap 4 (bits b32).toArray
 let h2:=put h1 5 (bits b64).toArray
 let h3:=put h2 3 (Lib.pow10Tab.map fun z=>Value.int .u64 z).toArray
 let h4:=put h3 2 ((List.range 16).flatMap fun i=>[Value.int .u8 (Lib.accLo i),Value.int .u8 (Lib.accHi i)]).toArray
 let h5:=put h4 7 #[.iface 242 (.pointer (some ⟨N,0,none⟩))]
 let h6:=put h5 6 #[.iface 242 (.pointer (some ⟨N+1,0,none⟩))]
 let h7:=put h6 1 (Lib.firstTab.map fun z=>Value.int .u8 z).toArray
 {w0 with heap:=h7}
end
end Go.Proofs.YtodkipbnefngkaaGreatDoor
