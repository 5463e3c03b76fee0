/-
  From contracts to the statements' form: memory that was there stays; plain data read the same everywhere; the table of the kinds.
  Slices of plain data as arguments: the fact that they lie in memory, and that they read the same later.
  The settled world; arguments of plain types, opened.
  Structures that hold slices of plain data, as arguments.
  An operation of the statements of layer 35, as an argument.
  A list of operations of the statements of layer 35, as an argument: each of them holds a slice.
  The statements of layer 35: up to 20 operations, in views and in the model.
  What the functions that the statements about layer 35 call do with any view: Runs, the law's bytes.
  What is there in the law ProcessThreads.
  What holds in the turns of the law ProcessThreads.
  Rules for loads out of an owned slice that is also appended to.
  The law ProcessMemories, walked.
  The contract of consequence.Compare.
  Contracts of the statements' own functions: names, out, build.
  The statements' arguments, opened: items, bytes.
  A slice of bytes as an argument.
  The laid tables: the kinds of objects, the powers of ten.
  Conditions: those that each theorem states.
-/
import Derived.Test.YtbbdafjdbhpbmaaGreatDoorG2
import Derived.Test.YtbbdafjdbhpbmaaGreatDoorRows
import Derived.Test.YtbbdafjdbhpbmaaGreatDoorCards
import Derived.Test.YtbbdafjdbhpbmaaGreatDoorTie
import Derived.ChangeSame
import Derived.ProofKit
import Derived.OpenShut
import Derived.MakeChecks
import Derived.Deep.DeepHandedRow
import Derived.Test.YtbbdafjdbhpbmaaGreatDoorG3
import Derived.Test.YtbbdafjdbhpbmaaGreatDoorG5
import Derived.Test.YtbbdafjdbhpbmaaGreatDoorG4
set_option maxRecDepth 10000
namespace Go.Proofs.YtbbdafjdbhpbmaaGreatDoor
open Go.RowKit Go.Proofs.Tryz
variable {H:Type} {P:Program}
section
open Go.ChangeShapes Go.WideShapes Go.ChangeAt
structure Kept (W W':World):Prop where
 os:W'.os=W.os
 output:W'.output=W.output
 heap:∀(b:Nat) (o:Obj),W.heap[b]? = some o→W'.heap[b]? = some o
theorem Kept.but {W W':World} (h:Kept W W') (may:MemPlace→Prop):W.keptBut W' may:=by
 refine ⟨h.os,h.output,fun i hi=>?_⟩
 have h1:W.heap[i]? = some W.heap[i]:=Array.getElem?_eq_getElem hi
 have h2:=h.heap i _ h1
 rw [h1,h2]
 split
 ·rename_i c t fr c' t' fr' e1 e2
  rw [e1] at e2
  injection e2 with e2
  injection e2 with a1 a2 a3
  subst a1 a2 a3
  exact ⟨rfl,rfl,rfl,fun _ _=>rfl⟩
 ·rename_i es clock es' clock' e1 e2
  rw [e1] at e2
  injection e2 with e2
  injection e2 with a1 a2
  subst a1 a2
  exact .inr ⟨rfl,rfl⟩
 ·rfl
theorem UM {f:FuncId} {args:Array Value} {F:List Pf} {v:Value} (h:Spec prog f args F [] (RetV v)) (W:World) (hF:∀x ∈ F,x.p fun b=>W.heap[b]?) :
  Calls prog f args W fun e W'=>e = .returned v∧Kept W W':=by
 have hs:Sat emp W (fun b=>W.heap[b]?) F [] W:=⟨fun b=>W.heap[b]?,emp,fun _ _ e=>e,(fun _ _ e=>by cases e),(fun _ _ e=>by cases e),fun _=>.inr rfl,fun _=>.inr rfl,fun _=>.inr rfl,Sub.refl _,hF,trivial,Same.refl _⟩
 refine (h _ _ _ hs).mono ?_
 rintro e W' ⟨_,rfl,_,hp',hr,st⟩
 exact ⟨rfl,st.same.os,st.same.output,fun b o hb=>st.inp b o (st.sub b o hb)⟩
def contig (P:Program):Nat→List Field→Option Nat
 | o,[]=>some o
 | o,f::fs=>if f.offset=o then contig P (o+P.cellsOf f.type) fs else none
def plainT (P:Program):Nat→TypeId→Bool
 | 0,_=>false
 | k+1,t=>match P.underlying t with
  | some .bool=>true
  | some (.int _)=>true
  | some .string=>true
  | some (.struct fs)=>(fs.toList.all fun f=>plainT P k f.type) && (contig P 0 fs.toList == some (P.cellsOf t))
  | some (.array n e)=>plainT P k e && (P.cellsOf t == n * P.cellsOf e)
  | _=>false
variable {enc:TypeId×Value→H}
theorem YO {α β:Type} {f g:α→Option β}:∀{l:List α} {r:List β},(∀a ∈ l,∀x,f a=some x→g a=some x)→l.mapM f=some r→l.mapM g=some r
 | [],r,_,h=>h
 | a::l,r,hfg,h=>by
  rw [List.mapM_cons] at h ⊢
  simp only [Option.bind_eq_bind,Option.bind_eq_some_iff,Option.pure_def,Option.some.injEq] at h ⊢
  obtain ⟨x,hx,xs,hxs,rfl⟩:=h
  exact ⟨x,hfg a (by simp) x hx,xs,YO (fun b hb=>hfg b (by simp [hb])) hxs,rfl⟩
theorem mapM_all {α β:Type} {f:α→Option β} {p:β→Prop}:∀{l:List α} {r:List β},(∀a ∈ l,∀x,f a=some x→p x)→l.mapM f=some r→∀x ∈ r,p x
 | [],r,_,h=>by simp at h;subst h;simp
 | a::l,r,hfg,h=>by
  rw [List.mapM_cons] at h
  simp only [Option.bind_eq_bind,Option.bind_eq_some_iff,Option.pure_def,Option.some.injEq] at h
  obtain ⟨x,hx,xs,hxs,rfl⟩:=h
  intro y hy
  rcases List.mem_cons.1 hy with rfl|hy
  ·exact hfg a (by simp) y hx
  ·exact mapM_all (fun b hb=>hfg b (by simp [hb])) hxs y hy
theorem WH {β γ:Type} {f:β→List γ}:∀{l:List β},(∀x ∈ l,f x=[])→l.flatMap f=[]
 | [],_=>rfl
 | a::l,h=>by rw [List.flatMap_cons,h a (by simp),WH (fun x hx=>h x (by simp [hx]))];rfl
theorem Xm:∀(n k:Nat) (t:TypeId) (w:World) (base:Nat) (sp:Nat→Bool) (hd:Bool) (cs:List Value) (x:DataW H×List MemPlace),plainT P k t=true→DataW.trod enc P w base sp hd n t cs=some x→
  x.2=[]∧∀w' base' sp' hd',DataW.trod enc P w' base' sp' hd' n t cs=some x
 | 0,_,_,_,_,_,_,_,_,_,h=>by simp [DataW.trod] at h
 | n+1,0,_,_,_,_,_,_,_,hp,_=>by simp [plainT] at hp
 | n+1,k+1,t,w,base,sp,hd,cs,x,hp,h=>by
  unfold plainT at hp
  split at hp
  ·rename_i hu
   obtain ⟨b,rfl,rfl⟩:=DataW.trod_bool hu h
   exact ⟨rfl,fun _ _ _ _=>by simp [DataW.trod,hu]⟩
  ·rename_i hu
   obtain ⟨z,rfl,rfl,hz⟩:=DataW.trod_int hu h
   exact ⟨rfl,fun _ _ _ _=>by simp [DataW.trod,hu,hz]⟩
  ·rename_i hu
   obtain ⟨s,rfl,rfl,hs⟩:=DataW.trod_string hu h
   exact ⟨rfl,fun _ _ _ _=>by simp [DataW.trod,hu,hs]⟩
  ·rename_i fs hu
   rw [Bool.and_eq_true,List.all_eq_true] at hp
   simp only [DataW.trod,hu] at h ⊢
   split at h
   ·rename_i hl
    simp only [Option.map_eq_some_iff] at h
    obtain ⟨xs,hxs,rfl⟩:=h
    have ih:∀f ∈ fs.toList,∀y,DataW.trod enc P w base sp hd n f.type ((cs.drop f.offset).take (P.cellsOf f.type))=some y→y.2=[]∧∀w' base' sp' hd',DataW.trod enc P w' base' sp' hd' n f.type ((cs.drop f.offset).take (P.cellsOf f.type))=some y:=fun f hf y hy=>
     Xm n k f.type w base sp hd _ y (hp.1 f hf) hy
    refine ⟨WH (mapM_all (fun f hf y hy=>(ih f hf y hy).1) hxs),fun w' base' sp' hd'=>?_⟩
    rw [if_pos hl,YO (fun f hf y hy=>(ih f hf y hy).2 w' base' sp' hd') hxs]
    rfl
   ·cases h
  ·rename_i m e hu
   rw [Bool.and_eq_true] at hp
   simp only [DataW.trod,hu] at h ⊢
   split at h
   ·rename_i hl
    simp only [Option.map_eq_some_iff] at h
    obtain ⟨xs,hxs,rfl⟩:=h
    have ih:∀i ∈ List.range m,∀y,DataW.trod enc P w base sp hd n e ((cs.drop (i * P.cellsOf e)).take (P.cellsOf e))=some y→y.2=[]∧∀w' base' sp' hd',DataW.trod enc P w' base' sp' hd' n e ((cs.drop (i * P.cellsOf e)).take (P.cellsOf e))=some y:=fun i _ y hy=>
     Xm n k e w base sp hd _ y hp.1 hy
    refine ⟨WH (mapM_all (fun i hi y hy=>(ih i hi y hy).1) hxs),fun w' base' sp' hd'=>?_⟩
    rw [if_pos hl,YO (fun i hi y hy=>(ih i hi y hy).2 w' base' sp' hd') hxs]
    rfl
   ·cases h
  ·cases hp
theorem YL {α β:Type} {f:α→Option β}:∀{l:List α} {r:List β},l.mapM f=some r→∀(i:Nat) (a:α),l[i]? = some a→∃b,r[i]? = some b∧f a=some b
 | [],r,_,i,a,hi=>by simp at hi
 | c::l,r,h,i,a,hi=>by
  rw [List.mapM_cons] at h
  simp only [Option.bind_eq_bind,Option.bind_eq_some_iff,Option.pure_def,Option.some.injEq] at h
  obtain ⟨x,hx,xs,hxs,rfl⟩:=h
  cases i with
  | zero=>simp at hi;subst hi;exact ⟨x,by simp,hx⟩
  | succ i=>simpa using YL hxs i a (by simpa using hi)
theorem cover:∀(fs:List Field) (o total:Nat) (cs cs':List Value),contig P o fs=some total→cs.length=total→cs'.length=total→
  (∀f ∈ fs,(cs.drop f.offset).take (P.cellsOf f.type)=(cs'.drop f.offset).take (P.cellsOf f.type))→cs.drop o=cs'.drop o
 | [],o,total,cs,cs',h,h1,h2,_=>by
  simp only [contig,Option.some.injEq] at h
  rw [List.drop_eq_nil_of_le (by omega),List.drop_eq_nil_of_le (by omega)]
 | f::fs,o,total,cs,cs',h,h1,h2,hp=>by
  unfold contig at h
  split at h
  ·rename_i ho
   have ih:=cover fs (o+P.cellsOf f.type) total cs cs' h h1 h2 fun g hg=>hp g (by simp [hg])
   have h3:=hp f (by simp)
   rw [ho] at h3
   rw [←List.take_append_drop (P.cellsOf f.type) (cs.drop o),←List.take_append_drop (P.cellsOf f.type) (cs'.drop o),List.drop_drop,List.drop_drop,h3,ih]
  ·cases h
theorem Vl {H':Type} {enc':TypeId×Value→H'}:∀(n n' k:Nat) (t:TypeId) (w w':World) (base base':Nat) (sp sp':Nat→Bool) (hd hd':Bool) (cs cs':List Value) (x x':DataW H×List MemPlace),plainT P k t=true→
  DataW.trod enc P w base sp hd n t cs=some x→DataW.trod enc P w' base' sp' hd' n' t cs'=some x'→x.1=x'.1→cs=cs'
 | 0,_,_,_,_,_,_,_,_,_,_,_,_,_,_,_,_,h,_,_=>by simp [DataW.trod] at h
 | _+1,0,_,_,_,_,_,_,_,_,_,_,_,_,_,_,_,_,h,_=>by simp [DataW.trod] at h
 | n+1,n'+1,0,_,_,_,_,_,_,_,_,_,_,_,_,_,hp,_,_,_=>by simp [plainT] at hp
 | n+1,n'+1,k+1,t,w,w',base,base',sp,sp',hd,hd',cs,cs',x,x',hp,h,h',he=>by
  unfold plainT at hp
  split at hp
  ·rename_i hu
   obtain ⟨b,rfl,rfl⟩:=DataW.trod_bool hu h
   obtain ⟨b',rfl,rfl⟩:=DataW.trod_bool hu h'
   simp at he;subst he;rfl
  ·rename_i hu
   obtain ⟨z,rfl,rfl,hz⟩:=DataW.trod_int hu h
   obtain ⟨z',rfl,rfl,hz'⟩:=DataW.trod_int hu h'
   simp at he;subst he;rfl
  ·rename_i hu
   obtain ⟨s,rfl,rfl,hs⟩:=DataW.trod_string hu h
   obtain ⟨s',rfl,rfl,hs'⟩:=DataW.trod_string hu h'
   simp at he
   rw [XN (by rw [he]:s.data.toList=s'.data.toList)]
  ·rename_i fs hu
   rw [Bool.and_eq_true,List.all_eq_true,beq_iff_eq] at hp
   simp only [DataW.trod,hu] at h h'
   split at h
   ·rename_i hl
    split at h'
    ·rename_i hl'
     simp only [Option.map_eq_some_iff] at h h'
     obtain ⟨xs,hxs,rfl⟩:=h
     obtain ⟨xs',hxs',rfl⟩:=h'
     simp only [DataW.agg.injEq] at he
     have:=cover fs.toList 0 _ cs cs' hp.2 hl hl' fun f hf=>by
      obtain ⟨i,hi,rfl⟩:=List.mem_iff_getElem.1 hf
      have hi':=List.getElem?_eq_getElem hi
      obtain ⟨y,hy1,hy2⟩:=YL hxs i _ hi'
      obtain ⟨y',hy1',hy2'⟩:=YL hxs' i _ hi'
      have hyy:y.1=y'.1:=by
       have h1:(xs.map (·.1))[i]? = some y.1:=by simp [hy1]
       have h2:(xs'.map (·.1))[i]? = some y'.1:=by simp [hy1']
       rw [he] at h1
       exact Option.some.inj (h1.symm.trans h2)
      exact Vl (enc':=enc') n n' k _ w w' base base' sp sp' hd hd' _ _ y y' (hp.1 _ hf) hy2 hy2' hyy
     simpa using this
    ·cases h'
   ·cases h
  ·rename_i m e hu
   rw [Bool.and_eq_true,beq_iff_eq] at hp
   simp only [DataW.trod,hu] at h h'
   split at h
   ·rename_i hl
    split at h'
    ·rename_i hl'
     simp only [Option.map_eq_some_iff] at h h'
     obtain ⟨xs,hxs,rfl⟩:=h
     obtain ⟨xs',hxs',rfl⟩:=h'
     simp only [DataW.agg.injEq] at he
     have hpart:∀i,i<m→(cs.drop (i * P.cellsOf e)).take (P.cellsOf e)=(cs'.drop (i * P.cellsOf e)).take (P.cellsOf e):=fun i hi=>by
      have hi':(List.range m)[i]? = some i:=by simp [hi]
      obtain ⟨y,hy1,hy2⟩:=YL hxs i _ hi'
      obtain ⟨y',hy1',hy2'⟩:=YL hxs' i _ hi'
      have hyy:y.1=y'.1:=by
       have h1:(xs.map (·.1))[i]? = some y.1:=by simp [hy1]
       have h2:(xs'.map (·.1))[i]? = some y'.1:=by simp [hy1']
       rw [he] at h1
       exact Option.some.inj (h1.symm.trans h2)
      exact Vl (enc':=enc') n n' k _ w w' base base' sp sp' hd hd' _ _ y y' hp.1 hy2 hy2' hyy
     apply List.ext_getElem?
     intro j
     by_cases hj:j<m * P.cellsOf e
     ·have hc:0<P.cellsOf e:=Nat.pos_of_ne_zero fun h0=>by rw [h0] at hj;simp at hj
      have h1:=congrArg (fun l=>l[j % P.cellsOf e]?) (hpart (j / P.cellsOf e) (Nat.div_lt_of_lt_mul (by rw [Nat.mul_comm];exact hj)))
      simp only [List.getElem?_take,List.getElem?_drop,if_pos (Nat.mod_lt j hc)] at h1
      rw [show j / P.cellsOf e * P.cellsOf e+j % P.cellsOf e=j by rw [Nat.mul_comm];exact Nat.div_add_mod j _] at h1
      exact h1
     ·rw [List.getElem?_eq_none (by omega),List.getElem?_eq_none (by omega)]
    ·cases h'
   ·cases h
  ·cases hp
theorem UQ {f:Func} {s:ChangeSpec} {apart fresh handsOn again:Bool} {W W':World} {args:Array Value} {v:Value} {ds gs:List (DataW H)} {before pa pv:List MemPlace}
  (hW:DataW.Whole enc P f.params.toList s.vars apart W args.toList ds gs before)
  (hres:∀(b:Nat) (sp:Nat→Bool) (hd:Bool),DataW.TrodAll enc P W' b sp hd f.resultTypes.toList (v.resultList f.resultTypes.size) (s.fn H (ds++gs)).results [])
  (hargs:∀sp:Nat→Bool,(∀b<W.heap.size,sp b=true)→DataW.TrodAll enc P W' 0 sp true f.params.toList args.toList (s.fn H (ds++gs)).args pa)
  (hvars:∀sp:Nat→Bool,(∀b<W.heap.size,sp b=true)→DataW.TrodVars enc P W' sp s.vars (s.fn H (ds++gs)).vars pv)
  (hps:before=pa++pv) (hk:Kept W W')
  (hok:∀(j:Nat) (t:TypeId) (r:Value),f.resultTypes[j]? = some t→(v.resultList f.resultTypes.size)[j]? = some r→Value.okWide P W' .any 0 t r) :
  s.post enc P f apart fresh handsOn again W args v W':=by
 have hlt:=hW.lt
 refine ⟨ds,gs,before,[],pa,pv,hW,hres _ _ _,hargs _ (fun b hb=>by simpa using hb),hvars _ (fun b hb=>by simpa using hb),World.keptBut_mono (fun p hp=>⟨hp,?_⟩) (hk.but (· ∈ before)),fun _=>?_⟩
 ·rw [hps,List.mem_append] at hp
  exact Or.inr hp
 ·obtain ⟨_,_,_,_,_,hz,hn⟩:=hW
  refine ⟨hok,_,_,([]++pa)++pv,⟨[]++pa,pv,trodAll_append (hargs _ (fun _ _=>rfl)) (hres _ _ _),hvars _ (fun _ _=>rfl),rfl,?_,?_⟩,?_⟩
  ·intro b off hp
   have hm:MemPlace.cell b off ∈ before:=by rw [hps];simpa using hp
   have h1:=hz b off hm
   have h2:b<W.heap.size:=hlt _ hm
   have h4:W.heap[b]? = some W.heap[b]:=Array.getElem?_eq_getElem h2
   have h3:=hk.heap b _ h4
   unfold World.frozen? at h1 ⊢
   dsimp only at h1 ⊢
   rw [h4] at h1
   rw [h3]
   exact h1
  ·intro ha
   have:=hn ha
   rw [hps] at this
   simpa using this
  ·intro p hp _
   rw [hps]
   simpa using hp
def laidU : List (String × DataW Unit) := [("replevin/object.usages", Rows.laid_replevin_object_usages)]
theorem gUsg : prog.globalNamed "replevin/object.usages" = some 0 := by kernel_rfl
theorem tUsg:(prog.globals[0]?).map (·.type)=some 247:=by kernel_rfl
theorem plUsg:plainT prog 5 247=true:=by decide +kernel
theorem rdUsg (w:World):DataW.trod (fun _=>()) prog w 0 (fun _=>true) false 8 247 (usages.flatMap uf)=some (Rows.laid_replevin_object_usages,[]):=by kernel_rfl
inductive SK where
 | b
 | i (k:IntKind)
 | s
def sksF (g:TypeId→Option (List SK)):List Field→Option (List SK)
 | []=>some []
 | f::fs=>match g f.type,sksF g fs with
  | some a,some r=>some (a++r)
  | _,_=>none
def sks (P:Program):Nat→TypeId→Option (List SK)
 | 0,_=>none
 | k+1,t=>match P.underlying t with
  | some .bool=>some [.b]
  | some (.int ik)=>some [.i ik]
  | some .string=>some [.s]
  | some (.struct fs)=>sksF (sks P k) fs.toList
  | some (.array n e)=>(sks P k e).map fun l=>(List.replicate n l).flatten
  | _=>none
def CellOK (M:Nat):SK→Value→Prop
 | .b,v=>∃b,v = .bool b
 | .i k,v=>∃z,v = .int k z∧(Lit.int k z).wf=true
 | .s,v=>∃s:ByteArray,v = .string s∧s.size≤M
def CellsOK (M:Nat):List SK→List Value→Prop
 | [],[]=>True
 | k::ks,v::vs=>CellOK M k v∧CellsOK M ks vs
 | _,_=>False
theorem Xk {M:Nat}:∀{a b:List SK} {x y:List Value},CellsOK M a x→CellsOK M b y→CellsOK M (a++b) (x++y)
 | [],_,[],_,_,h=>h
 | _::_,_,_::_,_,⟨h1,h2⟩,h=>⟨h1,Xk h2 h⟩
theorem Xe {M M':Nat} (hM:M≤M'):∀{a:List SK} {x:List Value},CellsOK M a x→CellsOK M' a x
 | [],[],_=>trivial
 | k::_,_::_,⟨h1,h2⟩=>⟨by
   cases k with
   | b=>exact h1
   | i k=>exact h1
   | s=>obtain ⟨s,hs,hl⟩:=h1;exact ⟨s,hs,Nat.le_trans hl hM⟩,Xe hM h2⟩
theorem X6:∀{l:List (DataW H)} {d:DataW H},d ∈ l→Rows.uptoBulk d≤Rows.uptoBulkAll l
 | c::l,d,h=>by
  rcases List.mem_cons.1 h with rfl|h
  ·simp only [Rows.uptoBulkAll];omega
  ·have:=X6 h
   simp only [Rows.uptoBulkAll];omega
theorem sksF_ok {M:Nat} {g:TypeId→Option (List SK)}:∀(fs:List Field) (o total:Nat) (cs:List Value) (ks:List SK),contig P o fs=some total→cs.length=total→sksF g fs=some ks→
  (∀f ∈ fs,∀k,g f.type=some k→CellsOK M k ((cs.drop f.offset).take (P.cellsOf f.type)))→CellsOK M ks (cs.drop o)
 | [],o,total,cs,ks,h,h1,h2,_=>by
  simp only [contig,Option.some.injEq] at h
  simp only [sksF,Option.some.injEq] at h2
  rw [←h2,List.drop_eq_nil_of_le (by omega)];trivial
 | f::fs,o,total,cs,ks,h,h1,h2,hp=>by
  unfold contig at h
  split at h
  ·rename_i ho
   unfold sksF at h2
   split at h2
   ·rename_i a r ha hr
    obtain rfl:=Option.some.inj h2
    have ih:=sksF_ok fs (o+P.cellsOf f.type) total cs r h h1 hr fun g hg=>hp g (by simp [hg])
    have h3:=hp f (by simp) a ha
    rw [ho] at h3
    rw [←List.take_append_drop (P.cellsOf f.type) (cs.drop o),List.drop_drop]
    exact Xk h3 ih
   ·cases h2
  ·cases h
theorem arr_cells {M c:Nat} {l:List SK}:∀(m:Nat) (cs:List Value),cs.length=m * c→(∀i,i<m→CellsOK M l ((cs.drop (i * c)).take c))→CellsOK M (List.replicate m l).flatten cs
 | 0,cs,h,_=>by
  have:cs=[]:=List.length_eq_zero_iff.1 (by omega)
  subst this;trivial
 | m+1,cs,h,hp=>by
  have h0:=hp 0 (by omega)
  rw [Nat.zero_mul,List.drop_zero] at h0
  have hl:cs.length=m * c+c:=by rw [h,Nat.succ_mul]
  have ih:=arr_cells (M:=M) (c:=c) (l:=l) m (cs.drop c) (by rw [List.length_drop];omega) fun i hi=>by
   have:=hp (i+1) (by omega)
   rw [List.drop_drop,show c+i * c=(i+1) * c by rw [Nat.succ_mul];omega]
   exact this
  rw [List.replicate_succ,List.flatten_cons,←List.take_append_drop c cs]
  exact Xk h0 ih
theorem VS:∀(n k:Nat) (t:TypeId) (w:World) (base:Nat) (sp:Nat→Bool) (hd:Bool) (cs:List Value) (x:DataW H×List MemPlace) (ks:List SK),plainT P k t=true→sks P k t=some ks→DataW.trod enc P w base sp hd n t cs=some x→CellsOK (Rows.uptoBulk x.1) ks cs
 | 0,_,_,_,_,_,_,_,_,_,_,_,h=>by simp [DataW.trod] at h
 | n+1,0,_,_,_,_,_,_,_,_,hp,_,_=>by simp [plainT] at hp
 | n+1,k+1,t,w,base,sp,hd,cs,x,ks,hp,hk,h=>by
  unfold plainT at hp
  unfold sks at hk
  split at hp
  ·rename_i hu
   rw [hu] at hk
   obtain rfl:=Option.some.inj hk
   obtain ⟨b,rfl,rfl⟩:=DataW.trod_bool hu h
   exact ⟨⟨b,rfl⟩,trivial⟩
  ·rename_i hu
   rw [hu] at hk
   obtain rfl:=Option.some.inj hk
   obtain ⟨z,rfl,rfl,hz⟩:=DataW.trod_int hu h
   exact ⟨⟨z,rfl,hz⟩,trivial⟩
  ·rename_i hu
   rw [hu] at hk
   obtain rfl:=Option.some.inj hk
   obtain ⟨s,rfl,rfl,hs⟩:=DataW.trod_string hu h
   refine ⟨⟨s,rfl,?_⟩,trivial⟩
   have hsz:s.data.toList.length=s.size:=by simp
   simp only [Rows.uptoBulk];omega
  ·rename_i fs hu
   rw [hu] at hk
   rw [Bool.and_eq_true,List.all_eq_true,beq_iff_eq] at hp
   simp only [DataW.trod,hu] at h
   split at h
   ·rename_i hl
    simp only [Option.map_eq_some_iff] at h
    obtain ⟨xs,hxs,rfl⟩:=h
    have:=sksF_ok (M:=Rows.uptoBulk (.agg (xs.map (·.1)))) (g:=sks P k) fs.toList 0 _ cs ks hp.2 hl hk fun f hf k' hk'=>by
     obtain ⟨i,hi,rfl⟩:=List.mem_iff_getElem.1 hf
     obtain ⟨y,hy1,hy2⟩:=YL hxs i _ (List.getElem?_eq_getElem hi)
     refine Xe ?_ (VS n k _ w base sp hd _ y k' (hp.1 _ hf) hk' hy2)
     have hm:y.1 ∈ xs.map (·.1):=List.mem_map.2 ⟨y,List.mem_of_getElem? hy1,rfl⟩
     have:=X6 hm
     simp only [Rows.uptoBulk];omega
    simpa using this
   ·cases h
  ·rename_i m e hu
   rw [hu] at hk
   rw [Bool.and_eq_true,beq_iff_eq] at hp
   simp only [DataW.trod,hu] at h
   split at h
   ·rename_i hl
    simp only [Option.map_eq_some_iff] at h hk
    obtain ⟨xs,hxs,rfl⟩:=h
    obtain ⟨l,hl2,rfl⟩:=hk
    refine arr_cells m cs (by rw [hl,hp.2]) fun i hi=>?_
    have hi':(List.range m)[i]? = some i:=by simp [hi]
    obtain ⟨y,hy1,hy2⟩:=YL hxs i _ hi'
    refine Xe ?_ (VS n k _ w base sp hd _ y l hp.1 hl2 hy2)
    have hm:y.1 ∈ xs.map (·.1):=List.mem_map.2 ⟨y,List.mem_of_getElem? hy1,rfl⟩
    have:=X6 hm
    simp only [Rows.uptoBulk];omega
   ·cases h
  ·cases hp
end
section
open Go.ChangeShapes Go.WideShapes Go.ChangeAt
theorem Xj {W:World} {a:Addr} {n:Nat} {cs:List Value} (h:W.cells? 0 a n=some cs) (hn:0<n) :
  a.spot=none∧∃(c:Array Value) (fz:Nat×Nat×Nat),W.heap[a.block]? = some (.cells c fz.1 fz.2)∧cs.length=n∧∀j,j<n→c[a.off+j]? = cs[j]?:=by
 unfold World.cells? at h
 rw [if_pos (Nat.zero_le _)] at h
 have hl:cs.length=n:=by
  have:∀{α β:Type} {f:α→Option β} {l:List α} {r:List β},l.mapM f=some r→r.length=l.length:=fun {α β f} l=>by
   induction l with
   | nil=>intro r h;simp at h;subst h;rfl
   | cons x l ih=>
    intro r h
    rw [List.mapM_cons] at h
    simp only [Option.bind_eq_bind,Option.bind_eq_some_iff,Option.pure_def,Option.some.injEq] at h
    obtain ⟨y,_,ys,hys,rfl⟩:=h
    simp [ih hys]
  simpa using this h
 have hget:∀j,j<n→∃v,cs[j]? = some v∧W.cell? (a.add j)=some v:=fun j hj=>YL h j j (by simp [hj])
 obtain ⟨v0,_,h0⟩:=hget 0 hn
 have ha0:a.add 0=a:=by simp [Addr.add]
 rw [ha0] at h0
 unfold World.cell? at h0
 split at h0
 ·rename_i c T fz hb
  split at h0
  ·cases h0
  ·rename_i hsp
   have hsp:a.spot=none:=by simpa using hsp
   refine ⟨hsp,c,(T,fz),hb,hl,fun j hj=>?_⟩
   obtain ⟨v,hv1,hv2⟩:=hget j hj
   rw [hv1]
   obtain ⟨ab,ao,asp⟩:=a
   dsimp only at hsp hb ⊢
   subst hsp
   rw [Yb rfl] at hv2
   unfold World.cell? at hv2
   dsimp only at hv2
   rw [hb] at hv2
   simpa using hv2
 ·cases h0
theorem Kept.cell {W W':World} (h:Kept W W') {a:Addr} {v:Value} (hc:W.cell? a=some v):W'.cell? a=some v:=by
 unfold World.cell? at hc ⊢
 split at hc
 ·rename_i c T fz hb
  rw [h.heap _ _ hb]
  exact hc
 ·cases hc
theorem Kept.cells {W W':World} (h:Kept W W') {a:Addr} {n:Nat} {cs:List Value} (hc:W.cells? 0 a n=some cs):W'.cells? 0 a n=some cs:=by
 unfold World.cells? at hc ⊢
 rw [if_pos (Nat.zero_le _)] at hc ⊢
 exact YO (fun i _ x hx=>h.cell hx) hc
variable {enc:TypeId×Value→H}
theorem Wp:∀(l:List (DataW H)),l.length≤Rows.uptoBulkAll l
 | []=>by simp [Rows.uptoBulkAll]
 | d::l=>by
  have:=Wp l
  have h1:1≤Rows.uptoBulk d:=by
   cases d with
   | lit x=>cases x<;>simp only [Rows.uptoBulk]<;>omega
   | _=>simp only [Rows.uptoBulk];omega
  simp only [Rows.uptoBulkAll,List.length_cons];omega
theorem Wz {α:Type} {p:Nat→α→Prop}:∀(n:Nat),(∀i,i<n→∃y,p i y)→∃es:List α,es.length=n∧∀i y,es[i]? = some y→p i y
 | 0,_=>⟨[],rfl,by simp⟩
 | n+1,h=>by
  obtain ⟨es,hl,he⟩:=Wz n fun i hi=>h i (by omega)
  obtain ⟨y,hy⟩:=h n (by omega)
  refine ⟨es++[y],by simp [hl],fun i z hz=>?_⟩
  by_cases hi:i<n
  ·exact he i z (by rwa [List.getElem?_append_left (by omega)] at hz)
  ·rw [List.getElem?_append_right (by omega)] at hz
   have h0:i - es.length=0:=by
    have:=(List.getElem?_eq_some_iff.1 hz).1
    simp at this;omega
   rw [h0] at hz
   simp at hz
   subst hz
   rw [show i=n by omega];exact hy
theorem UH {α:Type} {fa:α→List Value} {sz:Nat} (hsz:∀e,(fa e).length=sz) (l:List Value):∀(es:List α) (off:Nat),(∀i e,es[i]? = some e→∀j,j<sz→l[off+i * sz+j]? = (fa e)[j]?)→l.drop off=es.flatMap fa++l.drop (off+es.length * sz)
 | [],off,_=>by simp
 | e::es,off,h=>by
  have h1:(l.drop off).take sz=fa e:=by
   apply List.ext_getElem?
   intro j
   rw [List.getElem?_take,List.getElem?_drop]
   split
   ·rename_i hj
    have:=h 0 e rfl j hj
    simpa using this
   ·rename_i hj
    rw [List.getElem?_eq_none (by rw [hsz];omega)]
  have ih:=UH hsz l es (off+sz) fun i e' he j hj=>by
   have:=h (i+1) e' (by simpa using he) j hj
   rw [←this];congr 1;rw [Nat.add_mul];omega
  rw [←List.take_append_drop sz (l.drop off),h1,List.drop_drop,ih,List.flatMap_cons,List.append_assoc,List.length_cons]
  congr 3;rw [Nat.add_mul];omega
theorem mapM_len {α β:Type} {f:α→Option β} {l:List α}:∀{r:List β},l.mapM f=some r→r.length=l.length:=by
 induction l with
 | nil=>intro r h;simp at h;subst h;rfl
 | cons x l ih=>
  intro r h
  rw [List.mapM_cons] at h
  simp only [Option.bind_eq_bind,Option.bind_eq_some_iff,Option.pure_def,Option.some.injEq] at h
  obtain ⟨y,_,ys,hys,rfl⟩:=h
  simp [ih hys]
theorem open_slC {α:Type} {fa:α→List Value} {Q:α→Nat→Prop} {t e k:Nat} {W:World} {v:Value} {d:DataW H} {p:List MemPlace} (T:Nat) (hu:P.underlying t=some (.slice e)) (hpl:plainT P k e=true) (hc0:0<P.cellsOf e) (hsz:∀y,(fa y).length=P.cellsOf e)
  (hopen:∀(n:Nat) (cs:List Value) (x:DataW H×List MemPlace),DataW.trod enc P W 0 (fun _=>true) true n e cs=some x→∃y,cs=fa y∧Q y (Rows.uptoBulk x.1)) (hmono:∀y M M',Q y M→M≤M'→Q y M')
  (hv:∃a len cap,v = .slice a len cap) (h:DataW.Trod enc P W 0 (fun _=>true) true t v d p) :
  ∃(o:Option Addr) (cap:Nat) (es:List α),v = .slice o es.length cap∧(Sl T fa o cap es).p (fun b=>W.heap[b]?)∧es.length≤Rows.uptoBulk d∧(∀y ∈ es,Q y (Rows.uptoBulk d))∧
   ∀(W':World) (sp:Nat→Bool),Kept W W'→(∀b<W.heap.size,sp b=true)→DataW.Trod enc P W' 0 sp true t v d p:=by
 obtain ⟨a,len,cap,rfl⟩:=hv
 obtain ⟨n,hn⟩:=h
 cases n with
 | zero=>simp [DataW.trod] at hn
 | succ n=>
  have hcl:(Value.slice a len cap).cells.toList=[.slice a len cap]:=rfl
  rw [hcl] at hn
  cases a with
  | none=>
   have h0:len=0∧cap=0:=by
    unfold DataW.trod at hn
    rw [hu] at hn
    split at hn<;>simp_all
   obtain ⟨rfl,rfl⟩:=h0
   have hd:d = .nil∧p=[]:=by
    simp [DataW.trod,hu] at hn
    exact ⟨hn.1.symm,hn.2⟩
   obtain ⟨rfl,rfl⟩:=hd
   exact ⟨none,0,[],rfl,⟨by simp,.inl rfl⟩,by simp,by simp,fun W' sp _ _=>⟨n+1,by rw [hcl];simp [DataW.trod,hu]⟩⟩
  | some a=>
   simp only [DataW.trod,hu] at hn
   split at hn
   ·rename_i hb
    simp only [Option.bind_eq_some_iff,if_true,Option.map_eq_some_iff] at hn
    obtain ⟨elems,he,rest,hr,hx⟩:=hn
    simp only [Prod.mk.injEq] at hx
    obtain ⟨rfl,rfl⟩:=hx
    have hle:=mapM_len he
    rw [List.length_range] at hle
    have hbulk:∀x ∈ elems,Rows.uptoBulk x.1≤Rows.uptoBulk (DataW.slice (elems.map (·.1)) (rest.map (·.1))):=fun x hx=>by
     have:=X6 (List.mem_map.2 ⟨x,hx,rfl⟩:x.1 ∈ elems.map (·.1))
     simp only [Rows.uptoBulk];omega
    obtain ⟨es,hel,hes⟩:=Wz (p:=fun i y=>∃x,x ∈ elems∧W.cells? 0 (a.add (i * P.cellsOf e)) (P.cellsOf e)=some (fa y)∧Q y (Rows.uptoBulk x.1)) len fun i hi=>by
     obtain ⟨x,hx1,hx2⟩:=YL he i i (by simp [hi])
     simp only [Option.bind_eq_some_iff] at hx2
     obtain ⟨cs,hcs,htr⟩:=hx2
     obtain ⟨y,rfl,hy⟩:=hopen n cs x htr
     exact ⟨y,x,List.mem_of_getElem? hx1,hcs,hy⟩
    refine ⟨some a,cap,es,by rw [hel],⟨by omega,?_⟩,?_,?_,?_⟩
    ·by_cases hl0:es=[]
     ·exact .inl hl0
     ·right
      have hpos:0<es.length:=List.length_pos_iff.2 hl0
      obtain ⟨x0,_,hc1,_⟩:=hes 0 es[0] (List.getElem?_eq_getElem hpos)
      have ha0:a.add (0 * P.cellsOf e)=a:=by simp [Addr.add]
      rw [ha0] at hc1
      obtain ⟨hsp,c,fz,hblk,_,hcell⟩:=Xj hc1 hc0
      obtain ⟨ab,ao,asp⟩:=a
      dsimp only at hsp hblk hcell
      subst hsp
      have hlt:ao<c.size:=by
       have h1:=hcell 0 hc0
       have h2:(fa es[0])[0]?≠none:=by
        rw [List.getElem?_eq_getElem (by rw [hsz];exact hc0)];simp
       rw [←h1] at h2
       exact Nat.lt_of_not_le fun h=>h2 (by simpa using Array.getElem?_eq_none_iff.2 h)
      have hdrop:=UH hsz c.toList es ao fun i y hy j hj=>by
       obtain ⟨x,_,hci,_⟩:=hes i y hy
       rw [Yb rfl] at hci
       obtain ⟨_,c',fz',hblk',_,hcell'⟩:=Xj hci hc0
       dsimp only at hblk' hcell'
       rw [hblk] at hblk'
       injection hblk' with hblk'
       injection hblk' with e1
       subst e1
       rw [←hcell' j hj];simp
      refine ⟨ab,c,fz,c.toList.take ao,c.toList.drop (ao+es.length * P.cellsOf e),?_,hblk,?_⟩
      ·rw [List.length_take,Nat.min_eq_left (by simpa using Nat.le_of_lt hlt)]
      ·rw [←hdrop,List.take_append_drop]
    ·have:=Wp (elems.map (·.1))
     simp only [List.length_map] at this
     simp only [Rows.uptoBulk];omega
    ·intro y hy
     obtain ⟨i,hi,rfl⟩:=List.mem_iff_getElem.1 hy
     obtain ⟨x,hx,_,hq⟩:=hes i _ (List.getElem?_eq_getElem hi)
     exact hmono _ _ _ hq (hbulk x hx)
    ·intro W' sp hk hsp
     have hel1:∀i x,((W.cells? 0 (a.add (i * P.cellsOf e)) (P.cellsOf e)).bind (DataW.trod enc P W 0 (fun _=>true) true n e))=some x→((W'.cells? 0 (a.add (i * P.cellsOf e)) (P.cellsOf e)).bind (DataW.trod enc P W' 0 sp true n e))=some x:=fun i x hx=>by
      simp only [Option.bind_eq_some_iff] at hx ⊢
      obtain ⟨cs,hcs,htr⟩:=hx
      exact ⟨cs,hk.cells hcs,(Xm n _ _ W 0 _ _ _ _ hpl htr).2 W' 0 sp true⟩
     refine ⟨n+1,?_⟩
     rw [hcl]
     simp only [DataW.trod,hu]
     rw [if_pos hb]
     simp only [Option.bind_eq_some_iff,Option.map_eq_some_iff]
     refine ⟨elems,YO (fun i _ x hx=>hel1 i x hx) he,rest,?_,rfl⟩
     by_cases hcap:cap=len
     ·have hrest:rest=[]:=by
       subst hcap
       simp at hr
       exact hr
      subst hrest
      subst hcap
      split<;>simp
     ·have hlt:a.block<W.heap.size:=by
       obtain ⟨x,_,hx2⟩:=YL hr 0 0 (by rw [List.getElem?_range (by omega)])
       simp only [Option.bind_eq_some_iff] at hx2
       obtain ⟨cs,hcs,_⟩:=hx2
       obtain ⟨_,c,fz,hblk,_⟩:=Xj hcs hc0
       have h1:=(Array.getElem?_eq_some_iff.1 hblk).1
       have h2:(a.add ((len+0) * P.cellsOf e)).block=a.block:=by unfold Addr.add;split<;>rfl
       rwa [h2] at h1
      rw [if_pos (hsp _ hlt)]
      exact YO (fun j _ x hx=>hel1 (len+j) x hx) hr
   ·cases hn
end
variable {W:World} {base:Nat} {p:List MemPlace}
section
open Go.ChangeShapes Go.WideShapes Go.ChangeAt
theorem own:ownKnob prog.godebug=none:=by kernel_rfl
theorem u8_of {n:Int} (h:(Lit.int .u8 n).wf=true):∃c:UInt8,n=(c.toNat:Int):=by
 have h1:0≤n∧n<256:=by
  simp [Lit.wf,IntKind.min,IntKind.max,IntKind.bits,IntKind.signed] at h
  omega
 exact ⟨UInt8.ofNat n.toNat,by simp;omega⟩
noncomputable def laidWorld (os:Os):World:=
 {World.holding prog os ⟨#[],#[],[]⟩ with heap:=(World.holding prog os ⟨#[],#[],[]⟩).heap.modify 0 fun
   | .cells _ t frozen=>.cells (usages.flatMap uf).toArray t frozen
   | o=>o}
section
variable {enc:TypeId×Value→H} {v:Value} {d:DataW H}
end
end
section
open Go.ChangeShapes Go.WideShapes Go.ChangeAt
section
variable {enc:TypeId×Value→H}
theorem trod_sl_keep {n k t e:Nat} {cs:List Value} {x:DataW H×List MemPlace} (hu:P.underlying t=some (.slice e)) (hpl:plainT P k e=true) (hc0:0<P.cellsOf e) (h:DataW.trod enc P W 0 (fun _=>true) true n t cs=some x) :
  (∃a len cap,cs=[.slice a len cap])∧∀(W':World) (sp:Nat→Bool),Kept W W'→(∀b<W.heap.size,sp b=true)→DataW.trod enc P W' 0 sp true n t cs=some x:=by
 cases n with
 | zero=>simp [DataW.trod] at h
 | succ n=>
  have hsl:∃a len cap,cs=[.slice a len cap]:=by
   rcases cs with _|⟨c,_|⟨c2,cs⟩⟩
   ·simp [DataW.trod,hu] at h
   ·cases c with
    | slice a len cap=>exact ⟨a,len,cap,rfl⟩
    | _=>simp [DataW.trod,hu] at h
   ·simp [DataW.trod,hu] at h
  refine ⟨hsl,fun W' sp hk hsp=>?_⟩
  obtain ⟨a,len,cap,rfl⟩:=hsl
  cases a with
  | none=>
   have h0:len=0∧cap=0:=by
    unfold DataW.trod at h
    rw [hu] at h
    split at h<;>simp_all
   obtain ⟨rfl,rfl⟩:=h0
   simp [DataW.trod,hu] at h ⊢
   exact h
  | some a=>
   simp only [DataW.trod,hu] at h ⊢
   split at h
   ·rename_i hb
    rw [if_pos hb]
    simp only [Option.bind_eq_some_iff,if_true,Option.map_eq_some_iff] at h ⊢
    obtain ⟨elems,he,rest,hr,hx⟩:=h
    have hel1:∀i x,((W.cells? 0 (a.add (i * P.cellsOf e)) (P.cellsOf e)).bind (DataW.trod enc P W 0 (fun _=>true) true n e))=some x→((W'.cells? 0 (a.add (i * P.cellsOf e)) (P.cellsOf e)).bind (DataW.trod enc P W' 0 sp true n e))=some x:=fun i x hx=>by
     simp only [Option.bind_eq_some_iff] at hx ⊢
     obtain ⟨cs,hcs,htr⟩:=hx
     exact ⟨cs,hk.cells hcs,(Xm n _ _ W 0 _ _ _ _ hpl htr).2 W' 0 sp true⟩
    refine ⟨elems,YO (fun i _ x hx=>hel1 i x hx) he,rest,?_,hx⟩
    by_cases hcap:cap=len
    ·have hrest:rest=[]:=by
      subst hcap
      simp at hr
      exact hr
     subst hrest
     subst hcap
     split<;>simp
    ·have hlt:a.block<W.heap.size:=by
      obtain ⟨x,_,hx2⟩:=YL hr 0 0 (by rw [List.getElem?_range (by omega)])
      simp only [Option.bind_eq_some_iff] at hx2
      obtain ⟨cs,hcs,_⟩:=hx2
      obtain ⟨_,c,fz,hblk,_⟩:=Xj hcs hc0
      have h1:=(Array.getElem?_eq_some_iff.1 hblk).1
      have h2:(a.add ((len+0) * P.cellsOf e)).block=a.block:=by unfold Addr.add;split<;>rfl
      rwa [h2] at h1
     rw [if_pos (hsp _ hlt)]
     exact YO (fun j _ x hx=>hel1 (len+j) x hx) hr
   ·cases h
def okT (P:Program):Nat→TypeId→Bool
 | 0,_=>false
 | k+1,t=>plainT P (k+1) t || match P.underlying t with
  | some (.slice e)=>plainT P k e && decide (0<P.cellsOf e)
  | some (.struct fs)=>(fs.toList.all fun f=>okT P k f.type) && (contig P 0 fs.toList == some (P.cellsOf t))
  | _=>false
inductive SL where
 | p (k:SK)
 | l (t:Nat)
def slF (g:TypeId→Option (List SL)):List Field→Option (List SL)
 | []=>some []
 | f::fs=>match g f.type,slF g fs with
  | some a,some r=>some (a++r)
  | _,_=>none
def sls (P:Program):Nat→TypeId→Option (List SL)
 | 0,_=>none
 | k+1,t=>if plainT P (k+1) t then (sks P (k+1) t).map fun l=>l.map .p else match P.underlying t with
  | some (.slice _)=>some [.l t]
  | some (.struct fs)=>slF (sls P k) fs.toList
  | _=>none
def CellL (enc:TypeId×Value→H) (P:Program) (W:World) (M:Nat):SL→Value→Prop
 | .p k,v=>CellOK M k v
 | .l t,v=>(∃a len cap,v = .slice a len cap)∧∃n x,DataW.trod enc P W 0 (fun _=>true) true n t [v]=some x∧Rows.uptoBulk x.1≤M
def CellsL (enc:TypeId×Value→H) (P:Program) (W:World) (M:Nat):List SL→List Value→Prop
 | [],[]=>True
 | k::ks,v::vs=>CellL enc P W M k v∧CellsL enc P W M ks vs
 | _,_=>False
theorem VJ {M:Nat}:∀{a b:List SL} {x y:List Value},CellsL enc P W M a x→CellsL enc P W M b y→CellsL enc P W M (a++b) (x++y)
 | [],_,[],_,_,h=>h
 | _::_,_,_::_,_,⟨h1,h2⟩,h=>⟨h1,VJ h2 h⟩
theorem Ue {M M':Nat} (hM:M≤M'):∀{a:List SL} {x:List Value},CellsL enc P W M a x→CellsL enc P W M' a x
 | [],[],_=>trivial
 | k::_,_::_,⟨h1,h2⟩=>⟨by
   cases k with
   | p k=>exact (Xe hM (a:=[k]) (x:=[_]) ⟨h1,trivial⟩).1
   | l t=>obtain ⟨ha,n,x,hx,hl⟩:=h1;exact ⟨ha,n,x,hx,Nat.le_trans hl hM⟩,Ue hM h2⟩
theorem cellsL_of {M:Nat}:∀{a:List SK} {x:List Value},CellsOK M a x→CellsL enc P W M (a.map .p) x
 | [],[],_=>trivial
 | _::_,_::_,⟨h1,h2⟩=>⟨h1,cellsL_of h2⟩
theorem slF_ok {M:Nat} {g:TypeId→Option (List SL)}:∀(fs:List Field) (o total:Nat) (cs:List Value) (ks:List SL),contig P o fs=some total→cs.length=total→slF g fs=some ks→
  (∀f ∈ fs,∀k,g f.type=some k→CellsL enc P W M k ((cs.drop f.offset).take (P.cellsOf f.type)))→CellsL enc P W M ks (cs.drop o)
 | [],o,total,cs,ks,h,h1,h2,_=>by
  simp only [contig,Option.some.injEq] at h
  simp only [slF,Option.some.injEq] at h2
  rw [←h2,List.drop_eq_nil_of_le (by omega)];trivial
 | f::fs,o,total,cs,ks,h,h1,h2,hp=>by
  unfold contig at h
  split at h
  ·rename_i ho
   unfold slF at h2
   split at h2
   ·rename_i a r ha hr
    obtain rfl:=Option.some.inj h2
    have ih:=slF_ok fs (o+P.cellsOf f.type) total cs r h h1 hr fun g hg=>hp g (by simp [hg])
    have h3:=hp f (by simp) a ha
    rw [ho] at h3
    rw [←List.take_append_drop (P.cellsOf f.type) (cs.drop o),List.drop_drop]
    exact VJ h3 ih
   ·cases h2
  ·cases h
theorem W7:∀(n k:Nat) (t:TypeId) (cs:List Value) (x:DataW H×List MemPlace) (ks:List SL),okT P k t=true→sls P k t=some ks→DataW.trod enc P W 0 (fun _=>true) true n t cs=some x→
  CellsL enc P W (Rows.uptoBulk x.1) ks cs∧∀(W':World) (sp:Nat→Bool),Kept W W'→(∀b<W.heap.size,sp b=true)→DataW.trod enc P W' 0 sp true n t cs=some x
 | 0,_,_,_,_,_,_,_,h=>by simp [DataW.trod] at h
 | n+1,0,_,_,_,_,hp,_,_=>by simp [okT] at hp
 | n+1,k+1,t,cs,x,ks,hp,hk,h=>by
  unfold okT at hp
  unfold sls at hk
  by_cases hpl:plainT P (k+1) t=true
  ·rw [if_pos hpl] at hk
   simp only [Option.map_eq_some_iff] at hk
   obtain ⟨l,hl,rfl⟩:=hk
   exact ⟨cellsL_of (VS (n+1) (k+1) t W 0 _ _ cs x l hpl hl h),fun W' sp _ _=>(Xm (n+1) (k+1) t W 0 _ _ cs x hpl h).2 W' 0 sp true⟩
  ·rw [if_neg hpl] at hk
   simp only [Bool.not_eq_true] at hpl
   rw [hpl,Bool.false_or] at hp
   split at hp
   ·rename_i e hu
    rw [hu] at hk
    obtain rfl:=Option.some.inj hk
    rw [Bool.and_eq_true,decide_eq_true_eq] at hp
    obtain ⟨⟨a,len,cap,rfl⟩,h2⟩:=trod_sl_keep hu hp.1 hp.2 h
    exact ⟨⟨⟨⟨a,len,cap,rfl⟩,n+1,x,h,Nat.le_refl _⟩,trivial⟩,h2⟩
   ·rename_i fs hu
    rw [hu] at hk
    rw [Bool.and_eq_true,List.all_eq_true,beq_iff_eq] at hp
    simp only [DataW.trod,hu] at h ⊢
    split at h
    ·rename_i hl
     simp only [Option.map_eq_some_iff] at h
     obtain ⟨xs,hxs,rfl⟩:=h
     refine ⟨?_,fun W' sp hkp hsp=>?_⟩
     ·have:=slF_ok (M:=Rows.uptoBulk (.agg (xs.map (·.1)))) (g:=sls P k) (enc:=enc) (W:=W) fs.toList 0 _ cs ks hp.2 hl hk fun f hf k' hk'=>by
       obtain ⟨i,hi,rfl⟩:=List.mem_iff_getElem.1 hf
       obtain ⟨y,hy1,hy2⟩:=YL hxs i _ (List.getElem?_eq_getElem hi)
       refine Ue ?_ (W7 n k _ _ y k' (hp.1 _ hf) hk' hy2).1
       have hm:y.1 ∈ xs.map (·.1):=List.mem_map.2 ⟨y,List.mem_of_getElem? hy1,rfl⟩
       have:=X6 hm
       simp only [Rows.uptoBulk];omega
      simpa using this
     ·rw [if_pos hl,YO (fun f hf y hy=>?_) hxs]
      ·rfl
      ·have hs:∃k',sls P k f.type=some k':=slF_mem hk hf
       obtain ⟨k',hk'⟩:=hs
       exact (W7 n k _ _ y k' (hp.1 f hf) hk' hy).2 W' sp hkp hsp
    ·cases h
   ·cases hp
where slF_mem {g:TypeId→Option (List SL)}:∀{fs:List Field} {ks:List SL} {f:Field},slF g fs=some ks→f ∈ fs→∃k,g f.type=some k
 | [],_,_,_,h=>by cases h
 | f::fs,ks,f',h,hm=>by
  unfold slF at h
  split at h
  ·rename_i a r ha hr
   rcases List.mem_cons.1 hm with rfl|hm
   ·exact ⟨a,ha⟩
   ·exact slF_mem hr hm
  ·cases h
theorem Z6 {M:Nat} {k:SK} {ks:List SL} {cs:List Value} (h:CellsL enc P W M (.p k::ks) cs):∃v cs',cs=v::cs'∧CellOK M k v∧CellsL enc P W M ks cs':=by
 obtain _|⟨v,cs⟩:=cs
 ·exact h.elim
 ·exact ⟨v,cs,rfl,h⟩
theorem cellsL_l {M t:Nat} {ks:List SL} {cs:List Value} (h:CellsL enc P W M (.l t::ks) cs):∃v cs',cs=v::cs'∧CellL enc P W M (.l t) v∧CellsL enc P W M ks cs':=by
 obtain _|⟨v,cs⟩:=cs
 ·exact h.elim
 ·exact ⟨v,cs,rfl,h⟩
theorem cellsL_nil {M:Nat} {cs:List Value} (h:CellsL enc P W M [] cs):cs=[]:=by
 cases cs
 ·rfl
 ·exact h.elim
end
theorem plI64:plainT prog 5 3=true:=by decide +kernel
section
variable {enc:TypeId×Value→H} {v:Value} {d:DataW H}
end
end
section
open Go.ChangeShapes Go.WideShapes Go.ChangeAt
theorem okOq:okT prog 6 68=true:=by decide +kernel
theorem slOq:sls prog 6 68=some [.p (.i .u8),.p (.i .u8),.p (.i .i64),.p (.i .i64),.p .s,.p (.i .i64),.p (.i .i64),.p (.i .i64),.p (.i .i64),.p (.i .i64),.l 49,.p .s,.p (.i .i64),.p .s,.p (.i .i64),.p (.i .i64),.p .s,.p .s,.p (.i .i64),.p (.i .i64)]:=by kernel_rfl
section
variable {enc:TypeId×Value→H} {v:Value} {d:DataW H}
end
end
section
open Go.ChangeShapes Go.WideShapes Go.ChangeAt
section
variable {enc:TypeId×Value→H}
theorem open_slK {α:Type} {fa:α→List Value} {Q:α→Nat→Prop} {t e:Nat} {W:World} {v:Value} {d:DataW H} {p:List MemPlace} (T:Nat) (hu:P.underlying t=some (.slice e)) (hc0:0<P.cellsOf e) (hsz:∀y,(fa y).length=P.cellsOf e)
  (hopen:∀(n:Nat) (cs:List Value) (x:DataW H×List MemPlace),DataW.trod enc P W 0 (fun _=>true) true n e cs=some x→∃y,cs=fa y∧Q y (Rows.uptoBulk x.1)) (hmono:∀y M M',Q y M→M≤M'→Q y M')
  (hkeepE:∀(n:Nat) (cs:List Value) (x:DataW H×List MemPlace),DataW.trod enc P W 0 (fun _=>true) true n e cs=some x→∀(W':World) (sp:Nat→Bool),Kept W W'→(∀b<W.heap.size,sp b=true)→DataW.trod enc P W' 0 sp true n e cs=some x)
  (hv:∃a len cap,v = .slice a len cap) (h:DataW.Trod enc P W 0 (fun _=>true) true t v d p) :
  ∃(o:Option Addr) (cap:Nat) (es:List α),v = .slice o es.length cap∧(Sl T fa o cap es).p (fun b=>W.heap[b]?)∧es.length≤Rows.uptoBulk d∧(∀y ∈ es,Q y (Rows.uptoBulk d))∧
   ∀(W':World) (sp:Nat→Bool),Kept W W'→(∀b<W.heap.size,sp b=true)→DataW.Trod enc P W' 0 sp true t v d p:=by
 obtain ⟨a,len,cap,rfl⟩:=hv
 obtain ⟨n,hn⟩:=h
 cases n with
 | zero=>simp [DataW.trod] at hn
 | succ n=>
  have hcl:(Value.slice a len cap).cells.toList=[.slice a len cap]:=rfl
  rw [hcl] at hn
  cases a with
  | none=>
   have h0:len=0∧cap=0:=by
    unfold DataW.trod at hn
    rw [hu] at hn
    split at hn<;>simp_all
   obtain ⟨rfl,rfl⟩:=h0
   have hd:d = .nil∧p=[]:=by
    simp [DataW.trod,hu] at hn
    exact ⟨hn.1.symm,hn.2⟩
   obtain ⟨rfl,rfl⟩:=hd
   exact ⟨none,0,[],rfl,⟨by simp,.inl rfl⟩,by simp,by simp,fun W' sp _ _=>⟨n+1,by rw [hcl];simp [DataW.trod,hu]⟩⟩
  | some a=>
   simp only [DataW.trod,hu] at hn
   split at hn
   ·rename_i hb
    simp only [Option.bind_eq_some_iff,if_true,Option.map_eq_some_iff] at hn
    obtain ⟨elems,he,rest,hr,hx⟩:=hn
    simp only [Prod.mk.injEq] at hx
    obtain ⟨rfl,rfl⟩:=hx
    have hle:=mapM_len he
    rw [List.length_range] at hle
    have hbulk:∀x ∈ elems,Rows.uptoBulk x.1≤Rows.uptoBulk (DataW.slice (elems.map (·.1)) (rest.map (·.1))):=fun x hx=>by
     have:=X6 (List.mem_map.2 ⟨x,hx,rfl⟩:x.1 ∈ elems.map (·.1))
     simp only [Rows.uptoBulk];omega
    obtain ⟨es,hel,hes⟩:=Wz (p:=fun i y=>∃x,x ∈ elems∧W.cells? 0 (a.add (i * P.cellsOf e)) (P.cellsOf e)=some (fa y)∧Q y (Rows.uptoBulk x.1)) len fun i hi=>by
     obtain ⟨x,hx1,hx2⟩:=YL he i i (by simp [hi])
     simp only [Option.bind_eq_some_iff] at hx2
     obtain ⟨cs,hcs,htr⟩:=hx2
     obtain ⟨y,rfl,hy⟩:=hopen n cs x htr
     exact ⟨y,x,List.mem_of_getElem? hx1,hcs,hy⟩
    refine ⟨some a,cap,es,by rw [hel],⟨by omega,?_⟩,?_,?_,?_⟩
    ·by_cases hl0:es=[]
     ·exact .inl hl0
     ·right
      have hpos:0<es.length:=List.length_pos_iff.2 hl0
      obtain ⟨x0,_,hc1,_⟩:=hes 0 es[0] (List.getElem?_eq_getElem hpos)
      have ha0:a.add (0 * P.cellsOf e)=a:=by simp [Addr.add]
      rw [ha0] at hc1
      obtain ⟨hsp,c,fz,hblk,_,hcell⟩:=Xj hc1 hc0
      obtain ⟨ab,ao,asp⟩:=a
      dsimp only at hsp hblk hcell
      subst hsp
      have hlt:ao<c.size:=by
       have h1:=hcell 0 hc0
       have h2:(fa es[0])[0]?≠none:=by
        rw [List.getElem?_eq_getElem (by rw [hsz];exact hc0)];simp
       rw [←h1] at h2
       exact Nat.lt_of_not_le fun h=>h2 (by simpa using Array.getElem?_eq_none_iff.2 h)
      have hdrop:=UH hsz c.toList es ao fun i y hy j hj=>by
       obtain ⟨x,_,hci,_⟩:=hes i y hy
       rw [Yb rfl] at hci
       obtain ⟨_,c',fz',hblk',_,hcell'⟩:=Xj hci hc0
       dsimp only at hblk' hcell'
       rw [hblk] at hblk'
       injection hblk' with hblk'
       injection hblk' with e1
       subst e1
       rw [←hcell' j hj];simp
      refine ⟨ab,c,fz,c.toList.take ao,c.toList.drop (ao+es.length * P.cellsOf e),?_,hblk,?_⟩
      ·rw [List.length_take,Nat.min_eq_left (by simpa using Nat.le_of_lt hlt)]
      ·rw [←hdrop,List.take_append_drop]
    ·have:=Wp (elems.map (·.1))
     simp only [List.length_map] at this
     simp only [Rows.uptoBulk];omega
    ·intro y hy
     obtain ⟨i,hi,rfl⟩:=List.mem_iff_getElem.1 hy
     obtain ⟨x,hx,_,hq⟩:=hes i _ (List.getElem?_eq_getElem hi)
     exact hmono _ _ _ hq (hbulk x hx)
    ·intro W' sp hk hsp
     have hel1:∀i x,((W.cells? 0 (a.add (i * P.cellsOf e)) (P.cellsOf e)).bind (DataW.trod enc P W 0 (fun _=>true) true n e))=some x→((W'.cells? 0 (a.add (i * P.cellsOf e)) (P.cellsOf e)).bind (DataW.trod enc P W' 0 sp true n e))=some x:=fun i x hx=>by
      simp only [Option.bind_eq_some_iff] at hx ⊢
      obtain ⟨cs,hcs,htr⟩:=hx
      exact ⟨cs,hk.cells hcs,hkeepE n _ _ htr W' sp hk hsp⟩
     refine ⟨n+1,?_⟩
     rw [hcl]
     simp only [DataW.trod,hu]
     rw [if_pos hb]
     simp only [Option.bind_eq_some_iff,Option.map_eq_some_iff]
     refine ⟨elems,YO (fun i _ x hx=>hel1 i x hx) he,rest,?_,rfl⟩
     by_cases hcap:cap=len
     ·have hrest:rest=[]:=by
       subst hcap
       simp at hr
       exact hr
      subst hrest
      subst hcap
      split<;>simp
     ·have hlt:a.block<W.heap.size:=by
       obtain ⟨x,_,hx2⟩:=YL hr 0 0 (by rw [List.getElem?_range (by omega)])
       simp only [Option.bind_eq_some_iff] at hx2
       obtain ⟨cs,hcs,_⟩:=hx2
       obtain ⟨_,c,fz,hblk,_⟩:=Xj hcs hc0
       have h1:=(Array.getElem?_eq_some_iff.1 hblk).1
       have h2:(a.add ((len+0) * P.cellsOf e)).block=a.block:=by unfold Addr.add;split<;>rfl
       rwa [h2] at h1
      rw [if_pos (hsp _ hlt)]
      exact YO (fun j _ x hx=>hel1 (len+j) x hx) hr
   ·cases hn
end
abbrev Oe:=Oq×(Option Addr×Nat)
def oef (x:Oe):List Value:=[.int .u8 x.1.k,.int .u8 x.1.w,.int .i64 x.1.n,.int .i64 x.1.a,.string x.1.t,.int .i64 x.1.p.kd,.int .i64 x.1.p.st,.int .i64 x.1.p.cd,.int .i64 x.1.p.ep,.int .i64 x.1.p.us,.slice x.2.1 x.1.p.gs.length x.2.2,.string x.1.p.sp,.int .i64 x.1.p.pg,.string x.1.p.dr.mkr,.int .i64 x.1.p.dr.nu,.int .i64 x.1.p.tm,.string x.1.ic,.string x.1.id,.int .i64 x.1.iz,.int .i64 x.1.ie]
def OeF (l:List Oe):Pf:=⟨fun h=>∀e ∈ l,(Sl 3 zf e.2.1 e.2.2 e.1.p.gs).p h,fun _ _ s hh e he=>(Sl 3 zf e.2.1 e.2.2 e.1.p.gs).m _ _ s (hh e he)⟩
section
variable {enc:TypeId×Value→H} {v:Value} {d:DataW H}
theorem cells_oe {M:Nat} {cs:List Value} (hc:CellsL enc prog W M [.p (.i .u8),.p (.i .u8),.p (.i .i64),.p (.i .i64),.p .s,.p (.i .i64),.p (.i .i64),.p (.i .i64),.p (.i .i64),.p (.i .i64),.l 49,.p .s,.p (.i .i64),.p .s,.p (.i .i64),.p (.i .i64),.p .s,.p .s,.p (.i .i64),.p (.i .i64)] cs) :
  ∃y:Oe,cs=oef y∧(Sl 3 zf y.2.1 y.2.2 y.1.p.gs).p (fun b=>W.heap[b]?)∧(y.1.p.gs.length≤M∧y.1.p.sp.size≤M∧y.1.p.dr.mkr.size≤M∧y.1.t.size≤M∧y.1.ic.size≤M∧y.1.id.size≤M):=by
 obtain ⟨w1,c,e1,⟨y1,rfl,i1⟩,k1⟩:=Z6 hc
 obtain ⟨w2,c,rfl,⟨y2,rfl,i2⟩,k2⟩:=Z6 k1
 obtain ⟨w3,c,rfl,⟨y3,rfl,_⟩,k3⟩:=Z6 k2
 obtain ⟨w4,c,rfl,⟨y4,rfl,_⟩,k4⟩:=Z6 k3
 obtain ⟨w5,c,rfl,⟨y5,rfl,t5⟩,k5⟩:=Z6 k4
 obtain ⟨v1,c,rfl,⟨z1,rfl,_⟩,g1⟩:=Z6 k5
 obtain ⟨v2,c,rfl,⟨z2,rfl,_⟩,g2⟩:=Z6 g1
 obtain ⟨v3,c,rfl,⟨z3,rfl,_⟩,g3⟩:=Z6 g2
 obtain ⟨v4,c,rfl,⟨z4,rfl,_⟩,g4⟩:=Z6 g3
 obtain ⟨v5,c,rfl,⟨z5,rfl,_⟩,g5⟩:=Z6 g4
 obtain ⟨v6,c,rfl,⟨⟨a,len,cap,rfl⟩,m,x,hx,hb⟩,g6⟩:=cellsL_l g5
 obtain ⟨v7,c,rfl,⟨s7,rfl,t7⟩,g7⟩:=Z6 g6
 obtain ⟨v8,c,rfl,⟨z8,rfl,_⟩,g8⟩:=Z6 g7
 obtain ⟨v9,c,rfl,⟨s9,rfl,t9⟩,g9⟩:=Z6 g8
 obtain ⟨v10,c,rfl,⟨z10,rfl,_⟩,g10⟩:=Z6 g9
 obtain ⟨v11,c,rfl,⟨z11,rfl,_⟩,g11⟩:=Z6 g10
 obtain ⟨v12,c,rfl,⟨s12,rfl,t12⟩,g12⟩:=Z6 g11
 obtain ⟨v13,c,rfl,⟨s13,rfl,t13⟩,g13⟩:=Z6 g12
 obtain ⟨v14,c,rfl,⟨z14,rfl,_⟩,g14⟩:=Z6 g13
 obtain ⟨v15,c,rfl,⟨z15,rfl,_⟩,g15⟩:=Z6 g14
 obtain rfl:=cellsL_nil g15
 obtain ⟨o,cp,es,h1,h2,h3,_,_⟩:=open_slC (enc:=enc) (P:=prog) (W:=W) (v:=.slice a len cap) (d:=x.1) (p:=x.2) (fa:=zf) (Q:=fun _ _=>True) 3 underlying49 plI64 (by decide +kernel) (fun _=>show 1=_ by decide +kernel) (fun n cs x hx=>by
  cases n with
  | zero=>simp [DataW.trod] at hx
  | succ n=>
   obtain ⟨z,rfl,_,hz⟩:=DataW.trod_int underlying3 hx
   exact ⟨z,rfl,trivial⟩) (fun _ _ _ _ _=>trivial) ⟨a,len,cap,rfl⟩ ⟨m,hx⟩
 injection h1 with h4 h5 h6
 subst h4 h6
 obtain ⟨n1,rfl⟩:=u8_of i1
 obtain ⟨n2,rfl⟩:=u8_of i2
 have hcs:cs=[.int .u8 (n1.toNat:Int),.int .u8 (n2.toNat:Int),.int .i64 y3,.int .i64 y4,.string y5,.int .i64 z1,.int .i64 z2,.int .i64 z3,.int .i64 z4,.int .i64 z5,.slice a len cap,.string s7,.int .i64 z8,.string s9,.int .i64 z10,.int .i64 z11,.string s12,.string s13,.int .i64 z14,.int .i64 z15]:=e1
 exact ⟨(⟨n1.toNat,n2.toNat,y3,y4,y5,⟨z1,z2,z3,z4,z5,es,s7,z8,⟨s9,z10⟩,z11⟩,s12,s13,z14,z15⟩,(a,cap)),by rw [hcs,h5];rfl,h2,by show es.length≤_;omega,t7,t9,t5,t12,t13⟩
theorem open_oes (hv:Value.okWide prog W .any base 22 v) (h:DataW.Trod enc prog W 0 (fun _=>true) true 22 v d p) :
  ∃(o:Option Addr) (cap:Nat) (es:List Oe),v = .slice o es.length cap∧((Sl 68 oef o cap es).p (fun b=>W.heap[b]?)∧(OeF es).p (fun b=>W.heap[b]?))∧es.length≤Rows.uptoBulk d∧(∀y ∈ es,y.1.p.gs.length≤Rows.uptoBulk d∧y.1.p.sp.size≤Rows.uptoBulk d∧y.1.p.dr.mkr.size≤Rows.uptoBulk d∧y.1.t.size≤Rows.uptoBulk d∧y.1.ic.size≤Rows.uptoBulk d∧y.1.id.size≤Rows.uptoBulk d)∧
   ∀(W':World) (sp:Nat→Bool),Kept W W'→(∀b<W.heap.size,sp b=true)→DataW.Trod enc prog W' 0 sp true 22 v d p:=by
 obtain ⟨o,cap,es,h1,h2,h3,h4,h5⟩:=open_slK (fa:=oef) (Q:=fun y M=>(Sl 3 zf y.2.1 y.2.2 y.1.p.gs).p (fun b=>W.heap[b]?)∧(y.1.p.gs.length≤M∧y.1.p.sp.size≤M∧y.1.p.dr.mkr.size≤M∧y.1.t.size≤M∧y.1.ic.size≤M∧y.1.id.size≤M)) 68 underlying22 (by decide +kernel) (fun _=>show 20=_ by decide +kernel)
  (fun n cs x hx=>cells_oe (W7 n 6 _ _ _ _ okOq slOq hx).1) (fun _ M M' h1 h2=>⟨h1.1,by obtain ⟨_,q1,q2,q3,q4,q5,q6⟩:=h1;exact ⟨by omega,by omega,by omega,by omega,by omega,by omega⟩⟩)
  (fun n cs x hx=>(W7 n 6 _ _ _ _ okOq slOq hx).2) (okWide_slice underlying22 hv) h
 exact ⟨o,cap,es,h1,⟨h2,fun e he=>(h4 e he).1⟩,h3,fun y hy=>(h4 y hy).2,h5⟩
end
end
variable {n:Nat} {C:Cx} {Q:Exit→Act→World→Prop} {E E':List (Nat×Value)} {F:List Pf} {R R0:List HP} {k:List Fr}
section
open VP
section
theorem k_oeF {e:Oe} {l:List Oe} (h:e ∈ l) (t:Wk n C k Q E (Sl 3 zf e.2.1 e.2.2 e.1.p.gs::F) R) {F0:List Pf} (hs:Sel (OeF l) F F0:=by (repeat (first|exact Sel.here|apply Sel.there));first|done|fail):Wk n C k Q E F R:=fun ac w ha hsat=>by
 obtain ⟨hp,hr,st⟩:=hsat
 exact t ac w ha (Yh st (st.f _ hs.mem e h))
end
def setQ (q:Oq):Oq:=if q.k % 12=0 then {q with p:={q.p with sp:=ZI q}} else q
def OeB (M:Nat) (l:List Oe):Prop:=∀y ∈ l,y.1.p.gs.length≤M∧y.1.p.sp.size≤M∧y.1.p.dr.mkr.size≤M∧y.1.t.size≤M∧y.1.ic.size≤M∧y.1.id.size≤M
theorem setQ_bd {q:Oq} (h:q.p.gs.length≤1099511627776) (h2:q.ic.size≤1099511627776) (h3:q.id.size≤1099511627776):(setQ (cutQ q)).Bd:=by
 have e1:=UE q.t 300
 have e2:=UE q.p.sp 80
 have e3:=UE q.p.dr.mkr 80
 have e4:=(Zj (cutQ q)).2.1
 have e5:(q.p.gs.take 20).length≤20:=by rw [List.length_take];omega
 unfold setQ
 split
 ·exact ⟨by show (q.p.gs.take 20).length≤_;omega,by show (ZI (cutQ q)).size≤_;omega,by show (cutS q.p.dr.mkr 80).size≤_;omega,by show (cutS q.t 300).size≤_;omega,h2,h3⟩
 ·exact ⟨by show (q.p.gs.take 20).length≤_;omega,by show (cutS q.p.sp 80).size≤_;omega,by show (cutS q.p.dr.mkr 80).size≤_;omega,by show (cutS q.t 300).size≤_;omega,h2,h3⟩
structure AfX where
 i:Nat
 s:Nat
 es:Al
 ms:Ms
def AfP (_b:Nat) (j:Nat) (x:AfX):Prop:=x.i≤j∧x.i≤20∧RelS x.i x.es x.ms
set_option maxHeartbeats 4000000 in
theorem VY (o:Option Addr) (cap:Nat) (l:List Oe) (_hl:l.length≤1099511627776) (hB:OeB 1099511627776 l) :
  Enters 9∧Spec prog 9 #[.slice o l.length cap] [Sl 68 oef o cap l,OeF l,Usg,P10] []
  ⟨Nat×AfX,fun x=>.tuple #[.pointer (some ⟨x.2.s,0,none⟩),.pointer (some ⟨x.1,0,none⟩),.bool true],fun x=>AfP x.1 l.length x.2,fun x=>[St (some ⟨x.2.s,0,none⟩) x.2.es,PrF x.2.ms.pr],fun x=>[MO x.1 x.2.ms]⟩:=by
 have n0:=Za
 have nN:=newModel_ok
 refine ZH [_] func9 ntmps9 fun G w hp=>?_
 repeat' (first|refine ZC ?_|refine ZB ?_|refine ZD ?_|refine ZA (UZ) (fun _ _=>?_)|refine ZA (nN) (fun _ _=>?_)|fail)
 rename_i s0 _ mb _
 refine Zi (show ∀h,(PrF []).p h from fun h e he=>by cases he) ?_
 refine Z8 (X:={x:AfX // AfP mb l.length x}) (fun x=>[(0,.slice o l.length cap),(2,.pointer (some ⟨x.1.s,0,none⟩)),(3,.pointer (some ⟨mb,0,none⟩)),(4,.bool true),(5,.int .i64 (x.1.i:Int))]) (fun x=>[Sl 68 oef o cap l,OeF l,St (some ⟨x.1.s,0,none⟩) x.1.es,PrF x.1.ms.pr,Usg,P10]) (fun x=>[MO mb x.1.ms]) (fun x=>l.length - x.1.i)
  ⟨⟨0,s0,[],⟨0,[],[],[],[]⟩⟩,Nat.zero_le _,Nat.zero_le _,relS_0⟩ ⟨rfl,rfl,rfl,rfl,rfl,trivial⟩ ?_
 rintro ⟨⟨i,s,es,ms⟩,hi1,hi2,hR⟩
 dsimp only at hi1 hi2 hR ⊢
 by_cases hgo:i<l.length∧i<20
 ·obtain ⟨hgo1,hgo2⟩:=hgo
  obtain ⟨⟨q,qo,qc⟩,hgt⟩:∃e,l[i]? = some e:=⟨_,List.getElem?_eq_getElem hgo1⟩
  have hmem:=List.mem_of_getElem? hgt
  obtain ⟨u1,u2,u3,u4,u5,u6⟩:=hB _ hmem
  dsimp only at u1 u2 u3 u4 u5 u6
  have m0:=cut35_ok q qo qc u1
  have hBd:=setQ_bd u1 u5 u6
  have w9:IntKind.i64.wrap ((i:Int)+1)=((i+1:Nat):Int):=by rw [wrapi (by omega) (by omega)];omega
  obtain ⟨hok2,hep⟩:=hR.ok2 (by omega)
  have hwi:=(Zj (cutQ q)).1
  have hlt7:(cutQ q).w % 7<7:=Nat.mod_lt _ (by decide)
  have w1:((cutQ q).w:Int).tmod 7=(((cutQ q).w % 7:Nat):Int):=(Int.ofNat_tmod _ 7).symm
  have w2:((cutQ q).k:Int).tmod 12=(((cutQ q).k % 12:Nat):Int):=(Int.ofNat_tmod _ 12).symm
  have nA:=fun v rs hl hf=>vwAfter_ok v s es rs (perfF es (setQ (cutQ q))).2 hl hf (by have:=hR.l;omega)
  have nP:=fun v o' c=>perf_ok v (some ⟨s,0,none⟩) es (setQ (cutQ q)) o' c hR.s hBd []
  have nD:=fun o' c=>do35_ok mb ms hok2 hep (setQ (cutQ q)) o' c hBd
  have hnx:=fun ms'=>hR.next (ms':=ms') (by omega) (setQ (cutQ q))
  have hgs:=ado_gs (s:=absM ms) (fun a p hp=>(Z3 (hR.r.p2 a p hp).1).1) (setQ (cutQ q))
  have hgd:Gd 130 (perfF es (setQ (cutQ q))).2:=(sim_ok hR.r (by omega) (setQ (cutQ q))).2.2
  have hsame:=(sim_ok hR.r (by omega) (setQ (cutQ q))).1
  have nA':=fun v rs=>nA v rs (by have:=lastL_l5 (perfF es (setQ (cutQ q))).2;have:=hgd.1;omega) hgd.2
  clear nA
  simp only [PfP,DoP] at nP nD
  rw [hsame] at nP
  have nS:=fun o1 o2 c1 c2=>same35_ok (ado (absM ms) (setQ (cutQ q))).1 (by omega) o1 o2 c1 c2
  have hnx2:=fun ms' h=>(hnx ms' h).2.2
  clear hnx hsame hgd hgs
  generalize (ado (absM ms) (setQ (cutQ q))).1=R at *
  generalize (ado (absM ms) (setQ (cutQ q))).2=A2 at *
  generalize (perfF es (setQ (cutQ q))).2=cs2 at *
  obtain ⟨rn,rm,⟨r1,r2,r3,r4,r5,rgs,r7,r8,⟨r9,r9'⟩,r10⟩,re⟩:=R
  simp only [Rz.v] at nP nD nS
  clear hBd hB hok2 hep
  refine k_oeF hmem ?_
  have hsq:setQ (cutQ q)=if (cutQ q).k % 12=0 then {cutQ q with p:={(cutQ q).p with sp:=ZI (cutQ q)}} else cutQ q:=rfl
  generalize setQ (cutQ q)=sq at *
  generalize hW:ZI (cutQ q)=W at *
  generalize cutQ q=cq at *
  obtain ⟨y1,y2,y3,y4,y5,⟨x1,x2,x3,x4,x5,xs,x7,x8,⟨x9,x10⟩,x11⟩,y7,y8,y9,y10⟩:=q
  obtain ⟨z1,z2,z3,z4,z5,⟨v1,v2,v3,v4,v5,vs,v7,v8,⟨v9,v10⟩,v11⟩,z7,z8,z9,z10⟩:=cq
  dsimp only at hsq hwi hlt7 w1 w2
  clear hW
  by_cases hk0:z1 % 12=0
  ·rw [if_pos hk0] at hsq
   rw [hk0] at w2
   subst hsq
   simp only [Oq.v] at m0 nP nD
   repeat' (first|refine ZC ?_|refine ZB ?_|refine ZT ?_|refine ZD ?_|refine ZQ ?_|refine ZS ?_|refine ZP (fun b=>?_)|refine ZL ?_|refine ZN ?_|refine Zd ?_|refine r_al (fun b=>?_)|refine r_st ?_|refine ZO ?_|refine ZA (m0) (fun _ _=>?_)|refine ZR (n0) (fun _ _=>?_)|refine ZA (XH _) (fun _ _=>?_)|refine ZR (nP _ _ _) (fun _ _=>?_)|refine ZR (nD _ _) (fun _ _=>?_)|refine ZA (nA' _ _) (fun _ _=>?_)|refine ZA (nS _ _ _ _) (fun _ _=>?_)|rw [w1]|rw [w2]|rw [w9]|refine WX (es:=l) (f:=oef) i _ hgt (fun b off=>?_)|refine Yc ?_|refine Zg (m:=7) (z2 % 7) hlt7 ?_|refine ZU 1 (z2 % 7) 0 hwi ?_|(refine ZW (fun hc=>?_) (fun hc=>?_)<;>(try simp at hc)<;>(try omega))|refine ZJ 7 [] [(1,0),(2,0),(3,0),(0,4),(4,0),(5,3),(6,0),(7,0)] [8] ?_|refine ZJ 9 [Vw _ _ _ _,MO _ _] [(0,0),(1,0),(3,0),(4,0),(2,4),(5,4),(6,1),(7,1),(8,4),(9,4)] [] ?_|fail)
   rename_i s' _ _ _
   rename Ms×(Option Addr×Nat)=>mm
   rename absM _=_=>hm
   exact ZV ⟨⟨i+1,s',applyE es (vwr cs2),mm.1⟩,by show i+1≤_;omega,by show i+1≤_;omega,hnx2 _ hm⟩ (by show l.length - (i+1)<l.length - i;omega) ⟨rfl,rfl,rfl,rfl,rfl,trivial⟩
  ·rw [if_neg hk0] at hsq
   subst hsq
   generalize hkk:z1 % 12=kk at w2
   have hk1:¬kk=0:=by omega
   simp only [Oq.v] at m0 nP nD
   repeat' (first|refine ZC ?_|refine ZB ?_|refine ZT ?_|refine ZD ?_|refine ZQ ?_|refine ZS ?_|refine ZP (fun b=>?_)|refine ZL ?_|refine ZN ?_|refine Zd ?_|refine r_al (fun b=>?_)|refine r_st ?_|refine ZO ?_|refine ZA (m0) (fun _ _=>?_)|refine ZA (XH _) (fun _ _=>?_)|refine ZR (nP _ _ _) (fun _ _=>?_)|refine ZR (nD _ _) (fun _ _=>?_)|refine ZA (nA' _ _) (fun _ _=>?_)|refine ZA (nS _ _ _ _) (fun _ _=>?_)|rw [w2]|rw [w9]|refine WX (es:=l) (f:=oef) i _ hgt (fun b off=>?_)|refine Yc ?_|(refine ZW (fun hc=>?_) (fun hc=>?_)<;>(try simp at hc)<;>(try omega))|refine ZJ 9 [Vw _ _ _ _,MO _ _] [(0,0),(1,0),(3,0),(4,0),(2,4),(5,4),(6,1),(7,1),(8,4),(9,4)] [] ?_|(refine ZG (fun hc=>?_) (fun hc=>?_)<;>(try simp at hc)<;>(try omega))|fail)
   rename_i s' _ _ _
   rename Ms×(Option Addr×Nat)=>mm
   rename absM _=_=>hm
   exact ZV ⟨⟨i+1,s',applyE es (vwr cs2),mm.1⟩,by show i+1≤_;omega,by show i+1≤_;omega,hnx2 _ hm⟩ (by show l.length - (i+1)<l.length - i;omega) ⟨rfl,rfl,rfl,rfl,rfl,trivial⟩
 ·repeat' (first|refine ZC ?_|refine ZB ?_|refine ZT ?_|refine ZD ?_|refine ZE ?_|refine Zo ?_|(refine ZW (fun hc=>?_) (fun hc=>?_)<;>(try simp at hc)<;>(try omega))|fail)
  all_goals exact ZF (mb,⟨i,s,es,ms⟩) rfl ⟨hi1,hi2,hR⟩
end
section
open VP
theorem runsG_ok (b:Nat) (ps:Option Addr) (es:Al) (rs:List (Nm×Ch)) (cs:List Ch) (who:ByteArray) (hS:Sml es cs) (hw:who.size≤1000):Enters 30∧Spec prog 30 #[.pointer (some ⟨b,0,none⟩),.string who] [St ps es,Usg] [Vw b ps rs cs]
  ⟨List (Nm×Ch),fun _=>.bool (((pRun who).run es cs).1.2 == 0),fun _=>True,fun _=>[],fun r=>[Vw b ps r cs]⟩:=by
 have n1:=runG_ok b ps es rs cs who hS hw
 rw [WG] at n1
 generalize (pRun who).run es cs=A at *
 obtain ⟨⟨p,e⟩,N,cs1⟩:=A
 dsimp only at *
 obtain ⟨a1,a2,a3,a4,a5,gs,a7,a8,⟨a9,a9'⟩,a10⟩:=p
 simp only [Pr.v] at n1
 generalize rsOf es N rs=rs2 at *
 generalize b=bv at *
 refine ZH [_,_] func30 ntmps30 fun G w hp=>?_
 repeat' (first|refine ZC ?_|refine ZB ?_|refine ZD ?_|refine ZS ?_|refine ZP (fun b=>?_)|refine ZA (n1) (fun _ _=>?_)|fail)
 exact ZF rs2 rfl trivial
theorem bytesGe_ok (b:Nat) (ps:Option Addr) (es:Al) (rs:List (Nm×Ch)) (cs:List Ch) (who:ByteArray) (hS:Sml es cs) (hw:who.size≤1000) (he:((pMof who).run es cs).1.2≠0) :
  Enters 19∧Spec prog 19 #[.pointer (some ⟨b,0,none⟩),.string who] [St ps es,Usg] [Vw b ps rs cs]
  ⟨List (Nm×Ch),fun _=>.tuple #[.string ⟨#[]⟩,.int .i64 ((pMof who).run es cs).1.2],fun _=>True,fun _=>[],fun r=>[Vw b ps r cs]⟩:=by
 have n1:=memGe_ok b ps es rs cs who hS hw he
 generalize (pMof who).run es cs=A at *
 obtain ⟨⟨⟨p,o⟩,e⟩,N,cs1⟩:=A
 dsimp only at *
 generalize rsOf es N rs=rs2 at *
 generalize b=bv at *
 refine ZH [_,_] func19 ntmps19 fun G w hp=>?_
 repeat' (first|refine ZC ?_|refine ZB ?_|refine ZD ?_|refine ZA (n1) (fun _ _=>?_)|(refine ZG (fun hc=>?_) (fun hc=>?_)<;>(try simp at hc)<;>(try omega))|fail)
 exact ZF rs2 rfl trivial
set_option maxHeartbeats 1000000 in
theorem bytesGs_ok (b:Nat) (ps:Option Addr) (es:Al) (rs:List (Nm×Ch)) (cs:List Ch) (who:ByteArray) (p o:Pr) (N:List Nm) (hS:Sml es cs) (hw:who.size≤1000) (h:(pMof who).run es cs=(((p,o),0),N,cs)) (hsp:p.sp.size≤1000) (pg:Nat) (hpg:o.pg=(pg:Int)) (hp64:pg≤64) :
  Enters 19∧Spec prog 19 #[.pointer (some ⟨b,0,none⟩),.string who] [St ps es,Usg] [Vw b ps rs cs]
  ⟨List (Nm×Ch),fun _=>.tuple #[.string (memS es cs p.sp pg),.int .i64 0],fun _=>True,fun _=>[],fun r=>[Vw b ps r cs]⟩:=by
 have n1:=memGs_ok b ps es rs cs who p o N hS hw h
 have n2:=fun (x:Mb) q0=>pages_ok (x.s b p o) ps es cs hsp x.bk q0 pg hpg hp64
 have hsrc:∀(x:Mb) (i:Nat),i<pg→srP es cs (x.s b p o) i = .h (padS (vget es cs (gnm p.sp (i:Int))).1) false:=fun x i hi=>by
  unfold srP
  rw [if_pos (by show (i:Int)<o.pg;omega)];rfl
 have n3:=fun (x:Mb) q0 (i:Nat) (hi:i<pg)=>page_ok (x.s b p o) ps es cs hsp x.bk (alM (srP es cs (x.s b p o)) 64) q0 i (by omega) (padS (vget es cs (gnm p.sp (i:Int))).1) false (by
  rw [alM_nd' _ _ _ (by omega) srP_kn.1]
  show (if i<64 then srP es cs (x.s b p o) i else .u)=_
  rw [if_pos (by omega),hsrc x i hi]) (YX _)
 have n3':∀(x:Mb) (i:Nat),i<pg→ndM (srP es cs (x.s b p o)) (alM (srP es cs (x.s b p o)) 64) i=alM (srP es cs (x.s b p o)) 64:=fun x i hi=>alM_nd' _ _ _ (by omega) srP_kn.1
 have hms:=XJ es cs p.sp
 have hstep:∀i,memS es cs p.sp (i+1)=memS es cs p.sp i++⟨(padS (vget es cs (gnm p.sp (i:Int))).1).toArray⟩:=fun _=>rfl
 have h0:memS es cs p.sp 0=⟨#[]⟩:=rfl
 generalize b=bv at *
 refine ZH [_,_] func19 ntmps19 fun G w hp=>?_
 repeat' (first|refine ZC ?_|refine ZB ?_|refine ZD ?_|refine ZE ?_|refine ZA (n1) (fun _ _=>?_)|refine ZA (n2 _ _) (fun _ _=>?_)|fail)
 rename_i x _ lst _
 obtain ⟨⟨lo,lc⟩,q2⟩:=lst
 dsimp only
 refine k_frz (T:=3) (f:=zf) (pgL pg) ?_ rfl rfl
 refine Z8 (X:={t:Nat×(Nat→Bool)×(Nat→Nat)×List (Nm×Ch) // t.1≤pg}) (fun t=>[(6,.pointer (some ⟨x.bk,0,none⟩)),(8,.string (memS es cs p.sp t.1.1)),(9,.slice lo (pgL pg).length lc),(10,.int .i64 (t.1.1:Int))]) (fun _=>Sl 3 zf lo lc (pgL pg)::(x.s bv p o).fs ps es) (fun t=>MmL (x.s bv p o) x.bk ps cs (alM (srP es cs (x.s bv p o)) 64) t.1.2) (fun t=>pg - t.1.1)
  ⟨(0,q2),Nat.zero_le _⟩ ⟨rfl,rfl,rfl,rfl,trivial⟩ ?_
 rintro ⟨⟨i,q⟩,hi⟩
 dsimp only at hi ⊢
 have hpl:=pgL_len pg
 have hsb:(x.s bv p o).vb=bv:=rfl
 by_cases hlt:i<pg
 ·have m1:=n3 x q i hlt
  rw [n3' x i hlt] at m1
  have hst:=hstep i
  have hs1:=hms i
  have hs2:=hms (i+1)
  rw [hst] at hs2
  have hx:(pgL pg)[i]? = some (i:Int):=by unfold pgL;rw [List.getElem?_map,List.getElem?_range hlt];rfl
  have wi:IntKind.i64.wrap ((i:Int)+1)=((i+1:Nat):Int):=by rw [wrapi (by omega) (by omega)];omega
  generalize alM (srP es cs (x.s bv p o)) 64=M at *
  generalize memS es cs p.sp i=m0 at *
  generalize (⟨(padS (vget es cs (gnm p.sp (i:Int))).1).toArray⟩:ByteArray)=m9 at *
  generalize x.s bv p o=s at *
  have hcat:m0.size+m9.size≤9223372036854775807:=by rw [ByteArray.size_append] at hs2;omega
  dsimp only [Sr.fs] at *
  repeat' (first|refine ZC ?_|refine ZB ?_|refine ZT ?_|refine ZD ?_|refine ZA (m1) (fun _ _=>?_)|refine WX (es:=pgL pg) (f:=zf) i (i:Int) hx (fun b off=>?_)|refine Yc ?_|refine l_cat ?_ (h:=hcat)|rw [wi]|(refine ZG (fun hc=>?_) (fun hc=>?_)<;>(try simp at hc)<;>(try omega))|fail)
  rename_i q' _
  exact ZV ⟨(i+1,q'),by omega⟩ (by show pg - (i+1)<pg - i;omega) ⟨rfl,(by show look _ _=some (Value.string (memS es cs p.sp (i+1)));rw [hst];rfl),rfl,rfl,trivial⟩
 ·obtain rfl:i=pg:=by omega
  generalize x.s bv p o=s at *
  subst hsb
  dsimp only [Sr.fs]
  repeat' (first|refine ZC ?_|refine ZB ?_|refine ZD ?_|refine Zo ?_|(refine ZG (fun hc=>?_) (fun hc=>?_)<;>(try simp at hc)<;>(try omega))|fail)
  exact ZF q.2.2 rfl trivial
end
def c111:ByteArray:=⟨#[49,46,49,46,49]⟩
theorem c111_valid:lvalid c111.data.toList=true:=by
 have h:=(YB [49,46,49,46,49] 0 0 (by simp)).2.2.2
 rw [show ffirst (([49,46,49,46,49]:List UInt8).drop 0) 0 0=(⟨1,0,0⟩,1) from rfl] at h
 have h2:=(YB [49,46,49,46,49] 2 1 (by simp)).2.2.2
 rw [show ffirst (([49,46,49,46,49]:List UInt8).drop 2) 2 1=(⟨1,2,0⟩,3) from rfl] at h2
 have h3:=(YB [49,46,49,46,49] 4 2 (by simp)).2.2.2
 rw [show ffirst (([49,46,49,46,49]:List UInt8).drop 4) 4 2=(⟨1,4,0⟩,5) from rfl] at h3
 simp at h h2 h3
 simp [c111,lvalid,lparts,h,h2,h3]
def thr35:Pr:=kidS true Z0 Z0 c11
theorem e1:c111≠o1:=by decide
theorem e2:c111≠c11:=by decide
theorem e3:c111≠c12:=by decide
def tA:List Ch:=cA
def tB:List Ch:=tA++[⟨cnm o1,cvs ⟨0,0,1⟩,false⟩]++[⟨pnm c11,pencS thr35,false⟩]
def tC:List Ch:=tB++[⟨cnm c11,cvs ⟨0,0,1⟩,false⟩]++[⟨pnm c111,pencS thr35,false⟩]
def tD:List Ch:=tC++[⟨cnm o1,cvs ⟨0,0,2⟩,false⟩]++[⟨pnm c12,pencS thr35,false⟩]
section
variable {cs:List Ch} {who ch:ByteArray} {z:Int}
end
def fstP (g e:Bool):Pr:=⟨1,if e then 2 else 1,0,0,7,[1,5],o1,if g then 3 else 2,⟨⟨#[]⟩,0⟩,3⟩
def pgN (g:Bool):Nat:=if g then 3 else 2
structure TJ (i:Nat) (g e:Bool) (cs:List Ch) (w:ByteArray):Prop where
 p1:PrAt [] cs o1 (fstP g e)
 p2:PrAt [] cs c11 thr35
 p3:PrAt [] cs c111 thr35
 p4:PrAt [] cs c12 thr35
 m:memS [] cs o1 (pgN g)=w
 l:cs.length≤100+70 * i
section
variable {F' F1 Fs F0:List Pf} {R':List HP} {k':List Fr} {ops l:List Oper} {i d b off:Nat} {t ty0:TypeId} {x y:Operand} {pos:String} {aft:Array Edge} {gd:Option (Nat×Bool)} {v:Value}
theorem WR {T sz m cap:Nat} {z:Int} {rs tr:TRow} (j:Nat) (hlt:j<m) (nx:Wl n C ops.toArray k Q l ((d,.pointer (some ⟨b,j * sz,none⟩))::E) F R)
  (hw:wantL ops E ⟨some d,.indexAddr t x y,ty0,pos,aft,gd⟩=some true:=by rfl) (hn:Nat.blt d n=true:=by rfl) (hx:ev E x=some (.slice (some ⟨b,0,none⟩) m cap):=by rfl) (hy:ev E y=some (.int .i64 z):=by rfl)
  (hts:lookT tab t=some rs:=by rfl) (hrs:rs.k = .slice T:=by rfl) (hT:lookT tab T=some tr:=by rfl) (hsz:tr.size=sz:=by rfl) (hz:z=(j:Int):=by first|rfl|omega):Wl n C ops.toArray k Q (⟨some d,.indexAddr t x y,ty0,pos,aft,gd⟩::l) E F R:=
 l_q (fun a w ha=>by
  have hr1:=Y7 (o:=some ⟨b,0,none⟩) (m:=m) (cap:=cap) (w:=w) hts hrs hT hsz hz hlt (p:=⟨b,j * sz,none⟩) (by simp [Yb rfl])
  simp only [execOp,ha.ev (x:=x) (by rw [ZK];exact hx),ha.ev (x:=y) (by rw [ZK];exact hy),Sem.run_bind,Result.andThen,hr1,Sem.run_pure]) nx (by intro c h;cases h) hw hn
end
section
open VP
theorem nm35_at (i:Nat) (hi:i<7):∃who,nm35[i]? = some who∧who.size≤1000∧isE who=false:=by
 rcases (show i=0∨i=1∨i=2∨i=3∨i=4∨i=5∨i=6 by omega) with rfl|rfl|rfl|rfl|rfl|rfl|rfl<;>exact ⟨_,rfl,by decide,by simp [isE,Zt]⟩
theorem bytesV_ok {k:Nat} {es:Al} {ms:Ms} (h:RelS k es ms) (hk:k≤900) (b:Nat) (ps:Option Addr) (rs:List (Nm×Ch)) (who:ByteArray) (hw:who.size≤1000) :
  Enters 19∧Spec prog 19 #[.pointer (some ⟨b,0,none⟩),.string who] [St ps es,Usg] [Vw b ps rs []]
  ⟨List (Nm×Ch),fun _=>.tuple #[.string (mmF ms who).1,.int .i64 (mmF ms who).2],fun _=>True,fun _=>[],fun r=>[Vw b ps r []]⟩:=by
 have hm:=pMof_v h.r (by omega) who
 have hcs:=VZ es [] who
 have hA:=Xx h.r (who:=who)
 unfold mmF
 rw [←YS]
 by_cases he:(aget (absM ms) who).2≠0
 ·rw [if_pos he] at hm ⊢
  have h1:=bytesGe_ok b ps es rs [] who h.s hw (by rw [hm];exact he)
  rw [hm] at h1
  exact h1
 ·rw [if_neg he] at hm ⊢
  obtain ⟨x1,x2,x3,x4,x5⟩:=hA (by omega)
  generalize aget (absM ms) who=A at *
  cases ho:mget A.1.sp ms.pr with
  | none=>
   have ho2:(absM ms).pr A.1.sp=none:=by show (mget A.1.sp ms.pr).map _=_;rw [ho];rfl
   rw [ho2] at hm
   have h1:=bytesGe_ok b ps es rs [] who h.s hw (by rw [hm];show (8:Int)≠0;decide)
   rw [hm] at h1
   exact h1
  | some x=>
   have ho2:(absM ms).pr A.1.sp=some x.1:=by show (mget A.1.sp ms.pr).map _=_;rw [ho];rfl
   rw [ho2] at hm
   obtain ⟨y1,y2,y3⟩:=h.r.p2 _ _ ho2
   have hpg:=(Ze y1).2.2.1
   unfold pfit at hpg
   have hsz:=V7 y2
   have h1:=bytesGs_ok b ps es rs [] who A.1 x.1 ((pMof who).run es []).2.1 h.s hw (Prod.ext hm (Prod.ext rfl hcs)) (by omega) x.1.pg.toNat (by omega) (by omega)
   rw [memS_A h.r y2 (by omega)] at h1
   exact h1
set_option maxHeartbeats 1000000 in
theorem lawPMem_ok (o:Option Addr) (cap:Nat) (l:List Oe) (hl:l.length≤1099511627776) (hB:OeB 1099511627776 l) :
  Enters 4∧Spec prog 4 #[.slice o l.length cap] [Sl 68 oef o cap l,OeF l,Usg,P10] [] (RetV (.bool true)):=by
 have n0:=VY o cap l hl hB
 have n1:=VO
 have nN:=Za
 refine ZH [_] func4 ntmps4 fun G w hp=>?_
 repeat' (first|refine ZC ?_|refine ZB ?_|refine ZT ?_|refine ZD ?_|refine ZE ?_|refine ZA (n0) (fun _ _=>?_)|refine ZA (n1) (fun _ _=>?_)|fail)
 rename Nat×AfX=>x
 rename AfP _ _ _=>hx
 obtain ⟨mb,i,s,es,ms⟩:=x
 obtain ⟨-,hi,hR⟩:=hx
 dsimp only at hi hR ⊢
 refine Z8 (X:={i:Nat // i≤7}) (fun i=>[(3,.pointer (some ⟨s,0,none⟩)),(4,.pointer (some ⟨mb,0,none⟩)),(6,.int .i64 (i.1:Int))]) (fun _=>[St (some ⟨s,0,none⟩) es,PrF ms.pr,Usg]) (fun _=>[MO mb ms]) (fun i=>7 - i.1)
  ⟨0,by omega⟩ ⟨rfl,rfl,rfl,trivial⟩ ?_
 rintro ⟨j,hj⟩
 dsimp only
 by_cases hlt:j<7
 ·obtain ⟨who,hwi,hw,-⟩:=nm35_at j hlt
  have m1:=fun b=>bytesV_ok hR (by omega) b (some ⟨s,0,none⟩) [] who hw
  have m2:=UK mb ms (hR.ok2 (by omega)).1.1 who hw
  have w9:IntKind.i64.wrap ((j:Int)+1)=((j+1:Nat):Int):=by rw [wrapi (by omega) (by omega)];omega
  generalize mmF ms who=B at *
  obtain ⟨by1,er1⟩:=B
  dsimp only at m1 m2
  repeat' (first|refine ZC ?_|refine ZB ?_|refine ZT ?_|refine ZD ?_|refine ZA (nN) (fun _ _=>?_)|refine ZA (XH _) (fun _ _=>?_)|refine ZA (m1 _) (fun _ _=>?_)|refine ZA (m2) (fun _ _=>?_)|rw [w9]|refine WR (m:=7) (sz:=1) j hlt ?_|refine Wo 1 j 0 hwi ?_|(refine ZW (fun hc=>?_) (fun hc=>?_)<;>(try simp at hc)<;>(try omega))|(refine ZG (fun hc=>?_) (fun hc=>?_)<;>(try simp at hc)<;>(try omega))|fail)
  exact ZV ⟨j+1,by omega⟩ (by show 7 - (j+1)<7 - j;omega) ⟨rfl,rfl,rfl,trivial⟩
 ·obtain rfl:j=7:=by omega
  repeat' (first|refine ZC ?_|refine ZB ?_|refine ZD ?_|refine ZE ?_|refine Zo ?_|refine ZA (nN) (fun _ _=>?_)|fail)
  exact ZF () rfl trivial
end
section
variable {n:Nat} {C:Cx} {Q:Exit→Act→World→Prop} {E E':List (Nat×Value)} {F F' F1 Fs F0:List Pf} {R R' R0 Rs N N' A:List HP} {k k':List Fr} {ops l:List Oper} {i d:Nat} {t ty0:TypeId} {x y z:Operand} {pos:String} {aft:Array Edge} {gd:Option (Nat×Bool)} {α β:Type} [DecidableEq α] {K:α→Value} {V:β→Value}
end
def En.v (e:En):Value:=.agg #[.string e.who,.int .i64 e.nu,.int .i64 e.tk,.int .i64 e.o.ch,.string e.o.tg,.string e.o.tx,.int .i64 e.o.us]
abbrev Sd:=ByteArray×Int
def sdv (s:Sd):Value:=.agg #[.string s.1,.int .i64 s.2]
def En.sd (e:En):Sd:=(e.who,e.nu)
def bv (b:Bool):Value:=.bool b
structure Cq where
 kind:Int
 who:ByteArray
 nu:Int
 place:Int
 old:Ou
 oldAt:Int
 new:Ou
 newAt:Int
 deriving DecidableEq
def cqf (c:Cq):List Value:=[.int .i64 c.kind,.string c.who,.int .i64 c.nu,.int .i64 c.place,.int .i64 c.old.ch,.string c.old.tg,.string c.old.tx,.int .i64 c.old.us,.int .i64 c.oldAt,.int .i64 c.new.ch,.string c.new.tg,.string c.new.tx,.int .i64 c.new.us,.int .i64 c.newAt]
def con1 (all:List En) (x:Lf) (p:Nat):Cq:=
 if x.e ∈ all then ⟨1,x.e.who,x.e.nu,p,x.e.o,x.e.tk,x.e.o,x.e.tk⟩
 else match all.find? fun y=>y.sd=x.e.sd with
  | some y=>⟨3,x.e.who,x.e.nu,p,x.e.o,x.e.tk,y.o,y.tk⟩
  | none=>⟨2,x.e.who,x.e.nu,p,x.e.o,x.e.tk,Ou.z,0⟩
def knw (all:List En) (x:Lf):List En:=
 (if x.e ∈ all then [] else match all.find? fun y=>y.sd=x.e.sd with|some y=>[y]|none=>[])++[x.e]
def cons1 (all:List En) (ls:List Lf):List Cq:=ls.mapIdx fun p x=>con1 all x p
def con2 (y:En):Cq:=⟨4,y.who,y.nu,-1,Ou.z,0,y.o,y.tk⟩
def cons2 (known:List En) (ys:List En):List Cq:=(ys.filter fun y=>decide (y ∉ known)).map con2
def consE (all:List En) (ls:List Lf):List Cq:=cons1 all ls++cons2 (ls.flatMap (knw all)) all
structure C1 (all:List En) where
 i:Nat
 m1:List (En×Bool)
 m2:List (Sd×En)
 hi:i≤all.length
 h1:∀e,mget e m1=if e ∈ all.take i then some true else none
 h2:∀s,mget s m2=(all.take i).find? fun y=>y.sd=s
structure C2 (all:List En) (ls:List Lf) where
 j:Nat
 o:Option Addr
 cap:Nat
 m3:List (En×Bool)
 hj:j≤ls.length
 h3:∀e,mget e m3=if e ∈ (ls.take j).flatMap (knw all) then some true else none
structure C3 (all:List En) where
 i:Nat
 o:Option Addr
 cap:Nat
 hi:i≤all.length
section
variable {F' F1 Fs F0:List Pf} {R' Rs N N' A:List HP} {k':List Fr} {ops l:List Oper} {L L':List (Nat×Nat)} {Tl:List Nat} {i d:Nat} {t ty0:TypeId} {x y:Operand} {pos:String} {aft:Array Edge} {gd:Option (Nat×Bool)} {v:Value}
end
structure It where
 who:UInt8
 nu:UInt8
 tk:UInt8
 ch:UInt8
 tx:ByteArray
def itf (x:It):List Value:=[.int .u8 x.who.toNat,.int .u8 x.nu.toNat,.int .u8 x.tk.toNat,.int .u8 x.ch.toNat,.string x.tx]
def It.v (x:It):Value:=.agg #[.int .u8 x.who.toNat,.int .u8 x.nu.toNat,.int .u8 x.tk.toNat,.int .u8 x.ch.toNat,.string x.tx]
def nm0:ByteArray:=⟨#[49]⟩
def nm1:ByteArray:=⟨#[49,46,50]⟩
def nm2:ByteArray:=⟨#[51]⟩
def who3 (j:Nat):ByteArray:=if j=0 then nm0 else if j=1 then nm1 else nm2
def ito (x:It):Ou:=⟨1+(x.ch.toNat % 4:Nat),⟨#[116]⟩,x.tx.extract 0 (min x.tx.size 20),5⟩
def itn (x:It):Nm:=⟨18,who3 (x.who.toNat % 3),(x.nu.toNat % 4:Nat),(x.tk.toNat % 8:Nat),⟨#[]⟩⟩
def itl (x:It) (p:Nat):Lf:=⟨⟨who3 (x.who.toNat % 3),(x.nu.toNat % 4:Nat),(x.tk.toNat % 8:Nat),ito x⟩,(9+p:Nat),(p / 5:Nat)⟩
def stF (es:Al) (l:List It):Al:=l.foldl (fun es x=>insO (itn x) (oencS (ito x)) es) es
def ldF (l:List It):List Lf:=l.mapIdx fun p x=>itl x p
structure B1 (now:List It) where
 i:Nat
 q:Option Addr
 es:Al
 h1:i≤now.length∧i≤20
 h2:es=stF [] (now.take i)
 h3:es.length≤i
structure B2 (left:List It) where
 i:Nat
 h1:i≤left.length∧i≤20
section
open Go.ChangeShapes Go.WideShapes Go.ChangeAt

end
section
open Go.ChangeShapes Go.WideShapes Go.ChangeAt

end
section
open Go.ChangeShapes Go.WideShapes Go.ChangeAt

def laidT : List (String × DataW Unit) := [("math/bits.deBruijn32tab", Rows.laid_math_bits_deBruijn32tab), ("math/bits.deBruijn64tab", Rows.laid_math_bits_deBruijn64tab), ("internal/strconv.uint64pow10", Rows.laid_internal_strconv_uint64pow10), ("replevin/object.usages", Rows.laid_replevin_object_usages)]
theorem tP10 : (Tryz.prog.globals[3]?).map (·.type) = some 347 := by kernel_rfl
theorem plP10 : plainT Tryz.prog 5 347 = true := by decide +kernel
theorem rdP10 (w : World) : DataW.trod (fun _ => ()) Tryz.prog w 0 (fun _ => true) false 8 347 (Lib.pow10Tab.map fun z => Value.int .u64 z) = some (Rows.laid_internal_strconv_uint64pow10, []) := by kernel_rfl
theorem Yr {W : World} (h : laidMetH Tryz.prog laidT W) : (Usg.p fun b => W.heap[b]?) ∧ P10.p fun b => W.heap[b]? := by
  rw [MakeChecks.laidMetH_plain _ _ _ (by kernel_rfl)] at h
  obtain ⟨ps, ⟨_, _, _, _, _, _, _, _, _, _, ⟨_, _, _, _, _, _, _, _, _, _, ⟨g1, t1, cs1, f1, p1, q1, hg1, ht1, hv1, hd1, ⟨g0, t0, cs0, f0, p0, q0, hg0, ht0, hv0, hd0, _, _⟩, _⟩, _⟩, _⟩, _, _⟩ := h
  refine ⟨?_, ?_⟩
  · obtain rfl := Option.some.inj (gUsg.symm.trans hg0)
    obtain rfl := Option.some.inj (tUsg.symm.trans ht0)
    have hcs : cs0.toList = usages.flatMap uf := Vl (enc' := fun _ => ()) _ _ _ _ W W _ _ _ _ _ _ _ _ _ _ plUsg hd0 (rdUsg W) rfl
    unfold World.var? at hv0
    rw [hg0] at hv0
    simp only [Option.bind_some] at hv0
    split at hv0
    · rename_i cs t fr hb
      obtain rfl := Option.some.inj hv0
      exact ⟨t, fr, by rw [← hcs]; simpa using hb⟩
    · cases hv0
  · obtain rfl := Option.some.inj (g10.symm.trans hg1)
    obtain rfl := Option.some.inj (tP10.symm.trans ht1)
    have hcs : cs1.toList = Lib.pow10Tab.map fun z => Value.int .u64 z := Vl (enc' := fun _ => ()) _ _ _ _ W W _ _ _ _ _ _ _ _ _ _ plP10 hd1 (rdP10 W) rfl
    unfold World.var? at hv1
    rw [hg1] at hv1
    simp only [Option.bind_some] at hv1
    split at hv1
    · rename_i cs t fr hb
      obtain rfl := Option.some.inj hv1
      exact ⟨t, fr, by rw [← hcs]; simpa using hb⟩
    · cases hv1

def bits (l : List Int) : List Value := l.map fun z => Value.int .u8 z
def b32 : List Int := [0, 1, 28, 2, 29, 14, 24, 3, 30, 22, 20, 15, 25, 17, 4, 8, 31, 27, 13, 23, 21, 19, 16, 7, 26, 12, 18, 6, 11, 5, 10, 9]
def b64 : List Int := [0, 1, 56, 2, 57, 49, 28, 3, 61, 58, 42, 50, 38, 29, 17, 4, 62, 47, 59, 36, 45, 43, 51, 22, 53, 39, 33, 30, 24, 18, 12, 5, 63, 55, 48, 27, 60, 41, 37, 16, 46, 35, 44, 21, 52, 32, 23, 11, 54, 26, 40, 15, 34, 20, 31, 10, 25, 14, 19, 9, 13, 8, 7, 6]
noncomputable def laidWorldT (os : Os) : World :=
  { laidWorld os with heap := (((laidWorld os).heap.modify 3 fun
      | .cells _ t frozen => .cells (Lib.pow10Tab.map fun z => Value.int .u64 z).toArray t frozen
      | o => o).modify 4 fun
      | .cells _ t frozen => .cells (bits b32).toArray t frozen
      | o => o).modify 5 fun
      | .cells _ t frozen => .cells (bits b64).toArray t frozen
      | o => o }
end
end Go.Proofs.YtbbdafjdbhpbmaaGreatDoor
