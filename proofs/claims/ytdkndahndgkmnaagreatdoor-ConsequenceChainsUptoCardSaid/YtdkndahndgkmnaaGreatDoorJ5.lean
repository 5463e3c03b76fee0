/-
  From contracts to the statements' form: memory that was there stays; plain data read the same everywhere; the table of the kinds.
  Slices of plain data as arguments: the fact that they lie in memory, and that they read the same later.
  The settled world; arguments of plain types, opened.
  The statements' arguments, opened: items, bytes.
  The statements' arguments, opened: acts, two small numbers.
  A consequence as an argument of a statement, opened.
  Conditions: those that each theorem states.
-/
import Derived.Test.YtdkndahndgkmnaaGreatDoorJ2
import Derived.Test.YtdkndahndgkmnaaGreatDoorRows
import Derived.Test.YtdkndahndgkmnaaGreatDoorCards
import Derived.Test.YtdkndahndgkmnaaGreatDoorTie
import Derived.ChangeSame
import Derived.ProofKit
import Derived.OpenShut
import Derived.MakeChecks
import Derived.Deep.DeepHandedRow
import Derived.Test.YtdkndahndgkmnaaGreatDoorJ3
import Derived.Test.YtdkndahndgkmnaaGreatDoorJ4
set_option maxRecDepth 10000
namespace Go.Proofs.YtdkndahndgkmnaaGreatDoor
open Go.RowKit Go.Proofs.Tryz
variable {H:Type}
section
open Go.ChangeShapes Go.WideShapes Go.ChangeAt
structure Kept (W W':World):Prop where
 os:W'.os=W.os
 output:W'.output=W.output
 heap:∀(b:Nat) (o:Obj),W.heap[b]? = some o→W'.heap[b]? = some o
theorem Kept.but {W W':World} (h:Kept W W') (may:MemPlace→Prop):W.keptBut W' may:=by
 refine ⟨h.os,h.output,fun i hi=>?_⟩
 have h1:W.heap[i]? = some W.heap[i]:=Array.getElem?_eq_getElem hi
 have h2:=h.heap i _ h1
 rw [h1,h2]
 split
 ·rename_i c t fr c' t' fr' e1 e2
  rw [e1] at e2
  injection e2 with e2
  injection e2 with a1 a2 a3
  subst a1 a2 a3
  exact ⟨rfl,rfl,rfl,fun _ _=>rfl⟩
 ·rename_i es clock es' clock' e1 e2
  rw [e1] at e2
  injection e2 with e2
  injection e2 with a1 a2
  subst a1 a2
  exact .inr ⟨rfl,rfl⟩
 ·rfl
theorem calls_law {f:FuncId} {args:Array Value} {F:List Pf} {v:Value} (h:Spec prog f args F [] (RetV v)) (W:World) (hF:∀x ∈ F,x.p fun b=>W.heap[b]?) :
  Calls prog f args W fun e W'=>e = .returned v∧Kept W W':=by
 have hs:Sat emp W (fun b=>W.heap[b]?) F [] W:=⟨fun b=>W.heap[b]?,emp,fun _ _ e=>e,(fun _ _ e=>by cases e),(fun _ _ e=>by cases e),fun _=>.inr rfl,fun _=>.inr rfl,fun _=>.inr rfl,Sub.refl _,hF,trivial,Same.refl _⟩
 refine (h _ _ _ hs).mono ?_
 rintro e W' ⟨_,rfl,_,hp',hr,st⟩
 exact ⟨rfl,st.same.os,st.same.output,fun b o hb=>st.inp b o (st.sub b o hb)⟩
def contig (P:Program):Nat→List Field→Option Nat
 | o,[]=>some o
 | o,f::fs=>if f.offset=o then contig P (o+P.cellsOf f.type) fs else none
def plainT (P:Program):Nat→TypeId→Bool
 | 0,_=>false
 | k+1,t=>match P.underlying t with
  | some .bool=>true
  | some (.int _)=>true
  | some .string=>true
  | some (.struct fs)=>(fs.toList.all fun f=>plainT P k f.type) && (contig P 0 fs.toList == some (P.cellsOf t))
  | some (.array n e)=>plainT P k e && (P.cellsOf t == n * P.cellsOf e)
  | _=>false
variable {enc:TypeId×Value→H} {P:Program}
theorem Y1 {α β:Type} {f g:α→Option β}:∀{l:List α} {r:List β},(∀a ∈ l,∀x,f a=some x→g a=some x)→l.mapM f=some r→l.mapM g=some r
 | [],r,_,h=>h
 | a::l,r,hfg,h=>by
  rw [List.mapM_cons] at h ⊢
  simp only [Option.bind_eq_bind,Option.bind_eq_some_iff,Option.pure_def,Option.some.injEq] at h ⊢
  obtain ⟨x,hx,xs,hxs,rfl⟩:=h
  exact ⟨x,hfg a (by simp) x hx,xs,Y1 (fun b hb=>hfg b (by simp [hb])) hxs,rfl⟩
theorem mapM_all {α β:Type} {f:α→Option β} {p:β→Prop}:∀{l:List α} {r:List β},(∀a ∈ l,∀x,f a=some x→p x)→l.mapM f=some r→∀x ∈ r,p x
 | [],r,_,h=>by simp at h;subst h;simp
 | a::l,r,hfg,h=>by
  rw [List.mapM_cons] at h
  simp only [Option.bind_eq_bind,Option.bind_eq_some_iff,Option.pure_def,Option.some.injEq] at h
  obtain ⟨x,hx,xs,hxs,rfl⟩:=h
  intro y hy
  rcases List.mem_cons.1 hy with rfl|hy
  ·exact hfg a (by simp) y hx
  ·exact mapM_all (fun b hb=>hfg b (by simp [hb])) hxs y hy
theorem XV {β γ:Type} {f:β→List γ}:∀{l:List β},(∀x ∈ l,f x=[])→l.flatMap f=[]
 | [],_=>rfl
 | a::l,h=>by rw [List.flatMap_cons,h a (by simp),XV (fun x hx=>h x (by simp [hx]))];rfl
theorem Xe:∀(n k:Nat) (t:TypeId) (w:World) (base:Nat) (sp:Nat→Bool) (hd:Bool) (cs:List Value) (x:DataW H×List MemPlace),plainT P k t=true→DataW.trod enc P w base sp hd n t cs=some x→
  x.2=[]∧∀w' base' sp' hd',DataW.trod enc P w' base' sp' hd' n t cs=some x
 | 0,_,_,_,_,_,_,_,_,_,h=>by simp [DataW.trod] at h
 | n+1,0,_,_,_,_,_,_,_,hp,_=>by simp [plainT] at hp
 | n+1,k+1,t,w,base,sp,hd,cs,x,hp,h=>by
  unfold plainT at hp
  split at hp
  ·rename_i hu
   obtain ⟨b,rfl,rfl⟩:=DataW.trod_bool hu h
   exact ⟨rfl,fun _ _ _ _=>by simp [DataW.trod,hu]⟩
  ·rename_i hu
   obtain ⟨z,rfl,rfl,hz⟩:=DataW.trod_int hu h
   exact ⟨rfl,fun _ _ _ _=>by simp [DataW.trod,hu,hz]⟩
  ·rename_i hu
   obtain ⟨s,rfl,rfl,hs⟩:=DataW.trod_string hu h
   exact ⟨rfl,fun _ _ _ _=>by simp [DataW.trod,hu,hs]⟩
  ·rename_i fs hu
   rw [Bool.and_eq_true,List.all_eq_true] at hp
   simp only [DataW.trod,hu] at h ⊢
   split at h
   ·rename_i hl
    simp only [Option.map_eq_some_iff] at h
    obtain ⟨xs,hxs,rfl⟩:=h
    have ih:∀f ∈ fs.toList,∀y,DataW.trod enc P w base sp hd n f.type ((cs.drop f.offset).take (P.cellsOf f.type))=some y→y.2=[]∧∀w' base' sp' hd',DataW.trod enc P w' base' sp' hd' n f.type ((cs.drop f.offset).take (P.cellsOf f.type))=some y:=fun f hf y hy=>
     Xe n k f.type w base sp hd _ y (hp.1 f hf) hy
    refine ⟨XV (mapM_all (fun f hf y hy=>(ih f hf y hy).1) hxs),fun w' base' sp' hd'=>?_⟩
    rw [if_pos hl,Y1 (fun f hf y hy=>(ih f hf y hy).2 w' base' sp' hd') hxs]
    rfl
   ·cases h
  ·rename_i m e hu
   rw [Bool.and_eq_true] at hp
   simp only [DataW.trod,hu] at h ⊢
   split at h
   ·rename_i hl
    simp only [Option.map_eq_some_iff] at h
    obtain ⟨xs,hxs,rfl⟩:=h
    have ih:∀i ∈ List.range m,∀y,DataW.trod enc P w base sp hd n e ((cs.drop (i * P.cellsOf e)).take (P.cellsOf e))=some y→y.2=[]∧∀w' base' sp' hd',DataW.trod enc P w' base' sp' hd' n e ((cs.drop (i * P.cellsOf e)).take (P.cellsOf e))=some y:=fun i _ y hy=>
     Xe n k e w base sp hd _ y hp.1 hy
    refine ⟨XV (mapM_all (fun i hi y hy=>(ih i hi y hy).1) hxs),fun w' base' sp' hd'=>?_⟩
    rw [if_pos hl,Y1 (fun i hi y hy=>(ih i hi y hy).2 w' base' sp' hd') hxs]
    rfl
   ·cases h
  ·cases hp
theorem Yb {α β:Type} {f:α→Option β}:∀{l:List α} {r:List β},l.mapM f=some r→∀(i:Nat) (a:α),l[i]? = some a→∃b,r[i]? = some b∧f a=some b
 | [],r,_,i,a,hi=>by simp at hi
 | c::l,r,h,i,a,hi=>by
  rw [List.mapM_cons] at h
  simp only [Option.bind_eq_bind,Option.bind_eq_some_iff,Option.pure_def,Option.some.injEq] at h
  obtain ⟨x,hx,xs,hxs,rfl⟩:=h
  cases i with
  | zero=>simp at hi;subst hi;exact ⟨x,by simp,hx⟩
  | succ i=>simpa using Yb hxs i a (by simpa using hi)
theorem cover:∀(fs:List Field) (o total:Nat) (cs cs':List Value),contig P o fs=some total→cs.length=total→cs'.length=total→
  (∀f ∈ fs,(cs.drop f.offset).take (P.cellsOf f.type)=(cs'.drop f.offset).take (P.cellsOf f.type))→cs.drop o=cs'.drop o
 | [],o,total,cs,cs',h,h1,h2,_=>by
  simp only [contig,Option.some.injEq] at h
  rw [List.drop_eq_nil_of_le (by omega),List.drop_eq_nil_of_le (by omega)]
 | f::fs,o,total,cs,cs',h,h1,h2,hp=>by
  unfold contig at h
  split at h
  ·rename_i ho
   have ih:=cover fs (o+P.cellsOf f.type) total cs cs' h h1 h2 fun g hg=>hp g (by simp [hg])
   have h3:=hp f (by simp)
   rw [ho] at h3
   rw [←List.take_append_drop (P.cellsOf f.type) (cs.drop o),←List.take_append_drop (P.cellsOf f.type) (cs'.drop o),List.drop_drop,List.drop_drop,h3,ih]
  ·cases h
theorem trod_inj {H':Type} {enc':TypeId×Value→H'}:∀(n n' k:Nat) (t:TypeId) (w w':World) (base base':Nat) (sp sp':Nat→Bool) (hd hd':Bool) (cs cs':List Value) (x x':DataW H×List MemPlace),plainT P k t=true→
  DataW.trod enc P w base sp hd n t cs=some x→DataW.trod enc P w' base' sp' hd' n' t cs'=some x'→x.1=x'.1→cs=cs'
 | 0,_,_,_,_,_,_,_,_,_,_,_,_,_,_,_,_,h,_,_=>by simp [DataW.trod] at h
 | _+1,0,_,_,_,_,_,_,_,_,_,_,_,_,_,_,_,_,h,_=>by simp [DataW.trod] at h
 | n+1,n'+1,0,_,_,_,_,_,_,_,_,_,_,_,_,_,hp,_,_,_=>by simp [plainT] at hp
 | n+1,n'+1,k+1,t,w,w',base,base',sp,sp',hd,hd',cs,cs',x,x',hp,h,h',he=>by
  unfold plainT at hp
  split at hp
  ·rename_i hu
   obtain ⟨b,rfl,rfl⟩:=DataW.trod_bool hu h
   obtain ⟨b',rfl,rfl⟩:=DataW.trod_bool hu h'
   simp at he;subst he;rfl
  ·rename_i hu
   obtain ⟨z,rfl,rfl,hz⟩:=DataW.trod_int hu h
   obtain ⟨z',rfl,rfl,hz'⟩:=DataW.trod_int hu h'
   simp at he;subst he;rfl
  ·rename_i hu
   obtain ⟨s,rfl,rfl,hs⟩:=DataW.trod_string hu h
   obtain ⟨s',rfl,rfl,hs'⟩:=DataW.trod_string hu h'
   simp at he
   rw [WG (by rw [he]:s.data.toList=s'.data.toList)]
  ·rename_i fs hu
   rw [Bool.and_eq_true,List.all_eq_true,beq_iff_eq] at hp
   simp only [DataW.trod,hu] at h h'
   split at h
   ·rename_i hl
    split at h'
    ·rename_i hl'
     simp only [Option.map_eq_some_iff] at h h'
     obtain ⟨xs,hxs,rfl⟩:=h
     obtain ⟨xs',hxs',rfl⟩:=h'
     simp only [DataW.agg.injEq] at he
     have:=cover fs.toList 0 _ cs cs' hp.2 hl hl' fun f hf=>by
      obtain ⟨i,hi,rfl⟩:=List.mem_iff_getElem.1 hf
      have hi':=List.getElem?_eq_getElem hi
      obtain ⟨y,hy1,hy2⟩:=Yb hxs i _ hi'
      obtain ⟨y',hy1',hy2'⟩:=Yb hxs' i _ hi'
      have hyy:y.1=y'.1:=by
       have h1:(xs.map (·.1))[i]? = some y.1:=by simp [hy1]
       have h2:(xs'.map (·.1))[i]? = some y'.1:=by simp [hy1']
       rw [he] at h1
       exact Option.some.inj (h1.symm.trans h2)
      exact trod_inj (enc':=enc') n n' k _ w w' base base' sp sp' hd hd' _ _ y y' (hp.1 _ hf) hy2 hy2' hyy
     simpa using this
    ·cases h'
   ·cases h
  ·rename_i m e hu
   rw [Bool.and_eq_true,beq_iff_eq] at hp
   simp only [DataW.trod,hu] at h h'
   split at h
   ·rename_i hl
    split at h'
    ·rename_i hl'
     simp only [Option.map_eq_some_iff] at h h'
     obtain ⟨xs,hxs,rfl⟩:=h
     obtain ⟨xs',hxs',rfl⟩:=h'
     simp only [DataW.agg.injEq] at he
     have hpart:∀i,i<m→(cs.drop (i * P.cellsOf e)).take (P.cellsOf e)=(cs'.drop (i * P.cellsOf e)).take (P.cellsOf e):=fun i hi=>by
      have hi':(List.range m)[i]? = some i:=by simp [hi]
      obtain ⟨y,hy1,hy2⟩:=Yb hxs i _ hi'
      obtain ⟨y',hy1',hy2'⟩:=Yb hxs' i _ hi'
      have hyy:y.1=y'.1:=by
       have h1:(xs.map (·.1))[i]? = some y.1:=by simp [hy1]
       have h2:(xs'.map (·.1))[i]? = some y'.1:=by simp [hy1']
       rw [he] at h1
       exact Option.some.inj (h1.symm.trans h2)
      exact trod_inj (enc':=enc') n n' k _ w w' base base' sp sp' hd hd' _ _ y y' hp.1 hy2 hy2' hyy
     apply List.ext_getElem?
     intro j
     by_cases hj:j<m * P.cellsOf e
     ·have hc:0<P.cellsOf e:=Nat.pos_of_ne_zero fun h0=>by rw [h0] at hj;simp at hj
      have h1:=congrArg (fun l=>l[j % P.cellsOf e]?) (hpart (j / P.cellsOf e) (Nat.div_lt_of_lt_mul (by rw [Nat.mul_comm];exact hj)))
      simp only [List.getElem?_take,List.getElem?_drop,if_pos (Nat.mod_lt j hc)] at h1
      rw [show j / P.cellsOf e * P.cellsOf e+j % P.cellsOf e=j by rw [Nat.mul_comm];exact Nat.div_add_mod j _] at h1
      exact h1
     ·rw [List.getElem?_eq_none (by omega),List.getElem?_eq_none (by omega)]
    ·cases h'
   ·cases h
  ·cases hp
theorem post_kept {f:Func} {s:ChangeSpec} {apart fresh handsOn again:Bool} {W W':World} {args:Array Value} {v:Value} {ds gs:List (DataW H)} {before pa pv:List MemPlace}
  (hW:DataW.Whole enc P f.params.toList s.vars apart W args.toList ds gs before)
  (hres:∀(b:Nat) (sp:Nat→Bool) (hd:Bool),DataW.TrodAll enc P W' b sp hd f.resultTypes.toList (v.resultList f.resultTypes.size) (s.fn H (ds++gs)).results [])
  (hargs:∀sp:Nat→Bool,(∀b<W.heap.size,sp b=true)→DataW.TrodAll enc P W' 0 sp true f.params.toList args.toList (s.fn H (ds++gs)).args pa)
  (hvars:∀sp:Nat→Bool,(∀b<W.heap.size,sp b=true)→DataW.TrodVars enc P W' sp s.vars (s.fn H (ds++gs)).vars pv)
  (hps:before=pa++pv) (hk:Kept W W')
  (hok:∀(j:Nat) (t:TypeId) (r:Value),f.resultTypes[j]? = some t→(v.resultList f.resultTypes.size)[j]? = some r→Value.okWide P W' .any 0 t r) :
  s.post enc P f apart fresh handsOn again W args v W':=by
 have hlt:=hW.lt
 refine ⟨ds,gs,before,[],pa,pv,hW,hres _ _ _,hargs _ (fun b hb=>by simpa using hb),hvars _ (fun b hb=>by simpa using hb),World.keptBut_mono (fun p hp=>⟨hp,?_⟩) (hk.but (· ∈ before)),fun _=>?_⟩
 ·rw [hps,List.mem_append] at hp
  exact Or.inr hp
 ·obtain ⟨_,_,_,_,_,hz,hn⟩:=hW
  refine ⟨hok,_,_,([]++pa)++pv,⟨[]++pa,pv,trodAll_append (hargs _ (fun _ _=>rfl)) (hres _ _ _),hvars _ (fun _ _=>rfl),rfl,?_,?_⟩,?_⟩
  ·intro b off hp
   have hm:MemPlace.cell b off ∈ before:=by rw [hps];simpa using hp
   have h1:=hz b off hm
   have h2:b<W.heap.size:=hlt _ hm
   have h4:W.heap[b]? = some W.heap[b]:=Array.getElem?_eq_getElem h2
   have h3:=hk.heap b _ h4
   unfold World.frozen? at h1 ⊢
   dsimp only at h1 ⊢
   rw [h4] at h1
   rw [h3]
   exact h1
  ·intro ha
   have:=hn ha
   rw [hps] at this
   simpa using this
  ·intro p hp _
   rw [hps]
   simpa using hp
def laidU : List (String × DataW Unit) := [("replevin/object.usages", Rows.laid_replevin_object_usages)]
theorem gUsg : prog.globalNamed "replevin/object.usages" = some 0 := by kernel_rfl
theorem tUsg:(prog.globals[0]?).map (·.type)=some 279:=by kernel_rfl
theorem plUsg:plainT prog 5 279=true:=by decide +kernel
theorem rdUsg (w:World):DataW.trod (fun _=>()) prog w 0 (fun _=>true) false 8 279 (usages.flatMap uf)=some (Rows.laid_replevin_object_usages,[]):=by kernel_rfl
theorem usg_of_laid {W:World} (h:laidMetH prog laidU W):Usg.p fun b=>W.heap[b]?:=by
 rw [MakeChecks.laidMetH_plain _ _ _ (by kernel_rfl)] at h
 obtain ⟨ps,⟨g0,t0,cs0,f0,p0,q0,hg0,ht0,hv0,hd0,_,_⟩,_,_⟩:=h
 obtain rfl:=Option.some.inj (gUsg.symm.trans hg0)
 obtain rfl:=Option.some.inj (tUsg.symm.trans ht0)
 have hcs:cs0.toList=usages.flatMap uf:=trod_inj (enc':=fun _=>()) _ _ _ _ W W _ _ _ _ _ _ _ _ _ _ plUsg hd0 (rdUsg W) rfl
 unfold World.var? at hv0
 rw [hg0] at hv0
 simp only [Option.bind_some] at hv0
 split at hv0
 ·rename_i cs t fr hb
  obtain rfl:=Option.some.inj hv0
  exact ⟨t,fr,by rw [←hcs];simpa using hb⟩
 ·cases hv0
inductive SK where
 | b
 | i (k:IntKind)
 | s
def sksF (g:TypeId→Option (List SK)):List Field→Option (List SK)
 | []=>some []
 | f::fs=>match g f.type,sksF g fs with
  | some a,some r=>some (a++r)
  | _,_=>none
def sks (P:Program):Nat→TypeId→Option (List SK)
 | 0,_=>none
 | k+1,t=>match P.underlying t with
  | some .bool=>some [.b]
  | some (.int ik)=>some [.i ik]
  | some .string=>some [.s]
  | some (.struct fs)=>sksF (sks P k) fs.toList
  | some (.array n e)=>(sks P k e).map fun l=>(List.replicate n l).flatten
  | _=>none
def CellOK (M:Nat):SK→Value→Prop
 | .b,v=>∃b,v = .bool b
 | .i k,v=>∃z,v = .int k z∧(Lit.int k z).wf=true
 | .s,v=>∃s:ByteArray,v = .string s∧s.size≤M
def CellsOK (M:Nat):List SK→List Value→Prop
 | [],[]=>True
 | k::ks,v::vs=>CellOK M k v∧CellsOK M ks vs
 | _,_=>False
theorem Y8 {M:Nat}:∀{a b:List SK} {x y:List Value},CellsOK M a x→CellsOK M b y→CellsOK M (a++b) (x++y)
 | [],_,[],_,_,h=>h
 | _::_,_,_::_,_,⟨h1,h2⟩,h=>⟨h1,Y8 h2 h⟩
theorem XW {M M':Nat} (hM:M≤M'):∀{a:List SK} {x:List Value},CellsOK M a x→CellsOK M' a x
 | [],[],_=>trivial
 | k::_,_::_,⟨h1,h2⟩=>⟨by
   cases k with
   | b=>exact h1
   | i k=>exact h1
   | s=>obtain ⟨s,hs,hl⟩:=h1;exact ⟨s,hs,Nat.le_trans hl hM⟩,XW hM h2⟩
theorem Wc:∀{l:List (DataW H)} {d:DataW H},d ∈ l→Rows.uptoBulk d≤Rows.uptoBulkAll l
 | c::l,d,h=>by
  rcases List.mem_cons.1 h with rfl|h
  ·simp only [Rows.uptoBulkAll];omega
  ·have:=Wc h
   simp only [Rows.uptoBulkAll];omega
theorem sksF_ok {M:Nat} {g:TypeId→Option (List SK)}:∀(fs:List Field) (o total:Nat) (cs:List Value) (ks:List SK),contig P o fs=some total→cs.length=total→sksF g fs=some ks→
  (∀f ∈ fs,∀k,g f.type=some k→CellsOK M k ((cs.drop f.offset).take (P.cellsOf f.type)))→CellsOK M ks (cs.drop o)
 | [],o,total,cs,ks,h,h1,h2,_=>by
  simp only [contig,Option.some.injEq] at h
  simp only [sksF,Option.some.injEq] at h2
  rw [←h2,List.drop_eq_nil_of_le (by omega)];trivial
 | f::fs,o,total,cs,ks,h,h1,h2,hp=>by
  unfold contig at h
  split at h
  ·rename_i ho
   unfold sksF at h2
   split at h2
   ·rename_i a r ha hr
    obtain rfl:=Option.some.inj h2
    have ih:=sksF_ok fs (o+P.cellsOf f.type) total cs r h h1 hr fun g hg=>hp g (by simp [hg])
    have h3:=hp f (by simp) a ha
    rw [ho] at h3
    rw [←List.take_append_drop (P.cellsOf f.type) (cs.drop o),List.drop_drop]
    exact Y8 h3 ih
   ·cases h2
  ·cases h
theorem arr_cells {M c:Nat} {l:List SK}:∀(m:Nat) (cs:List Value),cs.length=m * c→(∀i,i<m→CellsOK M l ((cs.drop (i * c)).take c))→CellsOK M (List.replicate m l).flatten cs
 | 0,cs,h,_=>by
  have:cs=[]:=List.length_eq_zero_iff.1 (by omega)
  subst this;trivial
 | m+1,cs,h,hp=>by
  have h0:=hp 0 (by omega)
  rw [Nat.zero_mul,List.drop_zero] at h0
  have hl:cs.length=m * c+c:=by rw [h,Nat.succ_mul]
  have ih:=arr_cells (M:=M) (c:=c) (l:=l) m (cs.drop c) (by rw [List.length_drop];omega) fun i hi=>by
   have:=hp (i+1) (by omega)
   rw [List.drop_drop,show c+i * c=(i+1) * c by rw [Nat.succ_mul];omega]
   exact this
  rw [List.replicate_succ,List.flatten_cons,←List.take_append_drop c cs]
  exact Y8 h0 ih
theorem XX:∀(n k:Nat) (t:TypeId) (w:World) (base:Nat) (sp:Nat→Bool) (hd:Bool) (cs:List Value) (x:DataW H×List MemPlace) (ks:List SK),plainT P k t=true→sks P k t=some ks→DataW.trod enc P w base sp hd n t cs=some x→CellsOK (Rows.uptoBulk x.1) ks cs
 | 0,_,_,_,_,_,_,_,_,_,_,_,h=>by simp [DataW.trod] at h
 | n+1,0,_,_,_,_,_,_,_,_,hp,_,_=>by simp [plainT] at hp
 | n+1,k+1,t,w,base,sp,hd,cs,x,ks,hp,hk,h=>by
  unfold plainT at hp
  unfold sks at hk
  split at hp
  ·rename_i hu
   rw [hu] at hk
   obtain rfl:=Option.some.inj hk
   obtain ⟨b,rfl,rfl⟩:=DataW.trod_bool hu h
   exact ⟨⟨b,rfl⟩,trivial⟩
  ·rename_i hu
   rw [hu] at hk
   obtain rfl:=Option.some.inj hk
   obtain ⟨z,rfl,rfl,hz⟩:=DataW.trod_int hu h
   exact ⟨⟨z,rfl,hz⟩,trivial⟩
  ·rename_i hu
   rw [hu] at hk
   obtain rfl:=Option.some.inj hk
   obtain ⟨s,rfl,rfl,hs⟩:=DataW.trod_string hu h
   refine ⟨⟨s,rfl,?_⟩,trivial⟩
   have hsz:s.data.toList.length=s.size:=by simp
   simp only [Rows.uptoBulk];omega
  ·rename_i fs hu
   rw [hu] at hk
   rw [Bool.and_eq_true,List.all_eq_true,beq_iff_eq] at hp
   simp only [DataW.trod,hu] at h
   split at h
   ·rename_i hl
    simp only [Option.map_eq_some_iff] at h
    obtain ⟨xs,hxs,rfl⟩:=h
    have:=sksF_ok (M:=Rows.uptoBulk (.agg (xs.map (·.1)))) (g:=sks P k) fs.toList 0 _ cs ks hp.2 hl hk fun f hf k' hk'=>by
     obtain ⟨i,hi,rfl⟩:=List.mem_iff_getElem.1 hf
     obtain ⟨y,hy1,hy2⟩:=Yb hxs i _ (List.getElem?_eq_getElem hi)
     refine XW ?_ (XX n k _ w base sp hd _ y k' (hp.1 _ hf) hk' hy2)
     have hm:y.1 ∈ xs.map (·.1):=List.mem_map.2 ⟨y,List.mem_of_getElem? hy1,rfl⟩
     have:=Wc hm
     simp only [Rows.uptoBulk];omega
    simpa using this
   ·cases h
  ·rename_i m e hu
   rw [hu] at hk
   rw [Bool.and_eq_true,beq_iff_eq] at hp
   simp only [DataW.trod,hu] at h
   split at h
   ·rename_i hl
    simp only [Option.map_eq_some_iff] at h hk
    obtain ⟨xs,hxs,rfl⟩:=h
    obtain ⟨l,hl2,rfl⟩:=hk
    refine arr_cells m cs (by rw [hl,hp.2]) fun i hi=>?_
    have hi':(List.range m)[i]? = some i:=by simp [hi]
    obtain ⟨y,hy1,hy2⟩:=Yb hxs i _ hi'
    refine XW ?_ (XX n k _ w base sp hd _ y l hp.1 hl2 hy2)
    have hm:y.1 ∈ xs.map (·.1):=List.mem_map.2 ⟨y,List.mem_of_getElem? hy1,rfl⟩
    have:=Wc hm
    simp only [Rows.uptoBulk];omega
   ·cases h
  ·cases hp
end
section
open Go.ChangeShapes Go.WideShapes Go.ChangeAt
theorem cells_at {W:World} {a:Addr} {n:Nat} {cs:List Value} (h:W.cells? 0 a n=some cs) (hn:0<n) :
  a.spot=none∧∃(c:Array Value) (fz:Nat×Nat×Nat),W.heap[a.block]? = some (.cells c fz.1 fz.2)∧cs.length=n∧∀j,j<n→c[a.off+j]? = cs[j]?:=by
 unfold World.cells? at h
 rw [if_pos (Nat.zero_le _)] at h
 have hl:cs.length=n:=by
  have:∀{α β:Type} {f:α→Option β} {l:List α} {r:List β},l.mapM f=some r→r.length=l.length:=fun {α β f} l=>by
   induction l with
   | nil=>intro r h;simp at h;subst h;rfl
   | cons x l ih=>
    intro r h
    rw [List.mapM_cons] at h
    simp only [Option.bind_eq_bind,Option.bind_eq_some_iff,Option.pure_def,Option.some.injEq] at h
    obtain ⟨y,_,ys,hys,rfl⟩:=h
    simp [ih hys]
  simpa using this h
 have hget:∀j,j<n→∃v,cs[j]? = some v∧W.cell? (a.add j)=some v:=fun j hj=>Yb h j j (by simp [hj])
 obtain ⟨v0,_,h0⟩:=hget 0 hn
 have ha0:a.add 0=a:=by simp [Addr.add]
 rw [ha0] at h0
 unfold World.cell? at h0
 split at h0
 ·rename_i c T fz hb
  split at h0
  ·cases h0
  ·rename_i hsp
   have hsp:a.spot=none:=by simpa using hsp
   refine ⟨hsp,c,(T,fz),hb,hl,fun j hj=>?_⟩
   obtain ⟨v,hv1,hv2⟩:=hget j hj
   rw [hv1]
   obtain ⟨ab,ao,asp⟩:=a
   dsimp only at hsp hb ⊢
   subst hsp
   rw [Xf rfl] at hv2
   unfold World.cell? at hv2
   dsimp only at hv2
   rw [hb] at hv2
   simpa using hv2
 ·cases h0
theorem Kept.cell {W W':World} (h:Kept W W') {a:Addr} {v:Value} (hc:W.cell? a=some v):W'.cell? a=some v:=by
 unfold World.cell? at hc ⊢
 split at hc
 ·rename_i c T fz hb
  rw [h.heap _ _ hb]
  exact hc
 ·cases hc
theorem Kept.cells {W W':World} (h:Kept W W') {a:Addr} {n:Nat} {cs:List Value} (hc:W.cells? 0 a n=some cs):W'.cells? 0 a n=some cs:=by
 unfold World.cells? at hc ⊢
 rw [if_pos (Nat.zero_le _)] at hc ⊢
 exact Y1 (fun i _ x hx=>h.cell hx) hc
variable {enc:TypeId×Value→H} {P:Program}
theorem W6:∀(l:List (DataW H)),l.length≤Rows.uptoBulkAll l
 | []=>by simp [Rows.uptoBulkAll]
 | d::l=>by
  have:=W6 l
  have h1:1≤Rows.uptoBulk d:=by
   cases d with
   | lit x=>cases x<;>simp only [Rows.uptoBulk]<;>omega
   | _=>simp only [Rows.uptoBulk];omega
  simp only [Rows.uptoBulkAll,List.length_cons];omega
theorem W2 {α:Type} {p:Nat→α→Prop}:∀(n:Nat),(∀i,i<n→∃y,p i y)→∃es:List α,es.length=n∧∀i y,es[i]? = some y→p i y
 | 0,_=>⟨[],rfl,by simp⟩
 | n+1,h=>by
  obtain ⟨es,hl,he⟩:=W2 n fun i hi=>h i (by omega)
  obtain ⟨y,hy⟩:=h n (by omega)
  refine ⟨es++[y],by simp [hl],fun i z hz=>?_⟩
  by_cases hi:i<n
  ·exact he i z (by rwa [List.getElem?_append_left (by omega)] at hz)
  ·rw [List.getElem?_append_right (by omega)] at hz
   have h0:i - es.length=0:=by
    have:=(List.getElem?_eq_some_iff.1 hz).1
    simp at this;omega
   rw [h0] at hz
   simp at hz
   subst hz
   rw [show i=n by omega];exact hy
theorem drop_flat {α:Type} {fa:α→List Value} {sz:Nat} (hsz:∀e,(fa e).length=sz) (l:List Value):∀(es:List α) (off:Nat),(∀i e,es[i]? = some e→∀j,j<sz→l[off+i * sz+j]? = (fa e)[j]?)→l.drop off=es.flatMap fa++l.drop (off+es.length * sz)
 | [],off,_=>by simp
 | e::es,off,h=>by
  have h1:(l.drop off).take sz=fa e:=by
   apply List.ext_getElem?
   intro j
   rw [List.getElem?_take,List.getElem?_drop]
   split
   ·rename_i hj
    have:=h 0 e rfl j hj
    simpa using this
   ·rename_i hj
    rw [List.getElem?_eq_none (by rw [hsz];omega)]
  have ih:=drop_flat hsz l es (off+sz) fun i e' he j hj=>by
   have:=h (i+1) e' (by simpa using he) j hj
   rw [←this];congr 1;rw [Nat.add_mul];omega
  rw [←List.take_append_drop sz (l.drop off),h1,List.drop_drop,ih,List.flatMap_cons,List.append_assoc,List.length_cons]
  congr 3;rw [Nat.add_mul];omega
theorem mapM_len {α β:Type} {f:α→Option β} {l:List α}:∀{r:List β},l.mapM f=some r→r.length=l.length:=by
 induction l with
 | nil=>intro r h;simp at h;subst h;rfl
 | cons x l ih=>
  intro r h
  rw [List.mapM_cons] at h
  simp only [Option.bind_eq_bind,Option.bind_eq_some_iff,Option.pure_def,Option.some.injEq] at h
  obtain ⟨y,_,ys,hys,rfl⟩:=h
  simp [ih hys]
theorem open_slC {α:Type} {fa:α→List Value} {Q:α→Nat→Prop} {t e k:Nat} {W:World} {v:Value} {d:DataW H} {p:List MemPlace} (T:Nat) (hu:P.underlying t=some (.slice e)) (hpl:plainT P k e=true) (hc0:0<P.cellsOf e) (hsz:∀y,(fa y).length=P.cellsOf e)
  (hopen:∀(n:Nat) (cs:List Value) (x:DataW H×List MemPlace),DataW.trod enc P W 0 (fun _=>true) true n e cs=some x→∃y,cs=fa y∧Q y (Rows.uptoBulk x.1)) (hmono:∀y M M',Q y M→M≤M'→Q y M')
  (hv:∃a len cap,v = .slice a len cap) (h:DataW.Trod enc P W 0 (fun _=>true) true t v d p) :
  ∃(o:Option Addr) (cap:Nat) (es:List α),v = .slice o es.length cap∧(Sl T fa o cap es).p (fun b=>W.heap[b]?)∧es.length≤Rows.uptoBulk d∧(∀y ∈ es,Q y (Rows.uptoBulk d))∧
   ∀(W':World) (sp:Nat→Bool),Kept W W'→(∀b<W.heap.size,sp b=true)→DataW.Trod enc P W' 0 sp true t v d p:=by
 obtain ⟨a,len,cap,rfl⟩:=hv
 obtain ⟨n,hn⟩:=h
 cases n with
 | zero=>simp [DataW.trod] at hn
 | succ n=>
  have hcl:(Value.slice a len cap).cells.toList=[.slice a len cap]:=rfl
  rw [hcl] at hn
  cases a with
  | none=>
   have h0:len=0∧cap=0:=by
    unfold DataW.trod at hn
    rw [hu] at hn
    split at hn<;>simp_all
   obtain ⟨rfl,rfl⟩:=h0
   have hd:d = .nil∧p=[]:=by
    simp [DataW.trod,hu] at hn
    exact ⟨hn.1.symm,hn.2⟩
   obtain ⟨rfl,rfl⟩:=hd
   exact ⟨none,0,[],rfl,⟨by simp,.inl rfl⟩,by simp,by simp,fun W' sp _ _=>⟨n+1,by rw [hcl];simp [DataW.trod,hu]⟩⟩
  | some a=>
   simp only [DataW.trod,hu] at hn
   split at hn
   ·rename_i hb
    simp only [Option.bind_eq_some_iff,if_true,Option.map_eq_some_iff] at hn
    obtain ⟨elems,he,rest,hr,hx⟩:=hn
    simp only [Prod.mk.injEq] at hx
    obtain ⟨rfl,rfl⟩:=hx
    have hle:=mapM_len he
    rw [List.length_range] at hle
    have hbulk:∀x ∈ elems,Rows.uptoBulk x.1≤Rows.uptoBulk (DataW.slice (elems.map (·.1)) (rest.map (·.1))):=fun x hx=>by
     have:=Wc (List.mem_map.2 ⟨x,hx,rfl⟩:x.1 ∈ elems.map (·.1))
     simp only [Rows.uptoBulk];omega
    obtain ⟨es,hel,hes⟩:=W2 (p:=fun i y=>∃x,x ∈ elems∧W.cells? 0 (a.add (i * P.cellsOf e)) (P.cellsOf e)=some (fa y)∧Q y (Rows.uptoBulk x.1)) len fun i hi=>by
     obtain ⟨x,hx1,hx2⟩:=Yb he i i (by simp [hi])
     simp only [Option.bind_eq_some_iff] at hx2
     obtain ⟨cs,hcs,htr⟩:=hx2
     obtain ⟨y,rfl,hy⟩:=hopen n cs x htr
     exact ⟨y,x,List.mem_of_getElem? hx1,hcs,hy⟩
    refine ⟨some a,cap,es,by rw [hel],⟨by omega,?_⟩,?_,?_,?_⟩
    ·by_cases hl0:es=[]
     ·exact .inl hl0
     ·right
      have hpos:0<es.length:=List.length_pos_iff.2 hl0
      obtain ⟨x0,_,hc1,_⟩:=hes 0 es[0] (List.getElem?_eq_getElem hpos)
      have ha0:a.add (0 * P.cellsOf e)=a:=by simp [Addr.add]
      rw [ha0] at hc1
      obtain ⟨hsp,c,fz,hblk,_,hcell⟩:=cells_at hc1 hc0
      obtain ⟨ab,ao,asp⟩:=a
      dsimp only at hsp hblk hcell
      subst hsp
      have hlt:ao<c.size:=by
       have h1:=hcell 0 hc0
       have h2:(fa es[0])[0]?≠none:=by
        rw [List.getElem?_eq_getElem (by rw [hsz];exact hc0)];simp
       rw [←h1] at h2
       exact Nat.lt_of_not_le fun h=>h2 (by simpa using Array.getElem?_eq_none_iff.2 h)
      have hdrop:=drop_flat hsz c.toList es ao fun i y hy j hj=>by
       obtain ⟨x,_,hci,_⟩:=hes i y hy
       rw [Xf rfl] at hci
       obtain ⟨_,c',fz',hblk',_,hcell'⟩:=cells_at hci hc0
       dsimp only at hblk' hcell'
       rw [hblk] at hblk'
       injection hblk' with hblk'
       injection hblk' with e1
       subst e1
       rw [←hcell' j hj];simp
      refine ⟨ab,c,fz,c.toList.take ao,c.toList.drop (ao+es.length * P.cellsOf e),?_,hblk,?_⟩
      ·rw [List.length_take,Nat.min_eq_left (by simpa using Nat.le_of_lt hlt)]
      ·rw [←hdrop,List.take_append_drop]
    ·have:=W6 (elems.map (·.1))
     simp only [List.length_map] at this
     simp only [Rows.uptoBulk];omega
    ·intro y hy
     obtain ⟨i,hi,rfl⟩:=List.mem_iff_getElem.1 hy
     obtain ⟨x,hx,_,hq⟩:=hes i _ (List.getElem?_eq_getElem hi)
     exact hmono _ _ _ hq (hbulk x hx)
    ·intro W' sp hk hsp
     have hel1:∀i x,((W.cells? 0 (a.add (i * P.cellsOf e)) (P.cellsOf e)).bind (DataW.trod enc P W 0 (fun _=>true) true n e))=some x→((W'.cells? 0 (a.add (i * P.cellsOf e)) (P.cellsOf e)).bind (DataW.trod enc P W' 0 sp true n e))=some x:=fun i x hx=>by
      simp only [Option.bind_eq_some_iff] at hx ⊢
      obtain ⟨cs,hcs,htr⟩:=hx
      exact ⟨cs,hk.cells hcs,(Xe n _ _ W 0 _ _ _ _ hpl htr).2 W' 0 sp true⟩
     refine ⟨n+1,?_⟩
     rw [hcl]
     simp only [DataW.trod,hu]
     rw [if_pos hb]
     simp only [Option.bind_eq_some_iff,Option.map_eq_some_iff]
     refine ⟨elems,Y1 (fun i _ x hx=>hel1 i x hx) he,rest,?_,rfl⟩
     by_cases hcap:cap=len
     ·have hrest:rest=[]:=by
       subst hcap
       simp at hr
       exact hr
      subst hrest
      subst hcap
      split<;>simp
     ·have hlt:a.block<W.heap.size:=by
       obtain ⟨x,_,hx2⟩:=Yb hr 0 0 (by rw [List.getElem?_range (by omega)])
       simp only [Option.bind_eq_some_iff] at hx2
       obtain ⟨cs,hcs,_⟩:=hx2
       obtain ⟨_,c,fz,hblk,_⟩:=cells_at hcs hc0
       have h1:=(Array.getElem?_eq_some_iff.1 hblk).1
       have h2:(a.add ((len+0) * P.cellsOf e)).block=a.block:=by unfold Addr.add;split<;>rfl
       rwa [h2] at h1
      rw [if_pos (hsp _ hlt)]
      exact Y1 (fun j _ x hx=>hel1 (len+j) x hx) hr
   ·cases hn
theorem open_sl {α:Type} {fa:α→List Value} {Q:α→Nat→Prop} {t e k:Nat} {W:World} {base:Nat} {v:Value} {d:DataW H} {p:List MemPlace} (T:Nat) (hu:P.underlying t=some (.slice e)) (hpl:plainT P k e=true) (hc0:0<P.cellsOf e) (hsz:∀y,(fa y).length=P.cellsOf e)
  (hopen:∀(n:Nat) (cs:List Value) (x:DataW H×List MemPlace),DataW.trod enc P W 0 (fun _=>true) true n e cs=some x→∃y,cs=fa y∧Q y (Rows.uptoBulk x.1)) (hmono:∀y M M',Q y M→M≤M'→Q y M')
  (hv:Value.okWide P W .any base t v) (h:DataW.Trod enc P W 0 (fun _=>true) true t v d p) :
  ∃(o:Option Addr) (cap:Nat) (es:List α),v = .slice o es.length cap∧(Sl T fa o cap es).p (fun b=>W.heap[b]?)∧es.length≤Rows.uptoBulk d∧(∀y ∈ es,Q y (Rows.uptoBulk d))∧
   ∀(W':World) (sp:Nat→Bool),Kept W W'→(∀b<W.heap.size,sp b=true)→DataW.Trod enc P W' 0 sp true t v d p:=
 open_slC T hu hpl hc0 hsz hopen hmono (okWide_slice hu hv) h
end
section
open Go.ChangeShapes Go.WideShapes Go.ChangeAt
theorem own:ownKnob prog.godebug=none:=by kernel_rfl
theorem u8_of {n:Int} (h:(Lit.int .u8 n).wf=true):∃c:UInt8,n=(c.toNat:Int):=by
 have h1:0≤n∧n<256:=by
  simp [Lit.wf,IntKind.min,IntKind.max,IntKind.bits,IntKind.signed] at h
  omega
 exact ⟨UInt8.ofNat n.toNat,by simp;omega⟩
noncomputable def laidWorld (os:Os):World:=
 {World.holding prog os ⟨#[],#[],[]⟩ with heap:=(World.holding prog os ⟨#[],#[],[]⟩).heap.modify 0 fun
   | .cells _ t frozen=>.cells (usages.flatMap uf).toArray t frozen
   | o=>o}
theorem XA {M:Nat} {k:IntKind} {ks:List SK} {cs:List Value} (h:CellsOK M (.i k::ks) cs):∃z cs',cs = .int k z::cs'∧(Lit.int k z).wf=true∧CellsOK M ks cs':=by
 obtain _|⟨v,cs⟩:=cs
 ·exact h.elim
 ·obtain ⟨⟨z,rfl,hz⟩,h⟩:=h
  exact ⟨z,cs,rfl,hz,h⟩
theorem cells_s {M:Nat} {ks:List SK} {cs:List Value} (h:CellsOK M (.s::ks) cs):∃(s:ByteArray) (cs':List Value),cs = .string s::cs'∧s.size≤M∧CellsOK M ks cs':=by
 obtain _|⟨v,cs⟩:=cs
 ·exact h.elim
 ·obtain ⟨⟨z,rfl,hz⟩,h⟩:=h
  exact ⟨z,cs,rfl,hz,h⟩
theorem cells_nil {M:Nat} {cs:List Value} (h:CellsOK M [] cs):cs=[]:=by
 cases cs
 ·rfl
 ·exact h.elim
section
variable {enc:TypeId×Value→H} {W:World} {base:Nat} {v:Value} {d:DataW H} {p:List MemPlace}
end
end
section
open Go.ChangeShapes Go.WideShapes Go.ChangeAt

end
section
open Go.ChangeShapes Go.WideShapes Go.ChangeAt
section
variable {enc:TypeId×Value→H} {W:World} {base:Nat} {v:Value} {d:DataW H} {p:List MemPlace}
theorem plAct:plainT prog 5 102=true:=by decide +kernel
theorem skAct:sks prog 5 102=some [.i .u8,.i .u8,.i .u8,.i .u8,.i .u8,.i .u8,.i .u8,.i .u8,.s]:=by kernel_rfl
theorem open_act {M:Nat} {cs:List Value} (h:CellsOK M [.i .u8,.i .u8,.i .u8,.i .u8,.i .u8,.i .u8,.i .u8,.i .u8,.s] cs):∃c:Aq,cs=aqf c∧c.it.tx.size≤M:=by
 obtain ⟨z1,cs,rfl,h1,h⟩:=XA h
 obtain ⟨z2,cs,rfl,h2,h⟩:=XA h
 obtain ⟨z3,cs,rfl,h3,h⟩:=XA h
 obtain ⟨z4,cs,rfl,h4,h⟩:=XA h
 obtain ⟨z5,cs,rfl,h5,h⟩:=XA h
 obtain ⟨z6,cs,rfl,h6,h⟩:=XA h
 obtain ⟨z7,cs,rfl,h7,h⟩:=XA h
 obtain ⟨z8,cs,rfl,h8,h⟩:=XA h
 obtain ⟨s9,cs,rfl,h9,h⟩:=cells_s h
 obtain rfl:=cells_nil h
 obtain ⟨c1,rfl⟩:=u8_of h1
 obtain ⟨c2,rfl⟩:=u8_of h2
 obtain ⟨c3,rfl⟩:=u8_of h3
 obtain ⟨c4,rfl⟩:=u8_of h4
 obtain ⟨c5,rfl⟩:=u8_of h5
 obtain ⟨c6,rfl⟩:=u8_of h6
 obtain ⟨c7,rfl⟩:=u8_of h7
 obtain ⟨c8,rfl⟩:=u8_of h8
 exact ⟨⟨c1,c2,c3,c4,⟨c5,c6,c7,c8,s9⟩⟩,rfl,h9⟩
theorem open_acts (hv:Value.okWide prog W .any base 22 v) (h:DataW.Trod enc prog W 0 (fun _=>true) true 22 v d p) :
  ∃(o:Option Addr) (cap:Nat) (es:List Aq),v = .slice o es.length cap∧(Sl 102 aqf o cap es).p (fun b=>W.heap[b]?)∧es.length≤Rows.uptoBulk d∧(∀y ∈ es,y.it.tx.size≤Rows.uptoBulk d)∧
   ∀(W':World) (sp:Nat→Bool),Kept W W'→(∀b<W.heap.size,sp b=true)→DataW.Trod enc prog W' 0 sp true 22 v d p:=
 open_sl (fa:=aqf) (Q:=fun y M=>y.it.tx.size≤M) _ underlying22 plAct (by decide +kernel) (fun _=>show 9=_ by decide +kernel) (fun n cs x hx=>open_act (XX n 5 _ W 0 _ _ _ _ _ plAct skAct hx)) (fun _ _ _ h1 h2=>Nat.le_trans h1 h2) hv h
end
end
section
open Go.ChangeShapes Go.WideShapes Go.ChangeAt
theorem plC:plainT prog 5 27=true:=by decide +kernel
theorem skC:sks prog 5 27=some [.i .i64,.s,.i .i64,.i .i64,.i .i64,.s,.s,.i .i64,.i .i64,.i .i64,.s,.s,.i .i64,.i .i64]:=by kernel_rfl
theorem uC:∃fs,prog.underlying 27=some (.struct fs):=⟨_,underlying27⟩
theorem open_cq {M:Nat} {cs:List Value} (h:CellsOK M [.i .i64,.s,.i .i64,.i .i64,.i .i64,.s,.s,.i .i64,.i .i64,.i .i64,.s,.s,.i .i64,.i .i64] cs):∃c:Cq,cs=cqf c∧c.who.size≤M∧c.old.tx.size≤M:=by
 obtain _|⟨v1,cs⟩:=cs;· exact h.elim
 obtain ⟨⟨z1,rfl,_⟩,h⟩:=h
 obtain _|⟨v2,cs⟩:=cs;· exact h.elim
 obtain ⟨⟨s2,rfl,h2⟩,h⟩:=h
 obtain _|⟨v3,cs⟩:=cs;· exact h.elim
 obtain ⟨⟨z3,rfl,_⟩,h⟩:=h
 obtain _|⟨v4,cs⟩:=cs;· exact h.elim
 obtain ⟨⟨z4,rfl,_⟩,h⟩:=h
 obtain _|⟨v5,cs⟩:=cs;· exact h.elim
 obtain ⟨⟨z5,rfl,_⟩,h⟩:=h
 obtain _|⟨v6,cs⟩:=cs;· exact h.elim
 obtain ⟨⟨s6,rfl,_⟩,h⟩:=h
 obtain _|⟨v7,cs⟩:=cs;· exact h.elim
 obtain ⟨⟨s7,rfl,h7⟩,h⟩:=h
 obtain _|⟨v8,cs⟩:=cs;· exact h.elim
 obtain ⟨⟨z8,rfl,_⟩,h⟩:=h
 obtain _|⟨v9,cs⟩:=cs;· exact h.elim
 obtain ⟨⟨z9,rfl,_⟩,h⟩:=h
 obtain _|⟨v10,cs⟩:=cs;· exact h.elim
 obtain ⟨⟨z10,rfl,_⟩,h⟩:=h
 obtain _|⟨v11,cs⟩:=cs;· exact h.elim
 obtain ⟨⟨s11,rfl,_⟩,h⟩:=h
 obtain _|⟨v12,cs⟩:=cs;· exact h.elim
 obtain ⟨⟨s12,rfl,_⟩,h⟩:=h
 obtain _|⟨v13,cs⟩:=cs;· exact h.elim
 obtain ⟨⟨z13,rfl,_⟩,h⟩:=h
 obtain _|⟨v14,cs⟩:=cs;· exact h.elim
 obtain ⟨⟨z14,rfl,_⟩,h⟩:=h
 obtain _|⟨v15,cs⟩:=cs
 ·exact ⟨⟨z1,s2,z3,z4,⟨z5,s6,s7,z8⟩,z9,⟨z10,s11,s12,z13⟩,z14⟩,rfl,h2,h7⟩
 ·exact h.elim
theorem open_cqa {H:Type} {enc:TypeId×Value→H} {W:World} {base:Nat} {v:Value} {d:DataW H} {p:List MemPlace} (hv:Value.okWide prog W .any base 27 v) (h:DataW.Trod enc prog W 0 (fun _=>true) true 27 v d p) :
  ∃c:Cq,v=c.v∧c.who.size≤Rows.uptoBulk d∧c.old.tx.size≤Rows.uptoBulk d∧p=[]∧∀w' base' sp' hd',DataW.Trod enc prog w' base' sp' hd' 27 v d []:=by
 obtain ⟨fs,hu⟩:=uC
 obtain ⟨cs,rfl,hcs⟩:=okWide_struct hu hv
 obtain ⟨n,hn⟩:=h
 obtain ⟨c,hc,h1,h2⟩:=open_cq (XX n 5 _ W 0 _ _ _ _ _ plC skC hn)
 obtain ⟨hp,hr⟩:=Xe n 5 _ W 0 _ _ _ _ plC hn
 dsimp only at hp
 subst hp
 refine ⟨c,?_,h1,h2,rfl,fun w' base' sp' hd'=>⟨n,hr w' base' sp' hd'⟩⟩
 show Value.agg cs = .agg _
 congr 1
 rw [←Array.toList_inj]
 exact hc
end
end Go.Proofs.YtdkndahndgkmnaaGreatDoor
