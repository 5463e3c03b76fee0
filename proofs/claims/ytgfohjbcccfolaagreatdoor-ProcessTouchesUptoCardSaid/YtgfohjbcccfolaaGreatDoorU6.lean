/-
  Slices of plain data as arguments: the fact that they lie in memory, and that they read the same later.
  The settled world; arguments of plain types, opened.
  Structures that hold slices of plain data, as arguments.
  An operation of the statements of layer 35, as an argument.
  A list of operations of the statements of layer 35, as an argument: each of them holds a slice.
  The statements of layer 35: up to 20 operations, in views and in the model.
  What the functions that the statements about layer 35 call do with any view: Runs, the law's bytes.
  What is there in the law ProcessThreads.
  What holds in the turns of the law ProcessThreads.
  Rules for loads out of an owned slice that is also appended to.
  The law ProcessMemories, walked.
  What an operation of layer 35 depends on: a state that has what it reads gives the same; no program in sight.
  Which names an operation of layer 35 reads; no program in sight.
  Which names an operation of layer 35 writes, and that it writes nothing with an error; no program in sight.
  What the statements about what an operation of layer 35 touches need; no program in sight.
  Small facts on what an operation of layer 35 writes.
  The contract of the parent of a name.
  The law ProcessTouches, walked.
  The contract of consequence.Compare.
  Contracts of the statements' own functions: names, out, build.
  The statements' arguments, opened: items, bytes.
  A slice of bytes as an argument.
  The laid tables: the kinds of objects, the powers of ten.
  An operation of layer 35 as an argument, with the bounds of its texts.
  Conditions: those that each theorem states.
-/
import Derived.Test.YtgfohjbcccfolaaGreatDoorU5
import Derived.Test.YtgfohjbcccfolaaGreatDoorU3
import Derived.Test.YtgfohjbcccfolaaGreatDoorU4
import Derived.Test.YtgfohjbcccfolaaGreatDoorU2
set_option maxRecDepth 10000
namespace Go.Proofs.YtgfohjbcccfolaaGreatDoor
open Go.RowKit Go.Proofs.Tryz
variable {H:Type}
section
open Go.ChangeShapes Go.WideShapes Go.ChangeAt
theorem X4 {W:World} {a:Addr} {n:Nat} {cs:List Value} (h:W.cells? 0 a n=some cs) (hn:0<n) :
  a.spot=none∧∃(c:Array Value) (fz:Nat×Nat×Nat),W.heap[a.block]? = some (.cells c fz.1 fz.2)∧cs.length=n∧∀j,j<n→c[a.off+j]? = cs[j]?:=by
 unfold World.cells? at h
 rw [if_pos (Nat.zero_le _)] at h
 have hl:cs.length=n:=by
  have:∀{α β:Type} {f:α→Option β} {l:List α} {r:List β},l.mapM f=some r→r.length=l.length:=fun {α β f} l=>by
   induction l with
   | nil=>intro r h;simp at h;subst h;rfl
   | cons x l ih=>
    intro r h
    rw [List.mapM_cons] at h
    simp only [Option.bind_eq_bind,Option.bind_eq_some_iff,Option.pure_def,Option.some.injEq] at h
    obtain ⟨y,_,ys,hys,rfl⟩:=h
    simp [ih hys]
  simpa using this h
 have hget:∀j,j<n→∃v,cs[j]? = some v∧W.cell? (a.add j)=some v:=fun j hj=>YV h j j (by simp [hj])
 obtain ⟨v0,_,h0⟩:=hget 0 hn
 have ha0:a.add 0=a:=by simp [Addr.add]
 rw [ha0] at h0
 unfold World.cell? at h0
 split at h0
 ·rename_i c T fz hb
  split at h0
  ·cases h0
  ·rename_i hsp
   have hsp:a.spot=none:=by simpa using hsp
   refine ⟨hsp,c,(T,fz),hb,hl,fun j hj=>?_⟩
   obtain ⟨v,hv1,hv2⟩:=hget j hj
   rw [hv1]
   obtain ⟨ab,ao,asp⟩:=a
   dsimp only at hsp hb ⊢
   subst hsp
   rw [Y2 rfl] at hv2
   unfold World.cell? at hv2
   dsimp only at hv2
   rw [hb] at hv2
   simpa using hv2
 ·cases h0
theorem Kept.cell {W W':World} (h:Kept W W') {a:Addr} {v:Value} (hc:W.cell? a=some v):W'.cell? a=some v:=by
 unfold World.cell? at hc ⊢
 split at hc
 ·rename_i c T fz hb
  rw [h.heap _ _ hb]
  exact hc
 ·cases hc
theorem Kept.cells {W W':World} (h:Kept W W') {a:Addr} {n:Nat} {cs:List Value} (hc:W.cells? 0 a n=some cs):W'.cells? 0 a n=some cs:=by
 unfold World.cells? at hc ⊢
 rw [if_pos (Nat.zero_le _)] at hc ⊢
 exact YZ (fun i _ x hx=>h.cell hx) hc
variable {enc:TypeId×Value→H} {P:Program}
theorem W5:∀(l:List (DataW H)),l.length≤Rows.uptoBulkAll l
 | []=>by simp [Rows.uptoBulkAll]
 | d::l=>by
  have:=W5 l
  have h1:1≤Rows.uptoBulk d:=by
   cases d with
   | lit x=>cases x<;>simp only [Rows.uptoBulk]<;>omega
   | _=>simp only [Rows.uptoBulk];omega
  simp only [Rows.uptoBulkAll,List.length_cons];omega
theorem Wq {α:Type} {p:Nat→α→Prop}:∀(n:Nat),(∀i,i<n→∃y,p i y)→∃es:List α,es.length=n∧∀i y,es[i]? = some y→p i y
 | 0,_=>⟨[],rfl,by simp⟩
 | n+1,h=>by
  obtain ⟨es,hl,he⟩:=Wq n fun i hi=>h i (by omega)
  obtain ⟨y,hy⟩:=h n (by omega)
  refine ⟨es++[y],by simp [hl],fun i z hz=>?_⟩
  by_cases hi:i<n
  ·exact he i z (by rwa [List.getElem?_append_left (by omega)] at hz)
  ·rw [List.getElem?_append_right (by omega)] at hz
   have h0:i - es.length=0:=by
    have:=(List.getElem?_eq_some_iff.1 hz).1
    simp at this;omega
   rw [h0] at hz
   simp at hz
   subst hz
   rw [show i=n by omega];exact hy
theorem UV {α:Type} {fa:α→List Value} {sz:Nat} (hsz:∀e,(fa e).length=sz) (l:List Value):∀(es:List α) (off:Nat),(∀i e,es[i]? = some e→∀j,j<sz→l[off+i * sz+j]? = (fa e)[j]?)→l.drop off=es.flatMap fa++l.drop (off+es.length * sz)
 | [],off,_=>by simp
 | e::es,off,h=>by
  have h1:(l.drop off).take sz=fa e:=by
   apply List.ext_getElem?
   intro j
   rw [List.getElem?_take,List.getElem?_drop]
   split
   ·rename_i hj
    have:=h 0 e rfl j hj
    simpa using this
   ·rename_i hj
    rw [List.getElem?_eq_none (by rw [hsz];omega)]
  have ih:=UV hsz l es (off+sz) fun i e' he j hj=>by
   have:=h (i+1) e' (by simpa using he) j hj
   rw [←this];congr 1;rw [Nat.add_mul];omega
  rw [←List.take_append_drop sz (l.drop off),h1,List.drop_drop,ih,List.flatMap_cons,List.append_assoc,List.length_cons]
  congr 3;rw [Nat.add_mul];omega
theorem mapM_len {α β:Type} {f:α→Option β} {l:List α}:∀{r:List β},l.mapM f=some r→r.length=l.length:=by
 induction l with
 | nil=>intro r h;simp at h;subst h;rfl
 | cons x l ih=>
  intro r h
  rw [List.mapM_cons] at h
  simp only [Option.bind_eq_bind,Option.bind_eq_some_iff,Option.pure_def,Option.some.injEq] at h
  obtain ⟨y,_,ys,hys,rfl⟩:=h
  simp [ih hys]
theorem open_slC {α:Type} {fa:α→List Value} {Q:α→Nat→Prop} {t e k:Nat} {W:World} {v:Value} {d:DataW H} {p:List MemPlace} (T:Nat) (hu:P.underlying t=some (.slice e)) (hpl:plainT P k e=true) (hc0:0<P.cellsOf e) (hsz:∀y,(fa y).length=P.cellsOf e)
  (hopen:∀(n:Nat) (cs:List Value) (x:DataW H×List MemPlace),DataW.trod enc P W 0 (fun _=>true) true n e cs=some x→∃y,cs=fa y∧Q y (Rows.uptoBulk x.1)) (hmono:∀y M M',Q y M→M≤M'→Q y M')
  (hv:∃a len cap,v = .slice a len cap) (h:DataW.Trod enc P W 0 (fun _=>true) true t v d p) :
  ∃(o:Option Addr) (cap:Nat) (es:List α),v = .slice o es.length cap∧(Sl T fa o cap es).p (fun b=>W.heap[b]?)∧es.length≤Rows.uptoBulk d∧(∀y ∈ es,Q y (Rows.uptoBulk d))∧
   ∀(W':World) (sp:Nat→Bool),Kept W W'→(∀b<W.heap.size,sp b=true)→DataW.Trod enc P W' 0 sp true t v d p:=by
 obtain ⟨a,len,cap,rfl⟩:=hv
 obtain ⟨n,hn⟩:=h
 cases n with
 | zero=>simp [DataW.trod] at hn
 | succ n=>
  have hcl:(Value.slice a len cap).cells.toList=[.slice a len cap]:=rfl
  rw [hcl] at hn
  cases a with
  | none=>
   have h0:len=0∧cap=0:=by
    unfold DataW.trod at hn
    rw [hu] at hn
    split at hn<;>simp_all
   obtain ⟨rfl,rfl⟩:=h0
   have hd:d = .nil∧p=[]:=by
    simp [DataW.trod,hu] at hn
    exact ⟨hn.1.symm,hn.2⟩
   obtain ⟨rfl,rfl⟩:=hd
   exact ⟨none,0,[],rfl,⟨by simp,.inl rfl⟩,by simp,by simp,fun W' sp _ _=>⟨n+1,by rw [hcl];simp [DataW.trod,hu]⟩⟩
  | some a=>
   simp only [DataW.trod,hu] at hn
   split at hn
   ·rename_i hb
    simp only [Option.bind_eq_some_iff,if_true,Option.map_eq_some_iff] at hn
    obtain ⟨elems,he,rest,hr,hx⟩:=hn
    simp only [Prod.mk.injEq] at hx
    obtain ⟨rfl,rfl⟩:=hx
    have hle:=mapM_len he
    rw [List.length_range] at hle
    have hbulk:∀x ∈ elems,Rows.uptoBulk x.1≤Rows.uptoBulk (DataW.slice (elems.map (·.1)) (rest.map (·.1))):=fun x hx=>by
     have:=WJ (List.mem_map.2 ⟨x,hx,rfl⟩:x.1 ∈ elems.map (·.1))
     simp only [Rows.uptoBulk];omega
    obtain ⟨es,hel,hes⟩:=Wq (p:=fun i y=>∃x,x ∈ elems∧W.cells? 0 (a.add (i * P.cellsOf e)) (P.cellsOf e)=some (fa y)∧Q y (Rows.uptoBulk x.1)) len fun i hi=>by
     obtain ⟨x,hx1,hx2⟩:=YV he i i (by simp [hi])
     simp only [Option.bind_eq_some_iff] at hx2
     obtain ⟨cs,hcs,htr⟩:=hx2
     obtain ⟨y,rfl,hy⟩:=hopen n cs x htr
     exact ⟨y,x,List.mem_of_getElem? hx1,hcs,hy⟩
    refine ⟨some a,cap,es,by rw [hel],⟨by omega,?_⟩,?_,?_,?_⟩
    ·by_cases hl0:es=[]
     ·exact .inl hl0
     ·right
      have hpos:0<es.length:=List.length_pos_iff.2 hl0
      obtain ⟨x0,_,hc1,_⟩:=hes 0 es[0] (List.getElem?_eq_getElem hpos)
      have ha0:a.add (0 * P.cellsOf e)=a:=by simp [Addr.add]
      rw [ha0] at hc1
      obtain ⟨hsp,c,fz,hblk,_,hcell⟩:=X4 hc1 hc0
      obtain ⟨ab,ao,asp⟩:=a
      dsimp only at hsp hblk hcell
      subst hsp
      have hlt:ao<c.size:=by
       have h1:=hcell 0 hc0
       have h2:(fa es[0])[0]?≠none:=by
        rw [List.getElem?_eq_getElem (by rw [hsz];exact hc0)];simp
       rw [←h1] at h2
       exact Nat.lt_of_not_le fun h=>h2 (by simpa using Array.getElem?_eq_none_iff.2 h)
      have hdrop:=UV hsz c.toList es ao fun i y hy j hj=>by
       obtain ⟨x,_,hci,_⟩:=hes i y hy
       rw [Y2 rfl] at hci
       obtain ⟨_,c',fz',hblk',_,hcell'⟩:=X4 hci hc0
       dsimp only at hblk' hcell'
       rw [hblk] at hblk'
       injection hblk' with hblk'
       injection hblk' with e1
       subst e1
       rw [←hcell' j hj];simp
      refine ⟨ab,c,fz,c.toList.take ao,c.toList.drop (ao+es.length * P.cellsOf e),?_,hblk,?_⟩
      ·rw [List.length_take,Nat.min_eq_left (by simpa using Nat.le_of_lt hlt)]
      ·rw [←hdrop,List.take_append_drop]
    ·have:=W5 (elems.map (·.1))
     simp only [List.length_map] at this
     simp only [Rows.uptoBulk];omega
    ·intro y hy
     obtain ⟨i,hi,rfl⟩:=List.mem_iff_getElem.1 hy
     obtain ⟨x,hx,_,hq⟩:=hes i _ (List.getElem?_eq_getElem hi)
     exact hmono _ _ _ hq (hbulk x hx)
    ·intro W' sp hk hsp
     have hel1:∀i x,((W.cells? 0 (a.add (i * P.cellsOf e)) (P.cellsOf e)).bind (DataW.trod enc P W 0 (fun _=>true) true n e))=some x→((W'.cells? 0 (a.add (i * P.cellsOf e)) (P.cellsOf e)).bind (DataW.trod enc P W' 0 sp true n e))=some x:=fun i x hx=>by
      simp only [Option.bind_eq_some_iff] at hx ⊢
      obtain ⟨cs,hcs,htr⟩:=hx
      exact ⟨cs,hk.cells hcs,(Xy n _ _ W 0 _ _ _ _ hpl htr).2 W' 0 sp true⟩
     refine ⟨n+1,?_⟩
     rw [hcl]
     simp only [DataW.trod,hu]
     rw [if_pos hb]
     simp only [Option.bind_eq_some_iff,Option.map_eq_some_iff]
     refine ⟨elems,YZ (fun i _ x hx=>hel1 i x hx) he,rest,?_,rfl⟩
     by_cases hcap:cap=len
     ·have hrest:rest=[]:=by
       subst hcap
       simp at hr
       exact hr
      subst hrest
      subst hcap
      split<;>simp
     ·have hlt:a.block<W.heap.size:=by
       obtain ⟨x,_,hx2⟩:=YV hr 0 0 (by rw [List.getElem?_range (by omega)])
       simp only [Option.bind_eq_some_iff] at hx2
       obtain ⟨cs,hcs,_⟩:=hx2
       obtain ⟨_,c,fz,hblk,_⟩:=X4 hcs hc0
       have h1:=(Array.getElem?_eq_some_iff.1 hblk).1
       have h2:(a.add ((len+0) * P.cellsOf e)).block=a.block:=by unfold Addr.add;split<;>rfl
       rwa [h2] at h1
      rw [if_pos (hsp _ hlt)]
      exact YZ (fun j _ x hx=>hel1 (len+j) x hx) hr
   ·cases hn
end
variable {W:World} {base:Nat} {p:List MemPlace}
section
open Go.ChangeShapes Go.WideShapes Go.ChangeAt
theorem own:ownKnob prog.godebug=none:=by kernel_rfl
theorem u8_of {n:Int} (h:(Lit.int .u8 n).wf=true):∃c:UInt8,n=(c.toNat:Int):=by
 have h1:0≤n∧n<256:=by
  simp [Lit.wf,IntKind.min,IntKind.max,IntKind.bits,IntKind.signed] at h
  omega
 exact ⟨UInt8.ofNat n.toNat,by simp;omega⟩
noncomputable def laidWorld (os:Os):World:=
 {World.holding prog os ⟨#[],#[],[]⟩ with heap:=(World.holding prog os ⟨#[],#[],[]⟩).heap.modify 0 fun
   | .cells _ t frozen=>.cells (usages.flatMap uf).toArray t frozen
   | o=>o}
section
variable {enc:TypeId×Value→H} {v:Value} {d:DataW H}
theorem aggS {t:TypeId} {fs:Array Field} (hu:prog.underlying t=some (.struct fs)) (hv:Value.okWide prog W .any base t v):∃cs,v = .agg cs:=
 let ⟨cs,h,_⟩:=okWide_struct hu hv
 ⟨cs,h⟩
end
end
section
open Go.ChangeShapes Go.WideShapes Go.ChangeAt
section
variable {enc:TypeId×Value→H} {P:Program}
theorem trod_sl_keep {n k t e:Nat} {cs:List Value} {x:DataW H×List MemPlace} (hu:P.underlying t=some (.slice e)) (hpl:plainT P k e=true) (hc0:0<P.cellsOf e) (h:DataW.trod enc P W 0 (fun _=>true) true n t cs=some x) :
  (∃a len cap,cs=[.slice a len cap])∧∀(W':World) (sp:Nat→Bool),Kept W W'→(∀b<W.heap.size,sp b=true)→DataW.trod enc P W' 0 sp true n t cs=some x:=by
 cases n with
 | zero=>simp [DataW.trod] at h
 | succ n=>
  have hsl:∃a len cap,cs=[.slice a len cap]:=by
   rcases cs with _|⟨c,_|⟨c2,cs⟩⟩
   ·simp [DataW.trod,hu] at h
   ·cases c with
    | slice a len cap=>exact ⟨a,len,cap,rfl⟩
    | _=>simp [DataW.trod,hu] at h
   ·simp [DataW.trod,hu] at h
  refine ⟨hsl,fun W' sp hk hsp=>?_⟩
  obtain ⟨a,len,cap,rfl⟩:=hsl
  cases a with
  | none=>
   have h0:len=0∧cap=0:=by
    unfold DataW.trod at h
    rw [hu] at h
    split at h<;>simp_all
   obtain ⟨rfl,rfl⟩:=h0
   simp [DataW.trod,hu] at h ⊢
   exact h
  | some a=>
   simp only [DataW.trod,hu] at h ⊢
   split at h
   ·rename_i hb
    rw [if_pos hb]
    simp only [Option.bind_eq_some_iff,if_true,Option.map_eq_some_iff] at h ⊢
    obtain ⟨elems,he,rest,hr,hx⟩:=h
    have hel1:∀i x,((W.cells? 0 (a.add (i * P.cellsOf e)) (P.cellsOf e)).bind (DataW.trod enc P W 0 (fun _=>true) true n e))=some x→((W'.cells? 0 (a.add (i * P.cellsOf e)) (P.cellsOf e)).bind (DataW.trod enc P W' 0 sp true n e))=some x:=fun i x hx=>by
     simp only [Option.bind_eq_some_iff] at hx ⊢
     obtain ⟨cs,hcs,htr⟩:=hx
     exact ⟨cs,hk.cells hcs,(Xy n _ _ W 0 _ _ _ _ hpl htr).2 W' 0 sp true⟩
    refine ⟨elems,YZ (fun i _ x hx=>hel1 i x hx) he,rest,?_,hx⟩
    by_cases hcap:cap=len
    ·have hrest:rest=[]:=by
      subst hcap
      simp at hr
      exact hr
     subst hrest
     subst hcap
     split<;>simp
    ·have hlt:a.block<W.heap.size:=by
      obtain ⟨x,_,hx2⟩:=YV hr 0 0 (by rw [List.getElem?_range (by omega)])
      simp only [Option.bind_eq_some_iff] at hx2
      obtain ⟨cs,hcs,_⟩:=hx2
      obtain ⟨_,c,fz,hblk,_⟩:=X4 hcs hc0
      have h1:=(Array.getElem?_eq_some_iff.1 hblk).1
      have h2:(a.add ((len+0) * P.cellsOf e)).block=a.block:=by unfold Addr.add;split<;>rfl
      rwa [h2] at h1
     rw [if_pos (hsp _ hlt)]
     exact YZ (fun j _ x hx=>hel1 (len+j) x hx) hr
   ·cases h
def okT (P:Program):Nat→TypeId→Bool
 | 0,_=>false
 | k+1,t=>plainT P (k+1) t || match P.underlying t with
  | some (.slice e)=>plainT P k e && decide (0<P.cellsOf e)
  | some (.struct fs)=>(fs.toList.all fun f=>okT P k f.type) && (contig P 0 fs.toList == some (P.cellsOf t))
  | _=>false
inductive SL where
 | p (k:SK)
 | l (t:Nat)
def slF (g:TypeId→Option (List SL)):List Field→Option (List SL)
 | []=>some []
 | f::fs=>match g f.type,slF g fs with
  | some a,some r=>some (a++r)
  | _,_=>none
def sls (P:Program):Nat→TypeId→Option (List SL)
 | 0,_=>none
 | k+1,t=>if plainT P (k+1) t then (sks P (k+1) t).map fun l=>l.map .p else match P.underlying t with
  | some (.slice _)=>some [.l t]
  | some (.struct fs)=>slF (sls P k) fs.toList
  | _=>none
def CellL (enc:TypeId×Value→H) (P:Program) (W:World) (M:Nat):SL→Value→Prop
 | .p k,v=>CellOK M k v
 | .l t,v=>(∃a len cap,v = .slice a len cap)∧∃n x,DataW.trod enc P W 0 (fun _=>true) true n t [v]=some x∧Rows.uptoBulk x.1≤M
def CellsL (enc:TypeId×Value→H) (P:Program) (W:World) (M:Nat):List SL→List Value→Prop
 | [],[]=>True
 | k::ks,v::vs=>CellL enc P W M k v∧CellsL enc P W M ks vs
 | _,_=>False
theorem VW {M:Nat}:∀{a b:List SL} {x y:List Value},CellsL enc P W M a x→CellsL enc P W M b y→CellsL enc P W M (a++b) (x++y)
 | [],_,[],_,_,h=>h
 | _::_,_,_::_,_,⟨h1,h2⟩,h=>⟨h1,VW h2 h⟩
theorem Uw {M M':Nat} (hM:M≤M'):∀{a:List SL} {x:List Value},CellsL enc P W M a x→CellsL enc P W M' a x
 | [],[],_=>trivial
 | k::_,_::_,⟨h1,h2⟩=>⟨by
   cases k with
   | p k=>exact (Xn hM (a:=[k]) (x:=[_]) ⟨h1,trivial⟩).1
   | l t=>obtain ⟨ha,n,x,hx,hl⟩:=h1;exact ⟨ha,n,x,hx,Nat.le_trans hl hM⟩,Uw hM h2⟩
theorem cellsL_of {M:Nat}:∀{a:List SK} {x:List Value},CellsOK M a x→CellsL enc P W M (a.map .p) x
 | [],[],_=>trivial
 | _::_,_::_,⟨h1,h2⟩=>⟨h1,cellsL_of h2⟩
theorem slF_ok {M:Nat} {g:TypeId→Option (List SL)}:∀(fs:List Field) (o total:Nat) (cs:List Value) (ks:List SL),contig P o fs=some total→cs.length=total→slF g fs=some ks→
  (∀f ∈ fs,∀k,g f.type=some k→CellsL enc P W M k ((cs.drop f.offset).take (P.cellsOf f.type)))→CellsL enc P W M ks (cs.drop o)
 | [],o,total,cs,ks,h,h1,h2,_=>by
  simp only [contig,Option.some.injEq] at h
  simp only [slF,Option.some.injEq] at h2
  rw [←h2,List.drop_eq_nil_of_le (by omega)];trivial
 | f::fs,o,total,cs,ks,h,h1,h2,hp=>by
  unfold contig at h
  split at h
  ·rename_i ho
   unfold slF at h2
   split at h2
   ·rename_i a r ha hr
    obtain rfl:=Option.some.inj h2
    have ih:=slF_ok fs (o+P.cellsOf f.type) total cs r h h1 hr fun g hg=>hp g (by simp [hg])
    have h3:=hp f (by simp) a ha
    rw [ho] at h3
    rw [←List.take_append_drop (P.cellsOf f.type) (cs.drop o),List.drop_drop]
    exact VW h3 ih
   ·cases h2
  ·cases h
theorem WG:∀(n k:Nat) (t:TypeId) (cs:List Value) (x:DataW H×List MemPlace) (ks:List SL),okT P k t=true→sls P k t=some ks→DataW.trod enc P W 0 (fun _=>true) true n t cs=some x→
  CellsL enc P W (Rows.uptoBulk x.1) ks cs∧∀(W':World) (sp:Nat→Bool),Kept W W'→(∀b<W.heap.size,sp b=true)→DataW.trod enc P W' 0 sp true n t cs=some x
 | 0,_,_,_,_,_,_,_,h=>by simp [DataW.trod] at h
 | n+1,0,_,_,_,_,hp,_,_=>by simp [okT] at hp
 | n+1,k+1,t,cs,x,ks,hp,hk,h=>by
  unfold okT at hp
  unfold sls at hk
  by_cases hpl:plainT P (k+1) t=true
  ·rw [if_pos hpl] at hk
   simp only [Option.map_eq_some_iff] at hk
   obtain ⟨l,hl,rfl⟩:=hk
   exact ⟨cellsL_of (Vl (n+1) (k+1) t W 0 _ _ cs x l hpl hl h),fun W' sp _ _=>(Xy (n+1) (k+1) t W 0 _ _ cs x hpl h).2 W' 0 sp true⟩
  ·rw [if_neg hpl] at hk
   simp only [Bool.not_eq_true] at hpl
   rw [hpl,Bool.false_or] at hp
   split at hp
   ·rename_i e hu
    rw [hu] at hk
    obtain rfl:=Option.some.inj hk
    rw [Bool.and_eq_true,decide_eq_true_eq] at hp
    obtain ⟨⟨a,len,cap,rfl⟩,h2⟩:=trod_sl_keep hu hp.1 hp.2 h
    exact ⟨⟨⟨⟨a,len,cap,rfl⟩,n+1,x,h,Nat.le_refl _⟩,trivial⟩,h2⟩
   ·rename_i fs hu
    rw [hu] at hk
    rw [Bool.and_eq_true,List.all_eq_true,beq_iff_eq] at hp
    simp only [DataW.trod,hu] at h ⊢
    split at h
    ·rename_i hl
     simp only [Option.map_eq_some_iff] at h
     obtain ⟨xs,hxs,rfl⟩:=h
     refine ⟨?_,fun W' sp hkp hsp=>?_⟩
     ·have:=slF_ok (M:=Rows.uptoBulk (.agg (xs.map (·.1)))) (g:=sls P k) (enc:=enc) (W:=W) fs.toList 0 _ cs ks hp.2 hl hk fun f hf k' hk'=>by
       obtain ⟨i,hi,rfl⟩:=List.mem_iff_getElem.1 hf
       obtain ⟨y,hy1,hy2⟩:=YV hxs i _ (List.getElem?_eq_getElem hi)
       refine Uw ?_ (WG n k _ _ y k' (hp.1 _ hf) hk' hy2).1
       have hm:y.1 ∈ xs.map (·.1):=List.mem_map.2 ⟨y,List.mem_of_getElem? hy1,rfl⟩
       have:=WJ hm
       simp only [Rows.uptoBulk];omega
      simpa using this
     ·rw [if_pos hl,YZ (fun f hf y hy=>?_) hxs]
      ·rfl
      ·have hs:∃k',sls P k f.type=some k':=slF_mem hk hf
       obtain ⟨k',hk'⟩:=hs
       exact (WG n k _ _ y k' (hp.1 f hf) hk' hy).2 W' sp hkp hsp
    ·cases h
   ·cases hp
where slF_mem {g:TypeId→Option (List SL)}:∀{fs:List Field} {ks:List SL} {f:Field},slF g fs=some ks→f ∈ fs→∃k,g f.type=some k
 | [],_,_,_,h=>by cases h
 | f::fs,ks,f',h,hm=>by
  unfold slF at h
  split at h
  ·rename_i a r ha hr
   rcases List.mem_cons.1 hm with rfl|hm
   ·exact ⟨a,ha⟩
   ·exact slF_mem hr hm
  ·cases h
theorem YB {M:Nat} {k:SK} {ks:List SL} {cs:List Value} (h:CellsL enc P W M (.p k::ks) cs):∃v cs',cs=v::cs'∧CellOK M k v∧CellsL enc P W M ks cs':=by
 obtain _|⟨v,cs⟩:=cs
 ·exact h.elim
 ·exact ⟨v,cs,rfl,h⟩
theorem cellsL_l {M t:Nat} {ks:List SL} {cs:List Value} (h:CellsL enc P W M (.l t::ks) cs):∃v cs',cs=v::cs'∧CellL enc P W M (.l t) v∧CellsL enc P W M ks cs':=by
 obtain _|⟨v,cs⟩:=cs
 ·exact h.elim
 ·exact ⟨v,cs,rfl,h⟩
theorem cellsL_nil {M:Nat} {cs:List Value} (h:CellsL enc P W M [] cs):cs=[]:=by
 cases cs
 ·rfl
 ·exact h.elim
end
theorem plI64:plainT prog 5 3=true:=by decide +kernel
section
variable {enc:TypeId×Value→H} {v:Value} {d:DataW H}
end
end
section
open Go.ChangeShapes Go.WideShapes Go.ChangeAt
theorem okOq:okT prog 6 76=true:=by decide +kernel
theorem slOq:sls prog 6 76=some [.p (.i .u8),.p (.i .u8),.p (.i .i64),.p (.i .i64),.p .s,.p (.i .i64),.p (.i .i64),.p (.i .i64),.p (.i .i64),.p (.i .i64),.l 38,.p .s,.p (.i .i64),.p .s,.p (.i .i64),.p (.i .i64),.p .s,.p .s,.p (.i .i64),.p (.i .i64)]:=by kernel_rfl
section
variable {enc:TypeId×Value→H} {v:Value} {d:DataW H}
end
end
section
open Go.ChangeShapes Go.WideShapes Go.ChangeAt
section
variable {enc:TypeId×Value→H} {P:Program}
theorem open_slK {α:Type} {fa:α→List Value} {Q:α→Nat→Prop} {t e:Nat} {W:World} {v:Value} {d:DataW H} {p:List MemPlace} (T:Nat) (hu:P.underlying t=some (.slice e)) (hc0:0<P.cellsOf e) (hsz:∀y,(fa y).length=P.cellsOf e)
  (hopen:∀(n:Nat) (cs:List Value) (x:DataW H×List MemPlace),DataW.trod enc P W 0 (fun _=>true) true n e cs=some x→∃y,cs=fa y∧Q y (Rows.uptoBulk x.1)) (hmono:∀y M M',Q y M→M≤M'→Q y M')
  (hkeepE:∀(n:Nat) (cs:List Value) (x:DataW H×List MemPlace),DataW.trod enc P W 0 (fun _=>true) true n e cs=some x→∀(W':World) (sp:Nat→Bool),Kept W W'→(∀b<W.heap.size,sp b=true)→DataW.trod enc P W' 0 sp true n e cs=some x)
  (hv:∃a len cap,v = .slice a len cap) (h:DataW.Trod enc P W 0 (fun _=>true) true t v d p) :
  ∃(o:Option Addr) (cap:Nat) (es:List α),v = .slice o es.length cap∧(Sl T fa o cap es).p (fun b=>W.heap[b]?)∧es.length≤Rows.uptoBulk d∧(∀y ∈ es,Q y (Rows.uptoBulk d))∧
   ∀(W':World) (sp:Nat→Bool),Kept W W'→(∀b<W.heap.size,sp b=true)→DataW.Trod enc P W' 0 sp true t v d p:=by
 obtain ⟨a,len,cap,rfl⟩:=hv
 obtain ⟨n,hn⟩:=h
 cases n with
 | zero=>simp [DataW.trod] at hn
 | succ n=>
  have hcl:(Value.slice a len cap).cells.toList=[.slice a len cap]:=rfl
  rw [hcl] at hn
  cases a with
  | none=>
   have h0:len=0∧cap=0:=by
    unfold DataW.trod at hn
    rw [hu] at hn
    split at hn<;>simp_all
   obtain ⟨rfl,rfl⟩:=h0
   have hd:d = .nil∧p=[]:=by
    simp [DataW.trod,hu] at hn
    exact ⟨hn.1.symm,hn.2⟩
   obtain ⟨rfl,rfl⟩:=hd
   exact ⟨none,0,[],rfl,⟨by simp,.inl rfl⟩,by simp,by simp,fun W' sp _ _=>⟨n+1,by rw [hcl];simp [DataW.trod,hu]⟩⟩
  | some a=>
   simp only [DataW.trod,hu] at hn
   split at hn
   ·rename_i hb
    simp only [Option.bind_eq_some_iff,if_true,Option.map_eq_some_iff] at hn
    obtain ⟨elems,he,rest,hr,hx⟩:=hn
    simp only [Prod.mk.injEq] at hx
    obtain ⟨rfl,rfl⟩:=hx
    have hle:=mapM_len he
    rw [List.length_range] at hle
    have hbulk:∀x ∈ elems,Rows.uptoBulk x.1≤Rows.uptoBulk (DataW.slice (elems.map (·.1)) (rest.map (·.1))):=fun x hx=>by
     have:=WJ (List.mem_map.2 ⟨x,hx,rfl⟩:x.1 ∈ elems.map (·.1))
     simp only [Rows.uptoBulk];omega
    obtain ⟨es,hel,hes⟩:=Wq (p:=fun i y=>∃x,x ∈ elems∧W.cells? 0 (a.add (i * P.cellsOf e)) (P.cellsOf e)=some (fa y)∧Q y (Rows.uptoBulk x.1)) len fun i hi=>by
     obtain ⟨x,hx1,hx2⟩:=YV he i i (by simp [hi])
     simp only [Option.bind_eq_some_iff] at hx2
     obtain ⟨cs,hcs,htr⟩:=hx2
     obtain ⟨y,rfl,hy⟩:=hopen n cs x htr
     exact ⟨y,x,List.mem_of_getElem? hx1,hcs,hy⟩
    refine ⟨some a,cap,es,by rw [hel],⟨by omega,?_⟩,?_,?_,?_⟩
    ·by_cases hl0:es=[]
     ·exact .inl hl0
     ·right
      have hpos:0<es.length:=List.length_pos_iff.2 hl0
      obtain ⟨x0,_,hc1,_⟩:=hes 0 es[0] (List.getElem?_eq_getElem hpos)
      have ha0:a.add (0 * P.cellsOf e)=a:=by simp [Addr.add]
      rw [ha0] at hc1
      obtain ⟨hsp,c,fz,hblk,_,hcell⟩:=X4 hc1 hc0
      obtain ⟨ab,ao,asp⟩:=a
      dsimp only at hsp hblk hcell
      subst hsp
      have hlt:ao<c.size:=by
       have h1:=hcell 0 hc0
       have h2:(fa es[0])[0]?≠none:=by
        rw [List.getElem?_eq_getElem (by rw [hsz];exact hc0)];simp
       rw [←h1] at h2
       exact Nat.lt_of_not_le fun h=>h2 (by simpa using Array.getElem?_eq_none_iff.2 h)
      have hdrop:=UV hsz c.toList es ao fun i y hy j hj=>by
       obtain ⟨x,_,hci,_⟩:=hes i y hy
       rw [Y2 rfl] at hci
       obtain ⟨_,c',fz',hblk',_,hcell'⟩:=X4 hci hc0
       dsimp only at hblk' hcell'
       rw [hblk] at hblk'
       injection hblk' with hblk'
       injection hblk' with e1
       subst e1
       rw [←hcell' j hj];simp
      refine ⟨ab,c,fz,c.toList.take ao,c.toList.drop (ao+es.length * P.cellsOf e),?_,hblk,?_⟩
      ·rw [List.length_take,Nat.min_eq_left (by simpa using Nat.le_of_lt hlt)]
      ·rw [←hdrop,List.take_append_drop]
    ·have:=W5 (elems.map (·.1))
     simp only [List.length_map] at this
     simp only [Rows.uptoBulk];omega
    ·intro y hy
     obtain ⟨i,hi,rfl⟩:=List.mem_iff_getElem.1 hy
     obtain ⟨x,hx,_,hq⟩:=hes i _ (List.getElem?_eq_getElem hi)
     exact hmono _ _ _ hq (hbulk x hx)
    ·intro W' sp hk hsp
     have hel1:∀i x,((W.cells? 0 (a.add (i * P.cellsOf e)) (P.cellsOf e)).bind (DataW.trod enc P W 0 (fun _=>true) true n e))=some x→((W'.cells? 0 (a.add (i * P.cellsOf e)) (P.cellsOf e)).bind (DataW.trod enc P W' 0 sp true n e))=some x:=fun i x hx=>by
      simp only [Option.bind_eq_some_iff] at hx ⊢
      obtain ⟨cs,hcs,htr⟩:=hx
      exact ⟨cs,hk.cells hcs,hkeepE n _ _ htr W' sp hk hsp⟩
     refine ⟨n+1,?_⟩
     rw [hcl]
     simp only [DataW.trod,hu]
     rw [if_pos hb]
     simp only [Option.bind_eq_some_iff,Option.map_eq_some_iff]
     refine ⟨elems,YZ (fun i _ x hx=>hel1 i x hx) he,rest,?_,rfl⟩
     by_cases hcap:cap=len
     ·have hrest:rest=[]:=by
       subst hcap
       simp at hr
       exact hr
      subst hrest
      subst hcap
      split<;>simp
     ·have hlt:a.block<W.heap.size:=by
       obtain ⟨x,_,hx2⟩:=YV hr 0 0 (by rw [List.getElem?_range (by omega)])
       simp only [Option.bind_eq_some_iff] at hx2
       obtain ⟨cs,hcs,_⟩:=hx2
       obtain ⟨_,c,fz,hblk,_⟩:=X4 hcs hc0
       have h1:=(Array.getElem?_eq_some_iff.1 hblk).1
       have h2:(a.add ((len+0) * P.cellsOf e)).block=a.block:=by unfold Addr.add;split<;>rfl
       rwa [h2] at h1
      rw [if_pos (hsp _ hlt)]
      exact YZ (fun j _ x hx=>hel1 (len+j) x hx) hr
   ·cases hn
end
abbrev Oe:=Oq×(Option Addr×Nat)
def oef (x:Oe):List Value:=[.int .u8 x.1.k,.int .u8 x.1.w,.int .i64 x.1.n,.int .i64 x.1.a,.string x.1.t,.int .i64 x.1.p.kd,.int .i64 x.1.p.st,.int .i64 x.1.p.cd,.int .i64 x.1.p.ep,.int .i64 x.1.p.us,.slice x.2.1 x.1.p.gs.length x.2.2,.string x.1.p.sp,.int .i64 x.1.p.pg,.string x.1.p.dr.mkr,.int .i64 x.1.p.dr.nu,.int .i64 x.1.p.tm,.string x.1.ic,.string x.1.id,.int .i64 x.1.iz,.int .i64 x.1.ie]
def OeF (l:List Oe):Pf:=⟨fun h=>∀e ∈ l,(Sl 3 zf e.2.1 e.2.2 e.1.p.gs).p h,fun _ _ s hh e he=>(Sl 3 zf e.2.1 e.2.2 e.1.p.gs).m _ _ s (hh e he)⟩
section
variable {enc:TypeId×Value→H} {v:Value} {d:DataW H}
theorem cells_oe {M:Nat} {cs:List Value} (hc:CellsL enc prog W M [.p (.i .u8),.p (.i .u8),.p (.i .i64),.p (.i .i64),.p .s,.p (.i .i64),.p (.i .i64),.p (.i .i64),.p (.i .i64),.p (.i .i64),.l 38,.p .s,.p (.i .i64),.p .s,.p (.i .i64),.p (.i .i64),.p .s,.p .s,.p (.i .i64),.p (.i .i64)] cs) :
  ∃y:Oe,cs=oef y∧(Sl 3 zf y.2.1 y.2.2 y.1.p.gs).p (fun b=>W.heap[b]?)∧(y.1.p.gs.length≤M∧y.1.p.sp.size≤M∧y.1.p.dr.mkr.size≤M∧y.1.t.size≤M∧y.1.ic.size≤M∧y.1.id.size≤M):=by
 obtain ⟨w1,c,e1,⟨y1,rfl,i1⟩,k1⟩:=YB hc
 obtain ⟨w2,c,rfl,⟨y2,rfl,i2⟩,k2⟩:=YB k1
 obtain ⟨w3,c,rfl,⟨y3,rfl,_⟩,k3⟩:=YB k2
 obtain ⟨w4,c,rfl,⟨y4,rfl,_⟩,k4⟩:=YB k3
 obtain ⟨w5,c,rfl,⟨y5,rfl,t5⟩,k5⟩:=YB k4
 obtain ⟨v1,c,rfl,⟨z1,rfl,_⟩,g1⟩:=YB k5
 obtain ⟨v2,c,rfl,⟨z2,rfl,_⟩,g2⟩:=YB g1
 obtain ⟨v3,c,rfl,⟨z3,rfl,_⟩,g3⟩:=YB g2
 obtain ⟨v4,c,rfl,⟨z4,rfl,_⟩,g4⟩:=YB g3
 obtain ⟨v5,c,rfl,⟨z5,rfl,_⟩,g5⟩:=YB g4
 obtain ⟨v6,c,rfl,⟨⟨a,len,cap,rfl⟩,m,x,hx,hb⟩,g6⟩:=cellsL_l g5
 obtain ⟨v7,c,rfl,⟨s7,rfl,t7⟩,g7⟩:=YB g6
 obtain ⟨v8,c,rfl,⟨z8,rfl,_⟩,g8⟩:=YB g7
 obtain ⟨v9,c,rfl,⟨s9,rfl,t9⟩,g9⟩:=YB g8
 obtain ⟨v10,c,rfl,⟨z10,rfl,_⟩,g10⟩:=YB g9
 obtain ⟨v11,c,rfl,⟨z11,rfl,_⟩,g11⟩:=YB g10
 obtain ⟨v12,c,rfl,⟨s12,rfl,t12⟩,g12⟩:=YB g11
 obtain ⟨v13,c,rfl,⟨s13,rfl,t13⟩,g13⟩:=YB g12
 obtain ⟨v14,c,rfl,⟨z14,rfl,_⟩,g14⟩:=YB g13
 obtain ⟨v15,c,rfl,⟨z15,rfl,_⟩,g15⟩:=YB g14
 obtain rfl:=cellsL_nil g15
 obtain ⟨o,cp,es,h1,h2,h3,_,_⟩:=open_slC (enc:=enc) (P:=prog) (W:=W) (v:=.slice a len cap) (d:=x.1) (p:=x.2) (fa:=zf) (Q:=fun _ _=>True) 3 underlying38 plI64 (by decide +kernel) (fun _=>show 1=_ by decide +kernel) (fun n cs x hx=>by
  cases n with
  | zero=>simp [DataW.trod] at hx
  | succ n=>
   obtain ⟨z,rfl,_,hz⟩:=DataW.trod_int underlying3 hx
   exact ⟨z,rfl,trivial⟩) (fun _ _ _ _ _=>trivial) ⟨a,len,cap,rfl⟩ ⟨m,hx⟩
 injection h1 with h4 h5 h6
 subst h4 h6
 obtain ⟨n1,rfl⟩:=u8_of i1
 obtain ⟨n2,rfl⟩:=u8_of i2
 have hcs:cs=[.int .u8 (n1.toNat:Int),.int .u8 (n2.toNat:Int),.int .i64 y3,.int .i64 y4,.string y5,.int .i64 z1,.int .i64 z2,.int .i64 z3,.int .i64 z4,.int .i64 z5,.slice a len cap,.string s7,.int .i64 z8,.string s9,.int .i64 z10,.int .i64 z11,.string s12,.string s13,.int .i64 z14,.int .i64 z15]:=e1
 exact ⟨(⟨n1.toNat,n2.toNat,y3,y4,y5,⟨z1,z2,z3,z4,z5,es,s7,z8,⟨s9,z10⟩,z11⟩,s12,s13,z14,z15⟩,(a,cap)),by rw [hcs,h5];rfl,h2,by show es.length≤_;omega,t7,t9,t5,t12,t13⟩
theorem open_oes (hv:Value.okWide prog W .any base 96 v) (h:DataW.Trod enc prog W 0 (fun _=>true) true 96 v d p) :
  ∃(o:Option Addr) (cap:Nat) (es:List Oe),v = .slice o es.length cap∧((Sl 76 oef o cap es).p (fun b=>W.heap[b]?)∧(OeF es).p (fun b=>W.heap[b]?))∧es.length≤Rows.uptoBulk d∧(∀y ∈ es,y.1.p.gs.length≤Rows.uptoBulk d∧y.1.p.sp.size≤Rows.uptoBulk d∧y.1.p.dr.mkr.size≤Rows.uptoBulk d∧y.1.t.size≤Rows.uptoBulk d∧y.1.ic.size≤Rows.uptoBulk d∧y.1.id.size≤Rows.uptoBulk d)∧
   ∀(W':World) (sp:Nat→Bool),Kept W W'→(∀b<W.heap.size,sp b=true)→DataW.Trod enc prog W' 0 sp true 96 v d p:=by
 obtain ⟨o,cap,es,h1,h2,h3,h4,h5⟩:=open_slK (fa:=oef) (Q:=fun y M=>(Sl 3 zf y.2.1 y.2.2 y.1.p.gs).p (fun b=>W.heap[b]?)∧(y.1.p.gs.length≤M∧y.1.p.sp.size≤M∧y.1.p.dr.mkr.size≤M∧y.1.t.size≤M∧y.1.ic.size≤M∧y.1.id.size≤M)) 76 underlying96 (by decide +kernel) (fun _=>show 20=_ by decide +kernel)
  (fun n cs x hx=>cells_oe (WG n 6 _ _ _ _ okOq slOq hx).1) (fun _ M M' h1 h2=>⟨h1.1,by obtain ⟨_,q1,q2,q3,q4,q5,q6⟩:=h1;exact ⟨by omega,by omega,by omega,by omega,by omega,by omega⟩⟩)
  (fun n cs x hx=>(WG n 6 _ _ _ _ okOq slOq hx).2) (okWide_slice underlying96 hv) h
 exact ⟨o,cap,es,h1,⟨h2,fun e he=>(h4 e he).1⟩,h3,fun y hy=>(h4 y hy).2,h5⟩
end
end
variable {n:Nat} {C:Cx} {Q:Exit→Act→World→Prop} {E E':List (Nat×Value)} {F:List Pf} {R R0:List HP} {k:List Fr}
section
open VP
section
theorem k_oeF {e:Oe} {l:List Oe} (h:e ∈ l) (t:Wk n C k Q E (Sl 3 zf e.2.1 e.2.2 e.1.p.gs::F) R) {F0:List Pf} (hs:Sel (OeF l) F F0:=by (repeat (first|exact Sel.here|apply Sel.there));first|done|fail):Wk n C k Q E F R:=fun ac w ha hsat=>by
 obtain ⟨hp,hr,st⟩:=hsat
 exact t ac w ha (Ys st (st.f _ hs.mem e h))
end
def setQ (q:Oq):Oq:=if q.k % 12=0 then {q with p:={q.p with sp:=ZI q}} else q
def OeB (M:Nat) (l:List Oe):Prop:=∀y ∈ l,y.1.p.gs.length≤M∧y.1.p.sp.size≤M∧y.1.p.dr.mkr.size≤M∧y.1.t.size≤M∧y.1.ic.size≤M∧y.1.id.size≤M
theorem setQ_bd {q:Oq} (h:q.p.gs.length≤1099511627776) (h2:q.ic.size≤1099511627776) (h3:q.id.size≤1099511627776):(setQ (cutQ q)).Bd:=by
 have e1:=Xq q.t 300
 have e2:=Xq q.p.sp 80
 have e3:=Xq q.p.dr.mkr 80
 have e4:=(Zf (cutQ q)).2.1
 have e5:(q.p.gs.take 20).length≤20:=by rw [List.length_take];omega
 unfold setQ
 split
 ·exact ⟨by show (q.p.gs.take 20).length≤_;omega,by show (ZI (cutQ q)).size≤_;omega,by show (cutS q.p.dr.mkr 80).size≤_;omega,by show (cutS q.t 300).size≤_;omega,h2,h3⟩
 ·exact ⟨by show (q.p.gs.take 20).length≤_;omega,by show (cutS q.p.sp 80).size≤_;omega,by show (cutS q.p.dr.mkr 80).size≤_;omega,by show (cutS q.t 300).size≤_;omega,h2,h3⟩
structure AfX where
 i:Nat
 s:Nat
 es:Al
 ms:Ms
def AfP (_b:Nat) (j:Nat) (x:AfX):Prop:=x.i≤j∧x.i≤20∧RelS x.i x.es x.ms
set_option maxHeartbeats 4000000 in
theorem after35_ok (o:Option Addr) (cap:Nat) (l:List Oe) (_hl:l.length≤1099511627776) (hB:OeB 1099511627776 l) :
  Enters 46∧Spec prog 46 #[.slice o l.length cap] [Sl 76 oef o cap l,OeF l,Usg,P10] []
  ⟨Nat×AfX,fun x=>.tuple #[.pointer (some ⟨x.2.s,0,none⟩),.pointer (some ⟨x.1,0,none⟩),.bool true],fun x=>AfP x.1 l.length x.2,fun x=>[St (some ⟨x.2.s,0,none⟩) x.2.es,PrF x.2.ms.pr],fun x=>[MO x.1 x.2.ms]⟩:=by
 have n0:=Zc
 have nN:=newModel_ok
 refine ZH [_] func46 ntmps46 fun G w hp=>?_
 repeat' (first|refine ZC ?_|refine ZB ?_|refine ZD ?_|refine ZA (Ut) (fun _ _=>?_)|refine ZA (nN) (fun _ _=>?_)|fail)
 rename_i s0 _ mb _
 refine Zk (show ∀h,(PrF []).p h from fun h e he=>by cases he) ?_
 refine YH (X:={x:AfX // AfP mb l.length x}) (fun x=>[(0,.slice o l.length cap),(2,.pointer (some ⟨x.1.s,0,none⟩)),(3,.pointer (some ⟨mb,0,none⟩)),(4,.bool true),(5,.int .i64 (x.1.i:Int))]) (fun x=>[Sl 76 oef o cap l,OeF l,St (some ⟨x.1.s,0,none⟩) x.1.es,PrF x.1.ms.pr,Usg,P10]) (fun x=>[MO mb x.1.ms]) (fun x=>l.length - x.1.i)
  ⟨⟨0,s0,[],⟨0,[],[],[],[]⟩⟩,Nat.zero_le _,Nat.zero_le _,relS_0⟩ ⟨rfl,rfl,rfl,rfl,rfl,trivial⟩ ?_
 rintro ⟨⟨i,s,es,ms⟩,hi1,hi2,hR⟩
 dsimp only at hi1 hi2 hR ⊢
 by_cases hgo:i<l.length∧i<20
 ·obtain ⟨hgo1,hgo2⟩:=hgo
  obtain ⟨⟨q,qo,qc⟩,hgt⟩:∃e,l[i]? = some e:=⟨_,List.getElem?_eq_getElem hgo1⟩
  have hmem:=List.mem_of_getElem? hgt
  obtain ⟨u1,u2,u3,u4,u5,u6⟩:=hB _ hmem
  dsimp only at u1 u2 u3 u4 u5 u6
  have m0:=cut35_ok q qo qc u1
  have hBd:=setQ_bd u1 u5 u6
  have w9:IntKind.i64.wrap ((i:Int)+1)=((i+1:Nat):Int):=by rw [wrapi (by omega) (by omega)];omega
  obtain ⟨hok2,hep⟩:=hR.ok2 (by omega)
  have hwi:=(Zf (cutQ q)).1
  have hlt7:(cutQ q).w % 7<7:=Nat.mod_lt _ (by decide)
  have w1:((cutQ q).w:Int).tmod 7=(((cutQ q).w % 7:Nat):Int):=(Int.ofNat_tmod _ 7).symm
  have w2:((cutQ q).k:Int).tmod 12=(((cutQ q).k % 12:Nat):Int):=(Int.ofNat_tmod _ 12).symm
  have nA:=fun v rs hl hf=>vwAfter_ok v s es rs (perfF es (setQ (cutQ q))).2 hl hf (by have:=hR.l;omega)
  have nP:=fun v o' c=>perf_ok v (some ⟨s,0,none⟩) es (setQ (cutQ q)) o' c hR.s hBd []
  have nD:=fun o' c=>do35_ok mb ms hok2 hep (setQ (cutQ q)) o' c hBd
  have hnx:=fun ms'=>hR.next (ms':=ms') (by omega) (setQ (cutQ q))
  have hgs:=ado_gs (s:=absM ms) (fun a p hp=>(Z7 (hR.r.p2 a p hp).1).1) (setQ (cutQ q))
  have hgd:Gd 130 (perfF es (setQ (cutQ q))).2:=(sim_ok hR.r (by omega) (setQ (cutQ q))).2.2
  have hsame:=(sim_ok hR.r (by omega) (setQ (cutQ q))).1
  have nA':=fun v rs=>nA v rs (by have:=lastL_l5 (perfF es (setQ (cutQ q))).2;have:=hgd.1;omega) hgd.2
  clear nA
  simp only [PfP,DoP] at nP nD
  rw [hsame] at nP
  have nS:=fun o1 o2 c1 c2=>same35_ok (ado (absM ms) (setQ (cutQ q))).1 (by omega) o1 o2 c1 c2
  have hnx2:=fun ms' h=>(hnx ms' h).2.2
  clear hnx hsame hgd hgs
  generalize (ado (absM ms) (setQ (cutQ q))).1=R at *
  generalize (ado (absM ms) (setQ (cutQ q))).2=A2 at *
  generalize (perfF es (setQ (cutQ q))).2=cs2 at *
  obtain ⟨rn,rm,⟨r1,r2,r3,r4,r5,rgs,r7,r8,⟨r9,r9'⟩,r10⟩,re⟩:=R
  simp only [Rz.v] at nP nD nS
  clear hBd hB hok2 hep
  refine k_oeF hmem ?_
  have hsq:setQ (cutQ q)=if (cutQ q).k % 12=0 then {cutQ q with p:={(cutQ q).p with sp:=ZI (cutQ q)}} else cutQ q:=rfl
  generalize setQ (cutQ q)=sq at *
  generalize hW:ZI (cutQ q)=W at *
  generalize cutQ q=cq at *
  obtain ⟨y1,y2,y3,y4,y5,⟨x1,x2,x3,x4,x5,xs,x7,x8,⟨x9,x10⟩,x11⟩,y7,y8,y9,y10⟩:=q
  obtain ⟨z1,z2,z3,z4,z5,⟨v1,v2,v3,v4,v5,vs,v7,v8,⟨v9,v10⟩,v11⟩,z7,z8,z9,z10⟩:=cq
  dsimp only at hsq hwi hlt7 w1 w2
  clear hW
  by_cases hk0:z1 % 12=0
  ·rw [if_pos hk0] at hsq
   rw [hk0] at w2
   subst hsq
   simp only [Oq.v] at m0 nP nD
   repeat' (first|refine ZC ?_|refine ZB ?_|refine ZU ?_|refine ZD ?_|refine ZP ?_|refine ZS ?_|refine ZN (fun b=>?_)|refine ZJ ?_|refine ZO ?_|refine Ze ?_|refine r_al (fun b=>?_)|refine r_st ?_|refine ZQ ?_|refine ZA (m0) (fun _ _=>?_)|refine ZR (n0) (fun _ _=>?_)|refine ZA (XY _) (fun _ _=>?_)|refine ZR (nP _ _ _) (fun _ _=>?_)|refine ZR (nD _ _) (fun _ _=>?_)|refine ZA (nA' _ _) (fun _ _=>?_)|refine ZA (nS _ _ _ _) (fun _ _=>?_)|rw [w1]|rw [w2]|rw [w9]|refine XL (es:=l) (f:=oef) i _ hgt (fun b off=>?_)|refine YQ ?_|refine Zi (m:=7) (z2 % 7) hlt7 ?_|refine ZV 1 (z2 % 7) 0 hwi ?_|(refine ZT (fun hc=>?_) (fun hc=>?_)<;>(try simp at hc)<;>(try omega))|refine ZK 7 [] [(1,0),(2,0),(3,0),(0,4),(4,0),(5,3),(6,0),(7,0)] [8] ?_|refine ZK 9 [Vw _ _ _ _,MO _ _] [(0,0),(1,0),(3,0),(4,0),(2,4),(5,4),(6,1),(7,1),(8,4),(9,4)] [] ?_|fail)
   rename_i s' _ _ _
   rename Ms×(Option Addr×Nat)=>mm
   rename absM _=_=>hm
   exact ZW ⟨⟨i+1,s',applyE es (vwr cs2),mm.1⟩,by show i+1≤_;omega,by show i+1≤_;omega,hnx2 _ hm⟩ (by show l.length - (i+1)<l.length - i;omega) ⟨rfl,rfl,rfl,rfl,rfl,trivial⟩
  ·rw [if_neg hk0] at hsq
   subst hsq
   generalize hkk:z1 % 12=kk at w2
   have hk1:¬kk=0:=by omega
   simp only [Oq.v] at m0 nP nD
   repeat' (first|refine ZC ?_|refine ZB ?_|refine ZU ?_|refine ZD ?_|refine ZP ?_|refine ZS ?_|refine ZN (fun b=>?_)|refine ZJ ?_|refine ZO ?_|refine Ze ?_|refine r_al (fun b=>?_)|refine r_st ?_|refine ZQ ?_|refine ZA (m0) (fun _ _=>?_)|refine ZA (XY _) (fun _ _=>?_)|refine ZR (nP _ _ _) (fun _ _=>?_)|refine ZR (nD _ _) (fun _ _=>?_)|refine ZA (nA' _ _) (fun _ _=>?_)|refine ZA (nS _ _ _ _) (fun _ _=>?_)|rw [w2]|rw [w9]|refine XL (es:=l) (f:=oef) i _ hgt (fun b off=>?_)|refine YQ ?_|(refine ZT (fun hc=>?_) (fun hc=>?_)<;>(try simp at hc)<;>(try omega))|refine ZK 9 [Vw _ _ _ _,MO _ _] [(0,0),(1,0),(3,0),(4,0),(2,4),(5,4),(6,1),(7,1),(8,4),(9,4)] [] ?_|(refine ZF (fun hc=>?_) (fun hc=>?_)<;>(try simp at hc)<;>(try omega))|fail)
   rename_i s' _ _ _
   rename Ms×(Option Addr×Nat)=>mm
   rename absM _=_=>hm
   exact ZW ⟨⟨i+1,s',applyE es (vwr cs2),mm.1⟩,by show i+1≤_;omega,by show i+1≤_;omega,hnx2 _ hm⟩ (by show l.length - (i+1)<l.length - i;omega) ⟨rfl,rfl,rfl,rfl,rfl,trivial⟩
 ·repeat' (first|refine ZC ?_|refine ZB ?_|refine ZU ?_|refine ZD ?_|refine ZE ?_|refine Zn ?_|(refine ZT (fun hc=>?_) (fun hc=>?_)<;>(try simp at hc)<;>(try omega))|fail)
  all_goals exact ZG (mb,⟨i,s,es,ms⟩) rfl ⟨hi1,hi2,hR⟩
end
section
open VP

end
def c111:ByteArray:=⟨#[49,46,49,46,49]⟩
def thr35:Pr:=kidS true YF YF c11
theorem e1:c111≠o1:=by decide
theorem e2:c111≠c11:=by decide
theorem e3:c111≠c12:=by decide
def tA:List Ch:=cA
def tB:List Ch:=tA++[⟨cnm o1,cvs ⟨0,0,1⟩,false⟩]++[⟨pnm c11,pencS thr35,false⟩]
def tC:List Ch:=tB++[⟨cnm c11,cvs ⟨0,0,1⟩,false⟩]++[⟨pnm c111,pencS thr35,false⟩]
def tD:List Ch:=tC++[⟨cnm o1,cvs ⟨0,0,2⟩,false⟩]++[⟨pnm c12,pencS thr35,false⟩]
section
variable {cs:List Ch} {who ch:ByteArray} {z:Int}
end
def fstP (g e:Bool):Pr:=⟨1,if e then 2 else 1,0,0,7,[1,5],o1,if g then 3 else 2,⟨⟨#[]⟩,0⟩,3⟩
def pgN (g:Bool):Nat:=if g then 3 else 2
structure TJ (i:Nat) (g e:Bool) (cs:List Ch) (w:ByteArray):Prop where
 p1:PrAt [] cs o1 (fstP g e)
 p2:PrAt [] cs c11 thr35
 p3:PrAt [] cs c111 thr35
 p4:PrAt [] cs c12 thr35
 m:memS [] cs o1 (pgN g)=w
 l:cs.length≤100+70 * i
variable {R':List HP} {ops l:List Oper} {t ty0:TypeId} {x y:Operand} {pos:String} {aft:Array Edge} {gd:Option (Nat×Bool)}
section
variable {F' F1 Fs F0:List Pf} {k':List Fr} {i d b off:Nat} {v:Value}
end
section
open VP

end
variable {es:Al}
section
open VP
section
variable {es':Al}
end
def entR (es:Al) (n:Nm):Ch:=⟨n,(getO n es).getD ⟨#[]⟩,!(getO n es).isSome⟩
theorem Vp (es:Al):∀(N:List Nm) (rs:List (Nm×Ch)) (p:Nm×Ch),p ∈ rsOf es N rs→p ∈ rs∨(p.1 ∈ N∧p.2=entR es p.1)
 | [],rs,p,h=>.inl h
 | n::N,rs,p,h=>by
  rcases Vp es N _ p h with h1|⟨h1,h2⟩
  ·have:∀(m:List (Nm×Ch)),p ∈ mset n (entR es n) m→p ∈ m∨p=(n,entR es n):=by
    intro m
    induction m with
    | nil=>intro h;exact .inr (by simpa [mset] using h)
    | cons x m ih=>
     intro h
     unfold mset at h
     split at h
     ·rcases List.mem_cons.1 h with h|h
      ·exact .inr h
      ·exact .inl (List.mem_cons_of_mem _ h)
     ·rcases List.mem_cons.1 h with h|h
      ·exact .inl (h ▸ List.mem_cons_self)
      ·exact (ih h).imp (List.mem_cons_of_mem _) id
   rcases this rs h1 with h3|h3
   ·exact .inl h3
   ·right;rw [h3];exact ⟨List.mem_cons_self,rfl⟩
  ·exact .inr ⟨List.mem_cons_of_mem _ h1,h2⟩
theorem rsOf_nodup (es:Al):∀(N:List Nm) (rs:List (Nm×Ch)),(rs.map (·.1)).Nodup→((rsOf es N rs).map (·.1)).Nodup
 | [],_,h=>h
 | _n::N,_rs,h=>rsOf_nodup es N _ (mset_nodup _ _ _ h)
end
variable {α β:Type}
section
open VP
section
variable {S:Nm→Prop}
def Rd (es:Al) (S:Nm→Prop) (p:VP α) (cs:List Ch):Prop:=∀n ∈ (p.run es cs).2.1,S n
theorem Za (a:α) (cs:List Ch):Rd es S (.ret a) cs:=fun n h=>by cases h
theorem Z8 {p:VP α} {f:α→VP β} {cs:List Ch} (h1:Rd es S p cs) (h2:Rd es S (f (p.run es cs).1) (p.run es cs).2.2):Rd es S (p.bind f) cs:=fun n h=>by
 rw [run_bind] at h
 rcases List.mem_append.1 h with h3|h3
 ·exact h1 n h3
 ·exact h2 n h3
theorem Zp {c:Prop} [Decidable c] {p q:VP α} {cs:List Ch} (h1:c→Rd es S p cs) (h2:¬c→Rd es S q cs):Rd es S (if c then p else q) cs:=by
 by_cases h:c
 ·rw [if_pos h];exact h1 h
 ·rw [if_neg h];exact h2 h
theorem rd_get {n:Nm} {k:ByteArray×Bool→VP α} {cs:List Ch} (h1:S n) (h2:Rd es S (k (vget es cs n)) cs):Rd es S (.get n k) cs:=fun m h=>by
 simp only [VP.run] at h
 rcases List.mem_append.1 h with h3|h3
 ·unfold vrN at h3
  split at h3
  ·cases h3
  ·split at h3
   ·cases h3
   ·rw [List.mem_singleton.1 h3];exact h1
 ·exact h2 m h3
theorem WX {n:Nm} {v:ByteArray} {k:VP α} {cs:List Ch} (h:Rd es S k (cs++[⟨n,v,false⟩])):Rd es S (.set n v k) cs:=fun m hm=>h m (by simpa only [VP.run] using hm)
theorem rd_any {who:ByteArray} {cs:List Ch} (h:S (pnm who)):Rd es S (pAny who) cs:=rd_get h (Za _ _)
theorem rd_epo {cs:List Ch} (h:S enm):Rd es S pEpo cs:=rd_get h (by split<;>exact Za _ _)
theorem WH {who:ByteArray} {cs:List Ch} (h1:S (pnm who)) (h2:S enm):Rd es S (pGet who) cs:=by
 unfold pGet
 refine Zp (fun _=>Z8 (rd_any h1) (Zp (fun _=>Za _ _) fun _=>Z8 (rd_epo h2) (Zp (fun _=>Za _ _) fun _=>Zp (fun _=>Za _ _) fun _=>Za _ _))) fun _=>Za _ _
theorem rd_run {who:ByteArray} {cs:List Ch} (h1:S (pnm who)) (h2:S enm):Rd es S (pRun who) cs:=by
 unfold pRun
 exact Z8 (WH h1 h2) (Zp (fun _=>Za _ _) fun _=>Zp (fun _=>Za _ _) fun _=>Za _ _)
theorem rd_put {who:ByteArray} {p:Pr} {cs:List Ch}:Rd es S (pPut who p) cs:=by
 unfold pPut
 exact Zp (fun _=>WX (Za _ _)) fun _=>Za _ _
theorem rd_has {n:Nm} {cs:List Ch} (h:S n):Rd es S (pHas n) cs:=rd_get h (Za _ _)
theorem rd_made {who:ByteArray} {cs:List Ch} (h:S (cnm who)):Rd es S (pMade who) cs:=by
 unfold pMade
 exact Zp (fun _=>rd_get h (Za _ _)) fun _=>Za _ _
theorem rd_own {who:ByteArray} {p:Pr} {cs:List Ch} (h:S (pnm p.sp)):Rd es S (pOwn who p) cs:=by
 unfold pOwn
 exact Zp (fun _=>Za _ _) fun _=>rd_any h
theorem rd_copy {x y:Nm} {cs:List Ch} (h:S x):Rd es S (pCopy x y) cs:=by
 unfold pCopy
 exact rd_get h (Zp (fun _=>WX (Za _ _)) fun _=>Za _ _)
theorem rd_cps {f ch:ByteArray}:∀{n:Nat} {cs:List Ch},(∀i:Nat,i<n→S (gnm f (i:Int)))→Rd es S (pCps f ch n) cs
 | 0,cs,_=>Za _ _
 | n+1,cs,h=>by
  unfold pCps
  exact Z8 (rd_cps fun i hi=>h i (by omega)) (rd_copy (h n (by omega)))
theorem rd_sets {who:ByteArray}:∀{l:List ByteArray} {f:Nat} {cs:List Ch},Rd es S (pSets who f l) cs:=by
 intro l f cs n hn
 rw [Xt] at hn
 cases hn
theorem rd_setR {who v:ByteArray} {cs:List Ch}:Rd es S (pSetR who v) cs:=by
 unfold pSetR
 first
  | exact Zp (fun _=>WX (Za _ _)) fun _=>Za _ _
  | (split<;>first|exact WX (Za _ _)|exact Za _ _)
end
def Cls (es:Al) (who ch:ByteArray) (n:Nm):Prop:=n=enm∨n=pnm who∨n=cnm who∨n=rnm who∨n=pnm ch∨(((pGet who).run es []).1.2=0∧(n=pnm ((pGet who).run es []).1.1.sp∨∃i:Nat,i<64∧n=gnm ((pGet who).run es []).1.1.sp (i:Int)))
section
variable {who ch:ByteArray}
theorem cls_e:Cls es who ch enm:=.inl rfl
theorem cls_p:Cls es who ch (pnm who):=.inr (.inl rfl)
theorem cls_c:Cls es who ch (cnm who):=.inr (.inr (.inl rfl))
theorem cls_r:Cls es who ch (rnm who):=.inr (.inr (.inr (.inl rfl)))
theorem cls_k:Cls es who ch (pnm ch):=.inr (.inr (.inr (.inr (.inl rfl))))
theorem cls_o (h:((pGet who).run es []).1.2=0):Cls es who ch (pnm ((pGet who).run es []).1.1.sp):=.inr (.inr (.inr (.inr (.inr ⟨h,.inl rfl⟩))))
theorem cls_g (h:((pGet who).run es []).1.2=0) {i:Nat} (hi:i<64):Cls es who ch (gnm ((pGet who).run es []).1.1.sp (i:Int)):=.inr (.inr (.inr (.inr (.inr ⟨h,.inr ⟨i,hi,rfl⟩⟩))))
theorem run_get (h:((pRun who).run es []).1.2=0):((pGet who).run es []).1.2=0∧((pRun who).run es []).1.1=((pGet who).run es []).1.1:=by
 rw [W0] at h ⊢
 dsimp only at h ⊢
 by_cases h1:((pGet who).run es []).1.2≠0
 ·rw [if_pos h1] at h;exact absurd h h1
 ·rw [if_neg h1] at h ⊢
  by_cases h2:((pGet who).run es []).1.1.st≠1
  ·rw [if_pos h2] at h;cases h
  ·rw [if_neg h2];exact ⟨by omega,rfl⟩
theorem mof_get (h:((pMof who).run es []).1.2=0):((pGet who).run es []).1.2=0∧((pMof who).run es []).1.1.1=((pGet who).run es []).1.1:=by
 unfold pMof at h ⊢
 rw [run_bind,YG] at h ⊢
 dsimp only at h ⊢
 by_cases h1:((pGet who).run es []).1.2≠0
 ·rw [if_pos h1] at h;exact absurd h h1
 ·rw [if_neg h1] at h ⊢
  rw [run_bind] at h ⊢
  dsimp only at h ⊢
  by_cases h2:((pOwn who ((pGet who).run es []).1.1).run es []).1.2≠0
  ·rw [if_pos h2] at h;exact absurd h h2
  ·rw [if_neg h2];exact ⟨by omega,rfl⟩
theorem rd_mof:Rd es (Cls es who ch) (pMof who) []:=by
 unfold pMof
 refine Z8 (WH cls_p cls_e) (Zp (fun _=>Za _ _) fun h=>?_)
 rw [YG]
 exact Z8 (rd_own (cls_o (by omega))) (Zp (fun _=>Za _ _) fun _=>Za _ _)
theorem rd_start {p:Pr}:Rd es (Cls es who ch) (pStart who p) []:=by
 unfold pStart
 exact Zp (fun _=>Za _ _) fun _=>Zp (fun _=>Za _ _) fun _=>Zp (fun _=>Za _ _) fun _=>Z8 (rd_epo cls_e) (Zp (fun _=>Za _ _) fun _=>Z8 (rd_has cls_p) (Zp (fun _=>Za _ _) fun _=>rd_put))
theorem rd_exit {k:Int}:Rd es (Cls es who ch) (pExit who k) []:=by
 unfold pExit
 exact Z8 (rd_run cls_p cls_e) (Zp (fun _=>Za _ _) fun _=>Zp (fun _=>Za _ _) fun _=>rd_put)
theorem rd_set35 {p:Pr}:Rd es (Cls es who ch) (pSet who p) []:=by
 unfold pSet
 exact Zp (fun _=>Za _ _) fun _=>Z8 (WH cls_p cls_e) (Zp (fun _=>Za _ _) fun _=>Zp (fun _=>Za _ _) fun _=>rd_put)
theorem rd_wait {k:Int} (hch:(childE who k).2=0→ch=(childE who k).1):Rd es (Cls es who ch) (pWait who k) []:=by
 unfold pWait
 refine Z8 (WH cls_p cls_e) (Zp (fun _=>Za _ _) fun _=>Z8 (rd_made cls_c) (Zp (fun _=>Za _ _) fun _=>Zp (fun _=>Za _ _) fun _=>Zp (fun _=>Za _ _) fun h=>?_))
 rw [←hch (by omega)]
 exact Z8 (WH cls_k cls_e) (Zp (fun _=>Za _ _) fun _=>Zp (fun _=>Za _ _) fun _=>Zp (fun _=>Za _ _) fun _=>Z8 rd_put (Zp (fun _=>Za _ _) fun _=>Za _ _))
theorem rd_grow {k:Int}:Rd es (Cls es who ch) (pGrow who k) []:=by
 unfold pGrow
 exact Zp (fun _=>Za _ _) fun _=>Z8 rd_mof (Zp (fun _=>Za _ _) fun _=>Zp (fun _=>Za _ _) fun _=>Zp (fun _=>Za _ _) fun _=>WX (Z8 rd_sets (Za _ _)))
theorem rd_load {x:Im}:Rd es (Cls es who ch) (pLoad who x) []:=by
 unfold pLoad
 exact Zp (fun _=>Za _ _) fun _=>Z8 (rd_run cls_p cls_e) (Zp (fun _=>Za _ _) fun _=>WX (Z8 rd_sets rd_setR))
theorem rd_boot:Rd es (Cls es who ch) pBoot []:=by
 unfold pBoot
 exact Z8 (rd_epo cls_e) (Zp (fun _=>Za _ _) fun _=>Zp (fun _=>Za _ _) fun _=>WX (Za _ _))
theorem rd_spawn {share:Bool} (hch:∀k,(childE who k).2=0→k=((pMade who).run es []).1.1.c+1→ch=(childE who k).1):Rd es (Cls es who ch) (pSpawn who share) []:=by
 have hRg:=run_get (es:=es) (who:=who)
 have hRc:=W7 es [] who
 unfold pSpawn
 refine Z8 (rd_run cls_p cls_e) (Zp (fun _=>Za _ _) fun h1=>?_)
 obtain ⟨g1,g2⟩:=hRg (by omega)
 obtain ⟨c1,c2,c3⟩:=hRc (by omega)
 rw [Yn]
 refine Z8 (rd_made cls_c) (Zp (fun _=>Za _ _) fun _=>Zp (fun _=>Za _ _) fun _=>Zp (fun _=>Za _ _) fun h2=>?_)
 have hk:=hch _ (by simpa using h2) rfl
 rw [←hk,g2]
 rw [g2] at c1
 rw [Y6]
 refine Z8 (rd_has cls_k) (Zp (fun _=>Za _ _) fun _=>?_)
 have hhc:((pHas (pnm ch)).run es []).2.2=[]:=rfl
 rw [hhc]
 refine Z8 (Zp (fun _=>Za _ _) fun _=>rd_own (cls_o g1)) (Zp (fun _=>Za _ _) fun h3=>?_)
 refine WX (WX (Z8 (rd_copy cls_r) (Z8 (rd_cps fun i hi=>cls_g g1 (Nat.lt_of_lt_of_le hi ?_)) (Za _ _))))
 cases share with
 | true=>exact Nat.zero_le _
 | false=>
  simp only [Bool.false_eq_true,if_false] at h3 ⊢
  have hoc:=pOwn_chk es [] who _ c1 (by omega)
  have:=(Zg hoc).2.2.1
  unfold pfit at this
  show ((pOwn who ((pGet who).run es []).1.1).run es []).1.1.pg.toNat≤64
  omega
end
end
section
open VP
section
variable {S:Nm→Prop}
def Wd (es:Al) (S:Nm→Prop) (p:VP α) (cs:List Ch):Prop:=∀c ∈ (p.run es cs).2.2,c ∈ cs∨S c.nm
theorem Zr (a:α) (cs:List Ch):Wd es S (.ret a) cs:=fun _ h=>.inl h
theorem YL {p:VP α} {f:α→VP β} {cs:List Ch} (h1:Wd es S p cs) (h2:Wd es S (f (p.run es cs).1) (p.run es cs).2.2):Wd es S (p.bind f) cs:=fun c h=>by
 rw [run_bind] at h
 rcases h2 c h with h3|h3
 ·exact h1 c h3
 ·exact .inr h3
theorem Zy {c:Prop} [Decidable c] {p q:VP α} {cs:List Ch} (h1:c→Wd es S p cs) (h2:¬c→Wd es S q cs):Wd es S (if c then p else q) cs:=by
 by_cases h:c
 ·rw [if_pos h];exact h1 h
 ·rw [if_neg h];exact h2 h
theorem wd_get {n:Nm} {k:ByteArray×Bool→VP α} {cs:List Ch} (h2:Wd es S (k (vget es cs n)) cs):Wd es S (.get n k) cs:=fun c h=>h2 c (by simpa only [VP.run] using h)
theorem WV {n:Nm} {v:ByteArray} {k:VP α} {cs:List Ch} (h1:S n) (h:Wd es S k (cs++[⟨n,v,false⟩])):Wd es S (.set n v k) cs:=fun c hc=>by
 rcases h c (by simpa only [VP.run] using hc) with h2|h2
 ·rcases List.mem_append.1 h2 with h3|h3
  ·exact .inl h3
  ·rw [List.mem_singleton.1 h3];exact .inr h1
 ·exact .inr h2
theorem X5 {p:VP α} {cs:List Ch} (h:(p.run es cs).2.2=cs):Wd es S p cs:=fun c hc=>.inl (by rw [←h];exact hc)
theorem wd_put {who:ByteArray} {p:Pr} {cs:List Ch} (h:S (pnm who)):Wd es S (pPut who p) cs:=by
 unfold pPut
 exact Zy (fun _=>WV h (Zr _ _)) fun _=>Zr _ _
theorem wd_copy {x y:Nm} {cs:List Ch} (h:S y):Wd es S (pCopy x y) cs:=by
 unfold pCopy
 exact wd_get (Zy (fun _=>WV h (Zr _ _)) fun _=>Zr _ _)
theorem wd_cps {f ch:ByteArray} (h:∀i:Nat,S (gnm ch (i:Int))):∀{n:Nat} {cs:List Ch},Wd es S (pCps f ch n) cs
 | 0,cs=>Zr _ _
 | n+1,cs=>by
  unfold pCps
  exact YL (wd_cps h) (wd_copy (h n))
theorem wd_sets {who:ByteArray} (h:∀i:Nat,S (gnm who (i:Int))):∀{l:List ByteArray} {f:Nat} {cs:List Ch},Wd es S (pSets who f l) cs
 | [],f,cs=>by unfold pSets;exact Zr _ _
 | x::l,f,cs=>by unfold pSets;exact WV (h f) (wd_sets h)
theorem wd_setR {who v:ByteArray} {cs:List Ch} (h:S (rnm who)):Wd es S (pSetR who v) cs:=by
 unfold pSetR
 exact Zy (fun _=>WV h (Zr _ _)) fun _=>Zr _ _
end
def OwnC (es:Al) (who ch:ByteArray) (n:Nm):Prop:=n=enm∨n.owner=who∨n.owner=ch∨(((pGet who).run es []).1.2=0∧n.owner=((pGet who).run es []).1.1.sp)
section
variable {who ch:ByteArray}
theorem Cls.own {n:Nm} (h:Cls es who ch n):OwnC es who ch n:=by
 rcases h with rfl|rfl|rfl|rfl|rfl|⟨h0,rfl|⟨i,_,rfl⟩⟩
 ·exact .inl rfl
 ·exact .inr (.inl rfl)
 ·exact .inr (.inl rfl)
 ·exact .inr (.inl rfl)
 ·exact .inr (.inr (.inl rfl))
 ·exact .inr (.inr (.inr ⟨h0,rfl⟩))
 ·exact .inr (.inr (.inr ⟨h0,rfl⟩))
theorem ow_e:OwnC es who ch enm:=.inl rfl
theorem ow_w {n:Nm} (h:n.owner=who):OwnC es who ch n:=.inr (.inl h)
theorem ow_k {n:Nm} (h:n.owner=ch):OwnC es who ch n:=.inr (.inr (.inl h))
theorem ow_o {n:Nm} (h0:((pGet who).run es []).1.2=0) (h:n.owner=((pGet who).run es []).1.1.sp):OwnC es who ch n:=.inr (.inr (.inr ⟨h0,h⟩))
theorem wd_start {p:Pr}:Wd es (OwnC es who ch) (pStart who p) []:=by
 unfold pStart
 exact Zy (fun _=>Zr _ _) fun _=>Zy (fun _=>Zr _ _) fun _=>Zy (fun _=>Zr _ _) fun _=>YL (X5 (XB _ _)) (Zy (fun _=>Zr _ _) fun _=>YL (X5 rfl) (Zy (fun _=>Zr _ _) fun _=>wd_put (ow_w rfl)))
theorem wd_exit {k:Int}:Wd es (OwnC es who ch) (pExit who k) []:=by
 unfold pExit
 exact YL (X5 (Yn _ _ _)) (Zy (fun _=>Zr _ _) fun _=>Zy (fun _=>Zr _ _) fun _=>wd_put (ow_w rfl))
theorem wd_set35 {p:Pr}:Wd es (OwnC es who ch) (pSet who p) []:=by
 unfold pSet
 exact Zy (fun _=>Zr _ _) fun _=>YL (X5 (YG _ _ _)) (Zy (fun _=>Zr _ _) fun _=>Zy (fun _=>Zr _ _) fun _=>wd_put (ow_w rfl))
theorem wd_wait {k:Int} (hch:(childE who k).2=0→ch=(childE who k).1):Wd es (OwnC es who ch) (pWait who k) []:=by
 unfold pWait
 refine YL (X5 (YG _ _ _)) (Zy (fun _=>Zr _ _) fun _=>YL (X5 (Y6 _ _ _)) (Zy (fun _=>Zr _ _) fun _=>Zy (fun _=>Zr _ _) fun _=>Zy (fun _=>Zr _ _) fun h=>?_))
 rw [←hch (by omega)]
 exact YL (X5 (YG _ _ _)) (Zy (fun _=>Zr _ _) fun _=>Zy (fun _=>Zr _ _) fun _=>Zy (fun _=>Zr _ _) fun _=>YL (wd_put (ow_k rfl)) (Zy (fun _=>Zr _ _) fun _=>Zr _ _))
theorem wd_grow {k:Int}:Wd es (OwnC es who ch) (pGrow who k) []:=by
 unfold pGrow
 refine Zy (fun _=>Zr _ _) fun _=>YL (X5 (VF _ _ _)) (Zy (fun _=>Zr _ _) fun h1=>Zy (fun _=>Zr _ _) fun _=>Zy (fun _=>Zr _ _) fun _=>?_)
 obtain ⟨g1,g2⟩:=mof_get (es:=es) (who:=who) (by omega)
 rw [g2]
 exact WV (ow_o g1 rfl) (YL (wd_sets fun i=>ow_o g1 rfl) (Zr _ _))
theorem wd_load {x:Im}:Wd es (OwnC es who ch) (pLoad who x) []:=by
 unfold pLoad
 exact Zy (fun _=>Zr _ _) fun _=>YL (X5 (Yn _ _ _)) (Zy (fun _=>Zr _ _) fun _=>WV (ow_w rfl) (YL (wd_sets fun i=>ow_w rfl) (wd_setR (ow_w rfl))))
theorem wd_boot:Wd es (OwnC es who ch) pBoot []:=by
 unfold pBoot
 exact YL (X5 (XB _ _)) (Zy (fun _=>Zr _ _) fun _=>Zy (fun _=>Zr _ _) fun _=>WV ow_e (Zr _ _))
theorem wd_spawn {share:Bool} (hch:∀k,(childE who k).2=0→k=((pMade who).run es []).1.1.c+1→ch=(childE who k).1):Wd es (OwnC es who ch) (pSpawn who share) []:=by
 unfold pSpawn
 refine YL (X5 (Yn _ _ _)) (Zy (fun _=>Zr _ _) fun h1=>?_)
 rw [Yn]
 refine YL (X5 (Y6 _ _ _)) (Zy (fun _=>Zr _ _) fun _=>Zy (fun _=>Zr _ _) fun _=>Zy (fun _=>Zr _ _) fun h2=>?_)
 have hk:=hch _ (by simpa using h2) rfl
 rw [←hk,Y6]
 refine YL (X5 rfl) (Zy (fun _=>Zr _ _) fun _=>?_)
 refine YL (Zy (fun _=>Zr _ _) fun _=>X5 (VI _ _ _ _)) (Zy (fun _=>Zr _ _) fun h3=>?_)
 exact WV (ow_w rfl) (WV (ow_k rfl) (YL (wd_copy (ow_k rfl)) (YL (wd_cps fun i=>ow_k rfl) (Zr _ _))))
end
def Er {α:Type} (es:Al) (er:α→Int) (p:VP α) (cs:List Ch):Prop:=er (p.run es cs).1≠0→(p.run es cs).2.2=cs
section
theorem Z5 {er:α→Int} (a:α) (cs:List Ch):Er es er (.ret a) cs:=fun _=>rfl
theorem Ym {er:β→Int} {p:VP α} {f:α→VP β} {cs:List Ch} (h1:(p.run es cs).2.2=cs) (h2:Er es er (f (p.run es cs).1) cs):Er es er (p.bind f) cs:=fun h=>by
 rw [run_bind,h1] at h ⊢
 exact h2 h
theorem Z6 {er:α→Int} {c:Prop} [Decidable c] {p q:VP α} {cs:List Ch} (h1:c→Er es er p cs) (h2:¬c→Er es er q cs):Er es er (if c then p else q) cs:=by
 by_cases h:c
 ·rw [if_pos h];exact h1 h
 ·rw [if_neg h];exact h2 h
theorem VD {er:α→Int} {p:VP α} {cs:List Ch} (h:er (p.run es cs).1=0):Er es er p cs:=fun h1=>absurd h h1
theorem er_put {who:ByteArray} {p:Pr} {cs:List Ch}:Er es id (pPut who p) cs:=by
 unfold pPut
 exact Z6 (fun _=>VD rfl) fun _=>Z5 _ _
theorem er_start {who:ByteArray} {p:Pr}:Er es id (pStart who p) []:=by
 unfold pStart
 exact Z6 (fun _=>Z5 _ _) fun _=>Z6 (fun _=>Z5 _ _) fun _=>Z6 (fun _=>Z5 _ _) fun _=>Ym (XB _ _) (Z6 (fun _=>Z5 _ _) fun _=>Ym rfl (Z6 (fun _=>Z5 _ _) fun _=>er_put))
theorem er_exit {who:ByteArray} {k:Int}:Er es id (pExit who k) []:=by
 unfold pExit
 exact Ym (Yn _ _ _) (Z6 (fun _=>Z5 _ _) fun _=>Z6 (fun _=>Z5 _ _) fun _=>er_put)
theorem er_set35 {who:ByteArray} {p:Pr}:Er es id (pSet who p) []:=by
 unfold pSet
 exact Z6 (fun _=>Z5 _ _) fun _=>Ym (YG _ _ _) (Z6 (fun _=>Z5 _ _) fun _=>Z6 (fun _=>Z5 _ _) fun _=>er_put)
theorem er_put2 {who:ByteArray} {p:Pr} {z:Int}:Er es (·.2) ((pPut who p).bind fun e=>if e≠0 then .ret ((0:Int),e) else .ret (z,0)) []:=by
 intro h
 have h2:=er_put (es:=es) (who:=who) (p:=p) (cs:=[])
 unfold Er at h2
 rw [run_bind] at h ⊢
 generalize (pPut who p).run es []=X at *
 dsimp only [id] at h h2 ⊢
 by_cases hx:X.1≠0
 ·rw [if_pos hx];exact h2 hx
 ·rw [if_neg hx] at h;exact absurd rfl h
theorem er_wait {who:ByteArray} {k:Int}:Er es (·.2) (pWait who k) []:=by
 unfold pWait
 refine Ym (YG _ _ _) (Z6 (fun _=>Z5 _ _) fun _=>Ym (Y6 _ _ _) (Z6 (fun _=>Z5 _ _) fun _=>Z6 (fun _=>Z5 _ _) fun _=>Z6 (fun _=>Z5 _ _) fun _=>Ym (YG _ _ _) (Z6 (fun _=>Z5 _ _) fun _=>Z6 (fun _=>Z5 _ _) fun _=>Z6 (fun _=>Z5 _ _) fun _=>?_)))
 exact er_put2
theorem er_grow {who:ByteArray} {k:Int}:Er es (·.2) (pGrow who k) []:=by
 unfold pGrow
 refine Z6 (fun _=>Z5 _ _) fun _=>Ym (VF _ _ _) (Z6 (fun _=>Z5 _ _) fun _=>Z6 (fun _=>Z5 _ _) fun _=>Z6 (fun _=>Z5 _ _) fun _=>VD ?_)
 simp only [VP.run]
 rw [run_bind]
 rfl
theorem er_setR {who v:ByteArray} {cs:List Ch}:Er es id (pSetR who v) cs:=by
 unfold pSetR
 exact Z6 (fun _=>VD rfl) fun _=>Z5 _ _
theorem er_load {who:ByteArray} {x:Im}:Er es id (pLoad who x) []:=by
 unfold pLoad
 refine Z6 (fun _=>Z5 _ _) fun _=>Ym (Yn _ _ _) (Z6 (fun _=>Z5 _ _) fun h=>VD ?_)
 obtain ⟨-,c2,-⟩:=W7 es [] who (by omega)
 simp only [VP.run]
 rw [run_bind]
 unfold pSetR
 rw [if_pos c2]
 rfl
theorem er_boot:Er es (·.2) pBoot []:=by
 unfold pBoot
 exact Ym (XB _ _) (Z6 (fun _=>Z5 _ _) fun _=>Z6 (fun _=>Z5 _ _) fun _=>VD rfl)
theorem er_spawn {who:ByteArray} {share:Bool}:Er es (·.2) (pSpawn who share) []:=by
 unfold pSpawn
 refine Ym (Yn _ _ _) (Z6 (fun _=>Z5 _ _) fun _=>Ym (Y6 _ _ _) (Z6 (fun _=>Z5 _ _) fun _=>Z6 (fun _=>Z5 _ _) fun _=>Z6 (fun _=>Z5 _ _) fun _=>Ym rfl (Z6 (fun _=>Z5 _ _) fun _=>Ym ?_ (Z6 (fun _=>Z5 _ _) fun _=>VD ?_))))
 ·split
  ·rfl
  ·exact VI _ _ _ _
 ·simp only [VP.run]
  rw [run_bind,run_bind]
  rfl
end
end
section
open VP
theorem nodup_sub5 {α:Type} [DecidableEq α]:∀(l m:List α),l.Nodup→(∀x ∈ l,x ∈ m)→l.length≤m.length
 | [],m,_,_=>Nat.zero_le _
 | a::l,m,hn,hs=>by
  have ha:a ∈ m:=hs a (by simp)
  have h1:=nodup_sub5 l (m.erase a) (List.nodup_cons.1 hn).2 fun x hx=>(List.mem_erase_of_ne (fun e=>(List.nodup_cons.1 hn).1 (by rw [e] at hx;exact hx))).2 (hs x (by simp [hx]))
  rw [List.length_erase_of_mem ha] at h1
  have:0<m.length:=List.length_pos_of_mem ha
  simp only [List.length_cons];omega
def KidC (who ch:ByteArray):Prop:=ch=who∨∃k,(childE who k).2=0∧ch=(childE who k).1
structure Tch (es:Al) (q:Oq) (N:List Nm) (ch:ByteArray):Prop where
 kid:KidC (ZI q) ch
 rd:∀n ∈ N,nchk n=0∧Cls es (ZI q) ch n
 wr:∀c ∈ (perfF es q).2,OwnC es (ZI q) ch c.nm
 er:(perfF es q).1.e≠0→(perfF es q).2=[]
section
variable {q:Oq}
theorem Xh {α:Type} {p:VP α} {ch:ByteArray} {N:List Nm} (hk:KidC (ZI q) ch) (hN:N=(p.run es []).2.1) (h1:Rd es (Cls es (ZI q) ch) p []) (h2:Wd es (OwnC es (ZI q) ch) p []) (hw:(perfF es q).2=(p.run es []).2.2) (er:α→Int) (he:(perfF es q).1.e=er (p.run es []).1) (h3:Er es er p []):Tch es q N ch where
 kid:=hk
 rd:=fun n hn=>by rw [hN] at hn;exact ⟨Vq es p [] n hn,h1 n hn⟩
 wr:=fun c hc=>by
  rw [hw] at hc
  rcases h2 c hc with h|h
  ·cases h
  ·exact h
 er:=fun h=>by rw [hw];rw [he] at h;exact h3 h
theorem perf_tch {N:List Nm} (h:PN es q N):∃ch,Tch es q N ch:=by
 have hself:KidC (ZI q) (ZI q):=.inl rfl
 have hm:=Nat.mod_lt q.k (show 0<12 by decide)
 unfold PN at h
 by_cases h6:q.k % 12=6
 ·rw [if_pos h6] at h
  obtain ⟨c1,c2,c3,c4⟩:=h
  have hpf:perfF es q=(⟨0,⟨#[]⟩,Pr.z,(memF es (ZI q) q.a q.t).1⟩,(memF es (ZI q) q.a q.t).2):=by
   unfold perfF
   rw [h6]
   simp only [show ¬((6:Nat)=0) by decide,show ¬((6:Nat)=1) by decide,show ¬((6:Nat)=2) by decide,show ¬((6:Nat)=3) by decide,show ¬((6:Nat)=4) by decide,show ¬((6:Nat)=5) by decide,if_false,if_true]
  refine ⟨ZI q,hself,fun n hn=>⟨c1 n hn,?_⟩,fun c hc=>?_,fun he=>?_⟩
  ·rcases c3 n hn with h1|⟨h1,i,hi,rfl⟩
   ·exact rd_mof n h1
   ·obtain ⟨g1,g2⟩:=mof_get h1
    rw [g2]
    exact cls_g g1 hi
  ·rw [hpf] at hc
   dsimp only at hc
   unfold memF at hc
   by_cases h1:((pMof (ZI q)).run es []).1.2≠0
   ·rw [if_pos h1] at hc;cases hc
   ·rw [if_neg h1] at hc
    obtain ⟨g1,g2⟩:=mof_get (es:=es) (who:=ZI q) (by omega)
    split at hc
    ·cases hc
    ·dsimp only at hc
     split at hc
     ·cases hc
     ·unfold putS at hc
      rw [List.nil_append] at hc
      obtain ⟨x,_,rfl⟩:=List.mem_map.1 hc
      rw [g2]
      exact ow_o g1 rfl
  ·rw [hpf] at he ⊢
   dsimp only at he ⊢
   unfold memF at he ⊢
   split
   ·rfl
   ·rename_i h1
    rw [if_neg h1] at he
    split
    ·rfl
    ·rename_i h2
     rw [if_neg h2] at he
     exact absurd rfl he
 ·rw [if_neg h6] at h
  unfold perfN at h
  have hpf:perfF es q=perfF es q:=rfl
  conv at hpf=>rhs;unfold perfF
  have hsp:∀share:Bool,∃ch,KidC (ZI q) ch∧∀k,(childE (ZI q) k).2=0→k=((pMade (ZI q)).run es []).1.1.c+1→ch=(childE (ZI q) k).1:=fun _=>by
   by_cases hc:(childE (ZI q) (((pMade (ZI q)).run es []).1.1.c+1)).2=0
   ·exact ⟨_,.inr ⟨_,hc,rfl⟩,fun k _ hk=>by rw [hk]⟩
   ·exact ⟨ZI q,hself,fun k h1 hk=>by rw [hk] at h1;exact absurd h1 hc⟩
  generalize q.k % 12=j at *
  rcases (show j=0∨j=1∨j=2∨j=3∨j=4∨j=5∨j=7∨j=8∨j=9∨j=10∨j=11 by omega) with rfl|rfl|rfl|rfl|rfl|rfl|rfl|rfl|rfl|rfl|rfl
  all_goals simp (decide:=true) only [if_true,if_false] at h hpf
  ·exact ⟨ZI q,Xh hself h rd_start wd_start (by rw [hpf]) id (by rw [hpf];rfl) er_start⟩
  ·obtain ⟨ch,hk,hch⟩:=hsp false
   exact ⟨ch,Xh hk h (rd_spawn hch) (wd_spawn hch) (by rw [hpf]) (·.2) (by rw [hpf]) er_spawn⟩
  ·obtain ⟨ch,hk,hch⟩:=hsp true
   exact ⟨ch,Xh hk h (rd_spawn hch) (wd_spawn hch) (by rw [hpf]) (·.2) (by rw [hpf]) er_spawn⟩
  ·exact ⟨ZI q,Xh hself h rd_exit wd_exit (by rw [hpf]) id (by rw [hpf];rfl) er_exit⟩
  ·by_cases hc:(childE (ZI q) q.n).2=0
   ·exact ⟨(childE (ZI q) q.n).1,Xh (.inr ⟨_,hc,rfl⟩) h (rd_wait fun _=>rfl) (wd_wait fun _=>rfl) (by rw [hpf]) (·.2) (by rw [hpf]) er_wait⟩
   ·exact ⟨ZI q,Xh hself h (rd_wait fun h1=>absurd h1 hc) (wd_wait fun h1=>absurd h1 hc) (by rw [hpf]) (·.2) (by rw [hpf]) er_wait⟩
  ·exact ⟨ZI q,Xh hself h rd_set35 wd_set35 (by rw [hpf]) id (by rw [hpf];rfl) er_set35⟩
  ·exact ⟨ZI q,Xh hself h rd_grow wd_grow (by rw [hpf]) (·.2) (by rw [hpf]) er_grow⟩
  ·exact ⟨ZI q,Xh hself h rd_load wd_load (by rw [hpf]) id (by rw [hpf];rfl) er_load⟩
  ·exact ⟨ZI q,Xh hself h rd_boot wd_boot (by rw [hpf]) (·.2) (by rw [hpf]) er_boot⟩
  ·exact ⟨ZI q,Xh hself h rd_setR (wd_setR (ow_w rfl)) (by rw [hpf]) id (by rw [hpf];rfl) er_setR⟩
  ·exact ⟨ZI q,Xh hself h (WH cls_p cls_e) (X5 (YG _ _ _)) (by rw [hpf]) (·.2) (by rw [hpf]) fun _=>YG _ _ _⟩
theorem perf_er (he:(perfF es q).1.e≠0):(perfF es q).2=[]:=by
 by_cases h6:q.k % 12=6
 ·have hpf:perfF es q=(⟨0,⟨#[]⟩,Pr.z,(memF es (ZI q) q.a q.t).1⟩,(memF es (ZI q) q.a q.t).2):=by
   unfold perfF
   rw [h6]
   simp only [show ¬((6:Nat)=0) by decide,show ¬((6:Nat)=1) by decide,show ¬((6:Nat)=2) by decide,show ¬((6:Nat)=3) by decide,show ¬((6:Nat)=4) by decide,show ¬((6:Nat)=5) by decide,if_false,if_true]
  rw [hpf] at he ⊢
  dsimp only at he ⊢
  unfold memF at he ⊢
  split
  ·rfl
  ·rename_i h1
   rw [if_neg h1] at he
   split
   ·rfl
   ·rename_i h2
    rw [if_neg h2] at he
    exact absurd rfl he
 ·obtain ⟨ch,h⟩:=perf_tch (es:=es) (q:=q) (N:=perfN es q) (by unfold PN;rw [if_neg h6])
  exact h.er he
theorem Tch.reads {N:List Nm} {ch:ByteArray} (h:Tch es q N ch):RdOK (rsOf es N [])∧(rsOf es N []).length≤200:=by
 have hw:=(Zf q).2.1
 have hkid:ch.size≤1000:=by
  rcases h.kid with h1|⟨k,h1,h2⟩
  ·rw [h1];exact hw
  ·obtain ⟨c1,_,_,_,c5⟩:=YD (Zf q).2.2 h1
   rw [h2,c1];dsimp only;omega
 have hsp:((pGet (ZI q)).run es []).1.2=0→((pGet (ZI q)).run es []).1.1.sp.size≤1000:=fun h0=>by
  have:=(Z7 (Xz es [] (ZI q) h0).1).2.1
  omega
 have hnd:=rsOf_nodup es N [] List.nodup_nil
 have hin:∀p ∈ rsOf es N [],p.1 ∈ N∧p.2=entR es p.1:=fun p hp=>by
  rcases Vp es N [] p hp with h1|h1
  ·cases h1
  ·exact h1
 refine ⟨⟨hnd,fun p hp=>by rw [(hin p hp).2];rfl,fun p hp=>?_⟩,?_⟩
 ·rcases ((h.rd _ (hin p hp).1).2).own with h1|h1|h1|⟨h0,h1⟩
  ·rw [h1];exact Nat.zero_le _
  ·rw [h1];omega
  ·rw [h1];omega
  ·rw [h1];have:=hsp h0;omega
 ·have hle:=nodup_sub5 ((rsOf es N []).map (·.1)) ([enm,pnm (ZI q),cnm (ZI q),rnm (ZI q),pnm ch,pnm ((pGet (ZI q)).run es []).1.1.sp]++(List.range 64).map fun i:Nat=>gnm ((pGet (ZI q)).run es []).1.1.sp (i:Int)) hnd fun n hn=>by
   obtain ⟨p,hp,rfl⟩:=List.mem_map.1 hn
   rcases (h.rd _ (hin p hp).1).2 with h1|h1|h1|h1|h1|⟨_,h1|⟨i,hi,h1⟩⟩
   all_goals rw [h1]
   all_goals first
    | exact List.mem_append_right _ (List.mem_map.2 ⟨i,List.mem_range.2 hi,rfl⟩)
    | exact List.mem_append_left _ (by simp)
  simp at hle
  omega
end
end
section
open VP
theorem cutQ_bd {q:Oq} (h:q.p.gs.length≤1099511627776) (h2:q.ic.size≤1099511627776) (h3:q.id.size≤1099511627776):(cutQ q).Bd:=by
 have e1:=Xq q.t 300
 have e2:=Xq q.p.sp 80
 have e3:=Xq q.p.dr.mkr 80
 have e5:(q.p.gs.take 20).length≤20:=by rw [List.length_take];omega
 exact ⟨by show (q.p.gs.take 20).length≤_;omega,by show (cutS q.p.sp 80).size≤_;omega,by show (cutS q.p.dr.mkr 80).size≤_;omega,by show (cutS q.t 300).size≤_;omega,h2,h3⟩
theorem all_chf:∀l:List Ch,(l.flatMap chf).all one1=true
 | []=>rfl
 | c::l=>by
  rw [List.flatMap_cons,List.all_append,all_chf l]
  rfl
theorem vwr_mem2 {cs:List Ch} {c:Ch} (h:c ∈ vwr cs):c ∈ cs:=(Vx (vwr_mem.1 h)).2
end
section
variable {d:Nat}
theorem l_sH {s:ByteArray} {z:Int} {rs:TRow} (hi:Nat) (hle:hi≤s.size) (nx:Wl n C ops.toArray k Q l ((d,.string (s.extract 0 hi))::E) F R)
  (hw:wantL ops E ⟨some d,.slice t x none (some y) none,ty0,pos,aft,gd⟩=some true:=by rfl) (hn:Nat.blt d n=true:=by rfl) (hx:ev E x=some (.string s):=by rfl) (hy:ev E y=some (.int .i64 z):=by rfl)
  (hts:lookT tab t=some rs:=by rfl) (hrs:rs.k = .str:=by rfl) (hz:z=(hi:Int):=by first|rfl|omega):Wl n C ops.toArray k Q (⟨some d,.slice t x none (some y) none,ty0,pos,aft,gd⟩::l) E F R:=
 l_q (fun a w ha=>by
  simp only [execOp,Option.map_some,Option.map_none,ha.ev (x:=x) (by rw [ZL];exact hx),ha.ev (x:=y) (by rw [ZL];exact hy),Sem.run_bind,run_scut (w:=w) hi hle hts hrs hz,Result.andThen,Sem.run_pure]) nx (by intro c h;cases h) hw hn
end
def LasP (l:List UInt8) (c:UInt8) (z:Int):Prop:=(z = -1∧∀j:Nat,j<l.length→l[j]?≠some c)∨∃i:Nat,z=(i:Int)∧l[i]? = some c∧∀j:Nat,i<j→j<l.length→l[j]?≠some c
theorem lastIx_ok (s:ByteArray) (c:UInt8) (hs:s.size≤1099511627776):Enters 158∧Spec prog 158 #[.string s,.int .u8 c.toNat] [] []
  ⟨{z:Int // LasP s.data.toList c z},fun z=>.int .i64 z.1,fun _=>True,fun _=>[],fun _=>[]⟩:=by
 have hsz:s.data.toList.length=s.size:=by simp
 have w0:IntKind.i64.wrap ((s.size:Int) - 1)=(s.size:Int) - 1:=wrapi (by omega) (by omega)
 refine ZH [_,_] func158 ntmps158 fun G w hp=>?_
 repeat' (first|refine ZC ?_|refine ZB ?_|refine ZU ?_|refine ZD ?_|refine ZP ?_|refine Z9 ?_|refine ZS ?_|refine ZN (fun b=>?_)|refine Yo (fun b=>?_)|refine ZJ ?_|refine ZE ?_|rw [w0]|(refine ZT (fun hc=>?_) (fun hc=>?_)<;>(try simp at hc)<;>(try omega))|(refine ZF (fun hc=>?_) (fun hc=>?_)<;>(try simp at hc)<;>(try omega)))
 refine YH (X:={t:Nat // t≤s.size∧∀j:Nat,t≤j→j<s.data.toList.length→s.data.toList[j]?≠some c}) (fun t=>[(0,.string s),(1,.int .u8 c.toNat),(5,.int .i64 ((t.1:Int) - 1))]) (fun _=>[]) (fun _=>[]) (fun t=>t.1)
  ⟨s.size,Nat.le_refl _,fun j h1 h2=>by omega⟩ ⟨rfl,rfl,(by first|exact congrArg (fun z=>some (Value.int .i64 z)) w0|rfl),trivial⟩ ?_
 rintro ⟨t,ht,hno⟩
 dsimp only at ht hno ⊢
 cases t with
 | zero=>
  repeat' (first|refine ZC ?_|refine ZB ?_|refine ZU ?_|refine ZD ?_|refine ZP ?_|refine Z9 ?_|refine ZS ?_|refine ZN (fun b=>?_)|refine Yo (fun b=>?_)|refine ZJ ?_|refine ZE ?_|refine Zn ?_|(refine ZT (fun hc=>?_) (fun hc=>?_)<;>(try simp at hc)<;>(try omega))|(refine ZF (fun hc=>?_) (fun hc=>?_)<;>(try simp at hc)<;>(try omega)))
  exact ZG ⟨-1,.inl ⟨rfl,fun j hj=>hno j (Nat.zero_le _) hj⟩⟩ rfl trivial
 | succ i=>
  have hi:i<s.size:=by omega
  obtain ⟨u,hu⟩:∃u,s.data.toList[i]? = some u:=⟨_,List.getElem?_eq_getElem (by omega)⟩
  have w1:((i+1:Nat):Int) - 1=(i:Int):=by omega
  have w2:IntKind.i64.wrap ((i:Int) - 1)=(i:Int) - 1:=wrapi (by omega) (by omega)
  rw [w1]
  by_cases huc:u=c
  ·subst huc
   repeat' (first|refine ZC ?_|refine ZB ?_|refine ZU ?_|refine ZD ?_|refine ZP ?_|refine Z9 ?_|refine ZS ?_|refine ZN (fun b=>?_)|refine Yo (fun b=>?_)|refine ZJ ?_|refine ZE ?_|refine l_six (s:=s) i u hu ?_|(refine ZT (fun hc=>?_) (fun hc=>?_)<;>(try simp at hc)<;>(try omega))|(refine ZF (fun hc=>?_) (fun hc=>?_)<;>(try simp at hc)<;>(try omega)))
   exact Y5 (XK (YS ⟨(i:Int),.inr ⟨i,rfl,hu,fun j h1 h2=>hno j h1 h2⟩⟩ rfl trivial))
  ·have hne:((u.toNat:Int) == (c.toNat:Int))=false:=by
    have:u.toNat≠c.toNat:=fun e=>huc (UInt8.toNat_inj.1 e)
    simp;omega
   repeat' (first|refine ZC ?_|refine ZB ?_|refine ZU ?_|refine ZD ?_|refine ZP ?_|refine Z9 ?_|refine ZS ?_|refine ZN (fun b=>?_)|refine Yo (fun b=>?_)|refine ZJ ?_|refine ZE ?_|refine l_six (s:=s) i u hu ?_|rw [hne]|rw [w2]|(refine ZT (fun hc=>?_) (fun hc=>?_)<;>(try simp at hc)<;>(try omega))|(refine ZF (fun hc=>?_) (fun hc=>?_)<;>(try simp at hc)<;>(try omega)))
   refine ZW ⟨i,by omega,fun j h1 h2=>?_⟩ (by show i<i+1;omega) ⟨rfl,rfl,(by first|exact congrArg (fun z=>some (Value.int .i64 z)) w2|rfl),trivial⟩
   by_cases hj:j=i
   ·subst hj;rw [hu];intro e;cases e;exact huc rfl
   ·exact hno j (by omega) h2
def ParP (n:ByteArray) (q:ByteArray×Bool):Prop:=isE n=false→lvalid n.data.toList=true→∀k:Nat,n.data.toList[k]? = some 46→(∀j:Nat,k<j→j<n.data.toList.length→n.data.toList[j]?≠some 46)→q.1=n.extract 0 k
theorem parent_ok (n:ByteArray) (hn:n.size≤1099511627770):Enters 51∧Spec prog 51 #[.string n] [] []
  ⟨{q:ByteArray×Bool // ParP n q},fun q=>.tuple #[.string q.1.1,.bool q.1.2],fun _=>True,fun _=>[],fun _=>[]⟩:=by
 have n1:=Zu n (by omega)
 have n2:=lastIx_ok n 46 (by omega)
 have hsz:n.data.toList.length=n.size:=by simp
 have e46:((46:UInt8).toNat:Int)=46:=rfl
 rw [e46] at n2
 refine ZH [_] func51 ntmps51 fun G w hp=>?_
 cases hE:isE n with
 | true=>
  have hE':(n.toList == (⟨#[]⟩:ByteArray).toList)=true:=hE
  repeat' (first|refine ZC ?_|refine ZB ?_|refine ZU ?_|refine ZD ?_|refine ZP ?_|refine Z9 ?_|refine ZS ?_|refine ZN (fun b=>?_)|refine Yo (fun b=>?_)|refine ZJ ?_|refine ZE ?_|refine Zn ?_|rw [hE']|(refine ZT (fun hc=>?_) (fun hc=>?_)<;>(try simp at hc)<;>(try omega))|(refine ZF (fun hc=>?_) (fun hc=>?_)<;>(try simp at hc)<;>(try omega)))
  exact ZG ⟨(⟨#[]⟩,false),fun h=>by rw [hE] at h;cases h⟩ rfl trivial
 | false=>
  have hE':(n.toList == (⟨#[]⟩:ByteArray).toList)=false:=hE
  cases hv:lvalid n.data.toList with
  | false=>
   rw [hv] at n1
   repeat' (first|refine ZC ?_|refine ZB ?_|refine ZU ?_|refine ZD ?_|refine ZP ?_|refine Z9 ?_|refine ZS ?_|refine ZN (fun b=>?_)|refine Yo (fun b=>?_)|refine ZJ ?_|refine ZE ?_|refine Zn ?_|refine ZA (n1) (fun _ _=>?_)|refine l_call0 (n1) (fun _ _=>?_)|rw [hE']|(refine ZT (fun hc=>?_) (fun hc=>?_)<;>(try simp at hc)<;>(try omega))|(refine ZF (fun hc=>?_) (fun hc=>?_)<;>(try simp at hc)<;>(try omega)))
   exact ZG ⟨(⟨#[]⟩,false),fun _ h=>by rw [hv] at h;cases h⟩ rfl trivial
  | true=>
   rw [hv] at n1
   have nl:Enters 108∧Spec prog 108 #[.string n,.int .u8 46] [] [] ⟨{z:Int // LasP n.data.toList 46 z},fun z=>.int .i64 z.1,fun _=>True,fun _=>[],fun _=>[]⟩:=by
    refine ZH [_,_] func108 ntmps108 fun G w hp=>?_
    repeat' (first|refine ZC ?_|refine ZB ?_|refine ZU ?_|refine ZD ?_|refine ZP ?_|refine Z9 ?_|refine ZS ?_|refine ZN (fun b=>?_)|refine Yo (fun b=>?_)|refine ZJ ?_|refine ZE ?_|refine Zn ?_|refine ZA (n2) (fun _ _=>?_)|refine l_call0 (n2) (fun _ _=>?_)|(refine ZT (fun hc=>?_) (fun hc=>?_)<;>(try simp at hc)<;>(try omega))|(refine ZF (fun hc=>?_) (fun hc=>?_)<;>(try simp at hc)<;>(try omega)))
    rename_i z _
    exact ZG z rfl trivial
   repeat' (first|refine ZC ?_|refine ZB ?_|refine ZU ?_|refine ZD ?_|refine ZP ?_|refine Z9 ?_|refine ZS ?_|refine ZN (fun b=>?_)|refine Yo (fun b=>?_)|refine ZJ ?_|refine ZE ?_|refine Zn ?_|refine ZA (n1) (fun _ _=>?_)|refine l_call0 (n1) (fun _ _=>?_)|refine ZA (nl) (fun _ _=>?_)|refine l_call0 (nl) (fun _ _=>?_)|rw [hE']|(refine ZT (fun hc=>?_) (fun hc=>?_)<;>(try simp at hc)<;>(try omega))|(refine ZF (fun hc=>?_) (fun hc=>?_)<;>(try simp at hc)<;>(try omega)))
   rename_i z _
   obtain ⟨z,hz⟩:=z
   dsimp only
   rcases hz with ⟨rfl,hz⟩|⟨i,rfl,hi,hz⟩
   ·refine l_sH (s:=n) 0 (Nat.zero_le _) ?_
    repeat' (first|refine ZC ?_|refine ZB ?_|refine ZU ?_|refine ZD ?_|refine ZP ?_|refine Z9 ?_|refine ZS ?_|refine ZN (fun b=>?_)|refine Yo (fun b=>?_)|refine ZJ ?_|refine ZE ?_|refine Zn ?_|(refine ZT (fun hc=>?_) (fun hc=>?_)<;>(try simp at hc)<;>(try omega))|(refine ZF (fun hc=>?_) (fun hc=>?_)<;>(try simp at hc)<;>(try omega)))
    exact ZG ⟨(n.extract 0 0,true),fun _ _ k hk _=>absurd hk (hz k (List.getElem?_eq_some_iff.1 hk).1)⟩ rfl trivial
   ·have hil:=(List.getElem?_eq_some_iff.1 hi).1
    refine l_sH (s:=n) i (by omega) ?_
    repeat' (first|refine ZC ?_|refine ZB ?_|refine ZU ?_|refine ZD ?_|refine ZP ?_|refine Z9 ?_|refine ZS ?_|refine ZN (fun b=>?_)|refine Yo (fun b=>?_)|refine ZJ ?_|refine ZE ?_|refine Zn ?_|(refine ZT (fun hc=>?_) (fun hc=>?_)<;>(try simp at hc)<;>(try omega))|(refine ZF (fun hc=>?_) (fun hc=>?_)<;>(try simp at hc)<;>(try omega)))
    refine ZG ⟨(n.extract 0 i,true),fun _ _ k hk hk2=>?_⟩ rfl trivial
    have hkl:=(List.getElem?_eq_some_iff.1 hk).1
    have:k=i:=by
     rcases Nat.lt_trichotomy k i with h|h|h
     ·exact absurd hi (hk2 i h hil)
     ·exact h
     ·exact absurd hk (hz k h hkl)
    rw [this]
theorem par_ch {who:ByteArray} {k:Int} (hne:isE who=false) (h:(childE who k).2=0) {q:ByteArray×Bool} (hq:ParP (chN who k) q):q.1=who:=by
 obtain ⟨c1,c2,c3,c4,c5⟩:=YD hne h
 obtain ⟨d1,-,-,-⟩:=Ul c3
 have hws:who.data.toList.length=who.size:=by simp
 have e1:(chN who k).data.toList=who.data.toList++46::Lib.itoa k:=by
  unfold chN
  simp [ByteArray.data_append]
 have hE:isE (chN who k)=false:=by
  rw [isE_eq]
  simp only [decide_eq_false_iff_not]
  intro e
  have:=congrArg (fun b=>b.data.toList.length) e
  simp only [e1] at this
  simp at this
 rw [hq hE c4 who.size (by rw [e1,List.getElem?_append_right (by omega)];simp [hws]) fun j h1 h2=>?_]
 ·apply XT
  rw [ByteArray.data_extract,Array.toList_extract,List.extract_eq_drop_take',e1]
  simp only [List.drop_zero]
  rw [List.take_append_of_le_length (by omega),List.take_of_length_le (by omega)]
 ·rw [e1,List.getElem?_append_right (by omega)]
  obtain ⟨m,hm⟩:∃m,j - who.data.toList.length=m+1:=⟨j - who.data.toList.length - 1,by omega⟩
  rw [hm,List.getElem?_cons_succ]
  intro e
  have:=d1 46 (List.mem_of_getElem? e)
  exact absurd this (by decide)
section
open VP
def OwnT (who ch a7:ByteArray) (e:Int) (n:Nm):Prop:=n=enm∨n.owner=who∨n.owner=ch∨(e=0∧n.owner=a7)
set_option maxHeartbeats 8000000 in
theorem lawPTch_ok (o:Option Addr) (cap:Nat) (l:List Oe) (hl:l.length≤1099511627776) (hB:OeB 1099511627776 l) (q:Oq) (qo:Option Addr) (qc:Nat) (hg:q.p.gs.length≤1099511627776) (hi2:q.ic.size≤1099511627776) (hi3:q.id.size≤1099511627776) :
  Enters 8∧Spec prog 8 #[.slice o l.length cap,q.v qo qc] [Sl 76 oef o cap l,OeF l,Sl 3 zf qo qc q.p.gs,Usg,P10] [] (RetV (.bool true)):=by
 have n0:=after35_ok o cap l hl hB
 have n1:=known35_ok
 have nN:=Zc
 have m0:=cut35_ok q qo qc hg
 have hBd:=cutQ_bd hg hi2 hi3
 obtain ⟨hwi,hw,hne⟩:=Zf (cutQ q)
 have hlt7:(cutQ q).w % 7<7:=Nat.mod_lt _ (by decide)
 have w1:((cutQ q).w:Int).tmod 7=(((cutQ q).w % 7:Nat):Int):=(Int.ofNat_tmod _ 7).symm
 have hPt:=fun (es:Al) N=>perf_tch (es:=es) (q:=cutQ q) (N:=N)
 have hnP:=fun v ps es o' (hS:Sml es [])=>perf_ok v ps es (cutQ q) o' qc hS hBd []
 have hsim:=fun k es (s:AS) (h:RelV k (vget es []) s) (hk:k≤900)=>sim_ok h hk (cutQ q)
 generalize hW:ZI (cutQ q)=who at *
 generalize cutQ q=cq at *
 obtain ⟨y1,y2,y3,y4,y5,⟨x1,x2,x3,x4,x5,xs,x7,x8,⟨x9,x10⟩,x11⟩,y7,y8,y9,y10⟩:=q
 simp only [Oq.v,Pr.v]
 simp only [Oq.v,Pr.v] at m0
 refine ZH [_,_] func8 ntmps8 fun G w hp=>?_
 repeat' (first|refine ZC ?_|refine ZB ?_|refine ZU ?_|refine ZD ?_|refine ZP ?_|refine Z9 ?_|refine ZS ?_|refine ZN (fun b=>?_)|refine Yo (fun b=>?_)|refine ZJ ?_|refine ZE ?_|refine ZA (n0) (fun _ _=>?_)|refine l_call0 (n0) (fun _ _=>?_)|refine ZA (n1) (fun _ _=>?_)|refine l_call0 (n1) (fun _ _=>?_)|(refine ZT (fun hc=>?_) (fun hc=>?_)<;>(try simp at hc)<;>(try omega))|(refine ZF (fun hc=>?_) (fun hc=>?_)<;>(try simp at hc)<;>(try omega)))
 rename Nat×AfX=>x
 rename AfP _ _ _=>hx
 obtain ⟨mb,i,s,es,ms⟩:=x
 obtain ⟨-,hi,hR⟩:=hx
 dsimp only at hi hR ⊢
 have m2:=Zs mb ms who hw
 rw [←Yg,←Vb hR.r (by omega:i≤1000) who] at m2
 have hspz:((pGet who).run es []).1.2=0→((pGet who).run es []).1.1.sp.size≤1000:=fun h0=>by
  have:=(Z7 (Xz es [] who h0).1).2.1
  omega
 have hT:=hPt es
 have nP:=fun v o'=>hnP v (some ⟨s,0,none⟩) es o' hR.s
 have hgd:Gd 130 (perfF es cq).2:=(hsim i es (absM ms) hR.r (by omega)).2.2
 simp only [PfP] at nP
 clear hnP hsim hPt n0 n1 hB
 generalize hF:perfF es cq=FF at *
 obtain ⟨⟨rn,rm,⟨r1,r2,r3,r4,r5,rgs,r7,r8,⟨r9,r9'⟩,r10⟩,re⟩,cs2⟩:=FF
 generalize hA:((pGet who).run es []).1=A at *
 obtain ⟨⟨a1,a2,a3,a4,a5,gs,a7,a8,⟨a9,a9'⟩,a10⟩,e⟩:=A
 simp only [Rz.v,Pr.v] at nP m2
 dsimp only at hspz
 obtain ⟨z1,z2,z3,z4,z5,⟨v1,v2,v3,v4,v5,vs,v7,v8,⟨v9,v10⟩,v11⟩,z7,z8,z9,z10⟩:=cq
 simp only [Oq.v,Pr.v] at nP
 dsimp only at hlt7 w1 hwi m0 nP
 have hre:¬re=0→cs2=[]:=fun h=>by
  have:=perf_er (es:=es) (q:=⟨z1,z2,z3,z4,z5,⟨v1,v2,v3,v4,v5,vs,v7,v8,⟨v9,v10⟩,v11⟩,z7,z8,z9,z10⟩) (by rw [hF];exact h)
  rw [hF] at this
  exact this
 dsimp only at hgd
 have hc130:cs2.length≤130:=hgd.1
 have hl2:(vwr cs2).length≤200:=by have:=vwr_l5 cs2;omega
 have hv0:¬re=0→(vwr cs2).length=0:=fun h=>by rw [hre h];rfl
 have n6:=fun vb rs=>vwWrites_ok vb (some ⟨s,0,none⟩) rs cs2 (by have:=lastL_l5 cs2;omega) (fun c hc=>(hgd.2 c hc).own)
 unfold WrPost at n6
 have hone:=all_chf (vwr cs2)
 have hwm:∀c ∈ vwr cs2,c ∈ cs2:=fun c hc=>vwr_mem2 hc
 generalize vwr cs2=wl at *
 repeat' (first|refine ZC ?_|refine ZB ?_|refine ZU ?_|refine ZD ?_|refine ZP ?_|refine Z9 ?_|refine ZS ?_|refine ZN (fun b=>?_)|refine Yo (fun b=>?_)|refine ZJ ?_|refine ZE ?_|refine ZO ?_|refine Z4 ?_|refine Ze ?_|refine X7 ?_|refine r_ldN ?_|refine r_al (fun b=>?_)|refine r_bs (fun b=>?_)|refine r_st ?_|refine ZQ ?_|refine ZA (m0) (fun _ _=>?_)|refine l_call0 (m0) (fun _ _=>?_)|refine ZR (m0) (fun _ _=>?_)|refine ZA (nN) (fun _ _=>?_)|refine l_call0 (nN) (fun _ _=>?_)|refine ZR (nN) (fun _ _=>?_)|refine ZA (m2) (fun _ _=>?_)|refine l_call0 (m2) (fun _ _=>?_)|refine ZR (m2) (fun _ _=>?_)|refine ZA (XY _) (fun _ _=>?_)|refine l_call0 (XY _) (fun _ _=>?_)|refine ZR (XY _) (fun _ _=>?_)|refine ZA (nP _ _) (fun _ _=>?_)|refine l_call0 (nP _ _) (fun _ _=>?_)|refine ZR (nP _ _) (fun _ _=>?_)|refine ZA (n6 _ _) (fun _ _=>?_)|refine l_call0 (n6 _ _) (fun _ _=>?_)|refine ZR (n6 _ _) (fun _ _=>?_)|rw [w1]|refine Zi (m:=7) (z2 % 7) hlt7 ?_|refine ZV 1 (z2 % 7) 0 hwi ?_|(refine ZT (fun hc=>?_) (fun hc=>?_)<;>(try simp at hc)<;>(try omega))|(refine Zl (fun hc=>?_) (fun hc=>?_)<;>(try simp at hc)<;>(try omega))|refine ZK 5 [] [(1,0),(2,0),(3,0),(0,4),(4,0),(5,3),(6,0)] [] ?_|(refine ZF (fun hc=>?_) (fun hc=>?_)<;>(try simp at hc)<;>(try omega)))
 ·rename_i q9 _ b9 vb _ r hr _ _ _
  obtain ⟨N,hrs,hPN⟩:∃N,r.2=rsOf es N []∧PN es _ N:=hr
  obtain ⟨ch,hTc⟩:=hT N hPN
  have hwr:=hTc.wr
  rw [hF] at hwr
  dsimp only at hwr
  have hrd:=hTc.rd
  have hkid:=hTc.kid
  obtain ⟨hRd,hRl⟩:=hTc.reads
  rw [hW] at hwr hrd hkid
  clear hTc hT
  obtain ⟨r0,rs⟩:=r
  dsimp only at hrs ⊢
  subst hrs
  have hkz:ch.size≤1000:=by
   rcases hkid with h1|⟨k,h1,h2⟩
   ·rw [h1];exact hw
   ·obtain ⟨c1,_,_,_,c5⟩:=YD hne h1
    rw [h2,c1];dsimp only;omega
  have hOT:∀n,OwnC es who ch n→OwnT who ch a7 e n:=fun n hn=>by
   rcases hn with h1|h1|h1|⟨h0,h1⟩
   ·exact .inl h1
   ·exact .inr (.inl h1)
   ·exact .inr (.inr (.inl h1))
   ·rw [hA] at h0 h1;exact .inr (.inr (.inr ⟨h0,h1⟩))
  have hown:∀c ∈ vrd (rsOf es N [])++wl,OwnT who ch a7 e c.nm:=fun c hc=>by
   rcases List.mem_append.1 hc with h1|h1
   ·have h2:=(Ya _).mem_iff.1 h1
    obtain ⟨p,hp,rfl⟩:=List.mem_map.1 h2
    rcases Vp es N [] p hp with h3|⟨h3,h4⟩
    ·cases h3
    ·rw [h4];exact hOT _ ((hrd _ h3).2).own
   ·exact hOT _ (hwr _ (hwm _ h1))
  have hsz:∀c ∈ vrd (rsOf es N [])++wl,c.nm.owner.size≤1099511627770:=fun c hc=>by
   rcases hown c hc with h1|h1|h1|⟨h0,h1⟩
   ·rw [h1];exact Nat.zero_le _
   ·rw [h1];omega
   ·rw [h1];omega
   ·rw [h1];have:=hspz h0;omega
  have n5:=vwReads_ok vb (some ⟨s,0,none⟩) (rsOf es N []) cs2 hRd hRl
  have hl1:(vrd (rsOf es N [])).length≤200:=by rw [vrd_len];exact hRl
  generalize vrd (rsOf es N [])=rl at *
  have hroom:(2 * (rl.length+wl.length)+200) * 96≤281474976710656:=by omega
  clear hrd hwr hgd hRd hRl hPN hF hre
  repeat' (first|refine ZC ?_|refine ZB ?_|refine ZU ?_|refine ZD ?_|refine ZP ?_|refine Z9 ?_|refine ZS ?_|refine ZN (fun b=>?_)|refine Yo (fun b=>?_)|refine ZJ ?_|refine ZE ?_|refine ZA (n5) (fun _ _=>?_)|refine l_call0 (n5) (fun _ _=>?_)|refine ZA (n6 _ _) (fun _ _=>?_)|refine l_call0 (n6 _ _) (fun _ _=>?_)|refine l_appR (sz:=7) (hone:=hone) (fun o' cap'=>?_)|(refine ZT (fun hc=>?_) (fun hc=>?_)<;>(try simp at hc)<;>(try omega))|(refine ZF (fun hc=>?_) (fun hc=>?_)<;>(try simp at hc)<;>(try omega)))
  have hLl:rl.length+wl.length=(rl++wl).length:=by simp
  refine k_frz (T:=105) (f:=chf) (rl++wl) ?_ (by rw [List.flatMap_append]) hLl
  rw [hLl]
  generalize rl++wl=L at *
  refine YH (X:={j:Nat // j≤L.length}) (fun j=>[(8,.string who),(9,.pointer (some ⟨b9,0,none⟩)),(10,.int .i64 e),(62,.slice o' L.length cap'),(63,.int .i64 (L.length:Int)),(64,.int .i64 (j.1:Int))]) (fun _=>[Sl 105 chf o' cap' L]) (fun _=>[Pt b9 (.cells #[.int .i64 a1,.int .i64 a2,.int .i64 a3,.int .i64 a4,.int .i64 a5,.slice q9.1 gs.length q9.2,.string a7,.int .i64 a8,.string a9,.int .i64 a9',.int .i64 a10] 44)]) (fun j=>L.length - j.1)
   ⟨0,Nat.zero_le _⟩ ⟨rfl,rfl,rfl,rfl,rfl,rfl,trivial⟩ ?_
  have hLs:L.length≤400:=by omega
  clear m0 m2 nN nP n5 n6 hone hroom hv0 hl1 hl2 hLl
  rintro ⟨j,hj⟩
  dsimp only at hj ⊢
  by_cases hlt:j<L.length
  ·obtain ⟨c,hgt⟩:∃c,L[j]? = some c:=⟨_,List.getElem?_eq_getElem hlt⟩
   have hmem:=List.mem_of_getElem? hgt
   have hO:=hown c hmem
   have hOz:=hsz c hmem
   have n7:=parent_ok c.nm.owner (by omega)
   have w9:IntKind.i64.wrap ((j:Int)+1)=((j+1:Nat):Int):=by rw [wrapi (by omega) (by omega)];omega
   obtain ⟨⟨k1,k2,k3,k4,k5⟩,kv,ka⟩:=c
   dsimp only at hO hOz n7
   by_cases hw2:k2=who
   ·have e1:(k2.toList == who.toList)=true:=by rw [hw2];simp
    repeat' (first|rw [e1]|refine ZC ?_|refine ZB ?_|refine ZU ?_|refine ZD ?_|refine ZP ?_|refine Z9 ?_|refine ZS ?_|refine ZN (fun b=>?_)|refine Yo (fun b=>?_)|refine ZJ ?_|refine ZE ?_|refine ZA (n7) (fun _ _=>?_)|refine l_call0 (n7) (fun _ _=>?_)|rw [w9]|refine XL (es:=L) (f:=chf) j _ hgt (fun b off=>?_)|refine YQ ?_|(refine ZT (fun hc=>?_) (fun hc=>?_)<;>(try simp at hc)<;>(try omega))|(refine ZF (fun hc=>?_) (fun hc=>?_)<;>(try simp at hc)<;>(try omega)))
    all_goals exact ZW ⟨j+1,by omega⟩ (by show L.length - (j+1)<L.length - j;omega) ⟨rfl,rfl,rfl,rfl,rfl,rfl,trivial⟩
   ·have e1:(k2.toList == who.toList)=false:=by rw [beqSv];simp [hw2]
    rcases hO with h1|h1|h1|⟨h0,h1⟩
    ·have h20:k1=20:=congrArg Nm.kind h1
     subst h20
     repeat' (first|rw [e1]|refine ZC ?_|refine ZB ?_|refine ZU ?_|refine ZD ?_|refine ZP ?_|refine Z9 ?_|refine ZS ?_|refine ZN (fun b=>?_)|refine Yo (fun b=>?_)|refine ZJ ?_|refine ZE ?_|refine ZA (n7) (fun _ _=>?_)|refine l_call0 (n7) (fun _ _=>?_)|rw [w9]|refine XL (es:=L) (f:=chf) j _ hgt (fun b off=>?_)|refine YQ ?_|(refine ZT (fun hc=>?_) (fun hc=>?_)<;>(try simp at hc)<;>(try omega))|(refine ZF (fun hc=>?_) (fun hc=>?_)<;>(try simp at hc)<;>(try omega)))
     all_goals exact ZW ⟨j+1,by omega⟩ (by show L.length - (j+1)<L.length - j;omega) ⟨rfl,rfl,rfl,rfl,rfl,rfl,trivial⟩
    ·exact absurd h1 hw2
    ·dsimp only at h1
     subst h1
     rcases hkid with h2|⟨k,h2,h3⟩
     ·exact absurd h2 hw2
     ·obtain ⟨c1,_⟩:=YD hne h2
      have hk2:k2=chN who k:=by rw [h3,c1]
      have e3:(k2.toList == (⟨#[]⟩:ByteArray).toList)=false:=by
       have:=chN_ne who k
       rw [←hk2] at this
       exact this
      have hpar:∀q:{q:ByteArray×Bool // ParP k2 q},(q.1.1.toList == who.toList)=true:=fun q=>by
       obtain ⟨q,hq⟩:=q
       rw [hk2] at hq
       have:=par_ch hne h2 hq
       dsimp only
       rw [this];simp
      repeat' (first|rw [e3]|rw [hpar]|rw [e1]|refine ZC ?_|refine ZB ?_|refine ZU ?_|refine ZD ?_|refine ZP ?_|refine Z9 ?_|refine ZS ?_|refine ZN (fun b=>?_)|refine Yo (fun b=>?_)|refine ZJ ?_|refine ZE ?_|refine ZA (n7) (fun _ _=>?_)|refine l_call0 (n7) (fun _ _=>?_)|rw [w9]|refine XL (es:=L) (f:=chf) j _ hgt (fun b off=>?_)|refine YQ ?_|(refine ZT (fun hc=>?_) (fun hc=>?_)<;>(try simp at hc)<;>(try omega))|(refine ZF (fun hc=>?_) (fun hc=>?_)<;>(try simp at hc)<;>(try omega)))
      all_goals exact ZW ⟨j+1,by omega⟩ (by show L.length - (j+1)<L.length - j;omega) ⟨rfl,rfl,rfl,rfl,rfl,rfl,trivial⟩
    ·dsimp only at h1
     subst h0 h1
     have e2:(k2.toList == k2.toList)=true:=by simp
     repeat' (first|rw [e2]|rw [e1]|refine ZC ?_|refine ZB ?_|refine ZU ?_|refine ZD ?_|refine ZP ?_|refine Z9 ?_|refine ZS ?_|refine ZN (fun b=>?_)|refine Yo (fun b=>?_)|refine ZJ ?_|refine ZE ?_|refine ZA (n7) (fun _ _=>?_)|refine l_call0 (n7) (fun _ _=>?_)|rw [w9]|refine XL (es:=L) (f:=chf) j _ hgt (fun b off=>?_)|refine YQ ?_|(refine ZT (fun hc=>?_) (fun hc=>?_)<;>(try simp at hc)<;>(try omega))|(refine ZF (fun hc=>?_) (fun hc=>?_)<;>(try simp at hc)<;>(try omega)))
     all_goals exact ZW ⟨j+1,by omega⟩ (by show L.length - (j+1)<L.length - j;omega) ⟨rfl,rfl,rfl,rfl,rfl,rfl,trivial⟩
  ·obtain rfl:j=L.length:=by omega
   repeat' (first|refine ZC ?_|refine ZB ?_|refine ZU ?_|refine ZD ?_|refine ZP ?_|refine Z9 ?_|refine ZS ?_|refine ZN (fun b=>?_)|refine Yo (fun b=>?_)|refine ZJ ?_|refine ZE ?_|refine Zn ?_|(refine ZT (fun hc=>?_) (fun hc=>?_)<;>(try simp at hc)<;>(try omega))|(refine ZF (fun hc=>?_) (fun hc=>?_)<;>(try simp at hc)<;>(try omega)))
   exact ZG () rfl trivial
 ·rename_i q9 _ b9 vb _ r hr
  obtain ⟨N,hrs,hPN⟩:∃N,r.2=rsOf es N []∧PN es _ N:=hr
  obtain ⟨ch,hTc⟩:=hT N hPN
  have hwr:=hTc.wr
  rw [hF] at hwr
  dsimp only at hwr
  have hrd:=hTc.rd
  have hkid:=hTc.kid
  obtain ⟨hRd,hRl⟩:=hTc.reads
  rw [hW] at hwr hrd hkid
  clear hTc hT
  obtain ⟨r0,rs⟩:=r
  dsimp only at hrs ⊢
  subst hrs
  have hkz:ch.size≤1000:=by
   rcases hkid with h1|⟨k,h1,h2⟩
   ·rw [h1];exact hw
   ·obtain ⟨c1,_,_,_,c5⟩:=YD hne h1
    rw [h2,c1];dsimp only;omega
  have hOT:∀n,OwnC es who ch n→OwnT who ch a7 e n:=fun n hn=>by
   rcases hn with h1|h1|h1|⟨h0,h1⟩
   ·exact .inl h1
   ·exact .inr (.inl h1)
   ·exact .inr (.inr (.inl h1))
   ·rw [hA] at h0 h1;exact .inr (.inr (.inr ⟨h0,h1⟩))
  have hown:∀c ∈ vrd (rsOf es N [])++wl,OwnT who ch a7 e c.nm:=fun c hc=>by
   rcases List.mem_append.1 hc with h1|h1
   ·have h2:=(Ya _).mem_iff.1 h1
    obtain ⟨p,hp,rfl⟩:=List.mem_map.1 h2
    rcases Vp es N [] p hp with h3|⟨h3,h4⟩
    ·cases h3
    ·rw [h4];exact hOT _ ((hrd _ h3).2).own
   ·exact hOT _ (hwr _ (hwm _ h1))
  have hsz:∀c ∈ vrd (rsOf es N [])++wl,c.nm.owner.size≤1099511627770:=fun c hc=>by
   rcases hown c hc with h1|h1|h1|⟨h0,h1⟩
   ·rw [h1];exact Nat.zero_le _
   ·rw [h1];omega
   ·rw [h1];omega
   ·rw [h1];have:=hspz h0;omega
  have n5:=vwReads_ok vb (some ⟨s,0,none⟩) (rsOf es N []) cs2 hRd hRl
  have hl1:(vrd (rsOf es N [])).length≤200:=by rw [vrd_len];exact hRl
  generalize vrd (rsOf es N [])=rl at *
  have hroom:(2 * (rl.length+wl.length)+200) * 96≤281474976710656:=by omega
  clear hrd hwr hgd hRd hRl hPN hF hre
  repeat' (first|refine ZC ?_|refine ZB ?_|refine ZU ?_|refine ZD ?_|refine ZP ?_|refine Z9 ?_|refine ZS ?_|refine ZN (fun b=>?_)|refine Yo (fun b=>?_)|refine ZJ ?_|refine ZE ?_|refine ZA (n5) (fun _ _=>?_)|refine l_call0 (n5) (fun _ _=>?_)|refine ZA (n6 _ _) (fun _ _=>?_)|refine l_call0 (n6 _ _) (fun _ _=>?_)|refine l_appR (sz:=7) (hone:=hone) (fun o' cap'=>?_)|(refine ZT (fun hc=>?_) (fun hc=>?_)<;>(try simp at hc)<;>(try omega))|(refine ZF (fun hc=>?_) (fun hc=>?_)<;>(try simp at hc)<;>(try omega)))
  have hLl:rl.length+wl.length=(rl++wl).length:=by simp
  refine k_frz (T:=105) (f:=chf) (rl++wl) ?_ (by rw [List.flatMap_append]) hLl
  rw [hLl]
  generalize rl++wl=L at *
  refine YH (X:={j:Nat // j≤L.length}) (fun j=>[(8,.string who),(9,.pointer (some ⟨b9,0,none⟩)),(10,.int .i64 e),(62,.slice o' L.length cap'),(63,.int .i64 (L.length:Int)),(64,.int .i64 (j.1:Int))]) (fun _=>[Sl 105 chf o' cap' L]) (fun _=>[Pt b9 (.cells #[.int .i64 a1,.int .i64 a2,.int .i64 a3,.int .i64 a4,.int .i64 a5,.slice q9.1 gs.length q9.2,.string a7,.int .i64 a8,.string a9,.int .i64 a9',.int .i64 a10] 44)]) (fun j=>L.length - j.1)
   ⟨0,Nat.zero_le _⟩ ⟨rfl,rfl,rfl,rfl,rfl,rfl,trivial⟩ ?_
  have hLs:L.length≤400:=by omega
  clear m0 m2 nN nP n5 n6 hone hroom hv0 hl1 hl2 hLl
  rintro ⟨j,hj⟩
  dsimp only at hj ⊢
  by_cases hlt:j<L.length
  ·obtain ⟨c,hgt⟩:∃c,L[j]? = some c:=⟨_,List.getElem?_eq_getElem hlt⟩
   have hmem:=List.mem_of_getElem? hgt
   have hO:=hown c hmem
   have hOz:=hsz c hmem
   have n7:=parent_ok c.nm.owner (by omega)
   have w9:IntKind.i64.wrap ((j:Int)+1)=((j+1:Nat):Int):=by rw [wrapi (by omega) (by omega)];omega
   obtain ⟨⟨k1,k2,k3,k4,k5⟩,kv,ka⟩:=c
   dsimp only at hO hOz n7
   by_cases hw2:k2=who
   ·have e1:(k2.toList == who.toList)=true:=by rw [hw2];simp
    repeat' (first|rw [e1]|refine ZC ?_|refine ZB ?_|refine ZU ?_|refine ZD ?_|refine ZP ?_|refine Z9 ?_|refine ZS ?_|refine ZN (fun b=>?_)|refine Yo (fun b=>?_)|refine ZJ ?_|refine ZE ?_|refine ZA (n7) (fun _ _=>?_)|refine l_call0 (n7) (fun _ _=>?_)|rw [w9]|refine XL (es:=L) (f:=chf) j _ hgt (fun b off=>?_)|refine YQ ?_|(refine ZT (fun hc=>?_) (fun hc=>?_)<;>(try simp at hc)<;>(try omega))|(refine ZF (fun hc=>?_) (fun hc=>?_)<;>(try simp at hc)<;>(try omega)))
    all_goals exact ZW ⟨j+1,by omega⟩ (by show L.length - (j+1)<L.length - j;omega) ⟨rfl,rfl,rfl,rfl,rfl,rfl,trivial⟩
   ·have e1:(k2.toList == who.toList)=false:=by rw [beqSv];simp [hw2]
    rcases hO with h1|h1|h1|⟨h0,h1⟩
    ·have h20:k1=20:=congrArg Nm.kind h1
     subst h20
     repeat' (first|rw [e1]|refine ZC ?_|refine ZB ?_|refine ZU ?_|refine ZD ?_|refine ZP ?_|refine Z9 ?_|refine ZS ?_|refine ZN (fun b=>?_)|refine Yo (fun b=>?_)|refine ZJ ?_|refine ZE ?_|refine ZA (n7) (fun _ _=>?_)|refine l_call0 (n7) (fun _ _=>?_)|rw [w9]|refine XL (es:=L) (f:=chf) j _ hgt (fun b off=>?_)|refine YQ ?_|(refine ZT (fun hc=>?_) (fun hc=>?_)<;>(try simp at hc)<;>(try omega))|(refine ZF (fun hc=>?_) (fun hc=>?_)<;>(try simp at hc)<;>(try omega)))
     all_goals exact ZW ⟨j+1,by omega⟩ (by show L.length - (j+1)<L.length - j;omega) ⟨rfl,rfl,rfl,rfl,rfl,rfl,trivial⟩
    ·exact absurd h1 hw2
    ·dsimp only at h1
     subst h1
     rcases hkid with h2|⟨k,h2,h3⟩
     ·exact absurd h2 hw2
     ·obtain ⟨c1,_⟩:=YD hne h2
      have hk2:k2=chN who k:=by rw [h3,c1]
      have e3:(k2.toList == (⟨#[]⟩:ByteArray).toList)=false:=by
       have:=chN_ne who k
       rw [←hk2] at this
       exact this
      have hpar:∀q:{q:ByteArray×Bool // ParP k2 q},(q.1.1.toList == who.toList)=true:=fun q=>by
       obtain ⟨q,hq⟩:=q
       rw [hk2] at hq
       have:=par_ch hne h2 hq
       dsimp only
       rw [this];simp
      repeat' (first|rw [e3]|rw [hpar]|rw [e1]|refine ZC ?_|refine ZB ?_|refine ZU ?_|refine ZD ?_|refine ZP ?_|refine Z9 ?_|refine ZS ?_|refine ZN (fun b=>?_)|refine Yo (fun b=>?_)|refine ZJ ?_|refine ZE ?_|refine ZA (n7) (fun _ _=>?_)|refine l_call0 (n7) (fun _ _=>?_)|rw [w9]|refine XL (es:=L) (f:=chf) j _ hgt (fun b off=>?_)|refine YQ ?_|(refine ZT (fun hc=>?_) (fun hc=>?_)<;>(try simp at hc)<;>(try omega))|(refine ZF (fun hc=>?_) (fun hc=>?_)<;>(try simp at hc)<;>(try omega)))
      all_goals exact ZW ⟨j+1,by omega⟩ (by show L.length - (j+1)<L.length - j;omega) ⟨rfl,rfl,rfl,rfl,rfl,rfl,trivial⟩
    ·dsimp only at h1
     subst h0 h1
     have e2:(k2.toList == k2.toList)=true:=by simp
     repeat' (first|rw [e2]|rw [e1]|refine ZC ?_|refine ZB ?_|refine ZU ?_|refine ZD ?_|refine ZP ?_|refine Z9 ?_|refine ZS ?_|refine ZN (fun b=>?_)|refine Yo (fun b=>?_)|refine ZJ ?_|refine ZE ?_|refine ZA (n7) (fun _ _=>?_)|refine l_call0 (n7) (fun _ _=>?_)|rw [w9]|refine XL (es:=L) (f:=chf) j _ hgt (fun b off=>?_)|refine YQ ?_|(refine ZT (fun hc=>?_) (fun hc=>?_)<;>(try simp at hc)<;>(try omega))|(refine ZF (fun hc=>?_) (fun hc=>?_)<;>(try simp at hc)<;>(try omega)))
     all_goals exact ZW ⟨j+1,by omega⟩ (by show L.length - (j+1)<L.length - j;omega) ⟨rfl,rfl,rfl,rfl,rfl,rfl,trivial⟩
  ·obtain rfl:j=L.length:=by omega
   repeat' (first|refine ZC ?_|refine ZB ?_|refine ZU ?_|refine ZD ?_|refine ZP ?_|refine Z9 ?_|refine ZS ?_|refine ZN (fun b=>?_)|refine Yo (fun b=>?_)|refine ZJ ?_|refine ZE ?_|refine Zn ?_|(refine ZT (fun hc=>?_) (fun hc=>?_)<;>(try simp at hc)<;>(try omega))|(refine ZF (fun hc=>?_) (fun hc=>?_)<;>(try simp at hc)<;>(try omega)))
   exact ZG () rfl trivial
end
section
variable {n:Nat} {C:Cx} {Q:Exit→Act→World→Prop} {E E':List (Nat×Value)} {F F' F1 Fs F0:List Pf} {R R' R0 Rs N N' A:List HP} {k k':List Fr} {ops l:List Oper} {i d:Nat} {t ty0:TypeId} {x y z:Operand} {pos:String} {aft:Array Edge} {gd:Option (Nat×Bool)} {α β:Type} [DecidableEq α] {K:α→Value} {V:β→Value}
end
def En.v (e:En):Value:=.agg #[.string e.who,.int .i64 e.nu,.int .i64 e.tk,.int .i64 e.o.ch,.string e.o.tg,.string e.o.tx,.int .i64 e.o.us]
abbrev Sd:=ByteArray×Int
def sdv (s:Sd):Value:=.agg #[.string s.1,.int .i64 s.2]
def En.sd (e:En):Sd:=(e.who,e.nu)
def bv (b:Bool):Value:=.bool b
structure Cq where
 kind:Int
 who:ByteArray
 nu:Int
 place:Int
 old:Ou
 oldAt:Int
 new:Ou
 newAt:Int
 deriving DecidableEq
def cqf (c:Cq):List Value:=[.int .i64 c.kind,.string c.who,.int .i64 c.nu,.int .i64 c.place,.int .i64 c.old.ch,.string c.old.tg,.string c.old.tx,.int .i64 c.old.us,.int .i64 c.oldAt,.int .i64 c.new.ch,.string c.new.tg,.string c.new.tx,.int .i64 c.new.us,.int .i64 c.newAt]
def con1 (all:List En) (x:Lf) (p:Nat):Cq:=
 if x.e ∈ all then ⟨1,x.e.who,x.e.nu,p,x.e.o,x.e.tk,x.e.o,x.e.tk⟩
 else match all.find? fun y=>y.sd=x.e.sd with
  | some y=>⟨3,x.e.who,x.e.nu,p,x.e.o,x.e.tk,y.o,y.tk⟩
  | none=>⟨2,x.e.who,x.e.nu,p,x.e.o,x.e.tk,Ou.z,0⟩
def knw (all:List En) (x:Lf):List En:=
 (if x.e ∈ all then [] else match all.find? fun y=>y.sd=x.e.sd with|some y=>[y]|none=>[])++[x.e]
def cons1 (all:List En) (ls:List Lf):List Cq:=ls.mapIdx fun p x=>con1 all x p
def con2 (y:En):Cq:=⟨4,y.who,y.nu,-1,Ou.z,0,y.o,y.tk⟩
def cons2 (known:List En) (ys:List En):List Cq:=(ys.filter fun y=>decide (y ∉ known)).map con2
def consE (all:List En) (ls:List Lf):List Cq:=cons1 all ls++cons2 (ls.flatMap (knw all)) all
structure C1 (all:List En) where
 i:Nat
 m1:List (En×Bool)
 m2:List (Sd×En)
 hi:i≤all.length
 h1:∀e,mget e m1=if e ∈ all.take i then some true else none
 h2:∀s,mget s m2=(all.take i).find? fun y=>y.sd=s
structure C2 (all:List En) (ls:List Lf) where
 j:Nat
 o:Option Addr
 cap:Nat
 m3:List (En×Bool)
 hj:j≤ls.length
 h3:∀e,mget e m3=if e ∈ (ls.take j).flatMap (knw all) then some true else none
structure C3 (all:List En) where
 i:Nat
 o:Option Addr
 cap:Nat
 hi:i≤all.length
section
variable {F' F1 Fs F0:List Pf} {Rs N N' A:List HP} {k':List Fr} {L L':List (Nat×Nat)} {Tl:List Nat} {i d:Nat} {v:Value}
end
structure It where
 who:UInt8
 nu:UInt8
 tk:UInt8
 ch:UInt8
 tx:ByteArray
def itf (x:It):List Value:=[.int .u8 x.who.toNat,.int .u8 x.nu.toNat,.int .u8 x.tk.toNat,.int .u8 x.ch.toNat,.string x.tx]
def It.v (x:It):Value:=.agg #[.int .u8 x.who.toNat,.int .u8 x.nu.toNat,.int .u8 x.tk.toNat,.int .u8 x.ch.toNat,.string x.tx]
def nm0:ByteArray:=⟨#[49]⟩
def nm1:ByteArray:=⟨#[49,46,50]⟩
def nm2:ByteArray:=⟨#[51]⟩
def who3 (j:Nat):ByteArray:=if j=0 then nm0 else if j=1 then nm1 else nm2
def ito (x:It):Ou:=⟨1+(x.ch.toNat % 4:Nat),⟨#[116]⟩,x.tx.extract 0 (min x.tx.size 20),5⟩
def itn (x:It):Nm:=⟨18,who3 (x.who.toNat % 3),(x.nu.toNat % 4:Nat),(x.tk.toNat % 8:Nat),⟨#[]⟩⟩
def itl (x:It) (p:Nat):Lf:=⟨⟨who3 (x.who.toNat % 3),(x.nu.toNat % 4:Nat),(x.tk.toNat % 8:Nat),ito x⟩,(9+p:Nat),(p / 5:Nat)⟩
def stF (es:Al) (l:List It):Al:=l.foldl (fun es x=>insO (itn x) (oencS (ito x)) es) es
def ldF (l:List It):List Lf:=l.mapIdx fun p x=>itl x p
structure B1 (now:List It) where
 i:Nat
 q:Option Addr
 es:Al
 h1:i≤now.length∧i≤20
 h2:es=stF [] (now.take i)
 h3:es.length≤i
structure B2 (left:List It) where
 i:Nat
 h1:i≤left.length∧i≤20
section
open Go.ChangeShapes Go.WideShapes Go.ChangeAt

end
section
open Go.ChangeShapes Go.WideShapes Go.ChangeAt

end
section
open Go.ChangeShapes Go.WideShapes Go.ChangeAt

def laidT : List (String × DataW Unit) := [("math/bits.deBruijn32tab", Rows.laid_math_bits_deBruijn32tab), ("math/bits.deBruijn64tab", Rows.laid_math_bits_deBruijn64tab), ("internal/strconv.uint64pow10", Rows.laid_internal_strconv_uint64pow10), ("replevin/object.usages", Rows.laid_replevin_object_usages)]
theorem tP10 : (Tryz.prog.globals[2]?).map (·.type) = some 309 := by kernel_rfl
theorem plP10 : plainT Tryz.prog 5 309 = true := by decide +kernel
theorem rdP10 (w : World) : DataW.trod (fun _ => ()) Tryz.prog w 0 (fun _ => true) false 8 309 (Lib.pow10Tab.map fun z => Value.int .u64 z) = some (Rows.laid_internal_strconv_uint64pow10, []) := by kernel_rfl
theorem Vv {W : World} (h : laidMetH Tryz.prog laidT W) : (Usg.p fun b => W.heap[b]?) ∧ P10.p fun b => W.heap[b]? := by
  rw [MakeChecks.laidMetH_plain _ _ _ (by kernel_rfl)] at h
  obtain ⟨ps, ⟨_, _, _, _, _, _, _, _, _, _, ⟨_, _, _, _, _, _, _, _, _, _, ⟨g1, t1, cs1, f1, p1, q1, hg1, ht1, hv1, hd1, ⟨g0, t0, cs0, f0, p0, q0, hg0, ht0, hv0, hd0, _, _⟩, _⟩, _⟩, _⟩, _, _⟩ := h
  refine ⟨?_, ?_⟩
  · obtain rfl := Option.some.inj (gUsg.symm.trans hg0)
    obtain rfl := Option.some.inj (tUsg.symm.trans ht0)
    have hcs : cs0.toList = usages.flatMap uf := UK (enc' := fun _ => ()) _ _ _ _ W W _ _ _ _ _ _ _ _ _ _ plUsg hd0 (rdUsg W) rfl
    unfold World.var? at hv0
    rw [hg0] at hv0
    simp only [Option.bind_some] at hv0
    split at hv0
    · rename_i cs t fr hb
      obtain rfl := Option.some.inj hv0
      exact ⟨t, fr, by rw [← hcs]; simpa using hb⟩
    · cases hv0
  · obtain rfl := Option.some.inj (g10.symm.trans hg1)
    obtain rfl := Option.some.inj (tP10.symm.trans ht1)
    have hcs : cs1.toList = Lib.pow10Tab.map fun z => Value.int .u64 z := UK (enc' := fun _ => ()) _ _ _ _ W W _ _ _ _ _ _ _ _ _ _ plP10 hd1 (rdP10 W) rfl
    unfold World.var? at hv1
    rw [hg1] at hv1
    simp only [Option.bind_some] at hv1
    split at hv1
    · rename_i cs t fr hb
      obtain rfl := Option.some.inj hv1
      exact ⟨t, fr, by rw [← hcs]; simpa using hb⟩
    · cases hv1

def bits (l : List Int) : List Value := l.map fun z => Value.int .u8 z
def b32 : List Int := [0, 1, 28, 2, 29, 14, 24, 3, 30, 22, 20, 15, 25, 17, 4, 8, 31, 27, 13, 23, 21, 19, 16, 7, 26, 12, 18, 6, 11, 5, 10, 9]
def b64 : List Int := [0, 1, 56, 2, 57, 49, 28, 3, 61, 58, 42, 50, 38, 29, 17, 4, 62, 47, 59, 36, 45, 43, 51, 22, 53, 39, 33, 30, 24, 18, 12, 5, 63, 55, 48, 27, 60, 41, 37, 16, 46, 35, 44, 21, 52, 32, 23, 11, 54, 26, 40, 15, 34, 20, 31, 10, 25, 14, 19, 9, 13, 8, 7, 6]
noncomputable def laidWorldT (os : Os) : World :=
  { laidWorld os with heap := (((laidWorld os).heap.modify 2 fun
      | .cells _ t frozen => .cells (Lib.pow10Tab.map fun z => Value.int .u64 z).toArray t frozen
      | o => o).modify 3 fun
      | .cells _ t frozen => .cells (bits b32).toArray t frozen
      | o => o).modify 4 fun
      | .cells _ t frozen => .cells (bits b64).toArray t frozen
      | o => o }
end
section
open Go.ChangeShapes Go.WideShapes Go.ChangeAt
theorem open_oqB {H:Type} {enc:TypeId×Value→H} {W:World} {base:Nat} {v:Value} {d:DataW H} {p:List MemPlace} (hv:Value.okWide prog W .any base 76 v) (h:DataW.Trod enc prog W 0 (fun _=>true) true 76 v d p) :
  ∃(q:Oq) (o:Option Addr) (cap:Nat),v=q.v o cap∧(Sl 3 zf o cap q.p.gs).p (fun b=>W.heap[b]?)∧(q.p.gs.length≤Rows.uptoBulk d∧q.ic.size≤Rows.uptoBulk d∧q.id.size≤Rows.uptoBulk d)∧
   ∀(W':World) (sp:Nat→Bool),Kept W W'→(∀b<W.heap.size,sp b=true)→DataW.Trod enc prog W' 0 sp true 76 v d p:=by
 obtain ⟨cs,rfl⟩:=aggS underlying76 hv
 obtain ⟨n,hn⟩:=h
 obtain ⟨hc,hk⟩:=WG n 6 _ _ _ _ okOq slOq hn
 have hkeep:∀(W':World) (sp:Nat→Bool),Kept W W'→(∀b<W.heap.size,sp b=true)→DataW.Trod enc prog W' 0 sp true 76 (.agg cs) d p:=fun W' sp h1 h2=>⟨n,hk W' sp h1 h2⟩
 dsimp only at hc
 have hcl:(Value.agg cs).cells.toList=cs.toList:=rfl
 rw [hcl] at hc
 obtain ⟨⟨q,o,cap⟩,e1,h2,q1,_,_,_,q5,q6⟩:=cells_oe hc
 have e2:cs=(oef (q,o,cap)).toArray:=by rw [←e1]
 exact ⟨q,o,cap,by rw [e2];rfl,h2,⟨q1,q5,q6⟩,hkeep⟩
end
end Go.Proofs.YtgfohjbcccfolaaGreatDoor
