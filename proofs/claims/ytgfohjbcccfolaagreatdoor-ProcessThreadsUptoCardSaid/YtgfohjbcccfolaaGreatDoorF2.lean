/-
  Rules for calls of function values and for the range over a function.
  Comparisons that order: numbers, texts, lists, pairs; no program in sight.
  Names of processes: the ordinals of a text, and that the order of names is one; no program in sight.
  Contracts of the package lineage.
  Contracts of the package lineage: Parse, Valid, Ordinals, Compare.
  Search trees of names and values, and the sorted lists that they hold; no program in sight.
  Contracts of cmp.Or and of the package object: Compare, Word, Check.
  The contract of object.Name.Check.
  Contracts of the package state: the search tree.
  Contracts of the package state: with, find.
  More rules for regions that draw their order: what is owned may be set fast, facts may be drawn from facts.
  Contracts of the package state: With.
  Contracts of the package state: the nodes in order, Kind.
  Contracts of the package output: Check, write, Encode, read, Decode.
  Contracts of the package output: ledgers, All.
  Rules for rows of elements that are owned: made, read and written by index; arrays.
  Texts cut as far as they go.
  A call may read a block that is set aside while the order is drawn.
  Arrays of bytes that are owned: parts of them as slices, copy of a text into one, one as a text.
  Rules for owned slices that are changed in place; calls of function values where the order is drawn.
  copy between parts of an owned slice.
  The contract of output.All.
  Equality of structs, evaluated; that this is what the model does; rules for it.
  Rules for maps that the program makes.
  Rules for a range over an owned map.
  What a view holds: changes, the last of each name.
  The contracts of package view: New, Get, Set, Delete.
  Lists that are changed in a window by exchanges: what sorting algorithms do, without a program.
  The contracts of pdqsort at replevin/state.Change, for windows of less than 50 elements.
  A cut behind the first statements of a function: the rest is walked once.
  Numbers that pdqsort reckons with: the length in bits, the next power of two, xorshift.
  Pivots: median of three, choosePivot. (replevin/state.Change)
  Reversal, sifting down. (replevin/state.Change)
  Sorting by a heap. (replevin/state.Change)
  What a partition keeps while it goes on, without a program.
  Partitions. (replevin/state.Change)
  Insertion that gives up. (replevin/state.Change)
  pdqsort, whole. (replevin/state.Change)
  The contract of slices.SortFunc at replevin/state.Change, for at most 200 elements.
  The contracts of package view: Writes.
  The range over a function whose order is open.
  The contracts of package view: Reads.
  The contract of view's Writes, for a view that is only read.
  The contracts of package view: After, for views whose writes fit.
  The counts of a process: EncodeCounts (for counts that fit), DecodeCounts.
  What is written is read again; no program in sight.
  The counts of a process: EncodeCounts, DecodeCounts, Made, SetMade.
  What a reader accepts is what a writer would have written.
  Contracts of the package inode: nodes; Check, Encode, Decode.
  Contracts of the package inode: births, Get, file, put, NextBirth, Make, block.
  Contracts of the package process: Check.
  Contracts of the statements' own functions of layer 39: shortO, short, check, put, value, leave, find, encoding.
  Contracts of ledgers: Encode, and the statements' own encoding.
  Contracts of the package process: Encode; what the statements' own value computes.
  Contracts of the package process: Encode of what does not fit; the statements' own value.
  Contracts of the package inode: NextBirth, Make.
  Contracts of the package process: Decode.
  Contracts of the package inode: parts, Write.
  Slices that stay: the beginning of one, and one appended to another.
  A writer that may have failed; Encode of what does not fit.
  Contracts of strings.Builder: copyCheck, Write, String.
  Contracts of the package inode: Read, Contents.
  Contracts of the package inode: Contents, cut, Resize where it succeeds.
  Contracts of the package inode: cut, Resize where it succeeds.
  What insertion does to the names of a kind and to the outputs of a state.
  What a state holds behind a view's changes.
  The example of layer 27, known.
  What a view holds of a file: how Write, Resize and Read see its bytes.
  The contract of output.Send, where it sends.
  What Decode makes of what Encode writes; contracts of the package process over a view: Epoch, Get, running, put.
  Conditions: those that each theorem states.
-/
import Derived.Test.YtgfohjbcccfolaaGreatDoorF1
import Derived.RangeFuncIn
import Derived.RangeFuncRecord
import Derived.RangeFuncLeaves
import Derived.Deep.OwnRows
import Derived.Laws.StructEq
import Derived.ChangeKeysEq
import Derived.Lib.Builder
import Derived.Lib.UnsafeStr
import Derived.Laws.Externs
set_option maxRecDepth 10000
namespace Go.Proofs.YtgfohjbcccfolaaGreatDoor
open Go.RowKit Go.Proofs.Tryz
variable {n:Nat} {C:Cx} {Q:Exit→Act→World→Prop} {E E':List (Nat×Value)} {F F' F1 Fs F0:List Pf} {R R' R0 Rs N N' A:List HP} {k k':List Fr} {ops:List Oper} {L L':List (Nat×Nat)} {Tl:List Nat} {i d:Nat} {t ty0:TypeId} {x y:Operand} {pos:String} {aft:Array Edge} {gd:Option (Nat×Bool)}
section
variable {l:List Oper}
def CallsV (v:Value) (vs:List Value) (w:World) (K:Value→World→Prop):Prop:=
 match v with
 | .func fn fs cs=>OpRes prog (invoke (.fn fn cs) (fs++vs.toArray)) w K
 | _=>False
def SpecV (v:Value) (vs:List Value) (F:List Pf) (R:List HP) (post:Post):Prop:=
 ∀G w hp,Sat G w hp F R w→CallsV v vs w fun u w'=>∃x,u=post.val x∧post.pure x∧Sat G w hp (post.F x) (post.R x) w'
theorem l_callV {v:Value} {args:Array Operand} {tys:Array TypeId} {vs:List Value} {post:Post} (spec:SpecV v vs F1 A post)
  (nx:∀x,post.pure x→Wl n C ops.toArray k Q l ((d,post.val x)::E) (post.F x++F) (post.R x++R')) (hw:wantL ops E ⟨some d,.call ⟨.value x,args,tys⟩,ty0,pos,aft,gd⟩=some true:=by rfl) (hn:Nat.blt d n=true:=by rfl)
  (hx:ev E x=some v:=by rfl) (hargs:evs (ev E) args.toList some=some vs:=by rfl) (sel:Sels A R R':=by (repeat (first|exact Sels.nil|exact Sel.here|apply Sel.there|apply Sels.cons));first|done|fail)
  (hF:EntF F F1:=by (repeat (first|exact trivial|exact Sel.here|apply Sel.there|apply EntF.cons));first|done|fail) :
  Wl n C ops.toArray k Q (⟨some d,.call ⟨.value x,args,tys⟩,ty0,pos,aft,gd⟩::l) E F R:=
 Zn (fun t ht=>by cases ht;exact Nat.le_of_ble_eq_true hn) (fun c hc=>by cases hc) hw fun a w ha hsat=>by
  obtain ⟨G',hp,h1,h2⟩:=sat_frame hsat sel hF.all
  have h3:=spec G' w hp h1
  obtain ⟨us,_,e2,e3⟩:=evs_eq _ _ _ hargs
  obtain rfl:=Option.some.inj e2
  have e1:=e3 a.eval fun x _ u hu=>ha.ev (by rw [ZE];exact hu)
  have e4:args.map a.eval=us.toArray:=by rw [←Array.toList_inj];simpa using e1
  have e5:(args.map fun x=>a.eval x)=us.toArray:=e4
  have e0:=ha.ev (x:=x) (by rw [ZE];exact hx)
  unfold CallsV at h3
  split at h3
  ·rename_i fn fs cs
   have h4:=h3.mono (R':=fun v w'=>∀a',Agree n C.ds (upd (look E) (some d) v) a'→wpListIn (fz C.r) 0 prog ops.toArray (after C.r k Q) l a' w') (by
    rintro v w' ⟨x,rfl,hx,hs⟩ a' ha'
    exact nx x hx a' w' ha' (h2 _ _ _ hs))
   unfold OpRes at h4 ⊢
   have er:(execOp a.eval ⟨some d,.call ⟨.value x,args,tys⟩,ty0,pos,aft,gd⟩).run prog w=(invoke (.fn fn cs) (fs++us.toArray)).run prog w:=by
    simp only [execOp,resolve,e0,Deferred.ofValue,Sem.run_bind,Sem.run_pure,Result.andThen]
    rw [e5]
   rw [er]
   exact h4
  ·exact h3.elim
theorem Z0 {G:H} {w0 w:World} {hp0:H} {b:Nat} {o o':Obj} (hs:Sat G w0 hp0 F (Pt b o::R) w):Sat G w0 hp0 F (Pt b o'::R) (w.putObj b o'):=by
 have hb:=hs.pt Sel.here
 have hlt:=(Array.getElem?_eq_some_iff.1 hb).1
 refine hs.write ⟨rfl,rfl,rfl,?_⟩ (World.putObj_heap_same hlt) fun c hc _=>World.putObj_heap_other hc
 simp [World.putObj]
structure LR where
 fn:FuncId
 tmps:Array Value
 ps:Array Tmp
 assign:Code
 body:Code
 D:Nat
def rcd (q:LR) (st:LoopState) (pe:Option Code):Loop:={state:=st,pending:=pe,fn:=q.fn,tmps:=q.tmps,params:=q.ps,assign:=q.assign,body:=q.body,defers:=q.D}
theorem k_beg {l:Nat} {q:LR} (t:Wk n C k' Q E F (Pt l (.loop (rcd q .busy none))::R0)) (hs:Sel (Pt l (.loop (rcd q .ready none))) R R0:=by (repeat (first|exact Sel.here|apply Sel.there));first|done|fail) (h:nf 1000 k = .r l::k':=by rfl):Wk n C k Q E F R:=
 fun a w ha hsat=>Yb 1000 k (by
  rw [h]
  exact ⟨_,run_beginRound (hsat.pt hs) rfl,t a _ ha (Z0 (hsat.sel hs))⟩)
def both (a b:HP):HP:=fun h=>Sep [a,b] h
def RQ (q:LR) (l:Nat) (G:H) (w0:World) (hp0:H) (Jt Jx:HP):Exit→Act→World→Prop:=
 roundPost prog l fun e w'=>∃b,e = .returned (.bool b)∧Sat G w0 hp0 [] [if b then both (Pt l (.loop (rcd q .ready none))) Jt else both (Pt l (.loop (rcd q .done (some .ret)))) Jx] w'
theorem k_rn {q:LR} {l:Nat} {r:Option Nat} {G:H} {w0:World} {hp0:H} {ds:List Deferred} {Jt Jx:HP} (hs:Sels [Pt l (.loop (rcd q .busy none)),Jt] R R0:=by (repeat (first|exact Sels.nil|exact Sel.here|apply Sel.there|apply Sels.cons));first|done|fail) (h:nf 1000 k=[]:=by rfl) :
  Wk n ⟨r,G,w0,hp0,ds⟩ k (RQ q l G w0 hp0 Jt Jx) E F R:=fun a w ha hsat=>Yb 1000 k (by
 rw [h]
 have h1:=hsat.sels hs
 refine ⟨_,_,run_endRound none (h1.pt Sel.here),true,rfl,?_⟩
 have h2:=Z0 (o':=.loop (rcd q .ready none)) h1
 exact ((h2.shut (x:=both _ _) fun _ hh=>hh).facts (F':=[]) (fun _ _ _ hx=>by cases hx)).res fun _ hh=>Z7 (A:=[_]) hh)
theorem k_rr {q:LR} {l:Nat} {r:Option Nat} {G:H} {w0:World} {hp0:H} {ds:List Deferred} {Jt Jx:HP} (hs:Sels [Pt l (.loop (rcd q .busy none)),Jx] R R0:=by (repeat (first|exact Sels.nil|exact Sel.here|apply Sel.there|apply Sels.cons));first|done|fail) (h:nf 1000 k = .c .ret::k':=by rfl) (hn:noR k'=true:=by rfl) :
  Wk n ⟨r,G,w0,hp0,ds⟩ k (RQ q l G w0 hp0 Jt Jx) E F R:=k_rt (fun a w ha hsat=>by
 have h1:=hsat.sels hs
 refine ⟨_,_,run_endRound (some .ret) (h1.pt Sel.here),false,rfl,?_⟩
 have h2:=Z0 (o':=.loop (rcd q .done (some .ret))) h1
 exact ((h2.shut (x:=both _ _) fun _ hh=>hh).facts (F':=[]) (fun _ _ _ hx=>by cases hx)).res fun _ hh=>Z7 (A:=[_]) hh) h hn
theorem roundPost_mono {P:Program} {l:Nat} {R R':Ending→World→Prop} (h:∀e w,R e w→R' e w):∀e a w,roundPost P l R e a w→roundPost P l R' e a w
 | .normal,_,_,⟨v,w',h1,h2⟩=>⟨v,w',h1,h _ _ h2⟩
 | .ret,_,_,⟨v,w',h1,h2⟩=>⟨v,w',h1,h _ _ h2⟩
 | .exit _,_,_,⟨v,w',h1,h2⟩=>⟨v,w',h1,h _ _ h2⟩
 | .goto _,_,_,⟨v,w',h1,h2⟩=>⟨v,w',h1,h _ _ h2⟩
 | .panic _,_,_,h=>h
 | .outgrown,_,_,h=>h
def YPost {α:Type} (I Ix:List α→HP) (pre:List α) (e:α):Post:=⟨Bool,fun b=>.bool b,fun _=>True,fun _=>[],fun b=>[if b then I (pre++[e]) else Ix (pre++[e])]⟩
theorem after_nil {r:Option Nat}:after r [] Q=Q:=by funext e a w;rfl
theorem yield_ok {α:Type} {enc:α→Value} {q:LR} {l p:Nat} {J Jx:List α→HP} {pre:List α} {e:α} (hps:q.ps = #[p]) (hpn:p<n) (hag:∀a:Act,a.tmps=q.tmps→a.defers=[]→Agree n [] (look E) a)
  (hbody:∀G w0 hp0,Wk n ⟨some l,G,w0,hp0,[]⟩ [.c q.assign,.r l,.c q.body] (RQ q l G w0 hp0 (J (pre++[e])) (Jx (pre++[e]))) ((p,enc e)::E) F [Pt l (.loop (rcd q .ready none)),J pre]) :
  SpecV (.func (.yield l) #[] #[]) [enc e] [⟨fun h=>∀f ∈ F,f.p h,fun _ _ s h f hf=>f.m _ _ s (h f hf)⟩] [both (Pt l (.loop (rcd q .ready none))) (J pre)]
   (YPost (fun pre=>both (Pt l (.loop (rcd q .ready none))) (J pre)) (fun pre=>both (Pt l (.loop (rcd q .done (some .ret)))) (Jx pre)) pre e):=by
 intro G w hp hsat
 have h1:Sat G w hp F [both (Pt l (.loop (rcd q .ready none))) (J pre)] w:=hsat.facts fun hp hF=>hF _ (List.mem_cons_self ..)
 obtain ⟨_,h2⟩:=h1.open' (X:=Unit) (L:=fun _=>[Pt l (.loop (rcd q .ready none)),J pre]) fun _ hh=>⟨(),hh⟩
 have hl:=h2.pt Sel.here
 unfold CallsV OpRes
 have hy:=run_yield (P:=prog) (args:=#[enc e]) hl (by simp [rcd,hps])
 have hi:(invoke (.fn (.yield l) #[]) (#[]++[enc e].toArray)).run prog w=(Instr.yield l #[enc e]).run prog w:=by simp [invoke]
 simp only [hi,hy]
 refine roundIn_of_wpIn trivial ?_
 have ha:Agree n [] (look ((p,enc e)::E)) ({tmps:=((rcd q .ready none).params.zip #[enc e]).foldl (fun tmps (x:Tmp×Value)=>tmps.setIfInBounds x.1 x.2) (rcd q .ready none).tmps,defers:=[]}:Act):=by
  have:=(hag ⟨q.tmps,[]⟩ rfl rfl).put (d:=some p) (fun t ht=>by cases ht;exact hpn) (enc e)
  rw [WD]
  simpa [rcd,hps,Act.put] using this
 have hb:=hbody G w hp _ w ha h2
 refine wpIn_mono (show q.assign.wpIn (fz (some l)) 0 prog (after (some l) [.r l,.c q.body] (RQ q l G w hp (J (pre++[e])) (Jx (pre++[e])))) _ w from hb) ?_
 rintro ex a1 w1 hx
 cases ex with
 | normal=>
  obtain ⟨w2,g1,g2⟩:=hx
  refine ⟨w2,g1,?_⟩
  have g3:q.body.wpIn (fz (some l)) 0 prog (after (some l) [] (RQ q l G w hp (J (pre++[e])) (Jx (pre++[e])))) a1 w2:=g2
  rw [after_nil] at g3
  refine wpIn_mono g3 (roundPost_mono ?_)
  rintro e' w' ⟨b,rfl,hs'⟩
  exact ⟨b,rfl,trivial,hs'⟩
 | _=>exact hx.elim
theorem sep_tail {X:HP} {R:List HP} {h:H} (hh:Sep (X::R) h):Sep R h:=by
 obtain ⟨_,h2,_,_,s2,_,hR⟩:=hh
 exact hR.sub s2
theorem sels_pre:∀(A:List HP) (X:HP) (R:List HP),Sels A (X::(A++R)) (X::R)
 | [],_,_=>.nil
 | _::A,X,R=>.cons (.there .here) (sels_pre A X R)
def Iter {α:Type} (gf:FuncId) (lb:List Value) (enc:α→Value) (xs:List α) (Fg:List Pf) (A:List HP):Prop:=
 ∀(v:Value) (Y:Pf) (I Ix:List α→HP),(∀pre e,pre++[e] <+: xs→SpecV v [enc e] [Y] [I pre] (YPost I Ix pre e))→
  Enters gf∧Spec prog gf (v::lb).toArray (Y::Fg) (I []::A) ⟨Option (List α),fun _=>.tuple #[],fun r=>∀pre,r=some pre→pre <+: xs,fun _=>[],fun r=>[match r with|none=>I xs|some pre=>Ix pre]⟩
theorem k_range {α:Type} {g:Operand} {p:Nat} {assign body:Code} {gf:FuncId} {lb:Array Value} {enc:α→Value} {xs:List α} {Fg:List Pf} {G:H} {w0:World} {hp0:H} {ds:List Deferred} (J Jx:List α→HP) (hit:Iter gf lb.toList enc xs Fg A)
  (hbody:∀(q:LR) (l:Nat) (pre:List α) (e:α),pre++[e] <+: xs→∀G w0 hp0,Wk n ⟨some l,G,w0,hp0,[]⟩ [.c assign,.r l,.c body] (RQ q l G w0 hp0 (J (pre++[e])) (Jx (pre++[e]))) ((p,enc e)::E) F [Pt l (.loop (rcd q .ready none)),J pre])
  (hdone:∀D,Wk n ⟨none,G,w0,hp0,{target:=.collected D,args:=#[]}::ds⟩ k' Q E F (J xs::Pt D (.deferred (some []))::R'))
  (hstop:∀D pre,pre <+: xs→Wret n ⟨none,G,w0,hp0,{target:=.collected D,args:=#[]}::ds⟩ Q E F (Jx pre::Pt D (.deferred (some []))::R'))
  (h:nf 1000 k = .c (.rangeFunc g #[p] assign body)::k':=by rfl) (hg:ev E g=some (.func (.func gf) #[] lb):=by rfl) (hpn:Nat.blt p n=true:=by rfl) (hnr:noR k'=true:=by rfl)
  (sel:Sels (J []::A) R R':=by (repeat (first|exact Sels.nil|exact Sel.here|apply Sel.there|apply Sels.cons));first|done|fail) (hFg:EntF F Fg:=by (repeat (first|exact trivial|exact Sel.here|apply Sel.there|apply EntF.cons));first|done|fail):Wk n ⟨none,G,w0,hp0,ds⟩ k Q E F R:=fun a w ha hs=>Yb 1000 k (by
 rw [h]
 show (Code.rangeFunc g #[p] assign body).wpIn (fz none) 0 prog (after none k' Q) a w
 refine wpIn_rangeFunc fun fn hfn=>?_
 let q:LR:=⟨fn,a.tmps,#[p],assign,body,w.heap.size⟩
 let lo:Obj:=.loop (rcd q .ready none)
 have hs1:Sat G w0 hp0 F (Pt (w.heap.size+1) lo::Pt w.heap.size (.deferred (some []))::J []::(A++R')) ((w.alloc (.deferred (some []))).alloc lo):=by
  have:=((hs.sels sel).alloc (.deferred (some []))).alloc lo
  simpa using this
 have hs2:Sat G w0 hp0 F (both (Pt (w.heap.size+1) lo) (J [])::Pt w.heap.size (.deferred (some []))::(A++R')) ((w.alloc (.deferred (some []))).alloc lo):=
  (hs1.sels (A:=[Pt (w.heap.size+1) lo,J []]) (.cons .here (.cons (.there .here) .nil))).shut (x:=both _ _) fun _ hh=>hh
 have hy:∀pre e,pre++[e] <+: xs→SpecV (.func (.yield (w.heap.size+1)) #[] #[]) [enc e] _ _ _:=fun pre e hpre=>
  yield_ok (n:=n) (E:=E) (F:=F) (enc:=enc) (q:=q) (l:=w.heap.size+1) (p:=p) (J:=J) (Jx:=Jx) (pre:=pre) (e:=e) rfl (Nat.le_of_ble_eq_true hpn)
   (fun b hb hd=>⟨by rw [hb];exact ha.size,hd,fun t v hv=>by rw [hb];exact ha.slots t v hv⟩) (fun G w0 hp0=>hbody q _ pre e hpre G w0 hp0)
 obtain ⟨eg,hsp⟩:=hit _ _ _ _ hy
 have hev:=ha.ev (x:=g) (by rw [ZE];exact hg)
 refine ⟨w.heap.size+1,[{target:=.collected w.heap.size,args:=#[]}],(w.alloc (.deferred (some []))).alloc lo,{target:=.fn (.func gf) lb,args:=#[.func (.yield (w.heap.size+1)) #[] #[]]},(w.alloc (.deferred (some []))).alloc lo,gf,#[.func (.yield (w.heap.size+1)) #[] #[]]++lb,(w.alloc (.deferred (some []))).alloc lo,run_enterLoop_outer _ _ _ _ _,?_,fun _ _=>trivial,?_,(fun hx=>by cases hx),?_⟩
 ·simp only [resolve,hev]
  simp [go_sem,Deferred.ofValue,Act.eval]
 ·simp only [invoke]
  exact eg _ _
 ·have e1 : #[Value.func (.yield (w.heap.size+1)) #[] #[]]++lb=(Value.func (.yield (w.heap.size+1)) #[] #[]::lb.toList).toArray:=by rw [←Array.toList_inj];simp
  rw [e1]
  refine callsIn_fz (YX hsp hs2 (.cons .here (sels_pre A _ R')) (fun hp hF f hf=>?_) fun r w' hr hs3=>?_)
  ·rcases List.mem_cons.1 hf with rfl|hf
   ·exact hF
   ·exact hFg.all hp hF f hf
  ·have hds:({a with defers:=[{target:=.collected w.heap.size,args:=#[]}]++a.defers}:Act).defers={target:=.collected w.heap.size,args:=#[]}::ds:=by simp [ha.defers]
   have ha':Agree n ({target:=.collected w.heap.size,args:=#[]}::ds) (look E) {a with defers:=[{target:=.collected w.heap.size,args:=#[]}]++a.defers}:=⟨ha.size,hds,ha.slots⟩
   cases r with
   | none=>
    obtain ⟨_,h4⟩:=(show Sat G w0 hp0 F (both (Pt (w.heap.size+1) lo) (J xs)::Pt w.heap.size (.deferred (some []))::R') w' from hs3).open' (X:=Unit) (L:=fun _=>[Pt (w.heap.size+1) lo,J xs]) fun _ hh=>⟨(),hh⟩
    refine ⟨none,_,run_endLoop (h4.pt Sel.here) (by simp [rcd]),?_⟩
    have h5:=Z0 (o':=.loop (rcd q .exhausted none)) h4
    exact hdone w.heap.size _ _ ha' (h5.res fun _ hh=>sep_tail hh)
   | some pre=>
    obtain ⟨_,h4⟩:=(show Sat G w0 hp0 F (both (Pt (w.heap.size+1) (.loop (rcd q .done (some .ret)))) (Jx pre)::Pt w.heap.size (.deferred (some []))::R') w' from hs3).open' (X:=Unit) (L:=fun _=>[Pt (w.heap.size+1) (.loop (rcd q .done (some .ret))),Jx pre]) fun _ hh=>⟨(),hh⟩
    refine ⟨some .ret,_,run_endLoop (h4.pt Sel.here) (by simp [rcd]),?_⟩
    have h5:=Z0 (o':=.loop (rcd q .exhausted (some .ret))) h4
    refine wpIn_ret ?_
    rw [Y4 hnr]
    exact hstop w.heap.size pre (hr pre rfl) _ _ ha' (h5.res fun _ hh=>sep_tail hh))
theorem spec_ofM {f:FuncId} {fn:Func} {c:Code} {vs:List Value} {post:Post} {nt:Nat} (hf:prog.funcs[f]? = some fn) (hb:fn.body=some c) (hnt:fn.ntmps=nt) (hle:Nat.ble vs.length nt=true)
  (t:∀G w hp,Wk nt ⟨none,G,w,hp,[]⟩ [.c c] (bodyPostM Fence.wide 0 prog fn (post.holds G w hp)) (argsE 0 vs) F R):Spec prog f vs.toArray F R post:=by
 intro G w hp hsat
 refine (callsIn_wide (n:=0)).1 (callsIn_of_wp_marks hf hb trivial ?_)
 refine t G w hp _ w ⟨?_,rfl,fun i v hv=>?_⟩ hsat
 ·have:=Nat.le_of_ble_eq_true hle
  simp [hnt];omega
 ·obtain ⟨_,h2⟩:=Y8 vs 0 i v hv
  simp only [Nat.sub_zero] at h2
  have hlt:i<vs.length:=(List.getElem?_eq_some_iff.1 h2).1
  simp only
  rw [Array.getElem?_append_left (by simpa using hlt)]
  simpa using h2
theorem w_retM {fn:Func} {post:Post} {G:H} {w0:World} {hp0:H} {D:Nat} {R1:List HP} (xx:post.X) {vs:List Value} (hv:resV vs=post.val xx) (hp:post.pure xx)
  (hD:Sel (Pt D (.deferred (some []))) R R1:=by (repeat (first|exact Sel.here|apply Sel.there));first|done|fail)
  (hr:ResOK E R1 fn.results.toList vs:=by (repeat (first|exact ResOK.nil|exact Sel.here|apply Sel.there|exact rfl|apply ResOK.tmp|apply ResOK.cell));first|done|fail)
  (hF:EntF F (post.F xx):=by (repeat (first|exact trivial|exact Sel.here|apply Sel.there|apply EntF.cons));first|done|fail)
  (hR:Sels (post.R xx) R1 R0:=by (repeat (first|exact Sels.nil|exact Sel.here|apply Sel.there|apply Sels.cons));first|done|fail) :
  Wret n ⟨none,G,w0,hp0,[{target:=.collected D,args:=#[]}]⟩ (bodyPostM Fence.wide 0 prog fn (post.holds G w0 hp0)) E F R:=fun a w ha hs=>by
 have h1:=hs.sel hD
 have h2:=(Z0 (o':=.deferred none) h1).res fun _ hh=>sep_tail hh
 show LeavesInM Fence.wide 0 prog fn a.tmps _ a.defers .returning w
 rw [show a.defers=[{target:=.collected D,args:=#[]}] from ha.defers]
 refine ⟨by simp,.inl ⟨D,_,rfl,run_takeDeferred (h1.pt Sel.here),?_⟩⟩
 exact ⟨_,results_ok (C:=⟨none,G,w0,hp0,[{target:=.collected D,args:=#[]}]⟩) ha h2 hr,xx,by rw [hv],hp,((h2.sels hR).facts (F':=post.F xx) hF.all).res fun _ h=>Z7 h⟩
theorem k_retM {fn:Func} {post:Post} {G:H} {w0:World} {hp0:H} {D:Nat} {R1:List HP} (xx:post.X) {vs:List Value} (hv:resV vs=post.val xx) (hp:post.pure xx)
  (hD:Sel (Pt D (.deferred (some []))) R R1:=by (repeat (first|exact Sel.here|apply Sel.there));first|done|fail)
  (hr:ResOK E R1 fn.results.toList vs:=by (repeat (first|exact ResOK.nil|exact Sel.here|apply Sel.there|exact rfl|apply ResOK.tmp|apply ResOK.cell));first|done|fail)
  (hF:EntF F (post.F xx):=by (repeat (first|exact trivial|exact Sel.here|apply Sel.there|apply EntF.cons));first|done|fail)
  (hR:Sels (post.R xx) R1 R0:=by (repeat (first|exact Sels.nil|exact Sel.here|apply Sel.there|apply Sels.cons));first|done|fail)
  (h:nf 1000 k = .c .ret::k':=by rfl) (hn:noR k'=true:=by rfl) :
  Wk n ⟨none,G,w0,hp0,[{target:=.collected D,args:=#[]}]⟩ k (bodyPostM Fence.wide 0 prog fn (post.holds G w0 hp0)) E F R:=k_rt (w_retM xx hv hp hD hr hF hR) h hn
end
structure Ord3 {α:Type} (c:α→α→Int):Prop where
 eq:∀a b,c a b=0↔a=b
 anti:∀a b,c a b<0↔0<c b a
 trans:∀a b d,c a b<0→c b d<0→c a d<0
theorem Ord3.self {α:Type} {c:α→α→Int} (h:Ord3 c) (a:α):c a a=0:=(h.eq a a).2 rfl
theorem Z3:Ord3 cmpI:=by
 constructor
 ·intro a b;unfold cmpI;split<;>(try split)<;>omega
 ·intro a b;unfold cmpI;split<;>(try split)<;>(try split)<;>(try split)<;>omega
 ·intro a b d;unfold cmpI;split<;>split<;>(try split)<;>(try split)<;>(try split)<;>(try split)<;>omega
theorem Xy:∀(x y:List UInt8),Op.bytesLess x y=decide (x<y)
 | [],[]=>by simp [Op.bytesLess]
 | _::_,[]=>by simp [Op.bytesLess]
 | [],_::_=>by simp [Op.bytesLess]
 | a::x,b::y=>by
  rw [Op.bytesLess,Xy x y]
  simp only [List.cons_lt_cons_iff]
  by_cases h1:a<b<;>by_cases h2:a=b<;>by_cases h3:x<y<;>simp [h1,h2,h3]
theorem ZZ (s:ByteArray):s.toList=s.data.toList:=ByteArray.toList_eq s
theorem XH {a b:ByteArray} (h:a.data.toList=b.data.toList):a=b:=by
 obtain ⟨⟨a⟩⟩:=a;obtain ⟨⟨b⟩⟩:=b;simp at h;subst h;rfl
theorem Xb (x y:ByteArray):cmpS x y=if x.data.toList<y.data.toList then -1 else if x=y then 0 else 1:=by
 unfold cmpS
 rw [Xy,ZZ,ZZ]
 by_cases h:x.data.toList<y.data.toList
 ·simp [h]
 ·simp only [h,decide_false,Bool.false_eq_true,if_false]
  by_cases h2:x=y
  ·simp [h2]
  ·rw [if_neg (fun e=>h2 (XH e)),if_neg h2]
theorem ord_str:Ord3 cmpS:=by
 have irr:∀a:List UInt8,¬a<a:=List.lt_irrefl
 have tr:∀a b c:List UInt8,a<b→b<c→a<c:=fun a b c h k=>List.lt_trans h k
 have tri:∀a b:ByteArray,¬a.data.toList<b.data.toList→a≠b→b.data.toList<a.data.toList:=fun a b h hne=>by
  refine Decidable.byContradiction fun k=>hne (XH ?_)
  exact List.le_antisymm (List.not_lt.1 k) (List.not_lt.1 h)
 constructor
 ·intro a b
  rw [Xb]
  by_cases h:a.data.toList<b.data.toList
  ·simp only [h,if_true]
   constructor
   ·intro e;omega
   ·intro e;subst e;exact absurd h (irr _)
  ·simp only [h,if_false]
   by_cases h2:a=b<;>simp [h2]
 ·intro a b
  rw [Xb,Xb]
  by_cases h:a.data.toList<b.data.toList
  ·have h2:¬b.data.toList<a.data.toList:=fun k=>irr _ (tr _ _ _ h k)
   have h3:b≠a:=fun e=>by subst e;exact irr _ h
   simp [h,h2,h3]
  ·simp only [h,if_false]
   by_cases h2:a=b
   ·subst h2;simp [irr]
   ·have:=tri a b h h2
    simp [h2,this]
 ·intro a b d
  rw [Xb,Xb,Xb]
  intro h1 h2
  have h1':a.data.toList<b.data.toList:=by
   by_cases h:a.data.toList<b.data.toList
   ·exact h
   ·simp only [h,if_false] at h1;split at h1<;>omega
  have h2':b.data.toList<d.data.toList:=by
   by_cases h:b.data.toList<d.data.toList
   ·exact h
   ·simp only [h,if_false] at h2;split at h2<;>omega
  simp [tr _ _ _ h1' h2']
def lex {α β:Type} (c:α→α→Int) (d:β→β→Int) (x y:α×β):Int:=if c x.1 y.1≠0 then c x.1 y.1 else d x.2 y.2
theorem Ys {α β:Type} {c:α→α→Int} {d:β→β→Int} (hc:Ord3 c) (hd:Ord3 d):Ord3 (lex c d):=by
 constructor
 ·rintro ⟨a,a'⟩ ⟨b,b'⟩
  unfold lex
  dsimp only
  have:=hc.eq a b
  have:=hd.eq a' b'
  simp only [Prod.mk.injEq]
  split<;>simp_all
 ·rintro ⟨a,a'⟩ ⟨b,b'⟩
  unfold lex
  dsimp only
  have h1:=hc.eq a b
  have h2:=hc.eq b a
  have h3:=hc.anti a b
  have h4:=hd.anti a' b'
  by_cases h:a=b
  ·subst h;simp [h1.2 rfl,h4]
  ·rw [if_pos (fun e=>h (h1.1 e)),if_pos (fun e=>h (h2.1 e).symm)];exact h3
 ·rintro ⟨a,a'⟩ ⟨b,b'⟩ ⟨e,e'⟩
  unfold lex
  dsimp only
  have h1:=hc.eq a b
  have h2:=hc.eq b e
  have h3:=hc.eq a e
  have h4:=hc.trans a b e
  have h5:=hd.trans a' b' e'
  by_cases hab:a=b
  ·subst hab
   rw [if_neg (by simp [h1.2 rfl])]
   by_cases hbe:a=e
   ·subst hbe;rw [if_neg (by simp [h1.2 rfl]),if_neg (by simp [h1.2 rfl])];exact h5
   ·rw [if_pos (fun x=>hbe (h2.1 x))];exact fun _ h=>by rw [if_pos (by omega)];exact h
  ·rw [if_pos (fun x=>hab (h1.1 x))]
   by_cases hbe:b=e
   ·subst hbe
    rw [if_neg (by simp [h2.2 rfl]),if_pos (fun x=>hab (h1.1 x))];exact fun h _=>h
   ·rw [if_pos (fun x=>hbe (h2.1 x))]
    intro k1 k2
    have k3:=h4 k1 k2
    rw [if_pos (by omega)];exact k3
theorem ord_map {α β:Type} {c:β→β→Int} (hc:Ord3 c) (f:α→β) (hf:∀a b,f a=f b→a=b):Ord3 fun a b=>c (f a) (f b):=
 ⟨fun a b=>(hc.eq _ _).trans ⟨hf a b,fun h=>by rw [h]⟩,fun _ _=>hc.anti _ _,fun _ _ _=>hc.trans _ _ _⟩
def cmpL:List Int→List Int→Int
 | [],[]=>0
 | [],_::_=>-1
 | _::_,[]=>1
 | a::x,b::y=>if cmpI a b≠0 then cmpI a b else cmpL x y
theorem ord_list:Ord3 cmpL:=by
 have e:∀a b,cmpL a b=0↔a=b:=by
  intro a
  induction a with
  | nil=>intro b;cases b<;>simp [cmpL]
  | cons x a ih=>
   intro b
   cases b with
   | nil=>simp [cmpL]
   | cons y b=>
    have:=Z3.eq x y
    have:=ih b
    unfold cmpL
    split<;>simp_all
 refine ⟨e,?_,?_⟩
 ·intro a
  induction a with
  | nil=>intro b;cases b<;>simp [cmpL]
  | cons x a ih=>
   intro b
   cases b with
   | nil=>simp [cmpL]
   | cons y b=>
    have h1:=Z3.eq x y
    have h2:=Z3.eq y x
    have h3:=Z3.anti x y
    have h4:=ih b
    unfold cmpL
    by_cases h:x=y
    ·subst h;simp [h1.2 rfl,h4]
    ·rw [if_pos (fun e=>h (h1.1 e)),if_pos (fun e=>h (h2.1 e).symm)];exact h3
 ·intro a
  induction a with
  | nil=>
   intro b d h1 h2
   cases d with
   | nil=>cases b<;>simp [cmpL] at h1 h2
   | cons=>simp [cmpL]
  | cons x a ih=>
   intro b d
   cases b with
   | nil=>simp [cmpL]
   | cons y b=>
    cases d with
    | nil=>simp [cmpL]
    | cons z d=>
     have h1:=Z3.eq x y
     have h2:=Z3.eq y z
     have h3:=Z3.eq x z
     have h4:=Z3.trans x y z
     have h5:=ih b d
     unfold cmpL
     by_cases hab:x=y
     ·subst hab
      rw [if_neg (by simp [h1.2 rfl])]
      by_cases hbe:x=z
      ·subst hbe;rw [if_neg (by simp [h1.2 rfl]),if_neg (by simp [h1.2 rfl])];exact h5
      ·rw [if_pos (fun x=>hbe (h2.1 x))];exact fun _ h=>by rw [if_pos (by omega)];exact h
     ·rw [if_pos (fun x=>hab (h1.1 x))]
      by_cases hbe:y=z
      ·subst hbe
       rw [if_neg (by simp [h2.2 rfl]),if_pos (fun x=>hab (h1.1 x))];exact fun h _=>h
      ·rw [if_pos (fun x=>hbe (h2.1 x))]
       intro k1 k2
       have k3:=h4 k1 k2
       rw [if_pos (by omega)];exact k3
def isDig (c:UInt8):Bool:=decide (48≤c.toNat) && decide (c.toNat≤57)
def digs (l:List UInt8):List UInt8:=(l.take 7).takeWhile isDig
def dnum (l:List UInt8):Nat:=l.foldl (fun n c=>n * 10+(c.toNat - 48)) 0
structure Prt where
 ord:Nat
 pos:Nat
 e:Int
def ferr (l:List UInt8) (count:Nat):Int:=
 if count=8 then 9 else if l=[] then 4 else if digs l=[] then 6 else if l.head? = some 48 then 3 else if 6<(digs l).length then 2 else 0
theorem XQ (l:List UInt8):(digs l).length≤7∧(digs l).length≤l.length:=by
 have h1:(digs l).length≤(l.take 7).length:=(List.takeWhile_prefix isDig).length_le
 simp at h1
 omega
theorem digs_pre (l:List UInt8):digs l=l.take (digs l).length:=by
 have h1:digs l <+: l.take 7:=List.takeWhile_prefix isDig
 have h2:=List.prefix_iff_eq_take.1 h1
 rw [List.take_take,Nat.min_eq_left (XQ l).1] at h2
 exact h2
theorem digs_all (l:List UInt8):∀c ∈ digs l,isDig c=true:=fun c hc=>by
 have:=List.all_takeWhile (p:=isDig) (l:=l.take 7)
 exact List.all_eq_true.1 this c hc
def prts (l:List UInt8) (pos count:Nat):List Prt:=
 if ferr l count≠0 then [⟨0,pos,ferr l count⟩]
 else match h:l.drop (digs l).length with
  | []=>[⟨dnum (digs l),pos,0⟩]
  | c::rest=>if c≠46 then [⟨dnum (digs l),pos,0⟩,⟨0,pos+(digs l).length,6⟩] else ⟨dnum (digs l),pos,0⟩::prts rest (pos+(digs l).length+1) (count+1)
termination_by l.length
decreasing_by
 have:=congrArg List.length h
 simp at this;omega
def lparts (s:List UInt8):List Prt:=if s=[] then [] else prts s 0 0
def lvalid (s:List UInt8):Bool:=(lparts s).all fun p=>p.e == 0
def lords (s:List UInt8):List Int:=if lvalid s then (lparts s).map fun p=>(p.ord:Int) else []
theorem WA (l:List UInt8) (c:UInt8):dnum (l++[c])=dnum l * 10+(c.toNat - 48):=by simp [dnum]
theorem dig_inj {a b:UInt8} (ha:isDig a=true) (hb:isDig b=true) (h:a.toNat - 48=b.toNat - 48):a=b:=by
 simp [isDig] at ha hb
 exact UInt8.toNat_inj.1 (by omega)
theorem dig_lt {a:UInt8} (ha:isDig a=true):a.toNat - 48<10:=by simp [isDig] at ha;omega
theorem foldl_pos (l:List UInt8):∀n,0<n→0<l.foldl (fun n c=>n * 10+(c.toNat - 48)) n:=by
 induction l with
 | nil=>intro n h;exact h
 | cons c l ih=>intro n h;exact ih _ (show 0<n * 10+(c.toNat - 48) by omega)
theorem dnum_pos {c:UInt8} {l:List UInt8} (hc:isDig c=true) (h0:c≠48):0<dnum (c::l):=by
 unfold dnum
 simp only [List.foldl_cons]
 refine foldl_pos l _ ?_
 have:c.toNat≠48:=fun e=>h0 (UInt8.toNat_inj.1 e)
 simp [isDig] at hc
 omega
theorem dnum_inj:∀(n:Nat) (a b:List UInt8),a.length=n→(∀c ∈ a,isDig c=true)→(∀c ∈ b,isDig c=true)→a.head?≠some 48→b.head?≠some 48→dnum a=dnum b→a=b:=by
 intro n
 induction n with
 | zero=>
  intro a b hn ha hb h0 h1 h
  cases a with
  | cons=>simp at hn
  | nil=>
   cases b with
   | nil=>rfl
   | cons c b=>
    have:=dnum_pos (l:=b) (hb c (by simp)) (fun e=>h1 (by simp [e]))
    rw [←h] at this
    simp [dnum] at this
 | succ n ih=>
  intro a b hn ha hb h0 h1 h
  have hane:a≠[]:=fun e=>by subst e;simp at hn
  have hbne:b≠[]:=fun e=>by
   subst e
   cases a with
   | nil=>exact hane rfl
   | cons c a=>
    have:=dnum_pos (l:=a) (ha c (by simp)) (fun e=>h0 (by simp [e]))
    rw [h] at this
    simp [dnum] at this
  have ea:=List.dropLast_concat_getLast hane
  have eb:=List.dropLast_concat_getLast hbne
  rw [←ea,←eb] at h ⊢
  rw [WA,WA] at h
  have ka:=ha _ (List.getLast_mem hane)
  have kb:=hb _ (List.getLast_mem hbne)
  have la:=dig_lt ka
  have lb:=dig_lt kb
  have hh:∀l:List UInt8,l.head?≠some 48→l.dropLast.head?≠some 48:=fun l hl=>by
   cases l with
   | nil=>simp
   | cons c l=>
    cases l with
    | nil=>simp
    | cons d l=>simpa using hl
  have e1:a.dropLast=b.dropLast:=ih _ _ (by simp [hn]) (fun c hc=>ha c (List.dropLast_subset _ hc)) (fun c hc=>hb c (List.dropLast_subset _ hc)) (hh _ h0) (hh _ h1) (by omega)
  rw [e1,dig_inj ka kb (by omega)]
theorem prts_ne (l:List UInt8) (pos count:Nat):prts l pos count≠[]:=by
 unfold prts
 split
 ·simp
 ·split
  ·simp
  ·split<;>simp
theorem prts_ok {l:List UInt8} {pos count:Nat} (h:∀p ∈ prts l pos count,p.e=0) :
  digs l≠[]∧l.head?≠some 48∧((l=digs l∧prts l pos count=[⟨dnum (digs l),pos,0⟩])∨
   ∃rest,l=digs l++46::rest∧prts l pos count=⟨dnum (digs l),pos,0⟩::prts rest (pos+(digs l).length+1) (count+1)):=by
 have hp:=digs_pre l
 have hl:=XQ l
 have key:ferr l count=0→digs l≠[]∧l.head?≠some 48:=fun e=>by
  unfold ferr at e
  split at e
  ·cases e
  ·split at e
   ·cases e
   ·split at e
    ·cases e
    ·split at e
     ·cases e
     ·rename_i h1 h2;exact ⟨h1,h2⟩
 unfold prts at h ⊢
 split at h
 ·rename_i h1
  exact absurd (h _ (List.mem_singleton.2 rfl)) h1
 ·rename_i h1
  rw [if_neg h1]
  have h1:ferr l count=0:=Decidable.not_not.1 h1
  refine ⟨(key h1).1,(key h1).2,?_⟩
  split at h
  ·rename_i h2
   left
   have h3:l.length≤(digs l).length:=by simpa using h2
   refine ⟨?_,?_⟩
   ·rw [hp]
    exact (List.take_of_length_le h3).symm
   ·rfl
  ·rename_i c rest h2
   right
   split at h
   ·have:=h ⟨0,pos+(digs l).length,6⟩ (by simp)
    cases this
   ·rename_i hc
    have hc:c=46:=Decidable.not_not.1 hc
    subst hc
    refine ⟨rest,?_,?_⟩
    ·rw [←h2]
     conv=>lhs;rw [←List.take_append_drop (digs l).length l]
     rw [←hp]
    ·rw [if_neg hc]
     congr 1
     rw [prts]
theorem digs_head (l:List UInt8):digs l≠[]→(digs l).head? = l.head?:=by
 intro h
 cases l with
 | nil=>simp [digs] at h
 | cons c l=>
  have h2:digs (c::l)=(c::l.take 6).takeWhile isDig:=rfl
  rw [h2] at h ⊢
  rw [List.takeWhile_cons] at h ⊢
  split at h
  ·rename_i hc;simp [hc]
  ·exact absurd rfl h
theorem prts_inj:∀(n:Nat) (a b:List UInt8) (p q c d:Nat),a.length≤n→(∀x ∈ prts a p c,x.e=0)→(∀x ∈ prts b q d,x.e=0)→(prts a p c).map (fun x=>(x.ord:Int))=(prts b q d).map (fun x=>(x.ord:Int))→a=b:=by
 intro n
 induction n with
 | zero=>
  intro a b p q c d hn ha
  obtain ⟨h1,_,_⟩:=prts_ok ha
  have:a=[]:=List.length_eq_zero_iff.1 (by omega)
  subst this
  simp [digs] at h1
 | succ n ih=>
  intro a b p q c d hn ha hb h
  obtain ⟨a1,a2,a3⟩:=prts_ok ha
  obtain ⟨b1,b2,b3⟩:=prts_ok hb
  have key:dnum (digs a)=dnum (digs b)→digs a=digs b:=fun e=>
   dnum_inj _ _ _ rfl (digs_all a) (digs_all b) (by rw [digs_head a a1];exact a2) (by rw [digs_head b b1];exact b2) e
  rcases a3 with ⟨e1,e2⟩|⟨ra,e1,e2⟩<;>rcases b3 with ⟨f1,f2⟩|⟨rb,f1,f2⟩
  ·rw [e2,f2] at h
   simp at h
   rw [e1,f1];exact key (by omega)
  ·rw [e2,f2] at h
   simp only [List.map_cons,List.map_nil,List.cons.injEq] at h
   have:=h.2.symm
   rw [List.map_eq_nil_iff] at this
   exact absurd this (prts_ne _ _ _)
  ·rw [e2,f2] at h
   simp only [List.map_cons,List.map_nil,List.cons.injEq] at h
   have:=h.2
   rw [List.map_eq_nil_iff] at this
   exact absurd this (prts_ne _ _ _)
  ·rw [e2] at ha h
   rw [f2] at hb h
   simp only [List.map_cons,List.cons.injEq] at h
   have hlen:=congrArg List.length e1
   simp at hlen
   have e3:=ih ra rb _ _ _ _ (by omega) (fun x hx=>ha x (by simp [hx])) (fun x hx=>hb x (by simp [hx])) h.2
   rw [e1,f1,key (by omega),e3]
theorem lords_inj {a b:List UInt8} (ha:lvalid a=true) (hb:lvalid b=true) (h:lords a=lords b):a=b:=by
 unfold lords at h
 rw [if_pos ha,if_pos hb] at h
 unfold lvalid at ha hb
 rw [List.all_eq_true] at ha hb
 simp only [beq_iff_eq] at ha hb
 unfold lparts at *
 by_cases h1:a=[]<;>by_cases h2:b=[]
 ·rw [h1,h2]
 ·rw [if_pos h1,if_neg h2] at h
  have:=h.symm
  simp only [List.map_nil,List.map_eq_nil_iff] at this
  exact absurd this (prts_ne _ _ _)
 ·rw [if_neg h1,if_pos h2] at h
  simp only [List.map_nil,List.map_eq_nil_iff] at h
  exact absurd h (prts_ne _ _ _)
 ·rw [if_neg h1,if_neg h2] at h
  rw [if_neg h1] at ha
  rw [if_neg h2] at hb
  exact prts_inj _ a b _ _ _ _ (Nat.le_refl _) ha hb h
def cmpN (a b:ByteArray):Int:=
 if a=b then 0 else match lvalid a.data.toList,lvalid b.data.toList with
  | true,true=>cmpL (lords a.data.toList) (lords b.data.toList)
  | true,false=>-1
  | false,true=>1
  | false,false=>cmpS a b
def keyN (a:ByteArray):Int×List Int×ByteArray:=if lvalid a.data.toList then (0,lords a.data.toList,⟨#[]⟩) else (1,[],a)
theorem keyN_inj (a b:ByteArray) (h:keyN a=keyN b):a=b:=by
 unfold keyN at h
 split at h<;>split at h
 ·rename_i h1 h2
  simp only [Prod.mk.injEq,and_true,true_and] at h
  exact XH (lords_inj h1 h2 h)
 ·simp at h
 ·simp at h
 ·simp only [Prod.mk.injEq,true_and] at h
  exact h
theorem cmpN_key (a b:ByteArray):cmpN a b=lex cmpI (lex cmpL cmpS) (keyN a) (keyN b):=by
 have ho:=Ys Z3 (Ys ord_list ord_str)
 unfold cmpN
 by_cases h:a=b
 ·subst h;rw [if_pos rfl];exact (ho.self _).symm
 ·rw [if_neg h]
  unfold keyN
  cases h1:lvalid a.data.toList<;>cases h2:lvalid b.data.toList
  ·simp [lex,cmpI,cmpL]
  ·simp [lex,cmpI]
  ·simp [lex,cmpI]
  ·have h3:cmpS ⟨#[]⟩ ⟨#[]⟩=0:=ord_str.self _
   simp only [lex,cmpI,if_true,h3]
   by_cases h4:cmpL (lords a.data.toList) (lords b.data.toList)=0<;>simp [h4]
theorem ord_lin:Ord3 cmpN:=by
 have h:=ord_map (Ys Z3 (Ys ord_list ord_str)) keyN keyN_inj
 have e:cmpN=fun a b=>lex cmpI (lex cmpL cmpS) (keyN a) (keyN b):=by funext a b;exact cmpN_key a b
 rw [e];exact h
def cmpO (a b:Nm):Int:=
 if cmpI a.kind b.kind≠0 then cmpI a.kind b.kind
 else if cmpN a.owner b.owner≠0 then cmpN a.owner b.owner
 else if cmpI a.number b.number≠0 then cmpI a.number b.number
 else if cmpI a.index b.index≠0 then cmpI a.index b.index
 else cmpS a.text b.text
theorem ord_obj:Ord3 cmpO:=by
 have h:=ord_map (Ys Z3 (Ys ord_lin (Ys Z3 (Ys Z3 ord_str)))) (fun a:Nm=>(a.kind,a.owner,a.number,a.index,a.text)) (by
  rintro ⟨a,b,c,d,e⟩ ⟨a',b',c',d',e'⟩ h
  simp only [Prod.mk.injEq] at h
  obtain ⟨rfl,rfl,rfl,rfl,rfl⟩:=h
  rfl)
 exact h
section
variable {l:List Oper}
theorem l_sx {s:ByteArray} {z:Int} {rs:TRow} (i:Nat) (hlt:i<s.data.toList.length)
  (nx:Wl n C ops.toArray k Q l ((d,.int .u8 (s.data.toList[i]).toNat)::E) F R)
  (hw:wantL ops E ⟨some d,.index t x y,ty0,pos,aft,gd⟩=some true:=by rfl) (hn:Nat.blt d n=true:=by rfl) (hx:ev E x=some (.string s):=by rfl) (hy:ev E y=some (.int .i64 z):=by rfl)
  (hts:lookT tab t=some rs:=by rfl) (hrs:rs.k = .str:=by rfl) (hz:z=(i:Int):=by first|rfl|omega):Wl n C ops.toArray k Q (⟨some d,.index t x y,ty0,pos,aft,gd⟩::l) E F R:=
 l_six i _ (List.getElem?_eq_getElem hlt) nx hw hn hx hy hts hrs hz
end
theorem Xu {p:UInt8→Bool}:∀(l:List UInt8) (i:Nat),i≤(l.takeWhile p).length→(i<(l.takeWhile p).length↔∃c,l[i]? = some c∧p c=true)
 | [],i,h=>by simp
 | a::l,0,_=>by
  rw [List.takeWhile_cons]
  split
  ·rename_i h;simp [h]
  ·rename_i h;simp [h]
 | a::l,i+1,h=>by
  rw [List.takeWhile_cons] at h ⊢
  split at h
  ·rename_i hp
   simp only [hp,if_true,List.length_cons,List.getElem?_cons_succ] at h ⊢
   have:=Xu (p:=p) l i (by omega)
   rw [←this];omega
  ·simp at h
theorem digs_lt {l:List UInt8} {i:Nat} (h:i≤(digs l).length):i<(digs l).length↔i<7∧∃c,l[i]? = some c∧isDig c=true:=by
 have h1:=Xu (p:=isDig) (l.take 7) i h
 unfold digs
 rw [h1,List.getElem?_take]
 by_cases h7:i<7<;>simp [h7]
theorem digs_get {l:List UInt8} {i:Nat} (h:i<(digs l).length):(digs l)[i]? = l[i]?:=by
 rw [digs_pre l,List.getElem?_take,if_pos h]
theorem dnum_lt:∀(l:List UInt8) (n:Nat),(∀c ∈ l,isDig c=true)→l.foldl (fun n c=>n * 10+(c.toNat - 48)) n<(n+1) * 10 ^ l.length
 | [],n,_=>by simp
 | c::l,n,h=>by
  have h1:=dnum_lt l (n * 10+(c.toNat - 48)) fun d hd=>h d (List.mem_cons_of_mem _ hd)
  have h2:=dig_lt (h c (by simp))
  refine Nat.lt_of_lt_of_le h1 ?_
  rw [List.length_cons,Nat.pow_succ]
  have:(n * 10+(c.toNat - 48)+1)≤(n+1) * 10:=by omega
  calc (n * 10+(c.toNat - 48)+1) * 10 ^ l.length≤((n+1) * 10) * 10 ^ l.length:=Nat.mul_le_mul_right _ this
   _=(n+1) * (10 ^ l.length * 10):=by rw [Nat.mul_assoc,Nat.mul_comm 10]
theorem dnum_take_lt (l:List UInt8) (i:Nat):dnum ((digs l).take i)<10000000:=by
 have h1:=dnum_lt ((digs l).take i) 0 fun c hc=>digs_all l c (List.mem_of_mem_take hc)
 have h2:=(XQ l).1
 have h3:((digs l).take i).length≤7:=by simp;omega
 have h4:10 ^ ((digs l).take i).length≤10 ^ 7:=Nat.pow_le_pow_right (by omega) h3
 unfold dnum
 omega
theorem dnum_succ {l:List UInt8} {i:Nat} {c:UInt8} (h:(digs l)[i]? = some c):dnum ((digs l).take (i+1))=dnum ((digs l).take i) * 10+(c.toNat - 48):=by
 rw [List.take_add_one,h]
 exact WA _ _
def Prt.v (p:Prt):Value:=.agg #[.int .i64 (p.ord:Int),.int .i64 (p.pos:Int),.int .i64 p.e]
def ffirst (l:List UInt8) (pos count:Nat):Prt×Nat:=if ferr l count≠0 then (⟨0,pos,ferr l count⟩,pos) else (⟨dnum (digs l),pos,0⟩,pos+(digs l).length)
theorem wu8 {z:Int} (h:0≤z) (h2:z<256):IntKind.u8.wrap z=z:=by
 simp [IntKind.wrap,IntKind.bits,IntKind.signed];omega
theorem u8eq (c:UInt8):((c.toNat:Int)=48)↔c=48:=by
 constructor
 ·intro h;exact UInt8.toNat_inj.1 (by show c.toNat=48;omega)
 ·intro h;subst h;rfl
theorem first_ok (s:ByteArray) (p count:Nat) (hp:p≤s.size) (hs:s.size≤1099511627776) :
  Enters 174∧Spec prog 174 #[.string s,.int .i64 (p:Int),.int .i64 (count:Int)] [] []
   (RetV (.tuple #[(ffirst (s.data.toList.drop p) p count).1.v,.int .i64 ((ffirst (s.data.toList.drop p) p count).2:Int)])):=by
 have hsz:s.data.toList.length=s.size:=by simp
 generalize hl:s.data.toList.drop p=l
 have hll:l.length=s.size - p:=by rw [←hl];simp
 have hget:∀i,l[i]? = s.data.toList[p+i]?:=fun i=>by rw [←hl,List.getElem?_drop]
 have hd:=XQ l
 refine ZI [_,_,_] func174 ntmps174 fun G w hp=>?_
 repeat' (first|refine ZC ?_|refine ZB ?_|refine ZD ?_|refine ZQ (fun b=>?_)|fail)
 refine k_lpx (X:={i:Nat // i≤(digs l).length}) (Y:=Unit) (fun i=>[(0,.string s),(1,.int .i64 (p:Int)),(2,.int .i64 (count:Int)),(6,.pointer (some ⟨b,0,none⟩)),(8,.int .i64 ((p+i.1:Nat):Int)),(9,.int .i64 (dnum ((digs l).take i.1):Int))]) (fun _=>[]) (fun _=>[Pt b (.cells #[.int .i64 0,.int .i64 0,.int .i64 0] 233)]) (fun i=>(digs l).length - i.1)
  (fun _=>[(0,.string s),(1,.int .i64 (p:Int)),(2,.int .i64 (count:Int)),(6,.pointer (some ⟨b,0,none⟩)),(8,.int .i64 ((p+(digs l).length:Nat):Int)),(9,.int .i64 (dnum (digs l):Int))]) (fun _=>[]) (fun _=>[Pt b (.cells #[.int .i64 0,.int .i64 0,.int .i64 0] 233)])
  ⟨0,by omega⟩ ⟨rfl,rfl,rfl,rfl,rfl,rfl,trivial⟩ ?_ ?_
 ·intro _
  generalize hf:ffirst l p count=r
  unfold ffirst at hf
  have h0:∀h:p<s.data.size,l.head? = some s.data[p]:=fun h=>by
   rw [List.head?_eq_getElem?,hget 0,Nat.add_zero];simp
  have hn:l=[]↔p=s.size:=by rw [←List.length_eq_zero_iff];omega
  have hdn:digs l=[]↔(digs l).length=0:=List.length_eq_zero_iff.symm
  have hss:s.data.size=s.size:=rfl
  repeat' (first|refine ZC ?_|refine ZB ?_|refine ZD ?_|refine ZV ?_|refine ZJ ?_|refine ZF ?_|refine l_sx (s:=s) p (by omega) ?_|rw [wrapi (z:=((p+(digs l).length:Nat):Int) - (p:Int)) (by omega) (by omega)]|(refine ZH (fun hc=>?_) (fun hc=>?_)<;>(try simp at hc))|fail)
  ·have e:ferr l count=9:=by rw [ferr,if_pos (by omega)]
   rw [e] at hf;subst hf;exact ZG () rfl trivial
  ·have e:ferr l count=4:=by rw [ferr,if_neg (by omega),if_pos (hn.2 (by omega))]
   rw [e] at hf;subst hf;exact ZG () rfl trivial
  ·have e:ferr l count=6:=by rw [ferr,if_neg (by omega),if_neg (fun e=>by have:=hn.1 e;omega),if_pos (hdn.2 (by omega))]
   rw [e] at hf;subst hf;exact ZG () rfl trivial
  ·have e:ferr l count=3:=by
    rw [ferr,if_neg (by omega),if_neg (fun e=>by have:=hn.1 e;omega),if_neg (fun e=>by have:=hdn.1 e;omega),if_pos]
    rw [h0 (by omega)]
    exact congrArg some ((u8eq _).1 hc)
   rw [e] at hf;subst hf;exact ZG () rfl trivial
  ·have e:ferr l count=2:=by
    rw [ferr,if_neg (by omega),if_neg (fun e=>by have:=hn.1 e;omega),if_neg (fun e=>by have:=hdn.1 e;omega),if_neg,if_pos (by omega)]
    rw [h0 (by omega)]
    intro e
    have:=(u8eq _).2 (Option.some.inj e)
    omega
   rw [e] at hf;subst hf;exact ZG () rfl trivial
  ·have e:ferr l count=0:=by
    rw [ferr,if_neg (by omega),if_neg (fun e=>by have:=hn.1 e;omega),if_neg (fun e=>by have:=hdn.1 e;omega),if_neg,if_neg (by omega)]
    rw [h0 (by omega)]
    intro e
    have:=(u8eq _).2 (Option.some.inj e)
    omega
   rw [e] at hf;subst hf;exact ZG () rfl trivial
 rintro hx ⟨i,hi⟩
 dsimp only
 have hlt:=digs_lt hi
 have hdl:=dnum_take_lt l i
 repeat' (first|refine ZC ?_|refine ZB ?_|refine ZP ?_|refine ZD ?_|refine ZF ?_|refine ZA (isDigit_ok _) (fun _ _=>?_)|refine l_sx (s:=s) (p+i) (by omega) ?_|rw [wrapi (z:=((p+i:Nat):Int) - (p:Int)) (by omega) (by omega)]|(refine ZM (fun hc=>?_) (fun hc=>?_)<;>(try simp at hc))|(refine ZH (fun hc=>?_) (fun hc=>?_)<;>(try simp at hc))|fail)
 ·have hpi:p+i<s.data.size:=by have:s.data.size=s.size:=rfl;omega
  have hcc:l[i]? = some s.data[p+i]:=by rw [hget i];simp
  have hic:isDig s.data[p+i]=true:=by simp [isDig];omega
  have hi2:=hlt.2 ⟨by omega,_,hcc,hic⟩
  have hds:=dnum_succ (i:=i) ((digs_get hi2).trans hcc)
  have e1:s.data.toList[p+i]'(by omega)=s.data[p+i]:=by simp
  have e2:IntKind.i64.wrap (IntKind.i64.wrap ((dnum ((digs l).take i):Int) * 10)+IntKind.i64.wrap (IntKind.u8.wrap ((s.data[p+i].toNat:Int) - 48)))=(dnum ((digs l).take (i+1)):Int):=by
   rw [wu8 (by omega) (by omega),wrapi (z:=(dnum ((digs l).take i):Int) * 10) (by omega) (by omega),wrapi (z:=(s.data[p+i].toNat:Int) - 48) (by omega) (by omega),wrapi (by omega) (by omega),hds]
   omega
  rw [e1,e2,wrapi (z:=((p+i:Nat):Int)+1) (by omega) (by omega)]
  refine ZW ⟨i+1,hi2⟩ (by show (digs l).length - (i+1)<(digs l).length - i;omega) ⟨rfl,rfl,rfl,rfl,rfl,rfl,trivial⟩
 all_goals
  have e:i=(digs l).length:=by
   refine Nat.le_antisymm hi (Nat.le_of_not_lt fun h=>?_)
   obtain ⟨h7,c,hc1,hc2⟩:=hlt.1 h
   rw [hget i] at hc1
   have h8:=(List.getElem?_eq_some_iff.1 hc1).1
   simp [isDig] at hc2
   try (
    have h9:s.data[p+i]? = some c:=by simpa using hc1
    rw [Array.getElem?_eq_getElem (by omega)] at h9
    obtain rfl:=Option.some.inj h9)
   omega
  have e2:dnum ((digs l).take i)=dnum (digs l):=by rw [e,List.take_length]
  exact k_out hx () ⟨rfl,rfl,rfl,rfl,by rw [←e];rfl,by rw [←e2];rfl,trivial⟩
theorem Zh (s:List UInt8) (p c:Nat) (hp:p≤s.length):p≤(ffirst (s.drop p) p c).2∧(ffirst (s.drop p) p c).2≤s.length∧((ffirst (s.drop p) p c).1.e=0→c≠8)∧
  prts (s.drop p) p c=if (ffirst (s.drop p) p c).1.e≠0 then [(ffirst (s.drop p) p c).1] else match s[(ffirst (s.drop p) p c).2]? with
   | none=>[(ffirst (s.drop p) p c).1]
   | some ch=>if ch≠46 then [(ffirst (s.drop p) p c).1,⟨0,(ffirst (s.drop p) p c).2,6⟩] else (ffirst (s.drop p) p c).1::prts (s.drop ((ffirst (s.drop p) p c).2+1)) ((ffirst (s.drop p) p c).2+1) (c+1):=by
 have hd:=XQ (s.drop p)
 have hl:(s.drop p).length=s.length - p:=by simp
 generalize hl':s.drop p=l at *
 unfold ffirst
 by_cases hf:ferr l c=0
 ·rw [if_neg (by simp [hf])]
  refine ⟨by dsimp only;omega,by dsimp only;omega,fun _ h8=>?_,?_⟩
  ·unfold ferr at hf;rw [if_pos h8] at hf;cases hf
  ·conv=>lhs;unfold prts
   rw [if_neg (by simp [hf])]
   dsimp only
   rw [if_neg (by simp)]
   have e1:l.drop (digs l).length=s.drop (p+(digs l).length):=by rw [←hl',List.drop_drop]
   by_cases hlt:p+(digs l).length<s.length
   ·have e2:=List.getElem?_eq_getElem hlt
    have e3:=List.drop_eq_getElem_cons hlt
    rw [e2]
    dsimp only
    split
    ·rename_i h4;rw [e1,e3] at h4;cases h4
    ·rename_i ch rest h4
     rw [e1,e3] at h4
     injection h4 with h5 h6
     rw [h5,h6]
   ·have e2:s[p+(digs l).length]? = none:=List.getElem?_eq_none (by omega)
    rw [e2]
    dsimp only
    split
    ·rfl
    ·rename_i h4
     rw [e1,List.drop_eq_nil_of_le (by omega)] at h4
     cases h4
 ·rw [if_pos hf]
  refine ⟨by dsimp only;omega,by dsimp only;omega,fun h=>absurd h hf,?_⟩
  unfold prts
  rw [if_pos hf]
  simp [hf]
structure PX (s:List UInt8) where
 pre:List Prt
 p:Nat
 c:Nat
 h1:p≤s.length
 h2:c≤8
 h3:lparts s=pre++(if s=[] then [] else prts (s.drop p) p c)
theorem WP (s:ByteArray) (b:Nat) (hs:s.size≤1099511627776):Iter 173 [.pointer (some ⟨b,0,none⟩)] Prt.v (lparts s.data.toList) [Blk b (.cells #[.string s] 9)] []:=by
 intro v Y I Ix hy
 have hsz:s.data.toList.length=s.size:=by simp
 refine ZI [_,_] func173 ntmps173 fun G w hp=>?_
 repeat' (first|refine ZC ?_|refine ZB ?_|refine ZD ?_|fail)
 refine YF (X:=PX s.data.toList) (fun q=>[(0,v),(1,.pointer (some ⟨b,0,none⟩)),(3,.int .i64 (q.p:Int)),(4,.int .i64 (q.c:Int))]) (fun _=>[Y,Blk b (.cells #[.string s] 9)]) (fun q=>[I q.pre]) (fun q=>s.size - q.p) ⟨[],0,0,by omega,by omega,by simp [lparts]⟩ ⟨rfl,rfl,rfl,rfl,trivial⟩ ?_
 rintro ⟨pre,p,c,h1,h2,h3⟩
 dsimp only
 obtain ⟨g1,g2,g3,g4⟩:=Zh s.data.toList p c h1
 have hf:=first_ok s p c (by omega) hs
 generalize hr:ffirst (s.data.toList.drop p) p c=r at *
 obtain ⟨pt,fe⟩:=r
 dsimp only at *
 have hemp:∀h:(!s.toList == ByteArray.toList ⟨#[]⟩)=false,s.data.toList=[]:=fun h=>by
  simpa [ZZ] using h
 have hne:∀h:(!s.toList == ByteArray.toList ⟨#[]⟩)=true,s.data.toList≠[]:=fun h=>by
  simpa [ZZ] using h
 repeat' (first|refine ZC ?_|refine ZB ?_|refine ZD ?_|refine ZS ?_|refine Zr ?_|refine ZV ?_|refine ZQ (fun b=>?_)|refine ZA (hf) (fun _ _=>?_)|refine ZH (fun hc=>?_) (fun hc=>?_)|fail)
 ·have hne:=hne hc
  rw [if_neg hne,g4] at h3
  have hpre:pre++[pt] <+: lparts s.data.toList:=by
   rw [h3]
   refine (List.prefix_append_right_inj pre).2 ?_
   split
   ·exact List.prefix_refl _
   ·split
    ·exact List.prefix_refl _
    ·split
     ·exact ⟨_,rfl⟩
     ·exact ⟨_,rfl⟩
  refine l_callV (hy pre pt hpre) (fun bb _=>?_)
  cases bb with
  | false=>
   repeat' (first|refine ZC ?_|refine ZB ?_|refine ZP ?_|refine ZJ ?_|fail)
   exact k_rt (w_lq (Yv (some (pre++[pt])) rfl (fun q hq=>by cases hq;exact hpre)))
  | true=>
   repeat' (first|refine ZC ?_|refine ZB ?_|refine ZP ?_|refine ZS ?_|refine Zr ?_|refine ZJ ?_|refine ZM (fun hc=>?_) (fun hc=>?_)|fail)
   ·have he:pt.e≠0:=by simpa using hc
    rw [if_pos he] at h3
    rw [h3]
    exact k_rt (w_lq (Yv none rfl (fun q hq=>by cases hq)))
   ·have he:pt.e=0:=by simpa using hc
    rw [if_neg (by simp [he])] at h3
    have g3:=g3 he
    refine ZH (fun hc=>?_) (fun hc=>?_)
    ·have hfe:fe=s.size:=by simp at hc;omega
     have e2:s.data.toList[fe]? = none:=List.getElem?_eq_none (by omega)
     rw [e2] at h3
     dsimp only at h3
     rw [h3]
     exact k_rt (w_lq (Yv none rfl (fun q hq=>by cases hq)))
    ·have hfe:fe<s.data.toList.length:=by simp at hc;omega
     have e2:=List.getElem?_eq_getElem hfe
     rw [e2] at h3
     dsimp only at h3
     repeat' (first|refine ZC ?_|refine ZB ?_|refine ZD ?_|refine Zr ?_|refine l_sx (s:=s) fe hfe ?_|refine ZH (fun hc=>?_) (fun hc=>?_)|fail)
     ·have h46:s.data.toList[fe]≠46:=fun e=>by rw [e] at hc;simp at hc
      rw [if_pos h46] at h3
      refine l_callV (hy (pre++[pt]) ⟨0,fe,6⟩ (by rw [h3];simp)) (fun bb _=>?_)
      cases bb with
      | false=>
       repeat' (first|refine ZB ?_|fail)
       exact k_rt (w_lq (Yv (some (pre++[pt]++[⟨0,fe,6⟩])) rfl (fun q hq=>by cases hq;rw [h3];simp)))
      | true=>
       repeat' (first|refine ZB ?_|fail)
       have h3:lparts s.data.toList=pre++[pt]++[⟨0,fe,6⟩]:=by rw [h3];simp
       rw [h3]
       exact k_rt (w_lq (Yv none rfl (fun q hq=>by cases hq)))
     ·have h46:s.data.toList[fe]=46:=UInt8.toNat_inj.1 (by simp at hc;simp;omega)
      rw [if_neg (by simp [h46])] at h3
      rw [wrapi (z:=(fe:Int)+1) (by omega) (by omega),wrapi (z:=(c:Int)+1) (by omega) (by omega)]
      exact ZW ⟨pre++[pt],fe+1,c+1,by omega,by omega,by rw [h3,if_neg hne];simp⟩ (by show s.size - (fe+1)<s.size - p;omega) ⟨rfl,rfl,rfl,rfl,trivial⟩
 ·have hemp:=hemp hc
  rw [if_pos hemp,List.append_nil] at h3
  refine Zj ?_
  rw [h3]
  exact k_end none rfl (fun q hq=>by cases hq)
section
variable {l:List Oper}
theorem k_fz {b:Nat} {o:Obj} (t:Wk n C k Q E (Blk b o::F) R0) (hs:Sel (Pt b o) R R0:=by (repeat (first|exact Sel.here|apply Sel.there));first|done|fail):Wk n C k Q E F R:=
 fun a w ha hsat=>t a w ha (hsat.sel hs).freeze
theorem k_add {f:Pf} (h:∀hp,f.p hp) (t:Wk n C k Q E (f::F) R):Wk n C k Q E F R:=fun a w ha ⟨_,_,st⟩=>t a w ha (Yz st (h _))
theorem w_add {f:Pf} (h:∀hp,f.p hp) (t:Wret n C Q E (f::F) R):Wret n C Q E F R:=fun a w ha ⟨_,_,st⟩=>t a w ha (Yz st (h _))
theorem sl_nil {α:Type} (T:Nat) (f:α→List Value) (h:H):(Sl T f none 0 []).p h:=⟨by simp,.inl rfl⟩
theorem w_rv {fn:Func} {v v':Value} {G:H} {w0:World} {hp0:H} (h:v=v') (t:Wret n C (bodyPost prog fn ((RetV v').holds G w0 hp0)) E F R):Wret n C (bodyPost prog fn ((RetV v).holds G w0 hp0)) E F R:=by subst h;exact t
theorem w_open {X:Type} {r:HP} {Lx:X→List HP} {p:X→Prop} (hs:Sel r R R0) (h:∀hh,r hh→∃x,p x∧Sep (Lx x) hh) (t:∀x,p x→Wret n C Q E F (Lx x++R0)):Wret n C Q E F R:=fun a w ha hsat=>by
 obtain ⟨⟨x,hx⟩,h1⟩:=(hsat.sel hs).open' (X:={x // p x}) (L:=fun x=>Lx x.1) fun hh hr=>let ⟨x,h1,h2⟩:=h hh hr;⟨⟨x,h1⟩,h2⟩
 exact t x hx a w ha h1
end
theorem parts_ok (s:ByteArray):Enters 146∧Spec prog 146 #[.string s] [] []
  ⟨Nat,fun b=>.func (.func 173) #[] #[.pointer (some ⟨b,0,none⟩)],fun _=>True,fun b=>[Blk b (.cells #[.string s] 9)],fun _=>[]⟩:=by
 refine ZI [_] func146 ntmps146 fun G w hp=>?_
 repeat' (first|refine ZC ?_|refine ZB ?_|refine ZD ?_|refine ZQ (fun b=>?_)|fail)
 refine k_fz ?_
 exact ZG b rfl trivial
def lparse (s:ByteArray):ByteArray×Nat×Int:=
 match (lparts s.data.toList).find? fun p=>p.e != 0 with
 | none=>(s,0,0)
 | some p=>(⟨#[]⟩,p.pos,p.e)
theorem parse_find {pre:List Prt} {e:Prt} {xs:List Prt} (h:pre++[e] <+: xs) (h0:∀x ∈ pre,x.e=0) (he:e.e≠0):xs.find? (fun p=>p.e != 0)=some e:=by
 obtain ⟨t,rfl⟩:=h
 rw [List.append_assoc,List.find?_append]
 have:pre.find? (fun p=>p.e != 0)=none:=List.find?_eq_none.2 fun x hx=>by simp [h0 x hx]
 simp [this,he]
abbrev JL (b2 b3 b4:Nat) (p e:Int):List HP:=[Pt b2 (.cells #[.string ⟨#[]⟩] 28),Pt b3 (.cells #[.int .i64 p] 3),Pt b4 (.cells #[.int .i64 e] 29)]
def JP (b2 b3 b4:Nat) (pre:List Prt):HP:=fun h=>(∀x ∈ pre,x.e=0)∧Sep (JL b2 b3 b4 0 0) h
def JPx (b2 b3 b4:Nat) (pre:List Prt):HP:=fun h=>∃q:List Prt×Prt,(pre=q.1++[q.2]∧(∀x ∈ q.1,x.e=0)∧q.2.e≠0)∧Sep (JL b2 b3 b4 q.2.pos q.2.e) h
theorem parseL_ok (s:ByteArray) (hs:s.size≤1099511627776):Enters 94∧Spec prog 94 #[.string s] [] []
  (RetV (.tuple #[.string (lparse s).1,.int .i64 ((lparse s).2.1:Int),.int .i64 (lparse s).2.2])):=by
 refine ⟨enters_of func94 (by kernel_rfl) rfl,spec_ofM (vs:=[_]) func94 rfl ntmps94 rfl fun G w hp=>?_⟩
 repeat' (first|refine ZC ?_|refine ZB ?_|refine ZD ?_|refine ZQ (fun b=>?_)|refine ZA (parts_ok _) (fun _ _=>?_)|fail)
 rename_i b2 b3 q _
 generalize b=b4
 refine Zi (r:=JP b2 b3 b4 []) (Lx:=JL b2 b3 b4 0 0) (fun h hh=>⟨fun x hx=>(by cases hx),hh⟩) ?_
 refine k_range (α:=Prt) (enc:=Prt.v) (xs:=lparts s.data.toList) (JP b2 b3 b4) (JPx b2 b3 b4) (WP s q hs) ?_ ?_ ?_
 ·intro lr l pre e hpre G w0 hp0
  refine XA (X:=Unit) (Lx:=fun _=>JL b2 b3 b4 0 0) (p:=fun _=>∀x ∈ pre,x.e=0) (r:=JP b2 b3 b4 pre) (.there .here) (fun h hh=>⟨(),hh.1,hh.2⟩) (fun _ hall=>?_)
  repeat' (first|refine ZC ?_|refine ZB ?_|refine ZD ?_|refine ZS ?_|refine ZV ?_|refine ZQ (fun b=>?_)|refine Zq ?_|refine Ym ?_|refine r_st ?_|refine Zp ?_|refine k_beg ?_|refine Za 4 [Pt b2 (.cells _ _ _),Pt b3 (.cells _ _ _),Pt b4 (.cells _ _ _)] [(0,0),(1,0),(2,0),(3,0),(4,4),(5,4),(6,4)] [] ?_|refine ZH (fun hc=>?_) (fun hc=>?_)|fail)
  ·have he:e.e≠0:=by simpa using hc
   refine Zi (Lx:=JL b2 b3 b4 e.pos e.e) (r:=JPx b2 b3 b4 (pre++[e])) (fun h hh=>⟨(pre,e),⟨rfl,hall,he⟩,hh⟩) ?_
   exact k_rr
  ·have he:e.e=0:=by simpa using hc
   refine Zi (Lx:=JL b2 b3 b4 0 0) (r:=JP b2 b3 b4 (pre++[e])) (fun h hh=>⟨fun x hx=>?_,hh⟩) ?_
   ·rcases List.mem_append.1 hx with hx|hx
    ·exact hall x hx
    ·simp at hx;subst hx;exact he
   exact k_rn
 ·intro D
  refine XA (X:=Unit) (Lx:=fun _=>JL b2 b3 b4 0 0) (p:=fun _=>∀x ∈ lparts s.data.toList,x.e=0) (r:=JP b2 b3 b4 (lparts s.data.toList)) .here (fun h hh=>⟨(),hh.1,hh.2⟩) (fun _ hall=>?_)
  have hp:lparse s=(s,0,0):=by
   have:(lparts s.data.toList).find? (fun p=>p.e != 0)=none:=List.find?_eq_none.2 fun x hx=>by simp [hall x hx]
   rw [lparse,this]
  rw [hp]
  repeat' (first|refine ZC ?_|refine ZB ?_|refine ZD ?_|refine ZV ?_|fail)
  exact k_retM () rfl trivial
 ·intro D pre hpre
  refine w_open (X:=List Prt×Prt) (Lx:=fun q=>JL b2 b3 b4 q.2.pos q.2.e) (r:=JPx b2 b3 b4 pre) .here (fun h hh=>hh) (fun q hq=>?_)
  obtain ⟨rfl,h1,h2⟩:=hq
  rw [lparse,parse_find hpre h1 h2]
  exact w_retM () rfl trivial
theorem lparse_valid (s:ByteArray):((lparse s).2.2 == 0)=lvalid s.data.toList:=by
 unfold lparse lvalid
 cases h:(lparts s.data.toList).find? fun p=>p.e != 0 with
 | none=>
  have h1:=List.find?_eq_none.1 h
  simp at h1
  symm
  simpa using h1
 | some p=>
  have h1:=List.find?_some h
  have h2:=List.mem_of_find?_eq_some h
  simp at h1
  have e1:(p.e == 0)=false:=by simpa using h1
  dsimp only
  rw [e1]
  symm
  rw [List.all_eq_false]
  exact ⟨p,h2,by simpa using h1⟩
theorem Ze (s:ByteArray) (hs:s.size≤1099511627776):Enters 38∧Spec prog 38 #[.string s] [] [] (RetV (.bool (lvalid s.data.toList))):=by
 refine ZI [_] func38 ntmps38 fun G w hp=>?_
 repeat' (first|refine ZC ?_|refine ZB ?_|refine ZD ?_|refine ZA (parseL_ok s hs) (fun _ _=>?_)|fail)
 refine ZG () ?_ trivial
 rw [←lparse_valid];rfl
theorem prts_len:∀(m:Nat) (l:List UInt8) (p c:Nat),l.length≤m→(prts l p c).length≤l.length+1:=by
 intro m
 induction m with
 | zero=>
  intro l p c hl
  obtain rfl:=List.length_eq_zero_iff.1 (show l.length=0 by omega)
  unfold prts
  split
  ·simp
  ·rename_i h;simp [ferr] at h;split at h<;>simp_all
 | succ m ih=>
  intro l p c hl
  unfold prts
  split
  ·simp
  ·split
   ·simp
   ·rename_i c' rest h
    have h1:=congrArg List.length h
    simp at h1
    split
    ·simp;omega
    ·have:=ih rest (p+(digs l).length+1) (c+1) (by omega)
     simp;omega
theorem lparts_len (s:List UInt8):(lparts s).length≤s.length+1:=by
 unfold lparts
 split
 ·simp
 ·exact prts_len _ s 0 0 (Nat.le_refl _)
def zf (z:Int):List Value:=[.int .i64 z]
def ords (l:List Prt):List Int:=l.map fun p=>(p.ord:Int)
theorem lords_ok {s:List UInt8} (h:∀x ∈ lparts s,x.e=0):lords s=ords (lparts s):=by
 have:lvalid s=true:=by simpa [lvalid] using h
 rw [lords,if_pos this];rfl
theorem lords_bad {s:List UInt8} (h:∃x ∈ lparts s,x.e≠0):lords s=[]:=by
 have:lvalid s=false:=by simpa [lvalid] using h
 rw [lords,this];rfl
abbrev JOL (b2 b3:Nat) (pre:List Prt) (q:Option Addr×Nat):List HP:=[Pt b2 (.cells #[.slice none 0 0] 38),Pt b3 (.cells #[.slice q.1 pre.length q.2] 38),Row 3 1 q.1 pre.length q.2 ((ords pre).flatMap zf)]
def JO (b2 b3:Nat) (pre:List Prt):HP:=fun h=>∃q,(∀x ∈ pre,x.e=0)∧Sep (JOL b2 b3 pre q) h
def JOx (b2:Nat) (pre:List Prt):HP:=fun h=>(∃x ∈ pre,x.e≠0)∧Sep [Pt b2 (.cells #[.slice none 0 0] 38)] h
theorem XO (s:ByteArray) (hs:s.size≤1099511627776):Enters 112∧Spec prog 112 #[.string s] [] []
  ⟨Option Addr×Nat,fun q=>.slice q.1 (lords s.data.toList).length q.2,fun _=>True,fun q=>[Sl 3 zf q.1 q.2 (lords s.data.toList)],fun _=>[]⟩:=by
 have hlen:=lparts_len s.data.toList
 have hsz:s.data.toList.length=s.size:=by simp
 refine ⟨enters_of func112 (by kernel_rfl) rfl,spec_ofM (vs:=[_]) func112 rfl ntmps112 rfl fun G w hp=>?_⟩
 repeat' (first|refine ZC ?_|refine ZB ?_|refine ZD ?_|refine ZQ (fun b=>?_)|refine ZA (parts_ok _) (fun _ _=>?_)|fail)
 rename_i b2 q _
 generalize b=b3
 refine Zi (Lx:=[]) (r:=Row 3 1 none 0 0 []) (fun h _=>YV _ _ h) ?_
 refine Zi (Lx:=JOL b2 b3 [] (none,0)) (r:=JO b2 b3 []) (fun h hh=>⟨(none,0),fun x hx=>(by cases hx),hh⟩) ?_
 refine k_range (α:=Prt) (enc:=Prt.v) (xs:=lparts s.data.toList) (JO b2 b3) (JOx b2) (WP s q hs) ?_ ?_ ?_
 ·intro lr l pre e hpre G w0 hp0
  have hple:=hpre.length_le
  simp only [List.length_append,List.length_singleton] at hple
  refine XA (X:=Option Addr×Nat) (Lx:=fun q=>JOL b2 b3 pre q) (p:=fun _=>∀x ∈ pre,x.e=0) (r:=JO b2 b3 pre) (.there .here) (fun h hh=>hh) (fun q hall=>?_)
  repeat' (first|refine ZC ?_|refine ZB ?_|refine ZD ?_|refine ZS ?_|refine ZV ?_|refine ZQ (fun b=>?_)|refine YM (fun b=>?_)|refine k_beg ?_|refine XM (fun o' cap'=>?_)|refine ZH (fun hc=>?_) (fun hc=>?_)|fail)
  ·have he:e.e≠0:=by simpa using hc
   refine Zi (Lx:=[Pt b2 (.cells #[.slice none 0 0] 38)]) (r:=JOx b2 (pre++[e])) (fun h hh=>⟨⟨e,by simp,he⟩,hh⟩) ?_
   exact k_rr
  ·have he:e.e=0:=by simpa using hc
   have e1:pre.length+1=(pre++[e]).length:=by simp
   have e2:(ords pre).flatMap zf++#[Value.int .i64 (e.ord:Int)].toList=(ords (pre++[e])).flatMap zf:=by simp [ords,zf]
   rw [e1,e2]
   refine Zi (Lx:=JOL b2 b3 (pre++[e]) (o',cap')) (r:=JO b2 b3 (pre++[e])) (fun h hh=>⟨(o',cap'),fun x hx=>?_,hh⟩) ?_
   ·rcases List.mem_append.1 hx with hx|hx
    ·exact hall x hx
    ·simp at hx;subst hx;exact he
   exact k_rn
 ·intro D
  refine XA (X:=Option Addr×Nat) (Lx:=fun q=>JOL b2 b3 (lparts s.data.toList) q) (p:=fun _=>∀x ∈ lparts s.data.toList,x.e=0) (r:=JO b2 b3 (lparts s.data.toList)) .here (fun h hh=>hh) (fun q hall=>?_)
  dsimp only [JOL]
  rw [lords_ok hall,show (lparts s.data.toList).length=(ords (lparts s.data.toList)).length by simp [ords]]
  repeat' (first|refine ZB ?_|refine ZD ?_|refine ZS ?_|refine ZV ?_|fail)
  refine k_frz (sz:=1) (f:=zf) (o:=q.1) (cap:=q.2) (ords (lparts s.data.toList)) ?_ rfl rfl
  exact k_retM q rfl trivial
 ·intro D pre hpre
  refine w_open (X:=Unit) (Lx:=fun _=>[Pt b2 (.cells #[.slice none 0 0] 38)]) (p:=fun _=>∃x ∈ pre,x.e≠0) (r:=JOx b2 pre) .here (fun h hh=>⟨(),hh⟩) (fun q hq=>?_)
  obtain ⟨x,hx,he⟩:=hq
  rw [lords_bad ⟨x,hpre.subset hx,he⟩]
  refine w_add (sl_nil 3 zf) ?_
  exact w_retM (none,0) rfl trivial
theorem cmpSl_ok (o1 o2:Option Addr) (c1 c2:Nat) (e1 e2:List Int) (h1:e1.length≤1099511627776) (h2:e2.length≤1099511627776):Enters 214∧Spec prog 214 #[.slice o1 e1.length c1,.slice o2 e2.length c2]
  [Sl 3 zf o1 c1 e1,Sl 3 zf o2 c2 e2] [] (RetV (.int .i64 (cmpL e1 e2))):=by
 refine ZI [_,_] func214 ntmps214 fun G w hp=>?_
 repeat' (first|refine ZC ?_|refine ZB ?_|refine ZD ?_|fail)
 refine YF (X:={i:Nat // i≤e1.length∧i≤e2.length∧cmpL e1 e2=cmpL (e1.drop i) (e2.drop i)}) (fun i=>[(0,.slice o1 e1.length c1),(1,.slice o2 e2.length c2),(9,.slice o1 e1.length c1),(10,.int .i64 (e1.length:Int)),(11,.int .i64 (i.1:Int))]) (fun _=>[Sl 3 zf o1 c1 e1,Sl 3 zf o2 c2 e2]) (fun _=>[]) (fun i=>e1.length - i.1) ⟨0,by omega,by omega,rfl⟩ ⟨rfl,rfl,rfl,rfl,rfl,trivial⟩ ?_
 rintro ⟨i,hi1,hi2,hi3⟩
 dsimp only
 repeat' (first|refine ZC ?_|refine ZB ?_|refine ZD ?_|refine Zj ?_|refine ZA (cmp_int _ _) (fun _ _=>?_)|refine l_ix e1 i (by omega) (fun b off=>?_)|refine l_ix e2 i (by omega) (fun b off=>?_)|refine Zw ?_|(refine ZH (fun hc=>?_) (fun hc=>?_)<;>(try simp at hc))|fail)
 ·have d1:=List.drop_eq_getElem_cons (l:=e1) (i:=i) (by omega)
  have d2:e2.drop i=[]:=List.drop_eq_nil_of_le (by omega)
  have e:cmpL e1 e2=1:=by rw [hi3,d1,d2];rfl
  exact k_rt (w_lq (w_rv (congrArg (Value.int .i64) e) (Yv () rfl trivial)))
 ·have d1:=List.drop_eq_getElem_cons (l:=e1) (i:=i) (by omega)
  have d2:=List.drop_eq_getElem_cons (l:=e2) (i:=i) (by omega)
  have e:cmpL e1 e2=cmpI e1[i] e2[i]:=by rw [hi3,d1,d2,cmpL,if_pos hc]
  exact k_rt (w_lq (w_rv (congrArg (Value.int .i64) e) (Yv () rfl trivial)))
 ·have d1:=List.drop_eq_getElem_cons (l:=e1) (i:=i) (by omega)
  have d2:=List.drop_eq_getElem_cons (l:=e2) (i:=i) (by omega)
  rw [wrapi (z:=(i:Int)+1) (by omega) (by omega)]
  exact ZW ⟨i+1,by omega,by omega,by rw [hi3,d1,d2,cmpL,if_neg (by simp [hc])]⟩ (by show e1.length - (i+1)<e1.length - i;omega) ⟨rfl,rfl,rfl,rfl,rfl,trivial⟩
 ·have d1:e1.drop i=[]:=List.drop_eq_nil_of_le (by omega)
  have d2:=List.drop_eq_getElem_cons (l:=e2) (i:=i) (by omega)
  rw [hi3,d1,d2]
  exact ZG () rfl trivial
 ·have d1:e1.drop i=[]:=List.drop_eq_nil_of_le (by omega)
  have d2:e2.drop i=[]:=List.drop_eq_nil_of_le (by omega)
  rw [hi3,d1,d2]
  exact ZG () rfl trivial
theorem lords_len (s:List UInt8):(lords s).length≤s.length+1:=by
 unfold lords
 split
 ·simp;exact lparts_len s
 ·simp
theorem compareN_ok (a b:ByteArray) (ha:a.size≤1099511627770) (hb:b.size≤1099511627770):Enters 188∧Spec prog 188 #[.string a,.string b] [] [] (RetV (.int .i64 (cmpN a b))):=by
 have la:=lords_len a.data.toList
 have lb:=lords_len b.data.toList
 have sa:a.data.toList.length=a.size:=by simp
 have sb:b.data.toList.length=b.size:=by simp
 have va:=Ze a (by omega)
 have vb:=Ze b (by omega)
 have key:(a.toList == b.toList)=decide (a=b):=by
  rw [ZZ,ZZ,Bool.eq_iff_iff]
  simp only [beq_iff_eq,decide_eq_true_eq]
  exact ⟨XH,fun h=>by rw [h]⟩
 generalize hr:cmpN a b=r
 unfold cmpN at hr
 cases hva:lvalid a.data.toList<;>cases hvb:lvalid b.data.toList
 all_goals rw [hva] at va hr
 all_goals rw [hvb] at vb hr
 all_goals dsimp only at hr
 all_goals refine ZI [_,_] func188 ntmps188 fun G w hp=>?_
 all_goals repeat' (first|refine ZC ?_|refine ZB ?_|refine ZP ?_|refine ZD ?_|refine ZJ ?_|refine ZF ?_|refine ZA (va) (fun _ _=>?_)|refine ZA (vb) (fun _ _=>?_)|refine ZA (XO a (by omega)) (fun _ _=>?_)|refine ZA (XO b (by omega)) (fun _ _=>?_)|refine ZA (cmpSl_ok _ _ _ _ (lords a.data.toList) (lords b.data.toList) (by omega) (by omega)) (fun _ _=>?_)|refine ZA (cmp_lin _ _) (fun _ _=>?_)|refine ZH (fun hc=>?_) (fun hc=>?_)|fail)
 all_goals first|rw [key,decide_eq_true_eq] at hc|rw [key,decide_eq_false_iff_not] at hc
 all_goals first
  | (rw [if_pos hc] at hr;subst hr;exact ZG () rfl trivial)
  | (rw [if_neg hc] at hr;subst hr;exact ZG () rfl trivial)
abbrev Al:=List (Nm×ByteArray)
inductive Tr where
 | nil
 | node (l:Tr) (a:Nm) (v:ByteArray) (r:Tr)
namespace Tr
def ht:Tr→Nat
 | nil=>0
 | node l _ _ r=>1+max l.ht r.ht
def sz:Tr→Nat
 | nil=>0
 | node l _ _ r=>1+l.sz+r.sz
def by_:Tr→Nat
 | nil=>0
 | node l _ v r=>v.size+l.by_+r.by_
def els:Tr→Al
 | nil=>[]
 | node l a v r=>l.els++(a,v)::r.els
def bal (l:Tr) (a:Nm) (v:ByteArray) (r:Tr):Tr:=
 if r.ht+1<l.ht then
  match l with
  | nil=>node l a v r
  | node ll la lv lr=>
   if lr.ht≤ll.ht then node ll la lv (node lr a v r)
   else match lr with
    | nil=>node l a v r
    | node il ia iv ir=>node (node ll la lv il) ia iv (node ir a v r)
 else if l.ht+1<r.ht then
  match r with
  | nil=>node l a v r
  | node rl ra rv rr=>
   if rl.ht≤rr.ht then node (node l a v rl) ra rv rr
   else match rl with
    | nil=>node l a v r
    | node il ia iv ir=>node (node l a v il) ia iv (node ir ra rv rr)
 else node l a v r
def put (a:Nm) (v:ByteArray):Tr→Tr
 | nil=>node nil a v nil
 | node l b u r=>if cmpO a b<0 then bal (put a v l) b u r else if 0<cmpO a b then bal l b u (put a v r) else node l a v r
def find (a:Nm):Tr→Option ByteArray
 | nil=>none
 | node l b u r=>if cmpO a b=0 then some u else if cmpO a b<0 then find a l else find a r
theorem els_bal (l:Tr) (a:Nm) (v:ByteArray) (r:Tr):(bal l a v r).els=l.els++(a,v)::r.els:=by
 unfold bal
 split
 ·split
  ·rfl
  ·split
   ·simp [els]
   ·split
    ·simp [els]
    ·simp [els]
 ·split
  ·split
   ·rfl
   ·split
    ·simp [els]
    ·split
     ·simp [els]
     ·simp [els]
  ·rfl
theorem sz_els (t:Tr):t.sz=t.els.length:=by
 induction t with
 | nil=>rfl
 | node l a v r hl hr=>simp [sz,els,hl,hr];omega
def ab (l:Al):Nat:=(l.map fun x=>x.2.size).sum
theorem by_els (t:Tr):t.by_=ab t.els:=by
 induction t with
 | nil=>rfl
 | node l a v r hl hr=>simp [by_,els,hl,hr,ab];omega
end Tr
def Srt (l:Al):Prop:=l.Pairwise fun x y=>cmpO x.1 y.1<0
def insO (a:Nm) (v:ByteArray):Al→Al
 | []=>[(a,v)]
 | (b,u)::l=>if cmpO a b<0 then (a,v)::(b,u)::l else if 0<cmpO a b then (b,u)::insO a v l else (a,v)::l
def getO (a:Nm):Al→Option ByteArray
 | []=>none
 | (b,u)::l=>if cmpO a b=0 then some u else getO a l
theorem Yi (a b:Nm):cmpO a b<0↔0<cmpO b a:=ord_obj.anti a b
theorem cmpO_eq (a b:Nm):cmpO a b=0↔a=b:=ord_obj.eq a b
theorem Xm {a b c:Nm} (h:cmpO a b<0) (k:cmpO b c<0):cmpO a c<0:=ord_obj.trans a b c h k
theorem insO_lt (a:Nm) (v:ByteArray) (b:Nm) (u:ByteArray) (ys:Al):∀xs:Al,(∀x ∈ xs,cmpO x.1 b<0)→cmpO a b<0→insO a v (xs++(b,u)::ys)=insO a v xs++(b,u)::ys
 | [],_,h=>by simp [insO,h]
 | (c,w)::xs,hx,h=>by
  have ih:=insO_lt a v b u ys xs (fun x hx'=>hx x (List.mem_cons_of_mem _ hx')) h
  simp only [List.cons_append,insO,ih]
  split
  ·simp
  ·split<;>simp
theorem insO_gt (a:Nm) (v:ByteArray) (b:Nm) (u:ByteArray) (ys:Al):∀xs:Al,(∀x ∈ xs,cmpO x.1 b<0)→0<cmpO a b→insO a v (xs++(b,u)::ys)=xs++(b,u)::insO a v ys
 | [],_,h=>by
  have h1:¬cmpO a b<0:=by omega
  simp [insO,h,h1]
 | (c,w)::xs,hx,h=>by
  have ih:=insO_gt a v b u ys xs (fun x hx'=>hx x (List.mem_cons_of_mem _ hx')) h
  have h0:cmpO c b<0:=hx (c,w) (by simp)
  have h1:cmpO c a<0:=Xm h0 ((Yi b a).2 h)
  have h2:0<cmpO a c:=(Yi c a).1 h1
  have h3:¬cmpO a c<0:=by omega
  simp only [List.cons_append,insO,ih,h2,h3,if_true,if_false]
theorem insO_eq (a:Nm) (v:ByteArray) (b:Nm) (u:ByteArray) (ys:Al):∀xs:Al,(∀x ∈ xs,cmpO x.1 b<0)→cmpO a b=0→insO a v (xs++(b,u)::ys)=xs++(a,v)::ys
 | [],_,h=>by simp [insO,h]
 | (c,w)::xs,hx,h=>by
  have ih:=insO_eq a v b u ys xs (fun x hx'=>hx x (List.mem_cons_of_mem _ hx')) h
  obtain rfl:=(cmpO_eq a b).1 h
  have h0:cmpO c a<0:=hx (c,w) (by simp)
  have h2:0<cmpO a c:=(Yi c a).1 h0
  have h3:¬cmpO a c<0:=by omega
  simp only [List.cons_append,insO,ih,h2,h3,if_true,if_false]
theorem srt_split {xs ys:Al} {b:Nm} {u:ByteArray} (h:Srt (xs++(b,u)::ys)):Srt xs∧Srt ys∧(∀x ∈ xs,cmpO x.1 b<0)∧∀y ∈ ys,cmpO b y.1<0:=by
 unfold Srt at *
 rw [List.pairwise_append,List.pairwise_cons] at h
 exact ⟨h.1,h.2.1.2,fun x hx=>h.2.2 x hx (b,u) (by simp),fun y hy=>h.2.1.1 y hy⟩
theorem els_put (a:Nm) (v:ByteArray):∀t:Tr,Srt t.els→(Tr.put a v t).els=insO a v t.els
 | .nil,_=>rfl
 | .node l b u r,h=>by
  obtain ⟨h1,h2,h3,h4⟩:=srt_split h
  have il:=els_put a v l h1
  have ir:=els_put a v r h2
  unfold Tr.put
  split
  ·rename_i hc
   rw [Tr.els_bal,il]
   exact (insO_lt a v b u _ _ h3 hc).symm
  ·split
   ·rename_i hc
    rw [Tr.els_bal,ir]
    exact (insO_gt a v b u _ _ h3 hc).symm
   ·exact (insO_eq a v b u _ _ h3 (by omega)).symm
theorem WK (a:Nm):∀xs ys:Al,getO a (xs++ys)=(getO a xs).or (getO a ys)
 | [],_=>by simp [getO]
 | (b,u)::xs,ys=>by
  simp only [List.cons_append,getO,WK a xs ys]
  split<;>simp
theorem Xc {a:Nm}:∀{xs:Al},(∀x ∈ xs,cmpO a x.1≠0)→getO a xs=none
 | [],_=>rfl
 | (b,u)::xs,h=>by
  rw [getO,if_neg (h (b,u) (by simp))]
  exact Xc fun x hx=>h x (by simp [hx])
theorem find_els (a:Nm):∀t:Tr,Srt t.els→Tr.find a t=getO a t.els
 | .nil,_=>rfl
 | .node l b u r,h=>by
  obtain ⟨h1,h2,h3,h4⟩:=srt_split h
  have il:=find_els a l h1
  have ir:=find_els a r h2
  unfold Tr.find Tr.els
  rw [WK,getO]
  by_cases h0:cmpO a b=0
  ·rw [if_pos h0,if_pos h0]
   obtain rfl:=(cmpO_eq a b).1 h0
   rw [Xc fun x hx=>by
    have:=(Yi _ _).1 (h3 x hx)
    omega]
   rfl
  ·rw [if_neg h0,if_neg h0]
   by_cases hl:cmpO a b<0
   ·rw [if_pos hl,il]
    rw [Xc (xs:=r.els) fun y hy=>by
     have:=Xm hl (h4 y hy)
     omega]
    simp
   ·rw [if_neg hl,ir]
    rw [Xc (xs:=l.els) fun x hx=>by
     have h5:cmpO b a<0:=(Yi b a).2 (by omega)
     have h6:=Xm (h3 x hx) h5
     have:=(Yi _ _).1 h6
     omega]
    simp
theorem row_pt {T sz m b:Nat} {cs:Array Value} (hm:cs.size=m * sz) (h:H) (hb:Sep [Pt b (.cells cs T)] h):Row T sz (some ⟨b,0,none⟩) m m cs.toList h:=by
 obtain ⟨h1,h2,_,s1,_,hx,_⟩:=hb
 refine .inr ⟨b,[],(0,0),rfl,?_,by simpa using hm,by simpa using hm,Nat.le_refl _,.inl rfl⟩
 simpa using s1 _ _ hx
def or0:List Int→Int
 | []=>0
 | x::l=>if x≠0 then x else or0 l
theorem or_ok (o:Option Addr) (c:Nat) (es:List Int) (h1:es.length≤1099511627776):Spec prog 189 #[.slice o es.length c] [Sl 3 zf o c es] [] (RetV (.int .i64 (or0 es))):=by
 refine (show Enters 189∧Spec prog 189 #[.slice o es.length c] [Sl 3 zf o c es] [] (RetV (.int .i64 (or0 es))) from ?_).2
 refine ZI [_] func189 ntmps189 fun G w hp=>?_
 repeat' (first|refine ZC ?_|refine ZB ?_|refine ZD ?_|fail)
 refine YF (X:={i:Nat // i≤es.length∧or0 es=or0 (es.drop i)}) (fun i=>[(3,.int .i64 0),(6,.slice o es.length c),(7,.int .i64 (es.length:Int)),(8,.int .i64 (i.1:Int))]) (fun _=>[Sl 3 zf o c es]) (fun _=>[]) (fun i=>es.length - i.1) ⟨0,by omega,rfl⟩ ⟨rfl,rfl,rfl,rfl,trivial⟩ ?_
 rintro ⟨i,hi1,hi3⟩
 dsimp only
 repeat' (first|refine ZC ?_|refine ZB ?_|refine ZD ?_|refine Zj ?_|refine l_ix es i (by omega) (fun b off=>?_)|refine Zw ?_|(refine ZH (fun hc=>?_) (fun hc=>?_)<;>(try simp at hc))|fail)
 ·have d1:=List.drop_eq_getElem_cons (l:=es) (i:=i) (by omega)
  have e:or0 es=es[i]:=by rw [hi3,d1,or0,if_pos hc]
  exact k_rt (w_lq (w_rv (congrArg (Value.int .i64) e) (Yv () rfl trivial)))
 ·have d1:=List.drop_eq_getElem_cons (l:=es) (i:=i) (by omega)
  rw [wrapi (z:=(i:Int)+1) (by omega) (by omega)]
  exact ZW ⟨i+1,by omega,by rw [hi3,d1,or0,if_neg (by simp [hc])]⟩ (by show es.length - (i+1)<es.length - i;omega) ⟨rfl,rfl,rfl,rfl,trivial⟩
 ·have d1:es.drop i=[]:=List.drop_eq_nil_of_le (by omega)
  rw [hi3,d1]
  exact ZG () rfl trivial
theorem or3_ok (b:Nat) (x y z:Int):Enters 189∧Spec prog 189 #[.slice (some ⟨b,0,none⟩) 3 3] [] [Pt b (.cells #[.int .i64 x,.int .i64 y,.int .i64 z] 3)] (RetV (.int .i64 (or0 [x,y,z]))):=by
 refine ⟨enters_of func189 (by kernel_rfl) rfl,fun G w hp hs=>?_⟩
 have h1:=(hs.shut (R:=[]) (L:=[Pt b (.cells #[.int .i64 x,.int .i64 y,.int .i64 z] 3)]) (x:=Row 3 1 (some ⟨b,0,none⟩) 3 3 [.int .i64 x,.int .i64 y,.int .i64 z]) fun h hh=>row_pt rfl h hh)
 have h2:=frz_row (f:=zf) (es:=[x,y,z]) rfl rfl Sel.here h1
 exact YX (or_ok (some ⟨b,0,none⟩) 3 [x,y,z] (by simp)) h2 .nil (fun hp hF f hf=>by simp at hf;subst hf;exact hF _ (by simp)) fun x w' hx h3=>⟨x,rfl,hx,h3.facts (F':=[]) (fun _ _ _ h=>by cases h)⟩
theorem compareO_ok (a a':Nm) (ha:a.owner.size≤1099511627770) (hb:a'.owner.size≤1099511627770):Enters 155∧Spec prog 155 #[a.v,a'.v] [] [] (RetV (.int .i64 (cmpO a a'))):=by
 generalize hr:cmpO a a'=r
 unfold cmpO at hr
 refine ZI [_,_] func155 ntmps155 fun G w hp=>?_
 repeat' (first|refine ZC ?_|refine ZB ?_|refine ZD ?_|refine ZS ?_|refine ZQ (fun b=>?_)|refine Zq ?_|refine Ym ?_|refine r_bs (fun b=>?_)|refine Zp ?_|refine ZA (cmp_int _ _) (fun _ _=>?_)|refine ZY (cmp_int _ _) (fun _ _=>?_)|refine ZA (compareN_ok a.owner a'.owner ha hb) (fun _ _=>?_)|refine ZY (cmp_str _ _) (fun _ _=>?_)|refine ZY (or3_ok _ _ _ _) (fun _ _=>?_)|refine Za 7 [] [(0,0),(1,0),(2,0),(3,0),(5,0),(6,0),(7,0),(8,0),(10,0),(11,0),(12,0),(13,0),(4,4),(9,4),(14,4),(15,1),(16,4),(17,0)] [] ?_|(refine ZH (fun hc=>?_) (fun hc=>?_)<;>(try simp at hc))|fail)
 ·rw [if_pos hc] at hr;subst hr;exact ZG () rfl trivial
 ·rename_i h _ _
  rw [if_neg (by simp [h]),if_pos hc] at hr;subst hr;exact ZG () rfl trivial
 ·rename_i h _ _ _ _ _ _ _ _ _ _ _
  rw [if_neg (by simp_all),if_neg (by simp_all)] at hr
  have e:r=or0 [cmpI a.number a'.number,cmpI a.index a'.index,cmpS a.text a'.text]:=by
   rw [←hr]
   simp only [or0]
   split
   ·rfl
   ·split
    ·rfl
    ·split
     ·rfl
     ·omega
  subst e
  exact ZG () rfl trivial
structure Usage where
 word:ByteArray
 owner:Bool
 number:Bool
 index:Bool
 text:Bool
 most:Int
 deriving Inhabited
def uf (u:Usage):List Value:=[.string u.word,.bool u.owner,.bool u.number,.bool u.index,.bool u.text,.int .i64 u.most]
def usages:List Usage:=[
 ⟨⟨#[]⟩,false,false,false,false,0⟩,
 ⟨⟨#[112,114,111,99,101,115,115]⟩,true,false,false,false,0⟩,
 ⟨⟨#[114,101,103,105,115,116,101,114,115]⟩,true,false,false,false,0⟩,
 ⟨⟨#[112,97,103,101]⟩,true,false,true,false,63⟩,
 ⟨⟨#[116,97,98,108,101]⟩,true,false,false,false,0⟩,
 ⟨⟨#[99,111,117,110,116,101,114]⟩,true,false,false,false,0⟩,
 ⟨⟨#[112,101,110,100,105,110,103]⟩,true,false,false,false,0⟩,
 ⟨⟨#[110,111,100,101]⟩,true,true,false,false,0⟩,
 ⟨⟨#[98,108,111,99,107]⟩,true,true,true,false,63⟩,
 ⟨⟨#[101,110,116,114,121]⟩,true,true,false,true,0⟩,
 ⟨⟨#[108,105,115,116,105,110,103]⟩,true,true,false,false,0⟩,
 ⟨⟨#[112,105,112,101]⟩,true,true,false,false,0⟩,
 ⟨⟨#[108,111,99,107]⟩,true,true,false,false,0⟩,
 ⟨⟨#[116,101,114,109,105,110,97,108]⟩,false,true,false,false,0⟩,
 ⟨⟨#[97,99,99,111,117,110,116]⟩,false,false,false,true,0⟩,
 ⟨⟨#[99,108,111,99,107]⟩,false,false,false,false,0⟩,
 ⟨⟨#[112,111,114,116]⟩,false,true,false,false,0⟩,
 ⟨⟨#[98,111,120]⟩,false,false,false,true,0⟩,
 ⟨⟨#[111,117,116]⟩,true,true,true,false,1073741824⟩,
 ⟨⟨#[115,104,101,108,108]⟩,true,false,false,false,0⟩,
 ⟨⟨#[101,112,111,99,104]⟩,false,false,false,false,0⟩]
def Usg:Pf:=⟨fun h=>∃T fz,h 0=some (.cells (usages.flatMap uf).toArray T fz),fun _ _ s ⟨T,fz,h⟩=>⟨T,fz,s _ _ h⟩⟩
section
variable {l:List Oper}
theorem run_indexArr {T sz m i b:Nat} {w:World} {rs tr:TRow} (hts:lookT tab t=some rs) (hrs:rs.k = .arr m T) (hT:lookT tab T=some tr) (hsz:tr.size=sz) {z:Int} (hz:z=(i:Int)) (hi:i<m) :
  (Instr.indexAt t (.pointer (some ⟨b,0,none⟩)) (.int .i64 z)).run prog w = .ok (.pointer (some ⟨b,i * sz,none⟩)) w:=by
 obtain ⟨d1,hd1,hk1⟩:=ZU.und hts
 rw [hrs] at hk1
 have hu1:(underlying t).run prog w = .ok (.array m T) w:=by
  cases d1<;>simp [chkKind] at hk1
  obtain ⟨rfl,rfl⟩:=hk1
  simp [underlying,hd1,go_sem]
 have hs1:=ZU.sizeOf hT w
 rw [hsz] at hs1
 subst hz
 unfold Instr.indexAt
 simp only [asIntOf,Sem.run_bind,Sem.run_pure,Result.andThen,hu1,Instr.sureAddr]
 have hc:(0:Int)≤(i:Int)∧(i:Int)<((m:Nat):Int):=⟨by omega,by omega⟩
 rw [if_pos hc]
 simp only [Sem.run_bind,hs1,Result.andThen,Sem.run_pure,Int.toNat_natCast]
 rw [YH rfl,Nat.zero_add]
theorem l_usg {m T:Nat} {z:Int} {rs tr:TRow} (i:Nat) (hlt:i<usages.length)
  (nx:∀T' o,o=i * 6→Wl n C ops.toArray k Q l ((d,.pointer (some ⟨0,o,none⟩))::E) (Cel T' 0 o (uf usages[i])::F) R)
  (hw:wantL ops E ⟨some d,.indexAddr t x y,ty0,pos,aft,gd⟩=some true:=by rfl) (hn:Nat.blt d n=true:=by rfl) (hx:ev E x=some (.pointer (some ⟨0,0,none⟩)):=by rfl) (hy:ev E y=some (.int .i64 z):=by rfl)
  (hs:Sel Usg F F0:=by (repeat (first|exact Sel.here|apply Sel.there));first|done|fail) (hts:lookT tab t=some rs:=by rfl) (hrs:rs.k = .arr m T:=by rfl) (hT:lookT tab T=some tr:=by rfl) (hsz:tr.size=6:=by rfl) (hm:m=usages.length:=by rfl)
  (hz:z=(i:Int):=by first|rfl|omega):Wl n C ops.toArray k Q (⟨some d,.indexAddr t x y,ty0,pos,aft,gd⟩::l) E F R:=
 Zn (fun t ht=>by cases ht;exact Nat.le_of_ble_eq_true hn) (fun c hc=>by cases hc) hw fun a w ha hsat=>by
  obtain ⟨hp,hr,st⟩:=hsat
  obtain ⟨T',fz,h1⟩:=st.f _ hs.mem
  have hr1:=run_indexArr (w:=w) (b:=0) hts hrs hT hsz hz (by rw [hm];exact hlt)
  unfold OpRes
  simp only [execOp,ha.ev (x:=x) (by rw [ZE];exact hx),ha.ev (x:=y) (by rw [ZE];exact hy),Sem.run_bind,Result.andThen,hr1,Sem.run_pure]
  have hc:(Cel T' 0 (i * 6) (uf usages[i])).p hp:=by
   refine ⟨_,(T',fz),(usages.take i).flatMap uf,(usages.drop (i+1)).flatMap uf,h1,?_,?_⟩
   ·simpa using Yq (f:=uf) (List.getElem?_eq_getElem hlt)
   ·rw [YJ (sz:=6) (fun _=>rfl)]
    simp;omega
  exact fun a' ha'=>nx T' _ rfl a' w ha' (Yz st hc)
end
def isE (s:ByteArray):Bool:=s.toList == ByteArray.toList ⟨#[]⟩
def badc (c:UInt8):Bool:=decide ((c.toNat:Int)<33) || (decide ((126:Int)<c.toNat) || ((c.toNat:Int) == 47))
def oword (s:ByteArray):Bool:=!isE s && decide (s.size≤32) && s.data.toList.all fun c=>!badc c
def within (x m:Int):Bool:=decide (0≤x) && decide (x≤m)
def uchk (u:Usage) (a:Nm):Int:=
 if (!u.owner && !isE a.owner) || (!u.number && a.number != 0) || (!u.index && a.index != 0) || (!u.text && !isE a.text) then 1
 else if u.owner && !lvalid a.owner.data.toList then 12
 else if (u.number && !within a.number 1073741824) || (u.index && !within a.index u.most) then 2
 else if u.text && !oword a.text then 12
 else 0
def nchk (a:Nm):Int:=if 1≤a.kind∧a.kind≤20 then uchk (usages.getD a.kind.toNat default) a else 11
theorem Yw (s:ByteArray) (hs:s.size≤1099511627776):Enters 148∧Spec prog 148 #[.string s] [] [] (RetV (.bool (oword s))):=by
 have hsz:s.data.toList.length=s.size:=by simp
 generalize hr:oword s=r
 unfold oword at hr
 refine ZI [_] func148 ntmps148 fun G w hp=>?_
 repeat' (first|refine ZC ?_|refine ZB ?_|refine ZP ?_|refine ZD ?_|refine ZJ ?_|refine ZM (fun hc=>?_) (fun hc=>?_)|refine ZH (fun hc=>?_) (fun hc=>?_)|fail)
 ·have hc:isE s=true:=hc
  rw [hc] at hr;simp at hr;subst hr
  exact ZG () rfl trivial
 ·rename_i h1
  have h1:isE s=false:=h1
  have h2:¬s.size≤32:=by simp at hc;omega
  rw [h1,decide_eq_false h2] at hr;simp at hr;subst hr
  exact ZG () rfl trivial
 rename_i h1
 have h1:isE s=false:=h1
 have h2:s.size≤32:=by simp at hc;omega
 rw [h1,decide_eq_true h2] at hr;simp only [Bool.not_false,Bool.and_self,Bool.true_and] at hr
 refine YF (X:={i:Nat // i≤s.size∧∀j,j<i→∀c,s.data.toList[j]? = some c→badc c=false}) (fun i=>[(0,.string s),(12,.int .i64 (s.size:Int)),(13,.int .i64 (i.1:Int))]) (fun _=>[]) (fun _=>[]) (fun i=>s.size - i.1) ⟨0,by omega,fun j hj=>by omega⟩ ⟨rfl,rfl,rfl,trivial⟩ ?_
 rintro ⟨i,hi1,hi2⟩
 dsimp only
 by_cases hlt:i<s.data.toList.length
 ·obtain ⟨c,hcc⟩:∃c,s.data.toList[i]? = some c:=⟨_,List.getElem?_eq_getElem hlt⟩
  have bad:badc c=true→r=false:=fun hb=>by
   rw [←hr,List.all_eq_false]
   exact ⟨c,List.mem_of_getElem? hcc,by simp [hb]⟩
  repeat' (first|refine ZC ?_|refine ZB ?_|refine ZP ?_|refine ZD ?_|refine ZJ ?_|refine l_six (s:=s) i c hcc ?_|(refine ZM (fun hc=>?_) (fun hc=>?_)<;>(try simp at hc)<;>(try omega))|(refine ZH (fun hc=>?_) (fun hc=>?_)<;>(try simp at hc)<;>(try omega))|fail)
  all_goals try (
   have e:=bad (by simp [badc];omega)
   exact k_rt (w_lq (w_rv (congrArg Value.bool e) (Yv () rfl trivial))))
  rw [wrapi (z:=(i:Int)+1) (by omega) (by omega)]
  refine ZW ⟨i+1,by omega,fun j hj c' hc'=>?_⟩ (by show s.size - (i+1)<s.size - i;omega) ⟨rfl,rfl,rfl,trivial⟩
  by_cases hij:j=i
  ·subst hij
   obtain rfl:=Option.some.inj (hcc.symm.trans hc')
   simp [badc];omega
  ·exact hi2 j (by omega) c' hc'
 ·have e:r=true:=by
   rw [←hr,List.all_eq_true]
   intro c hc
   obtain ⟨j,hj,rfl⟩:=List.mem_iff_getElem.1 hc
   rw [hi2 j (by omega) _ (List.getElem?_eq_getElem hj)];rfl
  repeat' (first|refine ZC ?_|refine ZB ?_|refine ZD ?_|refine Zj ?_|(refine ZH (fun hc=>?_) (fun hc=>?_)<;>(try simp at hc)<;>(try omega))|fail)
  subst e
  exact ZG () rfl trivial
end Go.Proofs.YtgfohjbcccfolaaGreatDoor
set_option maxRecDepth 10000
set_option maxHeartbeats 4000000
namespace Go.Proofs.YtgfohjbcccfolaaGreatDoor
open Go.Proofs.Tryz
open Go.RowKit
theorem klt {a:Nm} (hk:1≤a.kind∧a.kind≤20):a.kind.toNat<usages.length:=by show a.kind.toNat<21;omega
theorem chk_TFFF (a:Nm) (ha:a.owner.size≤1099511627776) (ht:a.text.size≤1099511627776) (hk:1≤a.kind∧a.kind≤20) (uw:ByteArray) (um:Int) (hu:usages[a.kind.toNat]'(klt hk)=⟨uw,true,false,false,false,um⟩) :
  Enters 97∧Spec prog 97 #[a.v] [Usg] [] (RetV (.int .i64 (uchk ⟨uw,true,false,false,false,um⟩ a))):=by
 have v1:=Ze a.owner ha
 have v2:=Yw a.text ht
 have v3:=Z1 a.kind
 have e3:(decide (1≤a.kind) && decide (a.kind≤20))=true:=by simp [hk]
 rw [e3] at v3
 generalize hr:uchk ⟨uw,true,false,false,false,um⟩ a=r
 unfold uchk at hr
 simp only [Bool.not_false,Bool.not_true,Bool.true_and,Bool.false_and,Bool.or_false,Bool.false_or] at hr
 refine ZI [_] func97 ntmps97 fun G w hp=>?_
 repeat' (first|refine ZC ?_|refine ZB ?_|refine ZD ?_|refine ZS ?_|refine ZQ (fun b=>?_)|refine ZF ?_|refine ZA (v3) (fun _ _=>?_)|fail)
 refine l_usg a.kind.toNat (klt hk) (fun T' o ho=>?_)
 rw [hu]
 repeat' (first|refine ZC ?_|refine ZB ?_|refine ZP ?_|refine ZD ?_|refine ZS ?_|refine ZV ?_|refine ZQ (fun b=>?_)|refine ZF ?_|refine ZA (v1) (fun _ _=>?_)|refine Zw ?_|refine ZH (fun hc=>?_) (fun hc=>?_)|fail)
 all_goals (refine ZG () ?_ trivial;rw [←hr];clear hr v1 v2 v3 hu hk e3;simp only [cond_true,Bool.not_false] at *;simp_all [isE,resV,RetV])
theorem chk_TFTF (a:Nm) (ha:a.owner.size≤1099511627776) (ht:a.text.size≤1099511627776) (hk:1≤a.kind∧a.kind≤20) (uw:ByteArray) (um:Int) (hu:usages[a.kind.toNat]'(klt hk)=⟨uw,true,false,true,false,um⟩) :
  Enters 97∧Spec prog 97 #[a.v] [Usg] [] (RetV (.int .i64 (uchk ⟨uw,true,false,true,false,um⟩ a))):=by
 have v1:=Ze a.owner ha
 have v2:=Yw a.text ht
 have v3:=Z1 a.kind
 have e3:(decide (1≤a.kind) && decide (a.kind≤20))=true:=by simp [hk]
 rw [e3] at v3
 generalize hr:uchk ⟨uw,true,false,true,false,um⟩ a=r
 unfold uchk at hr
 simp only [Bool.not_false,Bool.not_true,Bool.true_and,Bool.false_and,Bool.or_false,Bool.false_or] at hr
 refine ZI [_] func97 ntmps97 fun G w hp=>?_
 repeat' (first|refine ZC ?_|refine ZB ?_|refine ZD ?_|refine ZS ?_|refine ZQ (fun b=>?_)|refine ZF ?_|refine ZA (v3) (fun _ _=>?_)|fail)
 refine l_usg a.kind.toNat (klt hk) (fun T' o ho=>?_)
 rw [hu]
 repeat' (first|refine ZC ?_|refine ZB ?_|refine ZP ?_|refine ZD ?_|refine ZS ?_|refine ZV ?_|refine ZQ (fun b=>?_)|refine ZF ?_|refine ZA (v1) (fun _ _=>?_)|refine ZA (Yj _ _) (fun _ _=>?_)|refine Zw ?_|refine ZH (fun hc=>?_) (fun hc=>?_)|fail)
 all_goals (refine ZG () ?_ trivial;rw [←hr];clear hr v1 v2 v3 hu hk e3;simp only [cond_true,Bool.not_false] at *;simp_all [isE,within,resV,RetV])
theorem chk_TTFF (a:Nm) (ha:a.owner.size≤1099511627776) (ht:a.text.size≤1099511627776) (hk:1≤a.kind∧a.kind≤20) (uw:ByteArray) (um:Int) (hu:usages[a.kind.toNat]'(klt hk)=⟨uw,true,true,false,false,um⟩) :
  Enters 97∧Spec prog 97 #[a.v] [Usg] [] (RetV (.int .i64 (uchk ⟨uw,true,true,false,false,um⟩ a))):=by
 have v1:=Ze a.owner ha
 have v2:=Yw a.text ht
 have v3:=Z1 a.kind
 have e3:(decide (1≤a.kind) && decide (a.kind≤20))=true:=by simp [hk]
 rw [e3] at v3
 generalize hr:uchk ⟨uw,true,true,false,false,um⟩ a=r
 unfold uchk at hr
 simp only [Bool.not_false,Bool.not_true,Bool.true_and,Bool.false_and,Bool.or_false,Bool.false_or] at hr
 refine ZI [_] func97 ntmps97 fun G w hp=>?_
 repeat' (first|refine ZC ?_|refine ZB ?_|refine ZD ?_|refine ZS ?_|refine ZQ (fun b=>?_)|refine ZF ?_|refine ZA (v3) (fun _ _=>?_)|fail)
 refine l_usg a.kind.toNat (klt hk) (fun T' o ho=>?_)
 rw [hu]
 repeat' (first|refine ZC ?_|refine ZB ?_|refine ZP ?_|refine ZD ?_|refine ZS ?_|refine ZV ?_|refine ZQ (fun b=>?_)|refine ZF ?_|refine ZA (v1) (fun _ _=>?_)|refine ZA (Yj _ _) (fun _ _=>?_)|refine Zw ?_|refine ZH (fun hc=>?_) (fun hc=>?_)|fail)
 all_goals (refine ZG () ?_ trivial;rw [←hr];clear hr v1 v2 v3 hu hk e3;simp only [cond_true,Bool.not_false] at *;simp_all [isE,within,resV,RetV])
theorem chk_TTTF (a:Nm) (ha:a.owner.size≤1099511627776) (ht:a.text.size≤1099511627776) (hk:1≤a.kind∧a.kind≤20) (uw:ByteArray) (um:Int) (hu:usages[a.kind.toNat]'(klt hk)=⟨uw,true,true,true,false,um⟩) :
  Enters 97∧Spec prog 97 #[a.v] [Usg] [] (RetV (.int .i64 (uchk ⟨uw,true,true,true,false,um⟩ a))):=by
 have v1:=Ze a.owner ha
 have v2:=Yw a.text ht
 have v3:=Z1 a.kind
 have e3:(decide (1≤a.kind) && decide (a.kind≤20))=true:=by simp [hk]
 rw [e3] at v3
 generalize hr:uchk ⟨uw,true,true,true,false,um⟩ a=r
 unfold uchk at hr
 simp only [Bool.not_false,Bool.not_true,Bool.true_and,Bool.false_and,Bool.or_false,Bool.false_or] at hr
 refine ZI [_] func97 ntmps97 fun G w hp=>?_
 repeat' (first|refine ZC ?_|refine ZB ?_|refine ZD ?_|refine ZS ?_|refine ZQ (fun b=>?_)|refine ZF ?_|refine ZA (v3) (fun _ _=>?_)|fail)
 refine l_usg a.kind.toNat (klt hk) (fun T' o ho=>?_)
 rw [hu]
 repeat' (first|refine ZC ?_|refine ZB ?_|refine ZP ?_|refine ZD ?_|refine ZS ?_|refine ZV ?_|refine ZQ (fun b=>?_)|refine ZF ?_|refine ZA (v1) (fun _ _=>?_)|refine ZA (Yj _ _) (fun _ _=>?_)|refine Zw ?_|refine ZH (fun hc=>?_) (fun hc=>?_)|fail)
 all_goals (refine ZG () ?_ trivial;rw [←hr];clear hr v1 v2 v3 hu hk e3;simp only [cond_true,Bool.not_false] at *;simp_all [isE,within,resV,RetV])
theorem chk_TTFT (a:Nm) (ha:a.owner.size≤1099511627776) (ht:a.text.size≤1099511627776) (hk:1≤a.kind∧a.kind≤20) (uw:ByteArray) (um:Int) (hu:usages[a.kind.toNat]'(klt hk)=⟨uw,true,true,false,true,um⟩) :
  Enters 97∧Spec prog 97 #[a.v] [Usg] [] (RetV (.int .i64 (uchk ⟨uw,true,true,false,true,um⟩ a))):=by
 have v1:=Ze a.owner ha
 have v2:=Yw a.text ht
 have v3:=Z1 a.kind
 have e3:(decide (1≤a.kind) && decide (a.kind≤20))=true:=by simp [hk]
 rw [e3] at v3
 generalize hr:uchk ⟨uw,true,true,false,true,um⟩ a=r
 unfold uchk at hr
 simp only [Bool.not_false,Bool.not_true,Bool.true_and,Bool.false_and,Bool.or_false,Bool.false_or] at hr
 refine ZI [_] func97 ntmps97 fun G w hp=>?_
 repeat' (first|refine ZC ?_|refine ZB ?_|refine ZD ?_|refine ZS ?_|refine ZQ (fun b=>?_)|refine ZF ?_|refine ZA (v3) (fun _ _=>?_)|fail)
 refine l_usg a.kind.toNat (klt hk) (fun T' o ho=>?_)
 rw [hu]
 repeat' (first|refine ZC ?_|refine ZB ?_|refine ZP ?_|refine ZD ?_|refine ZS ?_|refine ZV ?_|refine ZQ (fun b=>?_)|refine ZF ?_|refine ZA (v1) (fun _ _=>?_)|refine ZA (v2) (fun _ _=>?_)|refine ZA (Yj _ _) (fun _ _=>?_)|refine Zw ?_|refine ZH (fun hc=>?_) (fun hc=>?_)|fail)
 all_goals (refine ZG () ?_ trivial;rw [←hr];clear hr v1 v2 v3 hu hk e3;simp only [cond_true,Bool.not_false] at *;simp_all [within,resV,RetV])
theorem chk_FTFF (a:Nm) (ha:a.owner.size≤1099511627776) (ht:a.text.size≤1099511627776) (hk:1≤a.kind∧a.kind≤20) (uw:ByteArray) (um:Int) (hu:usages[a.kind.toNat]'(klt hk)=⟨uw,false,true,false,false,um⟩) :
  Enters 97∧Spec prog 97 #[a.v] [Usg] [] (RetV (.int .i64 (uchk ⟨uw,false,true,false,false,um⟩ a))):=by
 have v1:=Ze a.owner ha
 have v2:=Yw a.text ht
 have v3:=Z1 a.kind
 have e3:(decide (1≤a.kind) && decide (a.kind≤20))=true:=by simp [hk]
 rw [e3] at v3
 generalize hr:uchk ⟨uw,false,true,false,false,um⟩ a=r
 unfold uchk at hr
 simp only [Bool.not_false,Bool.not_true,Bool.true_and,Bool.false_and,Bool.or_false] at hr
 refine ZI [_] func97 ntmps97 fun G w hp=>?_
 repeat' (first|refine ZC ?_|refine ZB ?_|refine ZD ?_|refine ZS ?_|refine ZQ (fun b=>?_)|refine ZF ?_|refine ZA (v3) (fun _ _=>?_)|fail)
 refine l_usg a.kind.toNat (klt hk) (fun T' o ho=>?_)
 rw [hu]
 repeat' (first|refine ZC ?_|refine ZB ?_|refine ZP ?_|refine ZD ?_|refine ZS ?_|refine ZV ?_|refine ZQ (fun b=>?_)|refine ZF ?_|refine ZA (Yj _ _) (fun _ _=>?_)|refine Zw ?_|refine ZH (fun hc=>?_) (fun hc=>?_)|fail)
 all_goals (refine ZG () ?_ trivial;rw [←hr];clear hr v1 v2 v3 hu hk e3;simp only [cond_true,Bool.not_false] at *;simp_all [isE,within,resV,RetV])
theorem chk_FFFT (a:Nm) (ha:a.owner.size≤1099511627776) (ht:a.text.size≤1099511627776) (hk:1≤a.kind∧a.kind≤20) (uw:ByteArray) (um:Int) (hu:usages[a.kind.toNat]'(klt hk)=⟨uw,false,false,false,true,um⟩) :
  Enters 97∧Spec prog 97 #[a.v] [Usg] [] (RetV (.int .i64 (uchk ⟨uw,false,false,false,true,um⟩ a))):=by
 have v1:=Ze a.owner ha
 have v2:=Yw a.text ht
 have v3:=Z1 a.kind
 have e3:(decide (1≤a.kind) && decide (a.kind≤20))=true:=by simp [hk]
 rw [e3] at v3
 generalize hr:uchk ⟨uw,false,false,false,true,um⟩ a=r
 unfold uchk at hr
 simp only [Bool.not_false,Bool.not_true,Bool.true_and,Bool.false_and,Bool.or_false] at hr
 refine ZI [_] func97 ntmps97 fun G w hp=>?_
 repeat' (first|refine ZC ?_|refine ZB ?_|refine ZD ?_|refine ZS ?_|refine ZQ (fun b=>?_)|refine ZF ?_|refine ZA (v3) (fun _ _=>?_)|fail)
 refine l_usg a.kind.toNat (klt hk) (fun T' o ho=>?_)
 rw [hu]
 repeat' (first|refine ZC ?_|refine ZB ?_|refine ZP ?_|refine ZD ?_|refine ZS ?_|refine ZV ?_|refine ZQ (fun b=>?_)|refine ZF ?_|refine ZA (v2) (fun _ _=>?_)|refine Zw ?_|refine ZH (fun hc=>?_) (fun hc=>?_)|fail)
 all_goals (refine ZG () ?_ trivial;rw [←hr];clear hr v1 v2 v3 hu hk e3;simp only [cond_true,Bool.not_false] at *;simp_all [isE,resV,RetV])
theorem chk_FFFF (a:Nm) (ha:a.owner.size≤1099511627776) (ht:a.text.size≤1099511627776) (hk:1≤a.kind∧a.kind≤20) (uw:ByteArray) (um:Int) (hu:usages[a.kind.toNat]'(klt hk)=⟨uw,false,false,false,false,um⟩) :
  Enters 97∧Spec prog 97 #[a.v] [Usg] [] (RetV (.int .i64 (uchk ⟨uw,false,false,false,false,um⟩ a))):=by
 have v1:=Ze a.owner ha
 have v2:=Yw a.text ht
 have v3:=Z1 a.kind
 have e3:(decide (1≤a.kind) && decide (a.kind≤20))=true:=by simp [hk]
 rw [e3] at v3
 generalize hr:uchk ⟨uw,false,false,false,false,um⟩ a=r
 unfold uchk at hr
 simp only [Bool.not_false,Bool.true_and,Bool.false_and,Bool.or_false] at hr
 refine ZI [_] func97 ntmps97 fun G w hp=>?_
 repeat' (first|refine ZC ?_|refine ZB ?_|refine ZD ?_|refine ZS ?_|refine ZQ (fun b=>?_)|refine ZF ?_|refine ZA (v3) (fun _ _=>?_)|fail)
 refine l_usg a.kind.toNat (klt hk) (fun T' o ho=>?_)
 rw [hu]
 repeat' (first|refine ZC ?_|refine ZB ?_|refine ZP ?_|refine ZD ?_|refine ZS ?_|refine ZV ?_|refine ZQ (fun b=>?_)|refine ZF ?_|refine Zw ?_|refine ZH (fun hc=>?_) (fun hc=>?_)|fail)
 all_goals (refine ZG () ?_ trivial;rw [←hr];clear hr v1 v2 v3 hu hk e3;simp only [cond_true,Bool.not_false] at *;simp_all [isE,resV,RetV])
def okf (u:Usage):Bool:=(u.owner || !u.index) && (u.owner || !(u.number && u.text)) && !(u.index && u.text) && (!(u.owner && u.text) || u.number)
theorem okf_all:usages.all okf=true:=by decide
theorem X1 (a:Nm) (ha:a.owner.size≤1099511627776) (ht:a.text.size≤1099511627776):Enters 97∧Spec prog 97 #[a.v] [Usg] [] (RetV (.int .i64 (nchk a))):=by
 by_cases hk:1≤a.kind∧a.kind≤20
 ·have hn:nchk a=uchk (usages[a.kind.toNat]'(klt hk)) a:=by
   rw [nchk,if_pos hk,List.getD_eq_getElem?_getD,List.getElem?_eq_getElem (klt hk),Option.getD_some]
  rw [hn]
  have hu:okf (usages[a.kind.toNat]'(klt hk))=true:=List.all_eq_true.1 okf_all _ (List.getElem_mem (klt hk))
  generalize hus:usages[a.kind.toNat]'(klt hk)=u at *
  obtain ⟨uw,uo,un,ui,ut,um⟩:=u
  cases uo<;>cases un<;>cases ui<;>cases ut
  all_goals first
   | (simp [okf] at hu;done)
   | exact chk_TFFF a ha ht hk _ _ hus
   | exact chk_TFTF a ha ht hk _ _ hus
   | exact chk_TTFF a ha ht hk _ _ hus
   | exact chk_TTTF a ha ht hk _ _ hus
   | exact chk_TTFT a ha ht hk _ _ hus
   | exact chk_FTFF a ha ht hk _ _ hus
   | exact chk_FFFT a ha ht hk _ _ hus
   | exact chk_FFFF a ha ht hk _ _ hus
 ·have hn:nchk a=11:=by rw [nchk,if_neg hk]
  rw [hn]
  have v3:=Z1 a.kind
  have e3:(decide (1≤a.kind) && decide (a.kind≤20))=false:=by simp;omega
  rw [e3] at v3
  refine ZI [_] func97 ntmps97 fun G w hp=>?_
  repeat' (first|refine ZC ?_|refine ZB ?_|refine ZD ?_|refine ZS ?_|refine ZQ (fun b=>?_)|refine ZJ ?_|refine ZA (v3) (fun _ _=>?_)|fail)
  exact ZG () rfl trivial
end Go.Proofs.YtgfohjbcccfolaaGreatDoor
namespace Go.Proofs.YtgfohjbcccfolaaGreatDoor
open Go.RowKit Go.Proofs.Tryz
variable {n:Nat} {C:Cx} {Q:Exit→Act→World→Prop} {E E':List (Nat×Value)} {F F1:List Pf} {R R0:List HP} {k:List Fr} {ops:List Oper}
section
variable {l:List Oper}
theorem k_mk {f:Pf} (h:∀hp,(∀x ∈ F1,x.p hp)→f.p hp) (t:Wk n C k Q E (f::F) R) (hF:EntF F F1:=by (repeat (first|exact trivial|exact Sel.here|apply Sel.there|apply EntF.cons));first|done|fail):Wk n C k Q E F R:=
 fun a w ha ⟨hp,_,st⟩=>t a w ha (Yz st (h hp (hF.all hp st.f)))
end
abbrev ndc (pl pr:Option Addr) (a:Nm) (v:ByteArray) (h s b:Int):Obj:=.cells #[.pointer pl,.pointer pr,.int .i64 a.kind,.string a.owner,.int .i64 a.number,.int .i64 a.index,.string a.text,.string v,.int .i64 h,.int .i64 s,.int .i64 b] 255
def TrP:Option Addr→Tr→H→Prop
 | p,.nil,_=>p=none
 | p,.node l a v r,h=>∃b pl pr,p=some ⟨b,0,none⟩∧h b=some (ndc pl pr a v (Tr.node l a v r).ht (Tr.node l a v r).sz (Tr.node l a v r).by_)∧TrP pl l h∧TrP pr r h
theorem Xt:∀(t:Tr) (p:Option Addr) (h k:H),Sub h k→TrP p t h→TrP p t k
 | .nil,_,_,_,_,hh=>hh
 | .node l _ _ r,_,h,k,s,⟨b,pl,pr,h1,h2,h3,h4⟩=>⟨b,pl,pr,h1,s _ _ h2,Xt l pl h k s h3,Xt r pr h k s h4⟩
def TrF (p:Option Addr) (t:Tr):Pf:=⟨TrP p t,Xt t p⟩
def Nd (p:Option Addr) (a:Nm) (v:ByteArray):Pf:=⟨fun h=>∃b pl pr x y z,p=some ⟨b,0,none⟩∧h b=some (ndc pl pr a v x y z),fun _ _ s ⟨b,pl,pr,x,y,z,h1,h2⟩=>⟨b,pl,pr,x,y,z,h1,s _ _ h2⟩⟩
theorem nd_of {p:Option Addr} {l r:Tr} {a:Nm} {v:ByteArray} {h:H} (hh:TrP p (.node l a v r) h):(Nd p a v).p h:=
 let ⟨b,pl,pr,h1,h2,_,_⟩:=hh
 ⟨b,pl,pr,_,_,_,h1,h2⟩
variable {F0:List Pf}
section
variable {l:List Oper}
theorem k_tr {p:Option Addr} {l r:Tr} {a:Nm} {v:ByteArray} (t:∀b pl pr,p=some ⟨b,0,none⟩→Wk n C k Q E (Blk b (ndc pl pr a v (Tr.node l a v r).ht (Tr.node l a v r).sz (Tr.node l a v r).by_)::Nd p a v::TrF pl l::TrF pr r::F) R) (hs:Sel (TrF p (.node l a v r)) F F0:=by (repeat (first|exact Sel.here|apply Sel.there));first|done|fail):Wk n C k Q E F R:=by
 refine k_fact (X:=Nat×Option Addr×Option Addr) (Fx:=fun x=>[Blk x.1 (ndc x.2.1 x.2.2 a v (Tr.node l a v r).ht (Tr.node l a v r).sz (Tr.node l a v r).by_),Nd p a v,TrF x.2.1 l,TrF x.2.2 r]) (p:=fun x=>p=some ⟨x.1,0,none⟩) (f:=TrF p (.node l a v r)) hs (fun h hh=>?_) (fun x hp=>t x.1 x.2.1 x.2.2 hp)
 have hn:=nd_of hh
 obtain ⟨b,pl,pr,h1,h2,h3,h4⟩:=hh
 refine ⟨(b,pl,pr),h1,fun f hf=>?_⟩
 simp only [List.mem_cons,List.not_mem_nil,or_false] at hf
 rcases hf with rfl|rfl|rfl|rfl
 ·exact h2
 ·exact hn
 ·exact h3
 ·exact h4
theorem k_trn {p:Option Addr} (t:p=none→Wk n C k Q E F R) (hs:Sel (TrF p .nil) F F0:=by (repeat (first|exact Sel.here|apply Sel.there));first|done|fail):Wk n C k Q E F R:=
 k_fact (X:=Unit) (Fx:=fun _=>[]) (p:=fun _=>p=none) (f:=TrF p .nil) hs (fun h hh=>⟨(),hh,fun _ hx=>by cases hx⟩) (fun _ hp=>t hp)
end
structure Okt (t:Tr):Prop where
 s:t.sz≤1000000
 b:t.by_≤1000000000000
 o:∀x ∈ t.els,x.1.owner.size≤1099511627770
theorem Okt.l {l r:Tr} {b:Nm} {u:ByteArray} (h:Okt (.node l b u r)):Okt l:=by
 have h1:=h.s
 have h2:=h.b
 simp only [Tr.sz] at h1
 simp only [Tr.by_] at h2
 exact ⟨by omega,by omega,fun x hx=>h.o x (by simp [Tr.els,hx])⟩
theorem Okt.r {l r:Tr} {b:Nm} {u:ByteArray} (h:Okt (.node l b u r)):Okt r:=by
 have h1:=h.s
 have h2:=h.b
 simp only [Tr.sz] at h1
 simp only [Tr.by_] at h2
 exact ⟨by omega,by omega,fun x hx=>h.o x (by simp [Tr.els,hx])⟩
theorem Okt.m {l r:Tr} {b:Nm} {u:ByteArray} (h:Okt (.node l b u r)):b.owner.size≤1099511627770:=h.o (b,u) (by simp [Tr.els])
section
theorem l_nd {ops l:List Oper} {p:Option Addr} {a:Nm} {v:ByteArray} (t:∀b pl pr x y z,p=some ⟨b,0,none⟩→Wl n C ops.toArray k Q l E (Blk b (ndc pl pr a v x y z)::F) R) (hs:Sel (Nd p a v) F F0:=by (repeat (first|exact Sel.here|apply Sel.there));first|done|fail):Wl n C ops.toArray k Q l E F R:=
 l_fact (X:=Nat×Option Addr×Option Addr×Int×Int×Int) (Fx:=fun x=>[Blk x.1 (ndc x.2.1 x.2.2.1 a v x.2.2.2.1 x.2.2.2.2.1 x.2.2.2.2.2)]) (p:=fun x=>p=some ⟨x.1,0,none⟩) (f:=Nd p a v) hs (fun h ⟨b,pl,pr,x,y,z,h1,h2⟩=>⟨(b,pl,pr,x,y,z),h1,fun f hf=>by simp at hf;subst hf;exact h2⟩) (fun x hp=>t x.1 x.2.1 x.2.2.1 x.2.2.2.1 x.2.2.2.2.1 x.2.2.2.2.2 hp)
end
def PtrPost (t:Tr):Post:=⟨Nat,fun b=>.pointer (some ⟨b,0,none⟩),fun _=>True,fun b=>[TrF (some ⟨b,0,none⟩) t],fun _=>[]⟩
def FdF (q:Option Addr) (r:Option ByteArray):Pf:=
 match r with
 | none=>⟨fun _=>q=none,fun _ _ _ h=>h⟩
 | some v=>⟨fun h=>∃a,(Nd q a v).p h,fun _ _ s ⟨a,h⟩=>⟨a,(Nd q a v).m _ _ s h⟩⟩
structure FX (a:Nm) (t:Tr) where
 q:Option Addr
 s:Tr
 h1:Tr.find a t=Tr.find a s
 h2:Okt s
set_option maxHeartbeats 1000000 in
theorem find_ok (a:Nm) (ha:a.owner.size≤1099511627770) (t:Tr) (p:Option Addr) (ht:Okt t):Enters 162∧Spec prog 162 #[.pointer p,a.v] [TrF p t] [] ⟨Option Addr,fun q=>.pointer q,fun _=>True,fun q=>[FdF q (Tr.find a t)],fun _=>[]⟩:=by
 refine ZI [_,_] func162 ntmps162 fun G w hp=>?_
 repeat' (first|refine ZC ?_|refine ZB ?_|refine ZD ?_|refine ZQ (fun b=>?_)|fail)
 refine YF (X:=FX a t) (fun x=>[(0,.pointer x.q),(3,.pointer (some ⟨b,0,none⟩))]) (fun x=>[TrF x.q x.s]) (fun _=>[Pt b (.cells #[.int .i64 a.kind,.string a.owner,.int .i64 a.number,.int .i64 a.index,.string a.text] 92)]) (fun x=>x.s.sz) ⟨p,t,rfl,ht⟩ ⟨rfl,rfl,trivial⟩ ?_
 rintro ⟨q,s,h1,h2⟩
 dsimp only
 cases s with
 | nil=>
  refine k_trn fun hp=>?_
  subst hp
  rw [Tr.find] at h1
  repeat' (first|refine ZC ?_|refine ZB ?_|refine ZD ?_|refine ZF ?_|refine Zj ?_|fail)
  rw [h1]
  refine k_mk (F1:=[]) (f:=FdF none none) (fun _ _=>rfl) ?_
  exact ZG none rfl trivial
 | node l c u r=>
  refine k_tr (p:=q) (l:=l) (r:=r) (a:=c) (v:=u) (fun bb pl pr hp=>?_)
  subst hp
  rw [Tr.find] at h1
  repeat' (first|refine ZC ?_|refine ZB ?_|refine ZD ?_|refine Zr ?_|refine ZJ ?_|refine Zq ?_|refine Ym ?_|refine r_ldF ?_|refine Zp ?_|refine ZY (compareO_ok a c ha h2.m) (fun _ _=>?_)|refine Za 2 [] [(0,0),(1,0),(2,0),(3,0),(4,0),(5,4),(6,0)] [] ?_|(refine ZH (fun hc=>?_) (fun hc=>?_)<;>(try simp at hc))|fail)
  ·rw [if_pos hc] at h1
   refine k_mk (F1:=[Nd (some ⟨bb,0,none⟩) c u]) (f:=FdF (some ⟨bb,0,none⟩) (Tr.find a t)) (fun hp hF=>by rw [h1];exact ⟨c,hF _ (by simp)⟩) ?_
   exact k_rt (w_lq (Yv (some ⟨bb,0,none⟩) rfl trivial))
  ·rw [if_neg (by omega),if_pos hc] at h1
   exact ZW ⟨pl,l,h1,h2.l⟩ (by simp only [Tr.sz];omega) ⟨rfl,rfl,trivial⟩
  ·rw [if_neg (by omega),if_neg (by omega)] at h1
   exact ZW ⟨pr,r,h1,h2.r⟩ (by simp only [Tr.sz];omega) ⟨rfl,rfl,trivial⟩
def StF (ps:Option Addr) (t:Tr):Pf:=⟨fun h=>∃b p,ps=some ⟨b,0,none⟩∧h b=some (.cells #[.pointer p] 169)∧TrP p t h,fun h k s ⟨b,p,h1,h2,h3⟩=>⟨b,p,h1,s _ _ h2,Xt t p h k s h3⟩⟩
structure StOK (es:Al):Prop where
 srt:Srt es
 len:es.length≤65536
 own:∀x ∈ es,x.1.owner.size≤1099511627770
 val:∀x ∈ es,x.2.size≤65536
def St (ps:Option Addr) (es:Al):Pf:=⟨fun h=>∃t:Tr,t.els=es∧StOK es∧(StF ps t).p h,fun _ _ s ⟨t,h1,h2,h3⟩=>⟨t,h1,h2,(StF ps t).m _ _ s h3⟩⟩
theorem ab_le {m:Nat}:∀{l:Al},(∀x ∈ l,x.2.size≤m)→Tr.ab l≤l.length * m
 | [],_=>by simp [Tr.ab]
 | x::l,h=>by
  have h1:=ab_le (l:=l) fun y hy=>h y (List.mem_cons_of_mem _ hy)
  have h2:=h x (by simp)
  simp only [Tr.ab,List.map_cons,List.sum_cons,List.length_cons] at h1 ⊢
  rw [Nat.succ_mul];omega
theorem StOK.okt {t:Tr} (h:StOK t.els):Okt t:=by
 have h1:=ab_le h.val
 have h2:=h.len
 refine ⟨by rw [Tr.sz_els];omega,?_,h.own⟩
 rw [Tr.by_els]
 have:t.els.length * 65536≤65536 * 65536:=Nat.mul_le_mul_right _ h2
 omega
section
theorem k_st {ps:Option Addr} {es:Al} (t:∀b p (t:Tr),ps=some ⟨b,0,none⟩→t.els=es→StOK es→Wk n C k Q E (Blk b (.cells #[.pointer p] 169)::TrF p t::F) R) (hs:Sel (St ps es) F F0:=by (repeat (first|exact Sel.here|apply Sel.there));first|done|fail):Wk n C k Q E F R:=
 k_fact (X:=Nat×Option Addr×Tr) (Fx:=fun x=>[Blk x.1 (.cells #[.pointer x.2.1] 169),TrF x.2.1 x.2.2]) (p:=fun x=>ps=some ⟨x.1,0,none⟩∧x.2.2.els=es∧StOK es) (f:=St ps es) hs
  (fun h ⟨t,h1,h2,b,p,h3,h4,h5⟩=>⟨(b,p,t),⟨h3,h1,h2⟩,fun f hf=>by
   simp only [List.mem_cons,List.not_mem_nil,or_false] at hf
   rcases hf with rfl|rfl
   ·exact h4
   ·exact h5⟩) (fun x hp=>t x.1 x.2.1 x.2.2 hp.1 hp.2.1 hp.2.2)
end
theorem stateNew_ok:Enters 37∧Spec prog 37 #[] [] [] ⟨Nat,fun b=>.pointer (some ⟨b,0,none⟩),fun _=>True,fun b=>[St (some ⟨b,0,none⟩) []],fun _=>[]⟩:=by
 refine ZI [] func37 ntmps37 fun G w hp=>?_
 repeat' (first|refine ZC ?_|refine ZB ?_|refine ZD ?_|refine ZQ (fun b=>?_)|fail)
 refine k_fz ?_
 refine k_mk (F1:=[Blk b (.cells #[.pointer none] 169)]) (f:=St (some ⟨b,0,none⟩) []) (fun hp hF=>⟨.nil,rfl,⟨List.Pairwise.nil,by simp,by simp,by simp⟩,b,none,rfl,hF (Blk b (.cells #[.pointer none] 169)) (by simp),rfl⟩) ?_
 exact ZG b rfl trivial
theorem stateGet_ok (ps:Option Addr) (es:Al) (a:Nm) (ha:a.owner.size≤1099511627770):Enters 129∧Spec prog 129 #[.pointer ps,a.v] [St ps es] [] (RetV (.tuple #[.string ((getO a es).getD ⟨#[]⟩),.bool (getO a es).isSome])):=by
 refine ZI [_,_] func129 ntmps129 fun G w hp=>?_
 refine k_st (ps:=ps) (es:=es) (fun b p t hp he hok=>?_)
 subst hp
 subst he
 rw [←find_els a t hok.srt]
 have hf:=find_ok a ha t p hok.okt
 cases hfd:Tr.find a t with
 | none=>
  rw [hfd] at hf
  repeat' (first|refine ZC ?_|refine ZB ?_|refine ZP ?_|refine ZD ?_|refine ZQ (fun b=>?_)|refine ZF ?_|refine Zq ?_|refine Ym ?_|refine r_ldF ?_|refine Zp ?_|refine ZY (hf) (fun _ _=>?_)|refine Za 3 [] [(0,0),(1,0),(2,0),(3,0),(4,0),(5,4),(6,0)] [] ?_|fail)
  rename_i q _
  refine l_fact (X:=Unit) (Fx:=fun _=>[]) (p:=fun _=>q=none) (f:=FdF q none) .here (fun h hh=>⟨(),hh,fun _ hx=>by cases hx⟩) (fun _ hp=>?_)
  subst hp
  repeat' (first|refine ZC ?_|refine ZB ?_|refine ZD ?_|refine ZF ?_|fail)
  exact ZG () rfl trivial
 | some v=>
  rw [hfd] at hf
  repeat' (first|refine ZC ?_|refine ZB ?_|refine ZP ?_|refine ZD ?_|refine ZQ (fun b=>?_)|refine ZF ?_|refine Zq ?_|refine Ym ?_|refine r_ldF ?_|refine Zp ?_|refine ZY (hf) (fun _ _=>?_)|refine Za 3 [] [(0,0),(1,0),(2,0),(3,0),(4,0),(5,4),(6,0)] [] ?_|fail)
  rename_i q _
  refine l_fact (X:=Nm) (Fx:=fun a=>[Nd q a v]) (p:=fun _=>True) (f:=FdF q (some v)) .here (fun h ⟨a,hh⟩=>⟨a,trivial,fun f hf=>by simp at hf;subst hf;exact hh⟩) (fun a' _=>?_)
  refine l_nd (p:=q) (a:=a') (v:=v) (fun bm pl' pr' x y z hp=>?_)
  subst hp
  repeat' (first|refine ZC ?_|refine ZB ?_|refine ZD ?_|refine Zr ?_|refine ZJ ?_|fail)
  exact ZG () rfl trivial
variable {F' Fs:List Pf} {R' Rs N N' A:List HP} {k':List Fr} {L L':List (Nat×Nat)} {Tl:List Nat}
section
def ImpR (F:List Pf) (N:List HP) (F':List Pf) (N':List HP):Prop:=∀G w hp w',Sat G w hp F N w'→Sat G w hp F' N' w'
section
variable {P:Program} {T:Tab} {ds:List Deferred} {ops:Array Oper} {End:Env→List Pf→List HP→Prop}
end
variable {l:List Oper}
end
def withE (es:Al) (a:Nm) (v:ByteArray):Int:=if nchk a≠0 then 12 else if 65536<v.size then 5 else if 65536≤es.length∧getO a es=none then 9 else 0
def StR (q:Option Addr) (e:Int) (es:Al):Pf:=if e=0 then St q es else ⟨fun _=>q=none,fun _ _ _ h=>h⟩
abbrev El:=Nat×Nm×ByteArray
def elv (e:El):Value:=.pointer (some ⟨e.1,0,none⟩)
inductive AT where
 | nil
 | node (b:Nat) (l:AT) (a:Nm) (v:ByteArray) (r:AT)
namespace AT
def ptr:AT→Option Addr
 | nil=>none
 | node b _ _ _ _=>some ⟨b,0,none⟩
def tr:AT→Tr
 | nil=>.nil
 | node _ l a v r=>.node l.tr a v r.tr
def els:AT→List El
 | nil=>[]
 | node b l a v r=>l.els++(b,a,v)::r.els
def P:AT→H→Prop
 | nil,_=>True
 | node b l a v r,h=>h b=some (ndc l.ptr r.ptr a v (Tr.node l.tr a v r.tr).ht (Tr.node l.tr a v r.tr).sz (Tr.node l.tr a v r.tr).by_)∧l.P h∧r.P h
theorem mono:∀(t:AT) (h k:H),Sub h k→t.P h→t.P k
 | nil,_,_,_,_=>trivial
 | node _ l _ _ r,h,k,s,⟨h1,h2,h3⟩=>⟨s _ _ h1,mono l h k s h2,mono r h k s h3⟩
theorem nd:∀(t:AT) (h:H),t.P h→∀e ∈ t.els,(Nd (some ⟨e.1,0,none⟩) e.2.1 e.2.2).p h
 | nil,_,_,e,he=>by cases he
 | node b l a v r,h,⟨h1,h2,h3⟩,e,he=>by
  rcases List.mem_append.1 he with he|he
  ·exact nd l h h2 e he
  ·rcases List.mem_cons.1 he with rfl|he
   ·exact ⟨b,_,_,_,_,_,rfl,h1⟩
   ·exact nd r h h3 e he
end AT
def AtF (t:AT):Pf:=⟨t.P,t.mono⟩
def EPost {α:Type} (I Ix:List α→HP) (ys xs:List α):Post:=⟨Option (List α),fun r=>.bool r.isNone,fun r=>∀q,r=some q→q <+: xs,fun _=>[],fun r=>[match r with|none=>I ys|some q=>Ix q]⟩
def nmf (a:Nm):List Value:=[.int .i64 a.kind,.string a.owner,.int .i64 a.number,.int .i64 a.index,.string a.text]
def kn (es:Al) (k:Int):List Nm:=(es.filter fun x=>x.1.kind == k).map (·.1)
def kne (l:List El) (k:Int):List Nm:=(l.filter fun x=>x.2.1.kind == k).map (·.2.1)
structure Ou where
 ch:Int
 tg:ByteArray
 tx:ByteArray
 us:Int
 deriving DecidableEq
def ouf (o:Ou):List Value:=[.int .i64 o.ch,.string o.tg,.string o.tx,.int .i64 o.us]
def Ou.v (o:Ou):Value:=.agg #[.int .i64 o.ch,.string o.tg,.string o.tx,.int .i64 o.us]
def bad2 (c:UInt8):Bool:=decide ((c.toNat:Int)<33) || decide ((126:Int)<c.toNat)
def ochk (o:Ou):Int:=
 if o.ch<1∨4<o.ch then 11
 else if isE o.tg then 4
 else if 64<o.tg.size then 5
 else if o.tg.data.toList.any bad2 then 6
 else if 4096<o.tx.size then 5
 else if o.us<0∨65535<o.us then 2
 else 0
def oenc (o:Ou):List UInt8:=venc o.ch.toNat++(venc o.tg.size++o.tg.data.toList)++(venc o.tx.size++o.tx.data.toList)++venc o.us.toNat
def oencS (o:Ou):ByteArray:=if ochk o=0 then ⟨(oenc o).toArray⟩ else ⟨#[]⟩
def oread (s:RS):Ou×RS:=
 let (ch,s1):=rnum s 4
 let (tg,s2):=rtext s1 64
 let (tx,s3):=rtext s2 4096
 let (us,s4):=rnum s3 65535
 (⟨ch,tg,tx,us⟩,s4)
def odec (s:ByteArray):Option Ou:=
 let r:=oread ⟨s.data.toList,0,0⟩
 if r.2.err=0∧r.2.rest=[]∧ochk r.1=0 then some r.1 else none
def Ou.z:Ou:=⟨0,⟨#[]⟩,⟨#[]⟩,0⟩
theorem close0 (e:Int) (r:List UInt8):(if e≠0 then e else if r=[] then 0 else 5)=0↔e=0∧r=[]:=by
 by_cases h1:e=0<;>by_cases h2:r=[]<;>simp [h1,h2]
variable {i d:Nat} {t ty0:TypeId} {x y:Operand} {pos:String} {aft:Array Edge} {gd:Option (Nat×Bool)} {b:Nat}
section
variable {l:List Oper} {off:Nat} {cs:Array Value} {ty:TypeId} {fzn:Nat×Nat} {v:Value}
theorem r_ixP {T sz m cap:Nat} {z:Int} {rs tr:TRow} (j:Nat) (hlt:j<m) (nx:Wr n C ops k Q Tl Fs R L ((d,.pointer (some ⟨b,j * sz,none⟩))::E) F N)
  (ho:nth ops i=some ⟨some d,.indexAddr t x y,ty0,pos,aft,gd⟩:=by rfl) (hw:wantL ops E ⟨some d,.indexAddr t x y,ty0,pos,aft,gd⟩=some true:=by rfl) (hx:ev E x=some (.slice (some ⟨b,0,none⟩) m cap):=by rfl) (hy:ev E y=some (.int .i64 z):=by rfl)
  (hts:lookT tab t=some rs:=by rfl) (hrs:rs.k = .slice T:=by rfl) (hT:lookT tab T=some tr:=by rfl) (hsz:tr.size=sz:=by rfl) (hz:z=(j:Int):=by first|rfl|omega):Wr n C ops k Q Tl Fs R ((i,0)::L) E F N:=
 r_q (fun a w ha=>by
  have hr1:=YE (o:=some ⟨b,0,none⟩) (m:=m) (cap:=cap) (w:=w) hts hrs hT hsz hz hlt (p:=⟨b,j * sz,none⟩) (by simp [YH rfl])
  simp only [execOp,ha.ev (x:=x) (by rw [ZE];exact hx),ha.ev (x:=y) (by rw [ZE];exact hy),Sem.run_bind,Result.andThen,hr1,Sem.run_pure]) nx ho hw
end
structure En where
 who:ByteArray
 nu:Int
 tk:Int
 o:Ou
 deriving DecidableEq
def enf (e:En):List Value:=[.string e.who,.int .i64 e.nu,.int .i64 e.tk,.int .i64 e.o.ch,.string e.o.tg,.string e.o.tx,.int .i64 e.o.us]
structure Lf where
 e:En
 tm:Int
 rd:Int
 deriving DecidableEq
def lff (x:Lf):List Value:=[.string x.e.who,.int .i64 x.e.nu,.int .i64 x.e.tk,.int .i64 x.e.o.ch,.string x.e.o.tg,.string x.e.o.tx,.int .i64 x.e.o.us,.int .i64 x.tm,.int .i64 x.rd]
def Lf.v (x:Lf):Value:=.agg #[.string x.e.who,.int .i64 x.e.nu,.int .i64 x.e.tk,.int .i64 x.e.o.ch,.string x.e.o.tg,.string x.e.o.tx,.int .i64 x.e.o.us,.int .i64 x.tm,.int .i64 x.rd]
def tick (z:Int):Bool:=decide (0≤z) && decide (z≤1073741824)
def lchk (x:Lf):Int:=
 if lvalid x.e.who.data.toList=false then 12
 else if x.e.nu<0∨1048576<x.e.nu∨tick x.e.tk=false∨tick x.tm=false∨x.rd<0∨1048576<x.rd then 2
 else ochk x.e.o
def late (ls:List Lf) (x:Lf):Bool:=match ls.getLast? with|some y=>decide (x.tm<y.tm) || decide (x.rd<y.rd)|none=>false
def leaveE (ls:List Lf) (x:Lf):Int:=if lchk x≠0 then lchk x else if late ls x then 32 else if 100000≤ls.length then 9 else 0
section
structure RowAt (sz m cap:Nat) (xs:List Value) (o:Option Addr) (q:Nat×List Value×(Nat×Nat)):Prop where
 o:o=some ⟨q.1,0,none⟩
 l:xs.length=m * sz
 c:(xs++q.2.1).length=cap * sz
 m:m≤cap
 f:q.2.2=(0,0)∨(xs++q.2.1).length≤q.2.2.1
theorem k_row {T sz m cap:Nat} {o:Option Addr} {xs:List Value} (hm:0<m) (t:∀q,RowAt sz m cap xs o q→Wk n C k Q E F (Pt q.1 (.cells (xs++q.2.1).toArray T q.2.2)::R0)) (hs:Sel (Row T sz o m cap xs) R R0:=by (repeat (first|exact Sel.here|apply Sel.there));first|done|fail):Wk n C k Q E F R:=
 XA (X:=Nat×List Value×(Nat×Nat)) (Lx:=fun q=>[Pt q.1 (.cells (xs++q.2.1).toArray T q.2.2)]) (p:=fun q=>RowAt sz m cap xs o q) (r:=Row T sz o m cap xs) hs (fun h hh=>by
  rcases hh with ⟨_,h2,_⟩|⟨b,rest,fz,h1,h2,h3,h4,h5,h6⟩
  ·omega
  ·exact ⟨(b,rest,fz),⟨h1,h3,h4,h5,h6⟩,h,emp,(fun _=>.inr rfl),Sub.refl _,(fun _ _ e=>by cases e),h2,trivial⟩) t
theorem row_shut {T sz m cap:Nat} {o:Option Addr} {xs:List Value} {q:Nat×List Value×(Nat×Nat)} (hq:RowAt sz m cap xs o q) (h:H) (hh:Sep [Pt q.1 (.cells (xs++q.2.1).toArray T q.2.2)] h):Row T sz o m cap xs h:=by
 obtain ⟨h1,h2,_,s1,_,hx,_⟩:=hh
 exact .inr ⟨q.1,q.2.1,q.2.2,hq.o,s1 _ _ hx,hq.l,hq.c,hq.m,hq.f⟩
end
section
end
section
end
section
variable {l:List Oper} {off:Nat} {cs:Array Value} {ty:TypeId} {fzn:Nat×Nat} {v:Value}
def Ar {α:Type} (T:Nat) (f:α→List Value) (b:Nat) (es:List α):HP:=Pt b (.cells (es.flatMap f).toArray T (0,0))
theorem WG {β:Type}:∀(vs c:List Value) (o:Nat) (k:List Value→Option β),o+vs.length≤c.length→putF c o vs k=k (c.take o++vs++c.drop (o+vs.length))
 | [],c,o,k,_=>by cases c<;>simp [putF]
 | v::vs,[],o,k,h=>by simp at h
 | v::vs,x::c,0,k,h=>by
  simp only [putF]
  rw [WG vs c 0 _ (by simp at h ⊢;omega)]
  simp
 | v::vs,x::c,o+1,k,h=>by
  simp only [putF]
  rw [WG (v::vs) c o _ (by simp at h ⊢;omega),Nat.add_right_comm]
  simp
 termination_by vs c=>(vs.length,c.length)
theorem stv_in {pre xs xs' post:List Value} {o:Nat} (h:stv t xs o v=some xs'):stv t (pre++(xs++post)) (pre.length+o) v=some (pre++(xs'++post)):=by
 unfold stv at h ⊢
 split at h
 ·rename_i r vs hr hvs
  cases hc:(Nat.beq vs.length r.size && vs.all one1) with
  | false=>simp [hc] at h
  | true=>
   simp only [hc,cond_true] at h ⊢
   obtain ⟨h1,h2⟩:=XY _ _ _ _ _ h
   simp only [Option.some.injEq] at h2
   cases vs with
   | nil=>
    have e1:xs'=xs:=by rw [←h2];simp
    subst e1
    cases hh:pre++(xs'++post)<;>simp [putF]
   | cons u us=>
    have hle:=h1 (by simp)
    rw [WG _ _ _ _ (by simp at hle ⊢;omega)]
    rw [←h2]
    congr 1
    rw [List.take_length_add_append,List.take_append_of_le_length (by omega),show pre.length+o+(u::us).length=pre.length+(o+(u::us).length) by omega,List.drop_length_add_append,List.drop_append_of_le_length hle]
    simp
 ·cases h
theorem ar_split {α:Type} {f:α→List Value} {sz:Nat} (hf:∀e,(f e).length=sz) {es:List α} {j:Nat} {e:α} (he:es[j]? = some e):es.flatMap f=(es.take j).flatMap f++(f e++(es.drop (j+1)).flatMap f)∧((es.take j).flatMap f).length=j * sz:=by
 refine ⟨Yq he,?_⟩
 have:=(List.getElem?_eq_some_iff.1 he).1
 rw [YJ hf,List.length_take,Nat.min_eq_left (by omega)]
theorem ar_set {α:Type} {f:α→List Value} {es:List α} {j:Nat} {e e':α} (he:es[j]? = some e):(es.set j e').flatMap f=(es.take j).flatMap f++(f e'++(es.drop (j+1)).flatMap f):=by
 have hlt:=(List.getElem?_eq_some_iff.1 he).1
 rw [Yq (f:=f) (es:=es.set j e') (i:=j) (e:=e') (by simp [hlt])]
 rw [List.take_set_of_le (Nat.le_refl _),List.drop_set_of_lt (Nat.lt_succ_self _)]
theorem made_flat (z:List Value):∀m,(madeCells z.toArray (m * z.length)).toList=(List.replicate m z).flatten:=fun m=>by
 apply List.ext_getElem?
 intro j
 by_cases hj:j<m * z.length
 ·have hz:0<z.length:=Nat.pos_of_ne_zero fun h0=>by rw [h0] at hj;simp at hj
  have h1:(madeCells z.toArray (m * z.length)).toList[j]? = z[j % z.length]?:=by
   simp only [madeCells,Array.toList_map,List.getElem?_map,Array.toList_range,List.getElem?_range hj,Option.map_some]
   have h2:j % z.length<z.length:=Nat.mod_lt _ hz
   simp [h2]
  rw [h1]
  clear h1
  induction m generalizing j with
  | zero=>simp at hj
  | succ m ih=>
   rw [List.replicate_succ,List.flatten_cons]
   by_cases hlt:j<z.length
   ·rw [List.getElem?_append_left hlt,Nat.mod_eq_of_lt hlt]
   ·rw [List.getElem?_append_right (by omega),←ih (j - z.length) (by rw [Nat.add_mul] at hj;omega)]
    rw [Nat.mod_eq_sub_mod (by omega)]
 ·rw [List.getElem?_eq_none (by simp [size_madeCells];omega),List.getElem?_eq_none (by simp;omega)]
theorem rep_flat {α:Type} (f:α→List Value) (z:α) (m:Nat):(List.replicate m z).flatMap f=(List.replicate m (f z)).flatten:=by
 rw [List.flatMap_def,List.map_replicate]
theorem run_mks {α:Type} {T m:Nat} {kl kc:IntKind} {zi zj:Int} {rs te:TRow} {f:α→List Value} {z0:α} (w:World) (hb:te.bytes * m≤281474976710656) (hm:m≤9223372036854775807) (hts:lookT tab t=some rs) (hrs:rs.k = .slice T) (hT:lookT tab T=some te) (hzv:te.zero=f z0) (hz:zi=(m:Int)) (hz2:zj=(m:Int)) :
  (Instr.makeSlice t (.int kl zi) (.int kc zj)).run prog w = .ok (.slice (some ⟨w.heap.size,0,none⟩) m m) (w.alloc (.cells ((List.replicate m z0).flatMap f).toArray T (0,0))):=by
 subst hz hz2
 obtain ⟨d1,hd1,hk1⟩:=ZU.und hts
 rw [hrs] at hk1
 have hd2:prog.underlying t=some (.slice T):=by
  cases d1<;>simp [chkKind] at hk1
  subst hk1;exact hd1
 obtain ⟨inf,d2,z,hi,_,h1,h2,_,h4,h5,h6⟩:=ZU.row hT
 have hb':(inf.bytes:Int) * (m:Int)≤281474976710656:=by
  rw [h2]
  generalize te.bytes=q at hb
  have h:((q * m:Nat):Int)≤((281474976710656:Nat):Int):=Int.ofNat_le.2 hb
  rwa [Int.natCast_mul] at h
 have hr:=run_make (P:=prog) w t T inf z hd2 hi h4 kl kc m m (by omega) (Int.le_refl _) hb' (by omega)
 have hc:madeCells z.cells (m * inf.size)=((List.replicate m z0).flatMap f).toArray:=by
  rw [←Array.toList_inj,h1,←h6,←h5]
  have:=made_flat z.cells.toList m
  rw [Array.toArray_toList] at this
  rw [this,h5,hzv,rep_flat]
 simp only [Int.toNat_natCast,hc] at hr
 exact hr
theorem l_mks {α:Type} {T:Nat} {kl kc:IntKind} {zi zj:Int} {rs te:TRow} (f:α→List Value) (z0:α) (m bytes:Nat) (hb:bytes * m≤281474976710656) (hm:m≤9223372036854775807) (nx:∀b,Wl n C ops.toArray k Q l ((d,.slice (some ⟨b,0,none⟩) m m)::E) F (Ar T f b (List.replicate m z0)::R))
  (hw:wantL ops E ⟨some d,.makeSlice t x y,ty0,pos,aft,gd⟩=some true:=by rfl) (hn:Nat.blt d n=true:=by rfl) (hx:ev E x=some (.int kl zi):=by rfl) (hy:ev E y=some (.int kc zj):=by rfl) (hts:lookT tab t=some rs:=by rfl) (hrs:rs.k = .slice T:=by rfl)
  (hT:lookT tab T=some te:=by rfl) (hzv:te.zero=f z0:=by rfl) (hby:te.bytes=bytes:=by rfl) (hz:zi=(m:Int):=by first|rfl|omega) (hz2:zj=(m:Int):=by first|rfl|omega) :
  Wl n C ops.toArray k Q (⟨some d,.makeSlice t x y,ty0,pos,aft,gd⟩::l) E F R:=
 Zn (fun t ht=>by cases ht;exact Nat.le_of_ble_eq_true hn) (fun c hc=>by cases hc) hw fun a w ha hsat=>by
  have hr:=run_mks (kl:=kl) (kc:=kc) w (hby ▸ hb) hm hts hrs hT hzv hz hz2
  unfold OpRes
  simp only [execOp,ha.ev (x:=x) (by rw [ZE];exact hx),ha.ev (x:=y) (by rw [ZE];exact hy),Sem.run_bind,hr,Result.andThen,Sem.run_pure]
  exact fun a' ha'=>nx _ a' _ ha' (hsat.alloc _)
theorem XU {T sz m j off:Nat} {w:World} {kd:IntKind} {rs tr:TRow} (hts:lookT tab t=some rs) (hrs:rs.k = .arr m T) (hT:lookT tab T=some tr) (hsz:tr.size=sz) {z:Int} (hz:z=(j:Int)) (hi:j<m) :
  (Instr.indexAt t (.pointer (some ⟨b,off,none⟩)) (.int kd z)).run prog w = .ok (.pointer (some ⟨b,off+j * sz,none⟩)) w:=by
 obtain ⟨d1,hd1,hk1⟩:=ZU.und hts
 rw [hrs] at hk1
 have hu1:(underlying t).run prog w = .ok (.array m T) w:=by
  cases d1<;>simp [chkKind] at hk1
  obtain ⟨rfl,rfl⟩:=hk1
  simp [underlying,hd1,go_sem]
 have hs1:=ZU.sizeOf hT w
 rw [hsz] at hs1
 subst hz
 unfold Instr.indexAt
 simp only [asIntOf,Sem.run_bind,Sem.run_pure,Result.andThen,hu1,Instr.sureAddr]
 have hc:(0:Int)≤(j:Int)∧(j:Int)<((m:Nat):Int):=⟨by omega,by omega⟩
 rw [if_pos hc]
 simp only [Sem.run_bind,hs1,Result.andThen,Sem.run_pure,Int.toNat_natCast,YH rfl]
theorem l_ixA {T sz m:Nat} {z:Int} {kd:IntKind} {rs tr:TRow} (j:Nat) (hlt:j<m) (nx:Wl n C ops.toArray k Q l ((d,.pointer (some ⟨b,off+j * sz,none⟩))::E) F R)
  (hw:wantL ops E ⟨some d,.indexAddr t x y,ty0,pos,aft,gd⟩=some true:=by rfl) (hn:Nat.blt d n=true:=by rfl) (hx:ev E x=some (.pointer (some ⟨b,off,none⟩)):=by rfl) (hy:ev E y=some (.int kd z):=by rfl)
  (hts:lookT tab t=some rs:=by rfl) (hrs:rs.k = .arr m T:=by rfl) (hT:lookT tab T=some tr:=by rfl) (hsz:tr.size=sz:=by rfl) (hz:z=(j:Int):=by first|rfl|omega):Wl n C ops.toArray k Q (⟨some d,.indexAddr t x y,ty0,pos,aft,gd⟩::l) E F R:=
 l_q (fun a w ha=>by
  simp only [execOp,ha.ev (x:=x) (by rw [ZE];exact hx),ha.ev (x:=y) (by rw [ZE];exact hy),Sem.run_bind,Result.andThen,XU (w:=w) hts hrs hT hsz hz hlt,Sem.run_pure]) nx (by intro c h;cases h) hw hn
theorem l_ldA {α:Type} {T:Nat} {f:α→List Value} {es:List α} {e:α} (sz j o:Nat) (he:es[j]? = some e) (nx:Wl n C ops.toArray k Q l ((d,v)::E) F R) (hw:wantL ops E ⟨some d,.load t x,ty0,pos,aft,gd⟩=some true:=by rfl) (hn:Nat.blt d n=true:=by rfl)
  (hx:ev E x=some (.pointer (some ⟨b,off,none⟩)):=by rfl) (hs:Sel (Ar T f b es) R R0:=by (repeat (first|exact Sel.here|apply Sel.there));first|done|fail) (hv:ldv t (f e) o=some v:=by rfl) (hf:∀e,(f e).length=sz:=by intro;rfl) (ho:off=j * sz+o:=by first|rfl|omega) :
  Wl n C ops.toArray k Q (⟨some d,.load t x,ty0,pos,aft,gd⟩::l) E F R:=
 Zn (fun t ht=>by cases ht;exact Nat.le_of_ble_eq_true hn) (fun c hc=>by cases hc) hw fun a w ha hsat=>by
  obtain ⟨e1,e2⟩:=ar_split hf he
  have hv':ldv t (es.flatMap f).toArray.toList off=some v:=by
   rw [ho,←e2]
   show ldv t (es.flatMap f) _=_
   rw [e1]
   exact ldv_in hv
  have hr:=YP (hsat.pt hs) hv'
  unfold OpRes
  simp only [execOp,Instr.loadAt,ha.ev (by rw [ZE];exact hx),Instr.sureAddr,Sem.run_bind,Sem.run_pure,Result.andThen,hr]
  exact fun a' ha'=>nx a' w ha' hsat
theorem l_stA {α:Type} {T:Nat} {f:α→List Value} {es:List α} {e:α} (sz j o:Nat) (e':α) (he:es[j]? = some e) (nx:Wl n C ops.toArray k Q l E F (Ar T f b (es.set j e')::R0)) (hw:wantL ops E ⟨none,.store t x y,ty0,pos,aft,gd⟩=some true:=by rfl)
  (hx:ev E x=some (.pointer (some ⟨b,off,none⟩)):=by rfl) (hy:ev E y=some v:=by rfl) (hs:Sel (Ar T f b es) R R0:=by (repeat (first|exact Sel.here|apply Sel.there));first|done|fail) (hv:stv t (f e) o v=some (f e'):=by rfl) (hf:∀e,(f e).length=sz:=by intro;rfl) (ho:off=j * sz+o:=by first|rfl|omega) :
  Wl n C ops.toArray k Q (⟨none,.store t x y,ty0,pos,aft,gd⟩::l) E F R:=
 Zn (fun t ht=>by cases ht) (fun c hc=>by cases hc) hw fun a w ha hsat=>by
  obtain ⟨e1,e2⟩:=ar_split hf he
  have hv':stv t (es.flatMap f).toArray.toList off v=some ((es.set j e').flatMap f):=by
   rw [ho,←e2,ar_set he]
   show stv t (es.flatMap f) _ _=_
   rw [e1]
   exact stv_in hv
  obtain ⟨w',g1,g2,g3,g4⟩:=stv_ok (hsat.pt hs) hv'
  unfold OpRes
  simp only [execOp,Instr.storeAt,ha.ev (x:=x) (by rw [ZE];exact hx),ha.ev (x:=y) (by rw [ZE];exact hy),Instr.sureAddr,Sem.run_bind,Sem.run_pure,Result.andThen,g1]
  exact fun a' ha'=>nx a' w' ha' ((hsat.sel hs).write g3 g2 fun c hc _=>g4 c hc)
theorem k_ptc {o:Obj} (o':Obj) (h:o=o') (nx:Wk n C k Q E F (Pt b o'::R0)) (hs:Sel (Pt b o) R R0:=by (repeat (first|exact Sel.here|apply Sel.there));first|done|fail):Wk n C k Q E F R:=by
 subst h
 exact fun a w ha hsat=>nx a w ha (hsat.sel hs)
theorem l_ptc {o:Obj} (o':Obj) (h:o=o') (nx:Wl n C ops.toArray k Q l E F (Pt b o'::R0)) (hs:Sel (Pt b o) R R0:=by (repeat (first|exact Sel.here|apply Sel.there));first|done|fail):Wl n C ops.toArray k Q l E F R:=by
 subst h
 exact fun a w ha hsat=>nx a w ha (hsat.sel hs)
end
variable {t2:TypeId}
section
variable {l:List Oper}
theorem run_scut {s:ByteArray} {z:Int} {rs:TRow} {w:World} (hi:Nat) (hle:hi≤s.size) (hts:lookT tab t=some rs) (hrs:rs.k = .str) (hz:z=(hi:Int)):(Instr.sliceAt t (.string s) none (some (.int .i64 z)) none).run prog w = .ok (.string (s.extract 0 hi)) w:=by
 subst hz
 have hu:=Ya (w:=w) hts hrs
 have hb:(Instr.sliceBound (.int .i64 (hi:Int)) s.size .sliceAlen).run prog w = .ok hi w:=by
  simp only [Instr.sliceBound,asIntOf,Sem.run_bind,Sem.run_pure,Result.andThen]
  rw [if_pos ⟨by omega,by omega⟩]
  simp
 simp [Instr.sliceAt,Instr.slice,Instr.sliceBounds,Sem.run_bind,hu,Result.andThen,hb]
theorem minS (m j:Nat):(if (j:Int)<(m:Int) then (j:Int) else (m:Int))=((min m j:Nat):Int):=by split<;>omega
def cutS (s:ByteArray) (m:Nat):ByteArray:=s.extract 0 (min s.size m)
theorem cutS_size (s:ByteArray) (m:Nat):(cutS s m).size≤m:=by
 unfold cutS;rw [ByteArray.size_extract];omega
theorem l_cutS {s:ByteArray} {z:Int} {rs:TRow} (hi:Nat) (nx:Wl n C ops.toArray k Q l ((d,.string (cutS s hi))::E) F R)
  (hw:wantL ops E ⟨some d,.slice t x none (some y) none,ty0,pos,aft,gd⟩=some true:=by rfl) (hn:Nat.blt d n=true:=by rfl) (hx:ev E x=some (.string s):=by rfl) (hy:ev E y=some (.int .i64 z):=by rfl)
  (hts:lookT tab t=some rs:=by rfl) (hrs:rs.k = .str:=by rfl) (hz:z=(if (hi:Int)<(s.size:Int) then (hi:Int) else (s.size:Int)):=by rfl):Wl n C ops.toArray k Q (⟨some d,.slice t x none (some y) none,ty0,pos,aft,gd⟩::l) E F R:=
 l_q (fun a w ha=>by
  simp only [execOp,Option.map_some,Option.map_none,ha.ev (x:=x) (by rw [ZE];exact hx),ha.ev (x:=y) (by rw [ZE];exact hy),Sem.run_bind,run_scut (w:=w) (min s.size hi) (Nat.min_le_left _ _) hts hrs (hz.trans (minS _ _)),Result.andThen,Sem.run_pure,cutS]) nx (by intro c h;cases h) hw hn
theorem r_ixA {T sz m b off:Nat} {z:Int} {kd:IntKind} {rs tr:TRow} (j:Nat) (hlt:j<m) (nx:Wr n C ops k Q Tl Fs R L ((d,.pointer (some ⟨b,off+j * sz,none⟩))::E) F N)
  (ho:nth ops i=some ⟨some d,.indexAddr t x y,ty0,pos,aft,gd⟩:=by rfl) (hw:wantL ops E ⟨some d,.indexAddr t x y,ty0,pos,aft,gd⟩=some true:=by rfl) (hx:ev E x=some (.pointer (some ⟨b,off,none⟩)):=by rfl) (hy:ev E y=some (.int kd z):=by rfl)
  (hts:lookT tab t=some rs:=by rfl) (hrs:rs.k = .arr m T:=by rfl) (hT:lookT tab T=some tr:=by rfl) (hsz:tr.size=sz:=by rfl) (hz:z=(j:Int):=by first|rfl|omega):Wr n C ops k Q Tl Fs R ((i,0)::L) E F N:=
 r_q (fun a w ha=>by
  simp only [execOp,ha.ev (x:=x) (by rw [ZE];exact hx),ha.ev (x:=y) (by rw [ZE];exact hy),Sem.run_bind,Result.andThen,XU (w:=w) hts hrs hT hsz hz hlt,Sem.run_pure]) nx ho hw
end
section
def less (G:H) (b:Nat):H:=fun c=>if c=b then none else G c
variable {l:List Oper} {o:Obj}
end
def By (T b:Nat) (L:List UInt8):HP:=Pt b (.cells (byt L).toArray T (0,0))
def cpy (L:List UInt8) (off:Nat) (s:ByteArray) (dl:Nat):List UInt8:=L.take off++s.data.toList.take (min s.size dl)++L.drop (off+min s.size dl)
section
variable {l:List Oper}
theorem run_undA {m T:Nat} {w:World} {rs:TRow} (hts:lookT tab t=some rs) (hrs:rs.k = .arr m T):(underlying t).run prog w = .ok (.array m T) w:=by
 obtain ⟨d1,hd1,hk1⟩:=ZU.und hts
 rw [hrs] at hk1
 cases d1<;>simp [chkKind] at hk1
 obtain ⟨rfl,rfl⟩:=hk1
 simp [underlying,hd1,go_sem]
theorem run_sla0 {T m:Nat} {w:World} {rs tr:TRow} (hts:lookT tab t=some rs) (hrs:rs.k = .arr m T) (hT:lookT tab T=some tr) (hsz:tr.size=1) :
  (Instr.sliceAt t (.pointer (some ⟨b,0,none⟩)) none none none).run prog w = .ok (.slice (some ⟨b,0,none⟩) m m) w:=by
 have hs1:=ZU.sizeOf hT w
 rw [hsz] at hs1
 simp only [Instr.sliceAt,run_undA hts hrs,Instr.sureAddr,Instr.sliceBounds,Sem.run_bind,Sem.run_pure,Result.andThen,hs1]
 split
 ·simp
 ·rw [YH (b:=b) (p:=0) rfl];simp
theorem r_sla0 {T m:Nat} {rs tr:TRow} (nx:Wr n C ops k Q Tl Fs R L ((d,.slice (some ⟨b,0,none⟩) m m)::E) F N)
  (ho:nth ops i=some ⟨some d,.slice t x none none none,ty0,pos,aft,gd⟩:=by rfl) (hw:wantL ops E ⟨some d,.slice t x none none none,ty0,pos,aft,gd⟩=some true:=by rfl) (hx:ev E x=some (.pointer (some ⟨b,0,none⟩)):=by rfl)
  (hts:lookT tab t=some rs:=by rfl) (hrs:rs.k = .arr m T:=by rfl) (hT:lookT tab T=some tr:=by rfl) (hsz:tr.size=1:=by rfl):Wr n C ops k Q Tl Fs R ((i,0)::L) E F N:=
 r_q (fun a w ha=>by
  simp only [execOp,Option.map_none,ha.ev (x:=x) (by rw [ZE];exact hx),Sem.run_bind,run_sla0 (b:=b) (w:=w) hts hrs hT hsz,Result.andThen,Sem.run_pure]) nx ho hw
theorem l_sla0 {T m:Nat} {rs tr:TRow} (nx:Wl n C ops.toArray k Q l ((d,.slice (some ⟨b,0,none⟩) m m)::E) F R)
  (hw:wantL ops E ⟨some d,.slice t x none none none,ty0,pos,aft,gd⟩=some true:=by rfl) (hn:Nat.blt d n=true:=by rfl) (hx:ev E x=some (.pointer (some ⟨b,0,none⟩)):=by rfl)
  (hts:lookT tab t=some rs:=by rfl) (hrs:rs.k = .arr m T:=by rfl) (hT:lookT tab T=some tr:=by rfl) (hsz:tr.size=1:=by rfl):Wl n C ops.toArray k Q (⟨some d,.slice t x none none none,ty0,pos,aft,gd⟩::l) E F R:=
 l_q (fun a w ha=>by
  simp only [execOp,Option.map_none,ha.ev (x:=x) (by rw [ZE];exact hx),Sem.run_bind,run_sla0 (b:=b) (w:=w) hts hrs hT hsz,Result.andThen,Sem.run_pure]) nx (by intro c h;cases h) hw hn
theorem run_send {s:ByteArray} {z:Int} {rs:TRow} {w:World} (lo:Nat) (hle:lo≤s.size) (hts:lookT tab t=some rs) (hrs:rs.k = .str) (hz:z=(lo:Int)):(Instr.sliceAt t (.string s) (some (.int .i64 z)) none none).run prog w = .ok (.string (s.extract lo s.size)) w:=by
 subst hz
 have hu:=Ya (w:=w) hts hrs
 have hb:(Instr.sliceBound (.int .i64 (lo:Int)) s.size .sliceB).run prog w = .ok lo w:=by
  simp only [Instr.sliceBound,asIntOf,Sem.run_bind,Sem.run_pure,Result.andThen]
  rw [if_pos ⟨by omega,by omega⟩]
  simp
 simp [Instr.sliceAt,Instr.slice,Instr.sliceBounds,Sem.run_bind,hu,Result.andThen,hb]
theorem r_send {s:ByteArray} {z:Int} {rs:TRow} (lo:Nat) (hle:lo≤s.size) (nx:Wr n C ops k Q Tl Fs R L ((d,.string (s.extract lo s.size))::E) F N)
  (ho:nth ops i=some ⟨some d,.slice t x (some y) none none,ty0,pos,aft,gd⟩:=by rfl) (hw:wantL ops E ⟨some d,.slice t x (some y) none none,ty0,pos,aft,gd⟩=some true:=by rfl) (hx:ev E x=some (.string s):=by rfl) (hy:ev E y=some (.int .i64 z):=by rfl)
  (hts:lookT tab t=some rs:=by rfl) (hrs:rs.k = .str:=by rfl) (hz:z=(lo:Int):=by first|rfl|omega):Wr n C ops k Q Tl Fs R ((i,0)::L) E F N:=
 r_q (fun a w ha=>by
  simp only [execOp,Option.map_some,Option.map_none,ha.ev (x:=x) (by rw [ZE];exact hx),ha.ev (x:=y) (by rw [ZE];exact hy),Sem.run_bind,run_send (w:=w) lo hle hts hrs hz,Result.andThen,Sem.run_pure]) nx ho hw
def arv (Lb:List UInt8):Value:=.agg (byt Lb).toArray
end
section
variable {l:List Oper} {off:Nat} {cs:Array Value} {ty:TypeId} {fzn:Nat×Nat} {v:Value}
theorem r_callF {f:FuncId} {fs cs:Array Value} {args:Array Operand} {tys:Array TypeId} {vs us:List Value} {post:Post} (spec:Enters f∧Spec prog f us.toArray F1 A post)
  (nx:∀x,post.pure x→Wr n C ops k Q Tl Fs R L ((d,post.val x)::E) (post.F x++F) (post.R x++N')) (ho:nth ops i=some ⟨some d,.call ⟨.value x,args,tys⟩,ty0,pos,aft,gd⟩:=by rfl)
  (hw:wantL ops E ⟨some d,.call ⟨.value x,args,tys⟩,ty0,pos,aft,gd⟩=some true:=by rfl)
  (hx:ev E x=some (.func (.func f) fs cs):=by rfl) (hargs:evs (ev E) args.toList some=some vs:=by rfl) (has:fs.toList++vs++cs.toList=us:=by rfl)
  (sel:Sels A N N':=by (repeat (first|exact Sels.nil|exact Sel.here|apply Sel.there|apply Sels.cons));first|done|fail)
  (hF:EntF F F1:=by (repeat (first|exact trivial|exact Sel.here|apply Sel.there|apply EntF.cons));first|done|fail):Wr n C ops k Q Tl Fs R ((i,4)::L) E F N:=
 YD ho fun hp hr w st hz sb=>by
  simp only [Zb hw]
  refine ⟨⟨post.X,post.val,post.pure,fun x=>post.F x++F,fun x=>post.R x++N'⟩,fun a G w hp' ha hsub hsat=>?_,fun x hx=>nx x hx hp hr w st hz sb⟩
  unfold OpRes
  rw [run_callF spec.1 hx hargs ha w]
  have e:fs++vs.toArray++cs=us.toArray:=by rw [←has,←Array.toList_inj];simp
  rw [e]
  exact YX spec.2 hsat sel hF.all fun x w' hx hs'=>⟨x,rfl,hx,hs'⟩
theorem stv_ok' {w:World} {cs':List Value} (h:w.heap[b]? = some (.cells cs ty fzn)) (hf:fzn=(0,0)∨cs.toList.length≤fzn.1) (hv:stv t cs.toList off v=some cs') :
  ∃w',(storeVar t ⟨b,off,none⟩ v).run prog w = .ok () w'∧w'.heap[b]? = some (.cells cs'.toArray ty fzn)∧Same w w'∧∀c,c≠b→w'.heap[c]? = w.heap[c]?:=by
 unfold stv at hv
 split at hv
 ·rename_i r vs hr hvs
  cases hc:(Nat.beq vs.length r.size && vs.all one1) with
  | false=>simp [hc] at hv
  | true=>
   simp only [hc,cond_true] at hv
   rw [Bool.and_eq_true] at hc
   have hlen:=Nat.eq_of_beq_eq_true hc.1
   obtain ⟨h1,h2⟩:=XY _ _ _ _ _ hv
   have hcl:=XX hvs
   have hsz:=ZU.sizeOf hr w
   have hle:vs≠[]→off+0+vs.length≤cs.toList.length:=fun hne=>by simpa using h1 hne
   have hst:∃w',(storeCells ⟨b,off,none⟩ vs 0).run prog w = .ok () w'∧w'.heap[b]? = some (.cells cs'.toArray ty fzn)∧Same w w'∧∀c,c≠b→w'.heap[c]? = w.heap[c]?:=by
    by_cases hne:vs=[]
    ·subst hne
     refine ⟨w,rfl,?_,Same.refl _,fun _ _=>rfl⟩
     simp at h2;subst h2;simpa using h
    ·obtain ⟨w',g1,g2,g3,g4⟩:=Z8 (P:=prog) off vs 0 w cs.toList (by simpa using h) hf hc.2 (hle hne)
     refine ⟨w',g1,?_,g3,g4⟩
     rw [g2]
     simp at h2;simp [h2]
   obtain ⟨w',g1,g2⟩:=hst
   refine ⟨w',?_,g2⟩
   unfold storeVar
   simp only [Sem.run_bind,hsz,Result.andThen,hcl]
   rw [if_neg (by simp [hlen])]
   exact g1
 ·cases hv
def Ax {α:Type} (T:Nat) (f:α→List Value) (b:Nat) (es:List α) (q:List Value×(Nat×Nat)):HP:=Pt b (.cells (es.flatMap f++q.1).toArray T q.2)
def AxOK (len:Nat) (q:List Value×(Nat×Nat)):Prop:=q.2=(0,0)∨len+q.1.length≤q.2.1
theorem ax_split {α:Type} {f:α→List Value} {sz:Nat} {q:List Value} (hf:∀e,(f e).length=sz) {es:List α} {j:Nat} {e:α} (he:es[j]? = some e):es.flatMap f++q=(es.take j).flatMap f++(f e++((es.drop (j+1)).flatMap f++q))∧((es.take j).flatMap f).length=j * sz:=by
 obtain ⟨h1,h2⟩:=ar_split hf he
 exact ⟨by rw [h1];simp,h2⟩
theorem r_ldE {α:Type} {T:Nat} {f:α→List Value} {es:List α} {q:List Value×(Nat×Nat)} {e:α} (sz j o:Nat) (he:es[j]? = some e) (nx:Wr n C ops k Q Tl Fs R L ((d,v)::E) F N) (hop:nth ops i=some ⟨some d,.load t x,ty0,pos,aft,gd⟩:=by rfl) (hw:wantL ops E ⟨some d,.load t x,ty0,pos,aft,gd⟩=some true:=by rfl)
  (hx:ev E x=some (.pointer (some ⟨b,off,none⟩)):=by rfl) (hs:Sel (Ax T f b es q) R R0:=by (repeat (first|exact Sel.here|apply Sel.there));first|done|fail) (hv:ldv t (f e) o=some v:=by rfl) (hf:∀e,(f e).length=sz:=by intro;rfl) (ho:off=j * sz+o:=by first|rfl|omega) :
  Wr n C ops k Q Tl Fs R ((i,0)::L) E F N:=
 YD hop fun hp hr w st hz sb=>by
  simp only [Zb hw]
  refine ⟨v,fun a w ha hin=>?_,nx hp hr w st hz sb⟩
  obtain ⟨e1,e2⟩:=ax_split (q:=q.1) hf he
  have hv':ldv t (es.flatMap f++q.1).toArray.toList off=some v:=by
   rw [ho,←e2]
   show ldv t (es.flatMap f++q.1) _=_
   rw [e1]
   exact ldv_in hv
  have hr:=YP (hin _ _ (sb _ _ (stat_pt st hs))) hv'
  simp only [execOp,Instr.loadAt,ha.ev (by rw [ZE];exact hx),Instr.sureAddr,Sem.run_bind,Sem.run_pure,Result.andThen,hr]
theorem r_stE {α:Type} {T:Nat} {f:α→List Value} {es:List α} {q:List Value×(Nat×Nat)} {e:α} (sz j o:Nat) (e':α) (he:es[j]? = some e) (hq:AxOK (es.length * sz) q) (nx:Wr n C ops k Q Tl Fs R L E F (Ax T f b (es.set j e') q::N'))
  (hop:nth ops i=some ⟨none,.store t x y,ty0,pos,aft,gd⟩:=by rfl) (hw:wantL ops E ⟨none,.store t x y,ty0,pos,aft,gd⟩=some true:=by rfl)
  (hx:ev E x=some (.pointer (some ⟨b,off,none⟩)):=by rfl) (hy:ev E y=some v:=by rfl) (hs:Sel (Ax T f b es q) N N':=by (repeat (first|exact Sel.here|apply Sel.there));first|done|fail) (hv:stv t (f e) o v=some (f e'):=by rfl) (hf:∀e,(f e).length=sz:=by intro;rfl) (ho:off=j * sz+o:=by first|rfl|omega) :
  Wr n C ops k Q Tl Fs R ((i,4)::L) E F N:=
 YD hop fun hp hr w st hz sb=>by
  simp only [Zb hw]
  refine ⟨⟨Unit,fun _=>undef,fun _=>True,fun _=>F,fun _=>Ax T f b (es.set j e') q::N'⟩,fun a G w hp' ha hsub hsat=>?_,fun _ _=>nx hp hr w st hz sb⟩
  obtain ⟨e1,e2⟩:=ax_split (q:=q.1) hf he
  have hv':stv t (es.flatMap f++q.1).toArray.toList off v=some ((es.set j e').flatMap f++q.1):=by
   rw [ho,←e2,ar_set he]
   show stv t (es.flatMap f++q.1) _ _=_
   rw [e1,stv_in hv]
   simp
  have hfz:q.2=(0,0)∨(es.flatMap f++q.1).toArray.toList.length≤q.2.1:=by
   rcases hq with h|h
   ·exact .inl h
   ·exact .inr (by simpa [YJ hf] using h)
  obtain ⟨w',g1,g2,g3,g4⟩:=stv_ok' (hsat.pt hs) hfz hv'
  unfold OpRes
  simp only [execOp,Instr.storeAt,ha.ev (x:=x) (by rw [ZE];exact hx),ha.ev (x:=y) (by rw [ZE];exact hy),Instr.sureAddr,Sem.run_bind,Sem.run_pure,Result.andThen,g1]
  exact ⟨(),trivial,trivial,(hsat.sel hs).write g3 g2 fun c hc _=>g4 c hc⟩
def AnyI:Post:=⟨Int,fun z=>.int .i64 z,fun _=>True,fun _=>[],fun _=>[]⟩
def Srd {α:Type} (c:α→α→Int) (l:List α):Prop:=l.Pairwise fun a b=>¬c b a<0
end
def cpL {α:Type} (es:List α) (d s n:Nat):List α:=es.take d++((es.drop s).take n++es.drop (d+n))
variable {α:Type}
section
variable {l:List Oper} {f:α→List Value} {es:List α} {q:List Value×(Nat×Nat)}
end
section
theorem k_rowc {T sz m m' cap:Nat} {o:Option Addr} (xs xs':List Value) (hm:m=m') (hx:xs=xs') (t:Wk n C k Q E F (Row T sz o m' cap xs'::R0)) (hs:Sel (Row T sz o m cap xs) R R0:=by (repeat (first|exact Sel.here|apply Sel.there));first|done|fail):Wk n C k Q E F R:=by
 subst hm;subst hx
 exact fun a w ha hsat=>t a w ha (hsat.sel hs)
end
def entO (es:Al) (a:Nm):Option En:=(odec ((getO a es).getD ⟨#[]⟩)).map fun o=>⟨a.owner,a.number,a.index,o⟩
def allN (es:Al) (ns:List Nm):List En:=ns.filterMap (entO es)
def allE (es:Al):List En:=allN es (kn es 18)
structure AX (es:Al) where
 i:Nat
 o:Option Addr
 cap:Nat
 hi:i≤(kn es 18).length
def partv (t:Nat) (cs:List Value) (o:Nat):Option Value:=ldv t cs o
theorem XG {t:Nat} {cs:Array Value} {o:Nat} {v:Value} (h:partv t cs.toList o=some v) (w:World):(part t cs o).run prog w = .ok v w:=by
 unfold partv ldv at h
 have hag:∀r:TRow,lookT tab t=some r→r.k.isAgg=true→r.k≠.other→cutF cs.toList o r.size (fun l=>some (Value.agg l.toArray))=some v→(part t cs o).run prog w = .ok v w:=fun r hr ha ho hc=>by
  obtain ⟨h2,_,h3⟩:=Xw _ _ _ _ _ hc
  have hia:=ZU.isAgg hr ho w
  rw [ha] at hia
  have hsz:=ZU.sizeOf hr w
  unfold part
  simp only [Sem.run_bind,hia,Result.andThen,if_true,hsz,Sem.run_pure]
  rw [←Option.some.inj h2]
  congr 2
  rw [←Array.toList_inj]
  simp [List.extract_eq_take_drop]
 have hno:∀r:TRow,lookT tab t=some r→r.k.isAgg=false→r.k≠.other→nth cs.toList o=some v→(part t cs o).run prog w = .ok v w:=fun r hr ha ho hc=>by
  have hia:=ZU.isAgg hr ho w
  rw [ha] at hia
  rw [YS] at hc
  have hc:cs[o]? = some v:=by simpa using hc
  unfold part
  simp only [Sem.run_bind,hia,Result.andThen,Bool.false_eq_true,if_false,hc,Sem.run_pure]
 split at h
 ·rename_i hr;exact hag _ hr rfl (by simp) h
 ·rename_i hr;exact hag _ hr rfl (by simp) h
 ·cases h
 ·rename_i r hn1 hn2 hn3 hr
  refine hno _ hr ?_ ?_ h
  ·cases hk2:r.k<;>simp [TK.isAgg]<;>(obtain ⟨k,s1,b1,z1⟩:=r;simp at hk2;subst hk2;first|exact hn1 _ _ _ _ rfl|exact hn2 _ _ _ _ _ rfl)
  ·intro hk2;obtain ⟨k,s1,b1,z1⟩:=r;simp at hk2;subst hk2;exact hn3 _ _ _ rfl
 ·cases h
def memN:List Nat→Nat→Bool
 | [],_=>false
 | s::l,t=>match Nat.beq s t with
  | true=>true
  | false=>memN l t
theorem memN_mem:∀{l:List Nat} {t:Nat},memN l t=true→t ∈ l
 | s::l,t,h=>by
  unfold memN at h
  split at h
  ·rename_i hb
   obtain rfl:=Nat.eq_of_beq_eq_true hb
   simp
  ·exact List.mem_cons_of_mem _ (memN_mem h)
def eqFs (g:Nat→Value→Value→Option Bool):List (Nat×Nat×Nat)→List Value→List Value→Option Bool
 | [],_,_=>some true
 | (o,t,_)::fs,xs,ys=>match partv t xs o,partv t ys o with
  | some a,some b=>match g t a b with
   | some r=>match eqFs g fs xs ys with
    | some r'=>some (r && r')
    | none=>none
   | none=>none
  | _,_=>none
def eqIs (g:Value→Value→Option Bool) (e c:Nat) (xs ys:List Value):List Nat→Option Bool
 | []=>some true
 | i::is=>match partv e xs (i * c),partv e ys (i * c) with
  | some a,some b=>match g a b with
   | some r=>match eqIs g e c xs ys is with
    | some r'=>some (r && r')
    | none=>none
   | none=>none
  | _,_=>none
def eqC (S:List Nat):Nat→Nat→Value→Value→Option Bool
 | 0,_,_,_=>none
 | f+1,t,x,y=>match lookT tab t with
  | some ⟨.int _,_,_,_⟩=>match x,y with
   | .int k a,.int l b=>bif ikEq k l then some (a == b) else none
   | _,_=>none
  | some ⟨.str,_,_,_⟩=>match x,y with
   | .string a,.string b=>some (a.toList == b.toList)
   | _,_=>none
  | some ⟨.bool,_,_,_⟩=>match x,y with
   | .bool a,.bool b=>some (a == b)
   | _,_=>none
  | some ⟨.struct fs,_,_,_⟩=>match x,y with
   | .agg xs,.agg ys=>bif memN S t then eqFs (eqC S f) fs xs.toList ys.toList else none
   | _,_=>none
  | some ⟨.arr n e,_,_,_⟩=>match lookT tab e,x,y with
   | some re,.agg xs,.agg ys=>eqIs (eqC S f e) e re.size xs.toList ys.toList (List.range n)
   | _,_,_=>none
  | _=>none
noncomputable def chkE (t : Nat) : Bool := (match prog.underlying t with | some (.struct fs) => fs.toList.all (fun f => f.name != "_") | some (.array _ _) => true | _ => false) && (prog.stoodInHeld t == false) && (prog.eqGuardType prog.depth t == false)
theorem eqFs_ok {g:Nat→Value→Value→Option Bool} {d:Nat} (hg:∀t x y b w,g t x y=some b→(Op.equalIn d t x y).run prog w = .ok b w):∀(fl:List Field) (fs:List (Nat×Nat×Nat)) (xs ys:Array Value) (b:Bool) (w:World),
  fl.map (fun f => (f.offset, f.type, ((prog.info? f.type).map (·.size)).getD 0)) = fs → fl.all (fun f => f.name != "_") = true → eqFs g fs xs.toList ys.toList = some b → (Op.eqFields d xs ys fl).run prog w = .ok b w
 | [],_,_,_,b,w,h,_,he=>by
  subst h
  obtain rfl:=Option.some.inj he
  rfl
 | f::fl,_,xs,ys,b,w,h,hn,he=>by
  subst h
  simp only [List.map_cons,eqFs] at he
  simp only [List.all_cons,Bool.and_eq_true,bne_iff_ne,ne_eq] at hn
  split at he
  ·rename_i a c ha hc
   split at he
   ·rename_i r hr
    split at he
    ·rename_i r' hr'
     obtain rfl:=Option.some.inj he
     have ih:=eqFs_ok hg fl _ xs ys r' w rfl hn.2 hr'
     unfold Op.eqFields
     rw [if_pos hn.1]
     simp only [Sem.run_bind,XG ha w,XG hc w,hg _ _ _ _ w hr,Result.andThen]
     cases r with
     | false=>simp
     | true=>simpa using ih
    ·cases he
   ·cases he
  ·cases he
theorem eqIs_ok {g:Value→Value→Option Bool} {d e c:Nat} (hg:∀x y b w,g x y=some b→(Op.equalIn d e x y).run prog w = .ok b w) (xs ys:Array Value):∀(is:List Nat) (b:Bool) (w:World),eqIs g e c xs.toList ys.toList is=some b→(Op.eqItems d e c xs ys is).run prog w = .ok b w
 | [],b,w,he=>by
  obtain rfl:=Option.some.inj he
  rfl
 | i::is,b,w,he=>by
  simp only [eqIs] at he
  split at he
  ·rename_i a c ha hc
   split at he
   ·rename_i r hr
    split at he
    ·rename_i r' hr'
     obtain rfl:=Option.some.inj he
     have ih:=eqIs_ok hg xs ys is r' w hr'
     unfold Op.eqItems
     simp only [Sem.run_bind,XG ha w,XG hc w,hg _ _ _ w hr,Result.andThen]
     cases r with
     | false=>simp
     | true=>simpa using ih
    ·cases he
   ·cases he
  ·cases he
theorem eqC_ok {S:List Nat} (hS:S.all chkE=true):∀(f d t:Nat) (x y:Value) (b:Bool) (w:World),f≤d→eqC S f t x y=some b→(Op.equalIn d t x y).run prog w = .ok b w
 | 0,_,_,_,_,_,_,_,h=>by cases h
 | f+1,0,_,_,_,_,_,hd,_=>by omega
 | f+1,d+1,t,x,y,b,w,hd,h=>by
  unfold eqC at h
  split at h
  ·rename_i k0 _ _ _ hr
   split at h
   ·rename_i k a l c
    cases hk:ikEq k l with
    | false=>simp [hk] at h
    | true=>
     simp only [hk,cond_true] at h
     obtain rfl:=ikEq_eq hk
     obtain rfl:=Option.some.inj h
     obtain ⟨dd,hd1,hk1⟩:=ZU.und hr
     cases dd<;>simp [chkKind] at hk1
     exact run_equalIn_int w d t k _ a c hd1
   ·cases h
  ·rename_i hr
   split at h
   ·rename_i a c
    obtain rfl:=Option.some.inj h
    obtain ⟨dd,hd1,hk1⟩:=ZU.und hr
    cases dd<;>simp [chkKind] at hk1
    exact run_equalIn_string w d t a c hd1
   ·cases h
  ·rename_i hr
   split at h
   ·rename_i a c
    obtain rfl:=Option.some.inj h
    obtain ⟨dd,hd1,hk1⟩:=ZU.und hr
    cases dd<;>simp [chkKind] at hk1
    exact run_equalIn_bool' w d t a c hd1
   ·cases h
  ·rename_i fs _ _ _ hr
   split at h
   ·rename_i xs ys
    cases hm:memN S t with
    | false=>simp [hm] at h
    | true=>
     simp only [hm,cond_true] at h
     have hc:=List.all_eq_true.1 hS t (memN_mem hm)
     simp only [chkE,Bool.and_eq_true,beq_iff_eq] at hc
     obtain ⟨dd,hd1,hk1⟩:=ZU.und hr
     cases dd<;>simp [chkKind] at hk1
     rename_i fl
     have hfo:prog.fieldsOf t=fl:=by simp [Program.fieldsOf,hd1]
     rw [run_equalIn_struct w d t xs ys (by rw [hfo];exact hd1) hc.1.2,hfo]
     have hnm:=hc.1.1
     rw [hd1] at hnm
     refine eqFs_ok (g:=eqC S f) (fun t x y b w hh=>eqC_ok hS f d t x y b w (by omega) hh) fl.toList fs xs ys b w ?_ hnm h
     simpa using hk1.1
   ·cases h
  ·rename_i m e _ _ _ hr
   split at h
   ·rename_i re xs ys hre
    obtain ⟨dd,hd1,hk1⟩:=ZU.und hr
    cases dd<;>simp [chkKind] at hk1
    obtain ⟨rfl,rfl⟩:=hk1
    obtain ⟨inf,_,_,hi,_,hsz,_⟩:=ZU.row hre
    rw [run_equalIn_array w d xs ys hd1 hi]
    have hce:prog.cellsOf e=re.size:=by rw [←hsz];simp [Program.cellsOf,hi]
    rw [hce]
    exact eqIs_ok (g:=eqC S f e) (fun x y b w hh=>eqC_ok hS f d e x y b w (by omega) hh) xs ys _ b w h
   ·cases h
  ·cases h
def eqS:List Nat:=[92,105,118,42]
theorem eqS_ok:eqS.all chkE=true:=by decide +kernel
theorem equal_ok {t:Nat} {x y:Value} {b:Bool} (h:eqC eqS 20 t x y=some b) (w:World):(Op.equal t x y).run prog w = .ok b w:=eqC_ok eqS_ok 20 10000 t x y b w (by omega) h
section
variable {l:List Oper} {xs ys:Array Value}
end
def ckFs (g:Nat→Value→Bool):List (Nat×Nat×Nat)→List Value→Bool
 | [],_=>true
 | (o,t,_)::fs,xs=>match partv t xs o with
  | some a=>g t a && ckFs g fs xs
  | none=>false
def ckC (S:List Nat):Nat→Nat→Value→Bool
 | 0,_,_=>false
 | f+1,t,x=>match lookT tab t with
  | some ⟨.int _,_,_,_⟩=>true
  | some ⟨.str,_,_,_⟩=>true
  | some ⟨.bool,_,_,_⟩=>true
  | some ⟨.struct fs,_,_,_⟩=>match x with
   | .agg xs=>memN S t && ckFs (ckC S f) fs xs.toList
   | _=>false
  | _=>false
theorem ckFs_ok {g:Nat→Value→Bool} {d:Nat} {em:Bool} (hg:∀t x w,g t x=true→(Instr.checkKey em d t x).run prog w = .ok () w):∀(fl:List Field) (fs:List (Nat×Nat×Nat)) (xs:Array Value) (w:World),
  fl.map (fun f=>(f.offset,f.type,((prog.info? f.type).map (·.size)).getD 0))=fs→ckFs g fs xs.toList=true→
  (forIn fl PUnit.unit (fun f _ => if f.name ≠ "_" then (do
    let a ←part f.type xs f.offset
    Instr.checkKey em d f.type a
    pure (ForInStep.yield PUnit.unit)) else pure (ForInStep.yield PUnit.unit)):Sem PUnit).run prog w = .ok PUnit.unit w
 | [],_,_,w,_,_=>rfl
 | f::fl,_,xs,w,h,he=>by
  subst h
  simp only [List.map_cons,ckFs] at he
  split at he
  ·rename_i a ha
   rw [Bool.and_eq_true] at he
   have ih:=ckFs_ok hg fl _ xs w rfl he.2
   rw [List.forIn_cons]
   by_cases hn : f.name ≠ "_"
   ·rw [if_pos hn]
    simp only [Sem.run_bind,XG ha w,hg _ _ w he.1,Result.andThen,Sem.run_pure]
    exact ih
   ·rw [if_neg hn]
    simp only [Sem.run_bind,Result.andThen,Sem.run_pure]
    exact ih
  ·cases he
theorem ckC_ok {S:List Nat} (hS:S.all chkE=true) (em:Bool):∀(f d t:Nat) (x:Value) (w:World),f≤d→ckC S f t x=true→(Instr.checkKey em d t x).run prog w = .ok () w
 | 0,_,_,_,_,_,h=>by cases h
 | f+1,0,_,_,_,hd,_=>by omega
 | f+1,d+1,t,x,w,hd,h=>by
  unfold ckC at h
  split at h
  ·rename_i hr
   obtain ⟨dd,hd1,hk1⟩:=ZU.und hr
   cases dd<;>simp [chkKind] at hk1
   simp [Instr.checkKey,underlying,hd1,go_sem]
  ·rename_i hr
   obtain ⟨dd,hd1,hk1⟩:=ZU.und hr
   cases dd<;>simp [chkKind] at hk1
   simp [Instr.checkKey,underlying,hd1,go_sem]
  ·rename_i hr
   obtain ⟨dd,hd1,hk1⟩:=ZU.und hr
   cases dd<;>simp [chkKind] at hk1
   simp [Instr.checkKey,underlying,hd1,go_sem]
  ·rename_i fs _ _ _ hr
   split at h
   ·rename_i xs
    rw [Bool.and_eq_true] at h
    obtain ⟨dd,hd1,hk1⟩:=ZU.und hr
    cases dd<;>simp [chkKind] at hk1
    rename_i fl
    have hu:(underlying t).run prog w = .ok (.struct fl) w:=by simp [underlying,hd1,go_sem]
    have hl:=ckFs_ok (g:=ckC S f) (d:=d) (em:=em) (fun t x w hh=>ckC_ok hS em f d t x w (by omega) hh) fl.toList fs xs w (by simpa using hk1.1) h.2
    unfold Instr.checkKey
    simp only [Sem.run_bind,hu,Result.andThen]
    rw [←Array.forIn_toList]
    rw [hl]
    rfl
   ·cases h
  ·cases h
structure KeyOK {α:Type} [DecidableEq α] (kt:Nat) (K:α→Value):Prop where
 eq:∀a b w,(Op.equal kt (K a) (K b)).run prog w = .ok (decide (a=b)) w
 chk:∀a em w,(Instr.checkKey em 10000 kt (K a)).run prog w = .ok () w
 bits:∀a,Instr.sameBits 10000 (K a) (K a)=true
 now:∃d,prog.underlying kt=some d∧∀a b,Instr.sameNow d (K a) (K b)=none∨Instr.sameNow d (K a) (K b)=some (decide (a=b))
section
variable {α β:Type} [DecidableEq α]
def mfind (a:α):List (α×β)→Nat→Option (Nat×β)
 | [],_=>none
 | (b,v)::m,i=>if a=b then some (i,v) else mfind a m (i+1)
def mget (a:α):List (α×β)→Option β
 | []=>none
 | (b,v)::m=>if a=b then some v else mget a m
def mset (a:α) (v:β):List (α×β)→List (α×β)
 | []=>[(a,v)]
 | (b,u)::m=>if a=b then (a,v)::m else (b,u)::mset a v m
theorem mfind_get (a:α):∀(m:List (α×β)) (i:Nat),(mfind a m i).map (·.2)=mget a m
 | [],_=>rfl
 | (b,v)::m,i=>by
  unfold mfind mget
  split
  ·rfl
  ·exact mfind_get a m (i+1)
variable {kt:Nat} {K:α→Value} {V:β→Value}
theorem Xe (hk:KeyOK kt K) (a:α):∀(es:List MapEntry) (m:List (α×β)) (i:Nat) (w:World),es.map (fun e=>(e.key,e.val))=m.map (fun x=>(K x.1,V x.2))→
  (Instr.findAsking kt (K a) es i).run prog w = .ok ((mfind a m i).map fun p=>(p.1,V p.2)) w
 | [],m,i,w,h=>by
  cases m with
  | nil=>rfl
  | cons=>simp at h
 | e::es,m,i,w,h=>by
  cases m with
  | nil=>simp at h
  | cons x m=>
   obtain ⟨b,v⟩:=x
   simp only [List.map_cons,List.cons.injEq,Prod.mk.injEq] at h
   obtain ⟨⟨h1,h2⟩,h3⟩:=h
   unfold Instr.findAsking mfind
   simp only [Sem.run_bind,h1,hk.eq a b w,Result.andThen]
   by_cases hab:a=b
   ·simp [hab,h2]
   ·simp only [hab,decide_false,Bool.false_eq_true,if_false]
    exact Xe hk a es m (i+1) w h3
theorem findNow_ok {d:TypeDesc} (hd:∀a b,Instr.sameNow d (K a) (K b)=none∨Instr.sameNow d (K a) (K b)=some (decide (a=b))) (a:α):∀(es:List MapEntry) (m:List (α×β)) (i:Nat) (r:Option (Nat×Value)),es.map (fun e=>(e.key,e.val))=m.map (fun x=>(K x.1,V x.2))→
  Instr.findNow d (K a) es i=some r→r=(mfind a m i).map fun p=>(p.1,V p.2)
 | [],m,i,r,h,hr=>by
  cases m with
  | nil=>exact (Option.some.inj hr).symm
  | cons=>simp at h
 | e::es,m,i,r,h,hr=>by
  cases m with
  | nil=>simp at h
  | cons x m=>
   obtain ⟨b,v⟩:=x
   simp only [List.map_cons,List.cons.injEq,Prod.mk.injEq] at h
   obtain ⟨⟨h1,h2⟩,h3⟩:=h
   unfold Instr.findNow at hr
   unfold mfind
   rw [h1] at hr
   rcases hd a b with e1|e1
   ·rw [e1] at hr;cases hr
   ·rw [e1] at hr
    by_cases hab:a=b
    ·simp only [hab,decide_true] at hr
     simp [hab,←Option.some.inj hr,h2]
    ·simp only [hab,decide_false] at hr
     rw [if_neg hab]
     exact findNow_ok hd a es m (i+1) r h3 hr
theorem findKey_ok (hk:KeyOK kt K) (a:α) (es:List MapEntry) (m:List (α×β)) (w:World) (h:es.map (fun e=>(e.key,e.val))=m.map (fun x=>(K x.1,V x.2))) :
  (Instr.findKey kt (K a) es).run prog w = .ok ((mfind a m 0).map fun p=>(p.1,V p.2)) w:=by
 obtain ⟨d,hd,hn⟩:=hk.now
 have hu:(underlying kt).run prog w = .ok d w:=by simp [underlying,hd,go_sem]
 unfold Instr.findKey
 simp only [Sem.run_bind,hu,Result.andThen]
 split
 ·rename_i r hr
  rw [findNow_ok hn a es m 0 r h hr];rfl
 ·exact Xe hk a es m 0 w h
def BornOK (es:Array MapEntry) (clock:Nat):Prop:=(es.toList.map (·.born)).Nodup∧∀e ∈ es.toList,e.born<clock
def Mp (K:α→Value) (V:β→Value) (r:Nat) (m:List (α×β)):HP:=fun h=>∃es clock,h r=some (.map es clock)∧es.toList.map (fun e=>(e.key,e.val))=(m.map fun x=>(K x.1,V x.2))∧BornOK es clock
theorem mset_none (a:α) (v:β):∀(m:List (α×β)) (i:Nat),mfind a m i=none→mset a v m=m++[(a,v)]
 | [],_,_=>rfl
 | (b,u)::m,i,h=>by
  unfold mfind at h
  split at h
  ·cases h
  ·rename_i hab
   rw [mset,if_neg hab,mset_none a v m (i+1) h];rfl
theorem mset_some (a:α) (v:β):∀(m:List (α×β)) (i j:Nat) (u:β),mfind a m i=some (j,u)→∃p,j=i+p∧m[p]? = some (a,u)∧mset a v m=m.set p (a,v)
 | [],_,_,_,h=>by cases h
 | (b,u')::m,i,j,u,h=>by
  unfold mfind at h
  split at h
  ·rename_i hab
   subst hab
   simp only [Option.some.injEq,Prod.mk.injEq] at h
   obtain ⟨rfl,rfl⟩:=h
   exact ⟨0,by omega,by simp,by simp [mset]⟩
  ·rename_i hab
   obtain ⟨p,h1,h2,h3⟩:=mset_some a v m (i+1) j u h
   exact ⟨p+1,by omega,by simpa using h2,by simp [mset,hab,h3]⟩
end
theorem Xs {G:H} {w0 w:World} {hp0:H} {F:List Pf} {R:List HP} {b:Nat} {o o':Obj} (hs:Sat G w0 hp0 F (Pt b o::R) w):Sat G w0 hp0 F (Pt b o'::R) {w with heap:=w.heap.setIfInBounds b o'}:=by
 have hb:=hs.pt Sel.here
 have hlt:=(Array.getElem?_eq_some_iff.1 hb).1
 refine hs.write ⟨rfl,rfl,rfl,by simp⟩ ?_ fun c hc _=>?_
 ·simp [hlt]
 ·simp only [Array.getElem?_setIfInBounds];rw [if_neg (fun e=>hc e.symm)]
theorem mp_open {α β:Type} {K:α→Value} {V:β→Value} {r:Nat} {m:List (α×β)} {G:H} {w0 w:World} {hp0:H} {F:List Pf} {R R0:List HP} (hs:Sel (Mp K V r m) R R0) (h:Sat G w0 hp0 F R w) :
  ∃es clock,Sat G w0 hp0 F (Pt r (.map es clock)::R0) w∧es.toList.map (fun e=>(e.key,e.val))=(m.map fun x=>(K x.1,V x.2))∧BornOK es clock:=by
 obtain ⟨⟨⟨es,clock⟩,he,hB⟩,h1⟩:=(h.sel hs).open' (X:={x:Array MapEntry×Nat // x.1.toList.map (fun e=>(e.key,e.val))=(m.map fun x=>(K x.1,V x.2))∧BornOK x.1 x.2}) (L:=fun x=>[Pt r (.map x.1.1 x.1.2)]) fun k hk=>by
  obtain ⟨es,clock,h1,h2,h3⟩:=hk
  exact ⟨⟨(es,clock),h2,h3⟩,k,emp,(fun _=>.inr rfl),Sub.refl _,(fun _ _ e=>by cases e),h1,trivial⟩
 exact ⟨es,clock,h1,he,hB⟩
theorem mp_shut {α β:Type} {K:α→Value} {V:β→Value} {r:Nat} {m:List (α×β)} {G:H} {w0 w:World} {hp0:H} {F:List Pf} {R0:List HP} {es:Array MapEntry} {clock:Nat} (h:Sat G w0 hp0 F (Pt r (.map es clock)::R0) w)
  (he:es.toList.map (fun e=>(e.key,e.val))=m.map fun x=>(K x.1,V x.2)) (hB:BornOK es clock):Sat G w0 hp0 F (Mp K V r m::R0) w:=
 h.shut (L:=[Pt r (.map es clock)]) fun k hk=>by
  obtain ⟨h1,h2,_,s1,_,hx,_⟩:=hk
  exact ⟨es,clock,s1 _ _ hx,he,hB⟩
def zval (r:TRow):Option Value:=bif r.k.isAgg then some (.agg r.zero.toArray) else match r.zero with | [z]=>some z|_=>none
theorem zval_ok {t:Nat} {r:TRow} {z:Value} (hr:lookT tab t=some r) (hz:zval r=some z) (w:World):(zeroValue t).run prog w = .ok z w:=by
 have h1:=List.all_eq_true.1 ZU _ (lookT_mem hr)
 simp only [chkRow] at h1
 split at h1
 ·rename_i i d hi hd
  simp only [Bool.and_eq_true,beq_iff_eq] at h1
  obtain ⟨_,h5⟩:=h1
  split at h5
  ·rename_i z0 hz0
   rw [Bool.and_eq_true] at h5
   have hc:=zeqs_eq h5.1
   have hzz:z=z0:=by
    unfold zval at hz
    cases z0 with
    | agg cs=>
     simp only at h5
     rw [h5.2] at hz
     simp only [cond_true,Option.some.injEq] at hz
     rw [←hz,←hc];simp [Value.cells]
    | _=>
     simp only [Bool.not_eq_true'] at h5
     rw [h5.2] at hz
     simp only [Value.cells] at hc
     rw [←hc] at hz
     simpa using hz.symm
   subst hzz
   simp [zeroValue,typeInfo,hi,hz0,go_sem]
  ·cases h5
 ·cases h1
section
variable {n:Nat} {C:Cx} {Q:Exit→Act→World→Prop} {E E':List (Nat×Value)} {F F' F1 Fs F0:List Pf} {R R' R0 Rs N N' A:List HP} {k k':List Fr} {ops l:List Oper} {i d:Nat} {t ty0:TypeId} {x y z:Operand} {pos:String} {aft:Array Edge} {gd:Option (Nat×Bool)} {α β:Type} [DecidableEq α] {K:α→Value} {V:β→Value}
theorem run_undM {kt et:Nat} {w:World} {rs:TRow} (hts:lookT tab t=some rs) (hrs:rs.k = .map kt et):(underlying t).run prog w = .ok (.map kt et) w:=by
 obtain ⟨d1,hd1,hk1⟩:=ZU.und hts
 rw [hrs] at hk1
 cases d1<;>simp [chkKind] at hk1
 obtain ⟨rfl,rfl⟩:=hk1
 simp [underlying,hd1,go_sem]
theorem l_mkm {kt et:Nat} {rs:TRow} (_hk:KeyOK kt K) (V:β→Value) (nx:∀r,Wl n C ops.toArray k Q l ((d,.map (some r))::E) F (Mp K V r []::R)) (hw:wantL ops E ⟨some d,.makeMap t none,ty0,pos,aft,gd⟩=some true:=by rfl) (hn:Nat.blt d n=true:=by rfl) (_hts:lookT tab t=some rs:=by rfl) (_hrs:rs.k = .map kt et:=by rfl) :
  Wl n C ops.toArray k Q (⟨some d,.makeMap t none,ty0,pos,aft,gd⟩::l) E F R:=
 Zn (fun t ht=>by cases ht;exact Nat.le_of_ble_eq_true hn) (fun c hc=>by cases hc) hw fun a w ha hsat=>by
  have h1:=hsat.alloc (.map #[] 0)
  exact fun a' ha'=>nx w.heap.size a' _ ha' (mp_shut (K:=K) (V:=V) (m:=[]) h1 rfl ⟨by simp,by simp⟩)
theorem l_mset {kt et r:Nat} {rs:TRow} {m:List (α×β)} (hk:KeyOK kt K) (a:α) (v:β) (nx:Wl n C ops.toArray k Q l E F (Mp K V r (mset a v m)::R0)) (hw:wantL ops E ⟨none,.mapUpdate t x y z,ty0,pos,aft,gd⟩=some true:=by rfl)
  (hx:ev E x=some (.map (some r)):=by rfl) (hy:ev E y=some (K a):=by rfl) (hz:ev E z=some (V v):=by rfl) (hts:lookT tab t=some rs:=by rfl) (hrs:rs.k = .map kt et:=by rfl)
  (hs:Sel (Mp K V r m) R R0:=by (repeat (first|exact Sel.here|apply Sel.there));first|done|fail):Wl n C ops.toArray k Q (⟨none,.mapUpdate t x y z,ty0,pos,aft,gd⟩::l) E F R:=
 Zn (fun t ht=>by cases ht) (fun c hc=>by cases hc) hw fun ac w ha hsat=>by
  obtain ⟨es,clock,h1,he,hB⟩:=mp_open hs hsat
  have hb:=h1.pt Sel.here
  have hu:=run_undM (w:=w) hts hrs
  have hg:(getObj r).run prog w = .ok (.map es clock) w:=by simp [getObj,Sem.run,hb]
  have hc:=hk.chk a false w
  have hf:=findKey_ok hk a es.toList m w he
  unfold OpRes
  simp only [execOp,ha.ev (x:=x) (by rw [ZE];exact hx),ha.ev (x:=y) (by rw [ZE];exact hy),ha.ev (x:=z) (by rw [ZE];exact hz),Instr.mapUpdate,Sem.run_bind,hu,Result.andThen,hg,hc,hf]
  cases hm:mfind a m 0 with
  | none=>
   simp only [Option.map_none]
   have hset:(setObj r (.map (es.push {key:=K a,val:=V v,born:=clock}) (clock+1))).run prog w = .ok () {w with heap:=w.heap.setIfInBounds r (.map (es.push {key:=K a,val:=V v,born:=clock}) (clock+1))}:=by simp [setObj,Sem.run,hb]
   simp only [hset,Sem.run_pure]
   refine fun a' ha'=>nx a' _ ha' (mp_shut (Xs h1) ?_ ?_)
   ·rw [mset_none a v m 0 hm]
    simp [he]
   ·refine ⟨?_,fun e hem=>?_⟩
    ·rw [Array.toList_push,List.map_append]
     refine List.nodup_append.2 ⟨hB.1,by simp,fun b hb c hc=>?_⟩
     obtain ⟨e,hem,rfl⟩:=List.mem_map.1 hb
     have:=hB.2 e hem
     simp at hc
     omega
    ·rw [Array.toList_push] at hem
     rcases List.mem_append.1 hem with hem|hem
     ·have:=hB.2 e hem;omega
     ·obtain rfl:=List.mem_singleton.1 hem
      exact Nat.lt_succ_self _
  | some q=>
   obtain ⟨j,u⟩:=q
   obtain ⟨p,hj,hp,hms⟩:=mset_some a v m 0 j u hm
   obtain rfl:j=p:=by omega
   have hkey:(es.toList.map (fun e=>(e.key,e.val)))[j]? = some (K a,V u):=by rw [he];simp [hp]
   have hold:((es[j]?).map (·.key)).getD (K a)=K a:=by
    simp only [List.getElem?_map,Array.getElem?_toList,Option.map_eq_some_iff] at hkey
    obtain ⟨e,he1,he2⟩:=hkey
    rw [he1]
    simp only [Prod.mk.injEq] at he2
    simp [he2.1]
   simp only [Option.map_some]
   have hkt:(Instr.keyThatStays (((es[j]?).map (·.key)).getD (K a)) (K a)).run prog w = .ok (K a) w:=by
    rw [hold];simp [Instr.keyThatStays,hk.bits a]
   have hset:(setObj r (.map (es.modify j fun e=>{e with key:=K a,val:=V v}) clock)).run prog w = .ok () {w with heap:=w.heap.setIfInBounds r (.map (es.modify j fun e=>{e with key:=K a,val:=V v}) clock)}:=by simp [setObj,Sem.run,hb]
   simp only [hkt,Sem.run_bind,Result.andThen,hset,Sem.run_pure]
   have hborn:(es.modify j fun e=>{e with key:=K a,val:=V v}).toList.map (·.born)=es.toList.map (·.born):=by
    apply List.ext_getElem?
    intro i
    simp only [List.getElem?_map,Array.getElem?_toList,Array.getElem?_modify]
    split
    ·cases es[i]?<;>rfl
    ·rfl
   refine fun a' ha'=>nx a' _ ha' (mp_shut (Xs h1) ?_ ⟨by rw [hborn];exact hB.1,fun e hem=>?_⟩)
   rotate_left
   ·have h3:e.born ∈ es.toList.map (·.born):=by rw [←hborn];exact List.mem_map_of_mem hem
    obtain ⟨e',hem',he'⟩:=List.mem_map.1 h3
    rw [←he'];exact hB.2 e' hem'
   rw [hms]
   apply List.ext_getElem?
   intro i
   have hei:(es.toList.map (fun e=>(e.key,e.val)))[i]? = (m.map fun x=>(K x.1,V x.2))[i]?:=by rw [he]
   simp only [List.getElem?_map,Array.getElem?_toList,Array.getElem?_modify,List.getElem?_set] at hei ⊢
   by_cases hij:j=i
   ·subst hij
    simp only [if_true]
    have hlt:=(List.getElem?_eq_some_iff.1 hp).1
    rw [if_pos hlt]
    rw [hp] at hei
    simp only [Option.map_some,Option.map_eq_some_iff] at hei
    obtain ⟨e,he1,_⟩:=hei
    simp [he1]
   ·simp only [if_neg hij]
    exact hei
end
structure SeenOK {α β:Type} (es:List MapEntry) (m pre:List (α×β)) (seen:List Nat) (js:List Nat):Prop where
 nd:js.Nodup
 lt:∀j ∈ js,j<m.length
 sn:seen.map some=js.map fun j=>(es[j]?).map (·.born)
 pr:pre.map some=js.map fun j=>m[j]?
def MpI {α β:Type} (K:α→Value) (V:β→Value) (r it:Nat) (m pre:List (α×β)):HP:=fun h=>∃es clock seen,(es.toList.map (fun e=>(e.key,e.val))=(m.map fun x=>(K x.1,V x.2))∧BornOK es clock∧∃js,SeenOK es.toList m pre seen.toList js)∧Sep [Pt r (.map es clock),Pt it (.mapIter (some r) clock seen clock)] h
variable {β:Type}
section
variable {K:α→Value} {V:β→Value} {r it:Nat} {m pre:List (α×β)} {G:H} {w0 w:World} {hp0:H}
end
section
variable {l:List Oper} {z:Operand} {K:α→Value} {V:β→Value} {m pre:List (α×β)} {r it:Nat}
end
instance decNm:DecidableEq Nm:=fun a b=>decidable_of_iff (cmpO a b=0) (cmpO_eq a b)
structure Ch where
 nm:Nm
 val:ByteArray
 abs:Bool
def chf (c:Ch):List Value:=[.int .i64 c.nm.kind,.string c.nm.owner,.int .i64 c.nm.number,.int .i64 c.nm.index,.string c.nm.text,.string c.val,.bool c.abs]
def Ch.v (c:Ch):Value:=.agg #[.int .i64 c.nm.kind,.string c.nm.owner,.int .i64 c.nm.number,.int .i64 c.nm.index,.string c.nm.text,.string c.val,.bool c.abs]
def iv (i:Nat):Value:=.int .i64 (i:Int)
theorem beqSv (a b:ByteArray):(a.toList == b.toList)=decide (a=b):=by
 rw [ZZ,ZZ,Bool.eq_iff_iff]
 simp only [beq_iff_eq,decide_eq_true_eq]
 exact ⟨fun h=>XH h,fun h=>by rw [h]⟩
theorem beqIv (a b:Int):(a == b)=decide (a=b):=by rw [Bool.eq_iff_iff];simp
theorem key_nm:KeyOK 92 Nm.v where
 eq a b w:=by
  refine (equal_ok (t:=92) (x:=Nm.v a) (y:=Nm.v b) rfl w).trans ?_
  obtain ⟨a1,a2,a3,a4,a5⟩:=a
  obtain ⟨b1,b2,b3,b4,b5⟩:=b
  congr 1
  simp only [beqSv,beqIv,Nm.mk.injEq]
  rw [Bool.eq_iff_iff]
  simp
 chk a em w:=ckC_ok eqS_ok em 20 10000 _ _ w (by omega) rfl
 bits a:=by simp [Nm.v,Instr.sameBits,beq_toListBytes]
 now:=⟨_,rfl,fun a b=>.inl rfl⟩
section
variable {α β:Type} [DecidableEq α]
theorem mget_setv (a:α) (v:β):∀(m:List (α×β)) (b:α),mget b (mset a v m)=if a=b then some v else mget b m
 | [],b=>by
  by_cases h:a=b
  ·subst h;simp [mset,mget]
  ·have:b≠a:=fun e=>h e.symm
   simp [mset,mget,h,this]
 | (c,u)::m,b=>by
  have ih:=mget_setv a v m b
  unfold mset
  by_cases hac:a=c
  ·subst hac
   rw [if_pos rfl,mget,mget]
   by_cases hab:a=b
   ·subst hab;simp
   ·have:b≠a:=fun e=>hab e.symm
    simp [hab,this]
  ·rw [if_neg hac,mget,mget,ih]
   by_cases hab:a=b
   ·subst hab;simp [hac]
   ·simp [hab]
end
def lastG:List Ch→Nat→List (Nm×Nat)→List (Nm×Nat)
 | [],_,m=>m
 | c::cs,i,m=>lastG cs (i+1) (mset c.nm i m)
def lastL (cs:List Ch):List (Nm×Nat):=lastG cs 0 []
theorem lastG_snoc (c:Ch):∀(cs:List Ch) (i:Nat) (m:List (Nm×Nat)),lastG (cs++[c]) i m=mset c.nm (i+cs.length) (lastG cs i m)
 | [],i,m=>rfl
 | d::cs,i,m=>by
  rw [List.cons_append,lastG,lastG_snoc c cs (i+1),lastG,List.length_cons,Nat.add_right_comm,Nat.add_assoc]
theorem lastL_snoc (cs:List Ch) (c:Ch):lastL (cs++[c])=mset c.nm cs.length (lastL cs):=by
 unfold lastL;rw [lastG_snoc,Nat.zero_add]
def vcall (cs:List Ch) (n:Nm):Option Ch:=cs.reverse.find? fun c=>decide (c.nm=n)
theorem Xq (cs:List Ch) (c:Ch) (n:Nm):vcall (cs++[c]) n=if c.nm=n then some c else vcall cs n:=by
 unfold vcall
 rw [List.reverse_append,List.reverse_singleton,List.singleton_append,List.find?_cons]
 by_cases h:c.nm=n<;>simp [h]
theorem snoc_ind {γ:Type} {P:List γ→Prop} (h0:P []) (h1:∀l a,P l→P (l++[a])) (l:List γ):P l:=by
 have:∀l:List γ,P l.reverse:=fun l=>by
  induction l with
  | nil=>exact h0
  | cons a l ih=>rw [List.reverse_cons];exact h1 _ _ ih
 have:=this l.reverse
 rwa [List.reverse_reverse] at this
theorem lastL_get (n:Nm) (cs:List Ch):(∀i,mget n (lastL cs)=some i→∃c,cs[i]? = some c∧vcall cs n=some c)∧(mget n (lastL cs)=none→vcall cs n=none):=by
 refine snoc_ind (P:=fun cs=>(∀i,mget n (lastL cs)=some i→∃c,cs[i]? = some c∧vcall cs n=some c)∧(mget n (lastL cs)=none→vcall cs n=none)) ?_ ?_ cs
 ·exact ⟨fun i h=>by simp [lastL,lastG,mget] at h,fun _=>rfl⟩
 ·intro cs c ih
  rw [lastL_snoc,mget_setv,Xq]
  by_cases h:c.nm=n
  ·simp only [if_pos h]
   exact ⟨fun i hi=>⟨c,by obtain rfl:=Option.some.inj hi;simp,rfl⟩,fun h=>by cases h⟩
  ·simp only [if_neg h]
   refine ⟨fun i hi=>?_,ih.2⟩
   obtain ⟨d,h1,h2⟩:=ih.1 i hi
   exact ⟨d,by rw [List.getElem?_append_left (List.getElem?_eq_some_iff.1 h1).1];exact h1,h2⟩
def vget (es:Al) (cs:List Ch) (n:Nm):ByteArray×Bool:=
 if nchk n≠0 then (⟨#[]⟩,false) else match vcall cs n with
  | some c=>(c.val,!c.abs)
  | none=>((getO n es).getD ⟨#[]⟩,(getO n es).isSome)
def vread (es:Al) (rs:List (Nm×Ch)) (cs:List Ch) (n:Nm):List (Nm×Ch):=
 if nchk n≠0 then rs else match vcall cs n with
  | some _=>rs
  | none=>mset n ⟨n,(getO n es).getD ⟨#[]⟩,!(getO n es).isSome⟩ rs
def vset (cs:List Ch) (n:Nm) (v:ByteArray):Int×List Ch:=if nchk n≠0 then (12,cs) else if 65536<v.size then (5,cs) else (0,cs++[⟨n,v,false⟩])
def vdel (cs:List Ch) (n:Nm):Int×List Ch:=if nchk n≠0 then (12,cs) else (0,cs++[⟨n,⟨#[]⟩,true⟩])
section
variable {n:Nat} {C:Cx} {Q:Exit→Act→World→Prop} {E E':List (Nat×Value)} {F F' F1 Fs F0:List Pf} {R R' R0 Rs N N' A:List HP} {k k':List Fr} {ops l:List Oper} {L L':List (Nat×Nat)} {Tl:List Nat} {i d:Nat} {t ty0:TypeId} {x y z:Operand} {pos:String} {aft:Array Edge} {gd:Option (Nat×Bool)} {α β:Type} [DecidableEq α] {K:α→Value} {V:β→Value}
theorem r_mgetE2 {kt et r:Nat} {rs te:TRow} {m:List (α×β)} {zv:Value} (hk:KeyOK kt K) (a:α) (o:Option β) (ho:mget a m=o) (nx:Wr n C ops k Q Tl Fs R L ((d,.tuple #[(o.map V).getD zv,.bool o.isSome])::E) F N)
  (hop:nth ops i=some ⟨some d,.lookup t x y true,ty0,pos,aft,gd⟩:=by rfl) (hw:wantL ops E ⟨some d,.lookup t x y true,ty0,pos,aft,gd⟩=some true:=by rfl)
  (hx:ev E x=some (.map (some r)):=by rfl) (hy:ev E y=some (K a):=by rfl) (hts:lookT tab t=some rs:=by rfl) (hrs:rs.k = .map kt et:=by rfl) (hte:lookT tab et=some te:=by rfl) (hzv:zval te=some zv:=by rfl)
  (hs:Sel (Mp K V r m) R R0:=by (repeat (first|exact Sel.here|apply Sel.there));first|done|fail):Wr n C ops k Q Tl Fs R ((i,0)::L) E F N:=
 YD hop fun hp hr w st hz sb=>by
  simp only [Zb hw]
  refine ⟨.tuple #[(o.map V).getD zv,.bool o.isSome],fun ac w ha hin=>?_,nx hp hr w st hz sb⟩
  obtain ⟨h1,h2,_,s1,_,hmp,_⟩:=hs.sep st.r
  obtain ⟨es,clock,hes,he,hB⟩:=hmp
  have hb:w.heap[r]? = some (.map es clock):=hin _ _ (sb _ _ (ZL _ _ _ _ (s1 _ _ hes)))
  have hu:=run_undM (w:=w) hts hrs
  have hg:(getObj r).run prog w = .ok (.map es clock) w:=by simp [getObj,Sem.run,hb]
  have hc:=hk.chk a es.isEmpty w
  have hf:=findKey_ok hk a es.toList m w he
  have hz0:=zval_ok hte hzv w
  have hfg:=mfind_get a m 0
  simp only [execOp,ha.ev (x:=x) (by rw [ZE];exact hx),ha.ev (x:=y) (by rw [ZE];exact hy),Instr.lookup,Sem.run_bind,hu,Result.andThen,hg,hc,hf,Sem.run_pure]
  cases hm:mfind a m 0 with
  | none=>
   rw [hm] at hfg
   simp only [Option.map_none,Sem.run_bind,hz0,Result.andThen,Sem.run_pure,if_true]
   rw [←ho,←hfg];rfl
  | some q=>
   rw [hm] at hfg
   simp only [Option.map_some,if_true]
   rw [←ho,←hfg];rfl
end
section
variable {l:List Oper} {z:Operand}
theorem l_mnil {kt et r:Nat} {rs:TRow} (nx:Wl n C ops.toArray k Q l ((d,.bool false)::E) F R) (hw:wantL ops E ⟨some d,.binOp .eql t x y t2,ty0,pos,aft,gd⟩=some true:=by rfl) (hn:Nat.blt d n=true:=by rfl)
  (hx:ev E x=some (.map (some r)):=by rfl) (hy:ev E y=some (.map none):=by rfl) (hts:lookT tab t=some rs:=by rfl) (hrs:rs.k = .map kt et:=by rfl):Wl n C ops.toArray k Q (⟨some d,.binOp .eql t x y t2,ty0,pos,aft,gd⟩::l) E F R:=
 l_q (fun ac w ha=>by
  have hu:=run_undM (w:=w) hts hrs
  have hg:(eqGuard .eql t x y (.map (some r)) (.map none)).run prog w = .ok () w:=by simp [eqGuard]
  have hb:(binOp .eql t (.map (some r)) (.map none)).run prog w = .ok (.bool false) w:=by
   have he:(Op.equal t (.map (some r)) (.map none)).run prog w = .ok false w:=by
    show (Op.equalIn (9999+1) t (.map (some r)) (.map none)).run prog w = .ok false w
    rw [Op.equalIn]
    simp only [Sem.run_bind,hu,Result.andThen,Sem.run_pure]
   simp only [binOp,Sem.run_bind,he,Result.andThen,Sem.run_pure]
  simp only [execOp,ha.ev (x:=x) (by rw [ZE];exact hx),ha.ev (x:=y) (by rw [ZE];exact hy),Sem.run_bind,hg,Result.andThen,hb,Sem.run_pure]) nx (by intro c h;cases h) hw hn
end
abbrev VwL (b:Nat) (ps:Option Addr) (rs:List (Nm×Ch)) (cs:List Ch) (q:Nat×Nat×Option Addr×Nat):List HP:=
 [Pt b (.cells #[.pointer ps,.map (some q.1),.slice q.2.2.1 cs.length q.2.2.2,.map (some q.2.1)] 166),Mp Nm.v Ch.v q.1 rs,Row 105 7 q.2.2.1 cs.length q.2.2.2 (cs.flatMap chf),Mp Nm.v iv q.2.1 (lastL cs)]
def Vw (b:Nat) (ps:Option Addr) (rs:List (Nm×Ch)) (cs:List Ch):HP:=fun h=>∃q,True∧Sep (VwL b ps rs cs q) h
section
theorem k_vw {b:Nat} {ps:Option Addr} {rs:List (Nm×Ch)} {cs:List Ch} (t:∀q,Wk n C k Q E F (VwL b ps rs cs q++R0)) (hs:Sel (Vw b ps rs cs) R R0:=by (repeat (first|exact Sel.here|apply Sel.there));first|done|fail):Wk n C k Q E F R:=
 XA (X:=Nat×Nat×Option Addr×Nat) (Lx:=fun q=>VwL b ps rs cs q) (p:=fun _=>True) (r:=Vw b ps rs cs) hs (fun _h hh=>hh) (fun q _=>t q)
theorem k_vw' {b r1 r2 m cap:Nat} {o ps:Option Addr} {rs:List (Nm×Ch)} {cs:List Ch} {xs:List Value} {ll:List (Nm×Nat)} (t:Wk n C k Q E F (Vw b ps rs cs::R0)) (hm:m=cs.length) (hx:xs=cs.flatMap chf) (hl:ll=lastL cs)
  (hs:Sels [Pt b (.cells #[.pointer ps,.map (some r1),.slice o m cap,.map (some r2)] 166),Mp Nm.v Ch.v r1 rs,Row 105 7 o m cap xs,Mp Nm.v iv r2 ll] R R0:=by (repeat (first|exact Sels.nil|exact Sel.here|apply Sel.there|apply Sels.cons));first|done|fail):Wk n C k Q E F R:=by
 subst hm;subst hx;subst hl
 exact Zi (fun h hh=>⟨(r1,r2,o,cap),trivial,hh⟩) t hs
end
theorem viewNew_ok (b0:Nat):Enters 36∧Spec prog 36 #[.pointer (some ⟨b0,0,none⟩)] [] [] ⟨Nat,fun b=>.pointer (some ⟨b,0,none⟩),fun _=>True,fun _=>[],fun b=>[Vw b (some ⟨b0,0,none⟩) [] []]⟩:=by
 refine ZI [_] func36 ntmps36 fun G w hp=>?_
 repeat' (first|refine ZC ?_|refine ZB ?_|refine ZD ?_|refine ZQ (fun b=>?_)|refine ZF ?_|refine l_mkm (K:=Nm.v) (kt:=92) (et:=105) key_nm Ch.v (fun r=>?_)|refine l_mkm (K:=Nm.v) (kt:=92) (et:=3) key_nm iv (fun r=>?_)|fail)
 refine Zi (r:=Row 105 7 none 0 0 []) (Lx:=[]) (fun h _=>YV _ _ h) ?_
 refine k_vw' (cs:=[]) (rs:=[]) ?_ rfl rfl rfl
 exact ZG (post:=⟨Nat,fun b=>.pointer (some ⟨b,0,none⟩),fun _=>True,fun _=>[],fun b=>[Vw b (some ⟨b0,0,none⟩) [] []]⟩) _ rfl trivial
theorem vwRead_ok (b r1:Nat) (v0 v2 v3:Value) (T:Nat) (rs:List (Nm×Ch)) (c:Ch) :
  Enters 130∧Spec prog 130 #[.pointer (some ⟨b,0,none⟩),c.v] [] [Pt b (.cells #[v0,.map (some r1),v2,v3] T),Mp Nm.v Ch.v r1 rs]
   ⟨Unit,fun _=>.tuple #[],fun _=>True,fun _=>[],fun _=>[Pt b (.cells #[v0,.map (some r1),v2,v3] T),Mp Nm.v Ch.v r1 (mset c.nm c rs)]⟩:=by
 refine ZI [_,_] func130 ntmps130 fun G w hp=>?_
 repeat' (first|refine ZC ?_|refine ZB ?_|refine ZD ?_|refine ZS ?_|refine ZQ (fun b=>?_)|refine ZF ?_|refine Zq ?_|refine Ym ?_|refine Zp ?_|refine l_mnil ?_|refine l_mset (V:=Ch.v) key_nm c.nm c ?_|refine Za 3 [] [(0,0),(1,0),(2,0),(3,0),(4,0),(5,0),(6,0)] [7] ?_|fail)
 exact k_end () rfl trivial
theorem vwCall_ok (b:Nat) (ps:Option Addr) (rs:List (Nm×Ch)) (cs:List Ch) (c:Ch) (hl:cs.length≤1000000) :
  Enters 98∧Spec prog 98 #[.pointer (some ⟨b,0,none⟩),c.v] [] [Vw b ps rs cs] ⟨Unit,fun _=>.tuple #[],fun _=>True,fun _=>[],fun _=>[Vw b ps rs (cs++[c])]⟩:=by
 refine ZI [_,_] func98 ntmps98 fun G w hp=>?_
 refine k_vw fun q=>?_
 obtain ⟨r1,r2,o,cap⟩:=q
 repeat' (first|refine ZC ?_|refine ZB ?_|refine ZD ?_|refine ZS ?_|refine ZV ?_|refine ZQ (fun b=>?_)|refine ZF ?_|refine Zq ?_|refine Ym ?_|refine r_bs (fun b=>?_)|refine Zp ?_|refine l_mnil ?_|refine l_mset (V:=iv) key_nm c.nm cs.length ?_|refine r_app1 (fun o' cap'=>?_)|refine Za 3 [] [(0,0),(1,0),(2,0),(3,0),(4,0),(5,0),(6,0),(7,0),(8,0),(9,0),(10,0)] [11] ?_|refine Za 4 [Row _ _ _ _ _ _] [(0,0),(1,0),(2,0),(3,0),(4,0),(5,0),(6,1),(7,4),(8,0),(9,0)] [10] ?_|fail)
 refine k_vw' (cs:=cs++[c]) (rs:=rs) ?t ?hm ?hx ?hl
 case hm=>simp
 case hx=>simp [chf]
 case hl=>exact (lastL_snoc cs c).symm
 exact k_end () rfl trivial
theorem Y0 (b:Nat) (ps:Option Addr) (rs:List (Nm×Ch)) (cs:List Ch) (a:Nm) (v:ByteArray) (ha:a.owner.size≤1099511627776) (hat:a.text.size≤1099511627776) (hl:cs.length≤1000000) :
  Enters 42∧Spec prog 42 #[.pointer (some ⟨b,0,none⟩),a.v,.string v] [Usg] [Vw b ps rs cs] ⟨Unit,fun _=>.int .i64 (vset cs a v).1,fun _=>True,fun _=>[],fun _=>[Vw b ps rs (vset cs a v).2]⟩:=by
 have n1:=X1 a ha hat
 have n2:=vwCall_ok b ps rs cs ⟨a,v,false⟩ hl
 by_cases h1:nchk a=0
 ·by_cases h2:65536<v.size
  ·have e:vset cs a v=(5,cs):=by unfold vset;rw [if_neg (by simp [h1]),if_pos h2]
   rw [e]
   refine ZI [_,_,_] func42 ntmps42 fun G w hp=>?_
   repeat' (first|refine ZC ?_|refine ZB ?_|refine ZD ?_|refine ZS ?_|refine ZQ (fun b=>?_)|refine ZF ?_|refine ZA (n1) (fun _ _=>?_)|(refine ZH (fun hc=>?_) (fun hc=>?_)<;>(try simp at hc)<;>(try omega))|fail)
   exact ZG () rfl trivial
  ·have e:vset cs a v=(0,cs++[⟨a,v,false⟩]):=by unfold vset;rw [if_neg (by simp [h1]),if_neg h2]
   rw [e]
   refine ZI [_,_,_] func42 ntmps42 fun G w hp=>?_
   repeat' (first|refine ZC ?_|refine ZB ?_|refine ZD ?_|refine ZS ?_|refine ZQ (fun b=>?_)|refine ZF ?_|refine ZA (n1) (fun _ _=>?_)|refine ZA (n2) (fun _ _=>?_)|(refine ZH (fun hc=>?_) (fun hc=>?_)<;>(try simp at hc)<;>(try omega))|fail)
   exact ZG () rfl trivial
 ·have e:vset cs a v=(12,cs):=by unfold vset;rw [if_pos h1]
  rw [e]
  refine ZI [_,_,_] func42 ntmps42 fun G w hp=>?_
  repeat' (first|refine ZC ?_|refine ZB ?_|refine ZD ?_|refine ZS ?_|refine ZQ (fun b=>?_)|refine ZF ?_|refine ZA (n1) (fun _ _=>?_)|(refine ZH (fun hc=>?_) (fun hc=>?_)<;>(try simp at hc)<;>(try omega))|fail)
  exact ZG () rfl trivial
set_option maxHeartbeats 1000000 in
theorem YW (b:Nat) (ps:Option Addr) (es:Al) (rs:List (Nm×Ch)) (cs:List Ch) (a:Nm) (ha:a.owner.size≤1099511627770) (hat:a.text.size≤1099511627776) :
  Enters 77∧Spec prog 77 #[.pointer (some ⟨b,0,none⟩),a.v] [St ps es,Usg] [Vw b ps rs cs] ⟨Unit,fun _=>.tuple #[.string (vget es cs a).1,.bool (vget es cs a).2],fun _=>True,fun _=>[],fun _=>[Vw b ps (vread es rs cs a) cs]⟩:=by
 have n1:=X1 a (by omega) hat
 have n2:=stateGet_ok ps es a ha
 by_cases h1:nchk a=0
 ·obtain ⟨l1,l2⟩:=lastL_get a cs
  cases hm:mget a (lastL cs) with
  | some i=>
   obtain ⟨c,hc1,hc2⟩:=l1 i hm
   have hil:=(List.getElem?_eq_some_iff.1 hc1).1
   have e1:vget es cs a=(c.val,!c.abs):=by unfold vget;rw [if_neg (by simp [h1]),hc2]
   have e2:vread es rs cs a=rs:=by unfold vread;rw [if_neg (by simp [h1]),hc2]
   rw [e1,e2]
   refine ZI [_,_] func77 ntmps77 fun G w hp=>?_
   refine k_vw fun q=>?_
   obtain ⟨r1,r2,o,cap⟩:=q
   refine k_row (m:=cs.length) (by omega) fun p hp=>?_
   have ho:=hp.o
   subst ho
   have hsp:Ax 105 chf p.1 cs p.2=Pt p.1 (.cells (cs.flatMap chf++p.2.1).toArray 105 p.2.2):=rfl
   rw [←hsp]
   repeat' (first|refine ZC ?_|refine ZB ?_|refine ZP ?_|refine ZD ?_|refine ZS ?_|refine ZQ (fun b=>?_)|refine ZJ ?_|refine Zq ?_|refine Ym ?_|refine Zp ?_|refine ZA (n1) (fun _ _=>?_)|refine r_mgetE2 key_nm a (some i) hm ?_|refine r_ixP (m:=cs.length) i hil ?_|refine r_ldE 7 i 5 hc1 ?_|refine r_ldE 7 i 6 hc1 ?_|refine Za 3 [] [(0,0),(1,0),(2,0),(3,0),(4,0),(5,0),(6,0),(7,0),(8,0),(9,0),(10,0)] [] ?_|refine Za 5 [] [(0,0),(1,0),(2,0),(3,0),(4,0),(5,0),(6,0),(7,0),(8,0),(9,0),(10,0),(11,0),(12,0),(13,0),(14,0),(15,0),(16,0),(17,0),(18,0)] [] ?_|(refine ZH (fun hc=>?_) (fun hc=>?_)<;>(try simp at hc)<;>(try omega))|fail)
   refine Zi (r:=Row 105 7 (some ⟨p.1,0,none⟩) cs.length cap (cs.flatMap chf)) (Lx:=[Ax 105 chf p.1 cs p.2]) (fun h hh=>row_shut hp h hh) ?_
   refine k_vw' (cs:=cs) (rs:=rs) ?_ rfl rfl rfl
   exact ZG () rfl trivial
  | none=>
   have hc2:=l2 hm
   have e1:vget es cs a=((getO a es).getD ⟨#[]⟩,(getO a es).isSome):=by unfold vget;rw [if_neg (by simp [h1]),hc2]
   have e2:vread es rs cs a=mset a ⟨a,(getO a es).getD ⟨#[]⟩,!(getO a es).isSome⟩ rs:=by unfold vread;rw [if_neg (by simp [h1]),hc2]
   rw [e1,e2]
   have n3:=fun (r1:Nat) (v2 v3:Value)=>vwRead_ok b r1 (.pointer ps) v2 v3 166 rs ⟨a,(getO a es).getD ⟨#[]⟩,!(getO a es).isSome⟩
   refine ZI [_,_] func77 ntmps77 fun G w hp=>?_
   refine k_vw fun q=>?_
   obtain ⟨r1,r2,o,cap⟩:=q
   repeat' (first|refine ZC ?_|refine ZB ?_|refine ZP ?_|refine ZD ?_|refine ZS ?_|refine ZQ (fun b=>?_)|refine ZF ?_|refine Zq ?_|refine Ym ?_|refine Zp ?_|refine ZA (n1) (fun _ _=>?_)|refine ZY (n2) (fun _ _=>?_)|refine ZA (n3 _ _ _) (fun _ _=>?_)|refine r_mgetE2 key_nm a none hm ?_|refine Za 3 [] [(0,0),(1,0),(2,0),(3,0),(4,0),(5,0),(6,0),(7,0),(8,0),(9,0),(10,0)] [] ?_|refine Za 6 [] [(0,0),(1,0),(2,0),(3,0),(4,0),(5,4),(6,0),(7,0),(8,0),(9,0),(10,0)] [] ?_|(refine ZH (fun hc=>?_) (fun hc=>?_)<;>(try simp at hc)<;>(try omega))|fail)
   refine k_vw' (cs:=cs) (rs:=mset a ⟨a,(getO a es).getD ⟨#[]⟩,!(getO a es).isSome⟩ rs) ?_ rfl rfl rfl
   exact ZG () rfl trivial
 ·have e1:vget es cs a=(⟨#[]⟩,false):=by unfold vget;rw [if_pos h1]
  have e2:vread es rs cs a=rs:=by unfold vread;rw [if_pos h1]
  rw [e1,e2]
  refine ZI [_,_] func77 ntmps77 fun G w hp=>?_
  repeat' (first|refine ZC ?_|refine ZB ?_|refine ZP ?_|refine ZD ?_|refine ZS ?_|refine ZQ (fun b=>?_)|refine ZA (n1) (fun _ _=>?_)|(refine ZH (fun hc=>?_) (fun hc=>?_)<;>(try simp at hc)<;>(try omega))|fail)
  exact ZG () rfl trivial
section
variable {α:Type} [Inhabited α]
def gt (l:List α) (i:Nat):α:=l.getD i default
def sw (l:List α) (i j:Nat):List α:=(l.set i (gt l j)).set j (gt l i)
structure Win (a b:Nat) (l l':List α):Prop where
 perm:l'.Perm l
 out:∀k,k<a∨b≤k→gt l' k=gt l k
variable {a a' b':Nat} {l l' l'':List α}
def wn (l:List α) (a b:Nat):List α:=(l.drop a).take (b - a)
structure Wk0 (c:α→α→Int):Prop where
 a:∀x y,c x y<0→¬c y x<0
 t:∀x y z,¬c y x<0→¬c z y<0→¬c z x<0
variable {c:α→α→Int} (W:Wk0 c)
include W
omit W
def Sw (c:α→α→Int) (a b:Nat) (l:List α):Prop:=∀i j,a≤i→i<j→j<b→¬c (gt l j) (gt l i)<0
structure Jw (c:α→α→Int) (a b a' b':Nat) (l0 l:List α):Prop where
 w:Win a b l0 l
 h1:a≤a'
 h2:b'≤b
 p:∀i j,a≤i→i<j→j<b→¬(a'≤i∧j<b')→¬c (gt l j) (gt l i)<0
def Lw (c:α→α→Int) (a b:Nat) (l:List α):Prop:=0<a→∀k,a≤k→k<b→¬c (gt l k) (gt l (a - 1))<0
variable {l0 l1 l2:List α} {m:Nat}
structure Pt0 (c:α→α→Int) (a b m:Nat) (l:List α):Prop where
 h1:a≤m
 h2:m<b
 lo:∀k,a≤k→k<m→c (gt l k) (gt l m)<0
 hi:∀k,m<k→k<b→¬c (gt l k) (gt l m)<0
def Hp (c:α→α→Int) (f lo n x:Nat) (l:List α):Prop:=∀i j,lo≤i→(j=2 * i+1∨j=2 * i+2)→j<n→i≠x→¬c (gt l (f+i)) (gt l (f+j))<0
def Hq (c:α→α→Int) (f lo n x:Nat) (l:List α):Prop:=∀i j,lo≤i→(x=2 * i+1∨x=2 * i+2)→(j=2 * x+1∨j=2 * x+2)→j<n→¬c (gt l (f+i)) (gt l (f+j))<0
variable {f lo x y:Nat}
def He (c:α→α→Int) (f lo n:Nat) (l:List α):Prop:=∀i j,lo≤i→(j=2 * i+1∨j=2 * i+2)→j<n→¬c (gt l (f+i)) (gt l (f+j))<0
structure Hs (c:α→α→Int) (f n N:Nat) (l:List α):Prop where
 he:He c f 0 n l
 so:∀p q,p<q→q<N→n≤q→¬c (gt l (f+q)) (gt l (f+p))<0
def inR (c:α→α→Int) (P:List α) (x:α):List α:=(P.reverse.dropWhile fun s=>decide (c x s<0)).reverse++x::(P.reverse.takeWhile fun s=>decide (c x s<0)).reverse
def isR (c:α→α→Int) (l:List α):List α:=l.foldl (inR c) []
end
section
variable (b cap:Nat) (q:List Value×(Nat×Nat)) (fv:FuncId) (Fc:Pf) (c:Ch→Ch→Int) (W:Wk0 c) (U:Ch→Prop) (hcmp:∀x y,U x→U y→Enters fv∧Spec prog fv #[x.v,y.v] [Fc] [] (RetV (.int .i64 (c x y))))
end
def drpS:Nat→List Fr→List Fr
 | m+1,.c (.seq _ b)::k=>drpS m (.c b::k)
 | _,k=>k
section
end
section
variable {l:List Oper}
end
def LenP (u c:Nat):Bool:=Nat.ble c 8 && (Nat.blt u (2 ^ c) && (Nat.ble (2 ^ c) (2 * u) || Nat.beq u 0))
section
variable {l:List Oper}
end
section
variable (bk cap:Nat) (q:List Value×(Nat×Nat)) (fv:FuncId) (Fc:Pf) (c:Ch→Ch→Int) (W:Wk0 c) (U:Ch→Prop) (hcmp:∀x y,U x→U y→Enters fv∧Spec prog fv #[x.v,y.v] [Fc] [] (RetV (.int .i64 (c x y))))
instance inhC:Inhabited Ch:=⟨⟨⟨0,⟨#[]⟩,0,0,⟨#[]⟩⟩,⟨#[]⟩,false⟩⟩
end
section
variable (bk cap:Nat) (q:List Value×(Nat×Nat)) (fv:FuncId) (Fc:Pf) (c:Ch→Ch→Int) (W:Wk0 c) (U:Ch→Prop) (hcmp:∀x y,U x→U y→Enters fv∧Spec prog fv #[x.v,y.v] [Fc] [] (RetV (.int .i64 (c x y))))
end
section
variable (bk cap:Nat) (q:List Value×(Nat×Nat)) (fv:FuncId) (Fc:Pf) (c:Ch→Ch→Int) (W:Wk0 c) (U:Ch→Prop) (hcmp:∀x y,U x→U y→Enters fv∧Spec prog fv #[x.v,y.v] [Fc] [] (RetV (.int .i64 (c x y))))
end
section
variable {α:Type} [Inhabited α] {a b i j:Nat} {P:α} {A:α→Prop} {l m:List α}
structure Pin (A:α→Prop) (a b i j:Nat) (P:α) (l m:List α):Prop where
 w:Win a b l m
 h1:a<i
 h2:i≤j+1
 h3:j<b
 pa:gt m a=P
 lo:∀k,a<k→k<i→A (gt m k)
 hi:∀k,j<k→k<b→¬A (gt m k)
variable {c:α→α→Int} {l' m1 m2:List α}
def Lsh (c:α→α→Int) (a i j:Nat) (m:List α):Prop:=∀p q,a≤p→p<q→q<i→q≠j→¬c (gt m q) (gt m p)<0
end
section
variable (bk cap:Nat) (q:List Value×(Nat×Nat)) (fv:FuncId) (Fc:Pf) (c:Ch→Ch→Int) (W:Wk0 c) (U:Ch→Prop) (hcmp:∀x y,U x→U y→Enters fv∧Spec prog fv #[x.v,y.v] [Fc] [] (RetV (.int .i64 (c x y))))
end
section
variable (bk cap:Nat) (q:List Value×(Nat×Nat)) (fv:FuncId) (Fc:Pf) (c:Ch→Ch→Int) (W:Wk0 c) (U:Ch→Prop) (hcmp:∀x y,U x→U y→Enters fv∧Spec prog fv #[x.v,y.v] [Fc] [] (RetV (.int .i64 (c x y))))
end
section
variable (bk cap:Nat) (q:List Value×(Nat×Nat)) (fv:FuncId) (Fc:Pf) (c:Ch→Ch→Int) (W:Wk0 c) (U:Ch→Prop) (hcmp:∀x y,U x→U y→Enters fv∧Spec prog fv #[x.v,y.v] [Fc] [] (RetV (.int .i64 (c x y))))
end

def cmpC (a b:Ch):Int:=cmpO a.nm b.nm
def Ch.z:Ch:=⟨⟨0,⟨#[]⟩,0,0,⟨#[]⟩⟩,⟨#[]⟩,false⟩
def chAt (cs:List Ch) (p:Nm×Nat):Ch:=(cs[p.2]?).getD Ch.z
def insC (c:Ch):List Ch→List Ch
 | []=>[c]
 | d::l=>if cmpC c d<0 then c::d::l else d::insC c l
def srtC (l:List Ch):List Ch:=l.foldr insC []
def vwr (cs:List Ch):List Ch:=srtC ((lastL cs).map (chAt cs))
def WrPost (b:Nat) (ps:Option Addr) (rs:List (Nm×Ch)) (cs:List Ch):Post:=⟨Option Addr×Nat,fun q=>.slice q.1 (vwr cs).length q.2,fun _=>True,fun _=>[],fun q=>[Vw b ps rs cs,Row 105 7 q.1 (vwr cs).length q.2 ((vwr cs).flatMap chf)]⟩
section
variable {l:List Oper}
def IterU {α:Type} (gf:FuncId) (lb:List Value) (enc:α→Value) (Ok All:List α→Prop) (Fg:List Pf) (A A':List HP):Prop:=
 ∀(v:Value) (Y:Pf) (I Ix:List α→HP),(∀pre e,Ok (pre++[e])→SpecV v [enc e] [Y] [I pre] (YPost I Ix pre e))→
  Enters gf∧Spec prog gf (v::lb).toArray (Y::Fg) (I []::A) ⟨Option (List α)×List α,fun _=>.tuple #[],fun r=>match r.1 with|none=>All r.2|some _=>True,fun _=>[],fun r=>(match r.1 with|none=>I r.2|some pre=>Ix pre)::A'⟩
end
abbrev chv (p:Nm×Ch):Value:=p.2.v
def OkP {γ:Type} (m pre:List γ):Prop:=∃rest,(pre++rest).Perm m
theorem sels_all:∀A:List HP,Sels A A []
 | []=>.nil
 | _::A=>.cons .here (sels_all A)
abbrev JAL (b:Nat) (pre:List (Nm×Ch)) (q:Option Addr×Nat):List HP:=[Pt b (.cells #[.slice q.1 (pre.map (·.2)).length q.2] 102),Row 105 7 q.1 (pre.map (·.2)).length q.2 ((pre.map (·.2)).flatMap chf)]
def JA (b:Nat) (pre:List (Nm×Ch)):HP:=fun h=>∃q,True∧Sep (JAL b pre q) h
structure RdOK (rs:List (Nm×Ch)):Prop where
 nd:(rs.map (·.1)).Nodup
 nm:∀p ∈ rs,p.2.nm=p.1
 sz:∀p ∈ rs,p.1.owner.size≤1099511627770
def vrd (rs:List (Nm×Ch)):List Ch:=srtC (rs.map (·.2))
def WrPostF (r2:Nat) (o:Option Addr) (cap:Nat) (cs:List Ch):Post:=⟨Option Addr×Nat,fun q=>.slice q.1 (vwr cs).length q.2,fun _=>True,fun _=>[],fun q=>[Row 105 7 o cs.length cap (cs.flatMap chf),Mp Nm.v iv r2 (lastL cs),Row 105 7 q.1 (vwr cs).length q.2 ((vwr cs).flatMap chf)]⟩
structure FitC (c:Ch):Prop where
 ok:nchk c.nm=0
 val:c.val.size≤65536
 abs:c.abs=false
 own:c.nm.owner.size≤1099511627770
 txt:c.nm.text.size≤1099511627776
def applyE (es:Al) (l:List Ch):Al:=l.foldl (fun es c=>insO c.nm c.val es) es
structure Ct where
 b:Int
 o:Int
 c:Int
 deriving DecidableEq
def Ct.v (c:Ct):Value:=.agg #[.int .i64 c.b,.int .i64 c.o,.int .i64 c.c]
def Ct.z:Ct:=⟨0,0,0⟩
structure CtOK (c:Ct):Prop where
 b0:0≤c.b
 b1:c.b≤1048576
 o0:0≤c.o
 o1:c.o≤1048576
 c0:0≤c.c
 c1:c.c≤1048576
def cenc (c:Ct):List UInt8:=venc c.b.toNat++venc c.o.toNat++venc c.c.toNat
theorem Xp (x m:Int):Enters 217∧Spec prog 217 #[.int .i64 x,.int .i64 m] [] [] (RetV (.bool (decide (0≤x) && decide (x≤m)))):=by
 refine ZI [_,_] func217 ntmps217 fun G w hp=>?_
 repeat' (first|refine ZC ?_|refine ZB ?_|refine ZP ?_|refine ZD ?_|(refine ZM (fun hc=>?_) (fun hc=>?_)<;>(try simp at hc))|fail)
 all_goals (refine ZG () ?_ trivial;simp_all [RetV,resV]<;>omega)
def cchk (c:Ct):Int:=if 0≤c.b∧c.b≤1048576∧0≤c.o∧c.o≤1048576∧0≤c.c∧c.c≤1048576 then 0 else 2
theorem cchk_ok {c:Ct} (h:CtOK c):cchk c=0:=by
 unfold cchk;rw [if_pos ⟨h.b0,h.b1,h.o0,h.o1,h.c0,h.c1⟩]
theorem cntCheck_ok (c:Ct):Enters 193∧Spec prog 193 #[c.v] [] [] (RetV (.int .i64 (cchk c))):=by
 have n1:=Xp c.b 1048576
 have n2:=Xp c.o 1048576
 have n3:=Xp c.c 1048576
 refine ZI [_] func193 ntmps193 fun G w hp=>?_
 repeat' (first|refine ZC ?_|refine ZB ?_|refine ZP ?_|refine ZD ?_|refine ZS ?_|refine ZQ (fun b=>?_)|refine ZJ ?_|refine ZA (n1) (fun _ _=>?_)|refine ZA (n2) (fun _ _=>?_)|refine ZA (n3) (fun _ _=>?_)|(refine ZM (fun hc=>?_) (fun hc=>?_)<;>(try simp at hc))|(refine ZH (fun hc=>?_) (fun hc=>?_)<;>(try simp at hc))|fail)
 all_goals (refine ZG () ?_ trivial;simp_all [RetV,resV,cchk]<;>omega)
abbrev EncL (b bw:Nat) (e:Int) (bs:List UInt8):List HP:=[Pt b (.cells #[.pointer (some ⟨bw,0,none⟩),.int .i64 e] 307),Wtr bw bs]
theorem newEncoder_ok (e:Int):Enters 192∧Spec prog 192 #[.int .i64 e] [] [] ⟨Nat×Nat,fun q=>.pointer (some ⟨q.1,0,none⟩),fun _=>True,fun _=>[],fun q=>EncL q.1 q.2 e []⟩:=by
 refine ZI [_] func192 ntmps192 fun G w hp=>?_
 repeat' (first|refine ZC ?_|refine ZB ?_|refine ZD ?_|refine ZQ (fun b=>?_)|refine ZA (X4) (fun _ _=>?_)|fail)
 rename_i bw _
 exact ZG (b,bw) rfl trivial
theorem WE:∀l:List Int,(∀z ∈ l,0≤z∧z≤4294967296)→(l.flatMap fun z=>venc z.toNat).length≤l.length * 10
 | [],_=>by simp
 | z::l,h=>by
  have h1:=ZO z.toNat (by have:=h z (by simp);omega)
  have h2:=WE l (fun y hy=>h y (by simp [hy]))
  simp only [List.flatMap_cons,List.length_append,List.length_cons]
  omega
theorem numbers_ok (b bw:Nat) (e:Int) (bs:List UInt8) (o:Option Addr) (cap:Nat) (l:List Int) (hl:l.length≤1000) (hz:∀z ∈ l,0≤z∧z≤4294967296) (hb:bs.length≤1000000) :
  Enters 194∧Spec prog 194 #[.pointer (some ⟨b,0,none⟩),.slice o l.length cap] [Sl 3 zf o cap l] (EncL b bw e bs)
   ⟨Unit,fun _=>.tuple #[],fun _=>True,fun _=>[],fun _=>EncL b bw e (bs++l.flatMap fun z=>venc z.toNat)⟩:=by
 refine ZI [_,_] func194 ntmps194 fun G w hp=>?_
 repeat' (first|refine ZC ?_|refine ZB ?_|refine ZD ?_|fail)
 refine YF (X:={i:Nat // i≤l.length}) (fun i=>[(0,.pointer (some ⟨b,0,none⟩)),(6,.slice o l.length cap),(7,.int .i64 (l.length:Int)),(8,.int .i64 (i.1:Int))]) (fun _=>[Sl 3 zf o cap l]) (fun i=>EncL b bw e (bs++(l.take i.1).flatMap fun z=>venc z.toNat)) (fun i=>l.length - i.1) ⟨0,by omega⟩ ⟨rfl,rfl,rfl,rfl,trivial⟩ ?_ (hr:=by simp only [List.take_zero,List.flatMap_nil,List.append_nil];exact Sels.cons .here (.cons .here .nil))
 rintro ⟨i,hi⟩
 dsimp only at hi ⊢
 by_cases hlt:i<l.length
 ·have hgt:=List.getElem?_eq_getElem hlt
  obtain ⟨z,hzz⟩:∃z,l[i]=z:=⟨_,rfl⟩
  rw [hzz] at hgt
  have hm:z ∈ l:=by rw [←hzz];exact List.getElem_mem hlt
  obtain ⟨z0,z1⟩:=hz z hm
  have hlen:=WE (l.take i) (fun y hy=>hz y (List.mem_of_mem_take hy))
  have h2:(l.take i).length=i:=by simp;omega
  have n1:=Zf bw (bs++(l.take i).flatMap fun z=>venc z.toNat) z.toNat (by omega) (by rw [List.length_append];omega)
  rw [show ((z.toNat:Nat):Int)=z by omega] at n1
  repeat' (first|refine ZC ?_|refine ZB ?_|refine ZD ?_|refine ZS ?_|refine ZA (n1) (fun _ _=>?_)|refine YY i z hgt (fun b off=>?_)|refine Zw ?_|(refine ZH (fun hc=>?_) (fun hc=>?_)<;>(try simp at hc)<;>(try omega))|fail)
  rw [wrapi (z:=(i:Int)+1) (by omega) (by omega)]
  have e1:bs++((l.take i).flatMap fun z=>venc z.toNat)++venc z.toNat=bs++(l.take (i+1)).flatMap fun z=>venc z.toNat:=by
   rw [List.take_succ_eq_append_getElem hlt,hzz];simp
  rw [e1]
  exact ZW ⟨i+1,by omega⟩ (by show l.length - (i+1)<l.length - i;omega) ⟨rfl,rfl,rfl,rfl,trivial⟩
 ·obtain rfl:i=l.length:=by omega
  rw [List.take_length]
  repeat' (first|refine ZC ?_|refine ZB ?_|refine ZD ?_|refine Zj ?_|(refine ZH (fun hc=>?_) (fun hc=>?_)<;>(try simp at hc)<;>(try omega))|fail)
  exact k_end () rfl trivial
theorem venc_props:∀(k u:Nat),u≤k→∃init last,venc u=init++[last]∧(∀b ∈ init,128≤b.toNat)∧last.toNat<128∧(0<u→last.toNat≠0)∧(init≠[]→0<u)∧dval (venc u)=u:=by
 intro k
 induction k with
 | zero=>
  intro u hu
  obtain rfl:u=0:=by omega
  refine ⟨[],0,?_,by simp,by decide,by simp,by simp,?_⟩
  ·rw [venc];simp
  ·rw [venc];simp [dval]
 | succ k ih=>
  intro u hu
  by_cases h:u<128
  ·have hv:venc u=[UInt8.ofNat u]:=by rw [venc,if_pos h]
   have ht:(UInt8.ofNat u).toNat=u:=by simp;omega
   refine ⟨[],UInt8.ofNat u,by rw [hv];rfl,by simp,by omega,fun h0=>by omega,by simp,?_⟩
   rw [hv,dval,dval,ht];omega
  ·have hv:venc u=UInt8.ofNat (u % 128+128)::venc (u / 128):=by rw [venc,if_neg h]
   have ht:(UInt8.ofNat (u % 128+128)).toNat=u % 128+128:=by simp;omega
   obtain ⟨init,last,h1,h2,h3,h4,h5,h6⟩:=ih (u / 128) (by omega)
   refine ⟨UInt8.ofNat (u % 128+128)::init,last,by rw [hv,h1];rfl,fun b hb=>?_,h3,fun _=>h4 (by omega),fun _=>by omega,?_⟩
   ·rcases List.mem_cons.1 hb with rfl|hb
    ·omega
    ·exact h2 b hb
   ·rw [hv,dval,h6,ht];omega
theorem pnat_venc (u:Nat) (hu:u<9223372036854775808) (rest:List UInt8):pnat (venc u++rest) 9=(u,(venc u).length,0):=by
 obtain ⟨init,last,h1,h2,h3,h4,h5,h6⟩:=venc_props u u (Nat.le_refl _)
 have hl:(venc u).length≤9:=venc_len 8 u (by simpa using hu)
 have hlen:(venc u).length=init.length+1:=by rw [h1];simp
 have hlast:lastN (venc u++rest) 9=init.length:=by
  refine XK (by simp;omega) (by omega) (fun i hi=>?_) (.inr (.inr ⟨last,?_,h3⟩))
  ·refine ⟨init[i],?_,h2 _ (List.getElem_mem hi)⟩
   rw [h1,List.append_assoc,List.getElem?_append_left hi]
   exact List.getElem?_eq_getElem hi
  ·rw [h1,List.append_assoc,List.getElem?_append_right (Nat.le_refl _)]
   simp
 have hget:(venc u++rest)[init.length]? = some last:=by
  rw [h1,List.append_assoc,List.getElem?_append_right (Nat.le_refl _)];simp
 have htk:(venc u++rest).take (init.length+1)=venc u:=by rw [←hlen];simp
 unfold pnat
 dsimp only
 rw [hlast,if_neg (by omega),hget]
 dsimp only
 rw [if_neg,if_neg (by omega),htk,h6,hlen,Nat.mod_eq_of_lt (by omega)]
 rintro ⟨g1,g2⟩
 exact h4 (h5 (fun e=>by rw [e] at g1;simp at g1)) g2
theorem Zo (u:Nat) (hu:u<9223372036854775808) (rest:List UInt8) (pos:Nat) (most:Int) (hm:(u:Int)≤most):rnum ⟨venc u++rest,pos,0⟩ most=((u:Int),⟨rest,pos+(venc u).length,0⟩):=by
 have hp:pnum (venc u++rest) most=((u:Int),(venc u).length,0):=by
  unfold pnum
  rw [pnat_venc u hu rest]
  dsimp only
  rw [if_neg (by omega)]
 unfold rnum rstep
 dsimp only
 rw [hp]
 simp
theorem rtext_venc (s:ByteArray) (rest:List UInt8) (pos:Nat) (most:Int) (hm:(s.size:Int)≤most) (h2:s.size≤16777216):rtext ⟨venc s.size++s.data.toList++rest,pos,0⟩ most=(s,⟨rest,pos+((venc s.size).length+s.size),0⟩):=by
 have hs:s.data.toList.length=s.size:=by simp
 have e1:(venc s.size++(s.data.toList++rest)).drop ((venc s.size).length+s.size)=rest:=by
  rw [←List.append_assoc,←hs,←List.length_append,List.drop_left]
 have e2:((venc s.size++(s.data.toList++rest)).take ((venc s.size).length+s.size)).drop (venc s.size).length=s.data.toList:=by
  rw [←List.append_assoc,←hs,←List.length_append,List.take_left,List.drop_left]
 have hp:ptext (venc s.size++(s.data.toList++rest)) most=(s,(venc s.size).length+s.size,0):=by
  unfold ptext
  rw [pnat_venc s.size (by omega) (s.data.toList++rest)]
  dsimp only
  rw [if_neg (by simp),if_neg (by omega),if_neg (by simp only [List.length_append];omega),e2]
 unfold rtext rstep
 dsimp only
 rw [List.append_assoc,hp,if_neg (by simp),if_neg (by simp)]
 dsimp only
 rw [e1]
theorem numbersP_ok (b bw s:Nat) (e:Int) (bs:List UInt8) (l:List Int) (hl:l.length≤1000) (hz:∀z ∈ l,0≤z∧z≤4294967296) (hb:bs.length≤1000000) :
  Enters 194∧Spec prog 194 #[.pointer (some ⟨b,0,none⟩),.slice (some ⟨s,0,none⟩) l.length l.length] [] (Pt s (.cells (l.flatMap zf).toArray 3)::EncL b bw e bs)
   ⟨Unit,fun _=>.tuple #[],fun _=>True,fun _=>[],fun _=>EncL b bw e (bs++l.flatMap fun z=>venc z.toNat)⟩:=by
 have h:=numbers_ok b bw e bs (some ⟨s,0,none⟩) l.length l hl hz hb
 refine ⟨h.1,fun G w hp hs=>?_⟩
 have h1:=(hs.shut (L:=[Pt s (.cells (l.flatMap zf).toArray 3)]) (x:=Row 3 1 (some ⟨s,0,none⟩) l.length l.length (l.flatMap zf)) fun h hh=>by
  obtain ⟨h1,h2,_,s1,_,hx,_⟩:=hh
  exact .inr ⟨s,[],(0,0),rfl,by have:=s1 _ _ hx;simpa using this,by rw [YJ (f:=zf) (sz:=1) (fun _=>rfl)],by rw [List.append_nil,YJ (f:=zf) (sz:=1) (fun _=>rfl)],Nat.le_refl _,.inl rfl⟩)
 have h2:=frz_row (f:=zf) (es:=l) rfl rfl Sel.here h1
 refine YX h.2 h2 (sels_all _) (fun hp hF f hf=>by simp at hf;subst hf;exact hF _ (by simp)) fun x w' hx h3=>⟨x,rfl,hx,?_⟩
 exact (h3.facts (F':=[]) (fun _ _ _ h=>by cases h)).res fun k hk=>by simpa using hk
theorem encBytes_ok (b bw:Nat) (bs:List UInt8) (hl:bs.length≤1000000) :
  Enters 195∧Spec prog 195 #[.pointer (some ⟨b,0,none⟩)] [] (EncL b bw 0 bs) (RetV (.tuple #[.string ⟨bs.toArray⟩,.int .i64 0])):=by
 refine ZI [_] func195 ntmps195 fun G w hp=>?_
 repeat' (first|refine ZC ?_|refine ZB ?_|refine ZD ?_|refine ZS ?_|refine ZV ?_|refine ZJ ?_|refine ZF ?_|refine ZA (WH _ bs (by omega)) (fun _ _=>?_)|fail)
 refine l_frz (sz:=1) (f:=bf) bs ?_ (Zz _) rfl
 refine l_b2s ?_
 repeat' (first|refine ZC ?_|refine ZB ?_|fail)
 exact ZG () rfl trivial
theorem cenc_len {c:Ct} (h:CtOK c):(cenc c).length≤30:=by
 have l1:=ZO c.b.toNat (by have:=h.b1;omega)
 have l2:=ZO c.o.toNat (by have:=h.o1;omega)
 have l3:=ZO c.c.toNat (by have:=h.c1;omega)
 simp only [cenc,List.length_append];omega
theorem WT (c:Ct) (h:CtOK c):Enters 159∧Spec prog 159 #[c.v] [] [] (RetV (.tuple #[.string ⟨(cenc c).toArray⟩,.int .i64 0])):=by
 have n1:=cntCheck_ok c
 rw [cchk_ok h] at n1
 have e:([c.b,c.o,c.c].flatMap fun z=>venc z.toNat)=cenc c:=by simp [cenc]
 have n2:=fun b bw s=>numbersP_ok b bw s 0 [] [c.b,c.o,c.c] (by simp) (fun z hz=>by
  simp only [List.mem_cons,List.not_mem_nil,or_false] at hz
  have:=h.b0;have:=h.b1;have:=h.o0;have:=h.o1;have:=h.c0;have:=h.c1
  rcases hz with rfl|rfl|rfl<;>omega) (by simp)
 rw [e,List.nil_append] at n2
 have hl:=cenc_len h
 have n3:=fun b bw=>encBytes_ok b bw (cenc c) (by omega)
 refine ZI [_] func159 ntmps159 fun G w hp=>?_
 repeat' (first|refine ZC ?_|refine ZB ?_|refine ZD ?_|refine ZS ?_|refine ZQ (fun b=>?_)|refine YM (fun b=>?_)|refine ZA (n1) (fun _ _=>?_)|refine ZA (newEncoder_ok _) (fun _ _=>?_)|refine ZA (n2 _ _ _) (fun _ _=>?_)|refine ZA (n3 _ _) (fun _ _=>?_)|fail)
 exact ZG () rfl trivial
def cread (s:RS):Ct×RS:=
 let (b,s1):=rnum s 1048576
 let (o,s2):=rnum s1 1048576
 let (c,s3):=rnum s2 1048576
 (⟨b,o,c⟩,s3)
def cdec (s:ByteArray):Option Ct:=
 let r:=cread ⟨s.data.toList,0,0⟩
 if r.2.err=0∧r.2.rest=[] then some r.1 else none
set_option maxHeartbeats 1000000 in
theorem WR (s:ByteArray) (hs:s.size≤1099511627776):Enters 115∧Spec prog 115 #[.string s] [] [] (RetV (.tuple #[((cdec s).getD Ct.z).v,.int .i64 (if (cdec s).isSome then 0 else 3)])):=by
 have hsz:s.data.toList.length=s.size:=by simp
 generalize hd:cdec s=d
 unfold cdec cread at hd
 generalize h0:(⟨s.data.toList,0,0⟩:RS)=s0 at hd
 have g0:s0.pos+s0.rest.length≤1099511627776:=by subst h0;dsimp only;omega
 have g1:=X5 0 s0 (pnum s0.rest 1048576) (pnum_le _ _)
 have n1:=fun b o cap=>Zd b o cap s0 1048576 g0
 generalize hr1:rnum s0 1048576=r1 at *
 obtain ⟨v1,s1⟩:=r1
 have g1:s1.pos+s1.rest.length≤1099511627776:=by
  have:(rnum s0 1048576).2.pos+(rnum s0 1048576).2.rest.length≤s0.pos+s0.rest.length:=g1
  rw [hr1] at this;dsimp only at this;omega
 have g2:=X5 0 s1 (pnum s1.rest 1048576) (pnum_le _ _)
 have n2:=fun b o cap=>Zd b o cap s1 1048576 g1
 dsimp only at *
 generalize hr2:rnum s1 1048576=r2 at *
 obtain ⟨v2,s2⟩:=r2
 have g2:s2.pos+s2.rest.length≤1099511627776:=by
  have:(rnum s1 1048576).2.pos+(rnum s1 1048576).2.rest.length≤s1.pos+s1.rest.length:=g2
  rw [hr2] at this;dsimp only at this;omega
 have n3:=fun b o cap=>Zd b o cap s2 1048576 g2
 dsimp only at *
 generalize hr3:rnum s2 1048576=r3 at *
 obtain ⟨v3,s3⟩:=r3
 dsimp only at *
 have n4:=fun b o cap=>WQ b o cap s3
 have n0:=fun o cap=>X9 o cap s.data.toList (by omega)
 rw [h0] at n0
 have e0:s.data.toList=s0.rest:=by rw [←h0]
 rw [e0] at n0
 refine ZI [_] func115 ntmps115 fun G w hp=>?_
 repeat' (first|refine ZC ?_|refine ZB ?_|refine ZD ?_|refine ZS ?_|refine ZV ?_|refine ZQ (fun b=>?_)|refine ZA (n0 _ _) (fun _ _=>?_)|refine ZA (n1 _ _ _) (fun _ _=>?_)|refine ZA (n2 _ _ _) (fun _ _=>?_)|refine ZA (n3 _ _ _) (fun _ _=>?_)|refine ZA (n4 _ _ _) (fun _ _=>?_)|refine l_s2b (fun o cap=>?_)|rw [e0]|refine ZH (fun hc=>?_) (fun hc=>?_)|fail)
 ·have hne:¬(s3.err=0∧s3.rest=[]):=fun h=>by rw [(close0 _ _).2 h] at hc;simp at hc
  rw [if_neg hne] at hd;subst hd;exact ZG () rfl trivial
 ·have h1:=(close0 _ _).1 (by simpa using hc)
  rw [if_pos h1] at hd;subst hd;exact ZG () rfl trivial
def cnm (who:ByteArray):Nm:=⟨5,who,0,0,⟨#[]⟩⟩
theorem X2 (who:ByteArray):Enters 114∧Spec prog 114 #[.string who] [] [] (RetV (cnm who).v):=by
 refine ZI [_] func114 ntmps114 fun G w hp=>?_
 repeat' (first|refine ZC ?_|refine ZB ?_|refine ZD ?_|refine ZV ?_|refine ZQ (fun b=>?_)|fail)
 exact ZG () rfl trivial
def madeE (es:Al) (cs:List Ch) (who:ByteArray):Ct×Int:=
 if lvalid who.data.toList then (if (vget es cs (cnm who)).2 then ((cdec (vget es cs (cnm who)).1).getD Ct.z,if (cdec (vget es cs (cnm who)).1).isSome then 0 else 3) else (Ct.z,0)) else (Ct.z,12)
def madeR (es:Al) (rs:List (Nm×Ch)) (cs:List Ch) (who:ByteArray):List (Nm×Ch):=if lvalid who.data.toList then vread es rs cs (cnm who) else rs
set_option maxHeartbeats 1000000 in
theorem made_ok (b:Nat) (ps:Option Addr) (es:Al) (rs:List (Nm×Ch)) (cs:List Ch) (who:ByteArray) (hw:who.size≤1099511627770) (hv:(vget es cs (cnm who)).1.size≤1099511627776) :
  Enters 59∧Spec prog 59 #[.pointer (some ⟨b,0,none⟩),.string who] [St ps es,Usg] [Vw b ps rs cs] ⟨Unit,fun _=>.tuple #[(madeE es cs who).1.v,.int .i64 (madeE es cs who).2],fun _=>True,fun _=>[],fun _=>[Vw b ps (madeR es rs cs who) cs]⟩:=by
 have n1:=Ze who (by omega)
 have n2:=X2 who
 have n3:=YW b ps es rs cs (cnm who) hw (Nat.zero_le _)
 have n4:=WR (vget es cs (cnm who)).1 hv
 generalize hm:madeE es cs who=m
 generalize hr:madeR es rs cs who=r
 unfold madeE at hm
 unfold madeR at hr
 cases h1:lvalid who.data.toList with
 | false=>
  rw [h1] at n1 hm hr
  simp only [Bool.false_eq_true,if_false] at hm hr
  subst hm;subst hr
  refine ZI [_,_] func59 ntmps59 fun G w hp=>?_
  repeat' (first|refine ZC ?_|refine ZB ?_|refine ZD ?_|refine ZV ?_|refine ZQ (fun b=>?_)|refine ZJ ?_|refine ZF ?_|refine ZA (n1) (fun _ _=>?_)|fail)
  exact ZG () rfl trivial
 | true=>
  rw [h1] at n1 hm hr
  simp only [if_true] at hm hr
  subst hr
  cases h2:(vget es cs (cnm who)).2 with
  | false=>
   rw [h2] at n3 hm
   simp only [Bool.false_eq_true,if_false] at hm
   subst hm
   refine ZI [_,_] func59 ntmps59 fun G w hp=>?_
   repeat' (first|refine ZC ?_|refine ZB ?_|refine ZD ?_|refine ZV ?_|refine ZQ (fun b=>?_)|refine ZJ ?_|refine ZF ?_|refine ZA (n1) (fun _ _=>?_)|refine ZA (n2) (fun _ _=>?_)|refine ZA (n3) (fun _ _=>?_)|fail)
   exact ZG () rfl trivial
  | true=>
   rw [h2] at n3 hm
   simp only [if_true] at hm
   subst hm
   refine ZI [_,_] func59 ntmps59 fun G w hp=>?_
   repeat' (first|refine ZC ?_|refine ZB ?_|refine ZD ?_|refine ZV ?_|refine ZQ (fun b=>?_)|refine ZF ?_|refine ZA (n1) (fun _ _=>?_)|refine ZA (n2) (fun _ _=>?_)|refine ZA (n3) (fun _ _=>?_)|refine ZA (n4) (fun _ _=>?_)|fail)
   exact ZG () rfl trivial
theorem setMade_ok (b:Nat) (ps:Option Addr) (rs:List (Nm×Ch)) (cs:List Ch) (who:ByteArray) (c:Ct) (hw:who.size≤1099511627770) (hv:lvalid who.data.toList=true) (hc0:CtOK c) (hl:cs.length≤1000000) :
  Enters 110∧Spec prog 110 #[.pointer (some ⟨b,0,none⟩),.string who,c.v] [Usg] [Vw b ps rs cs] ⟨Unit,fun _=>.int .i64 (vset cs (cnm who) ⟨(cenc c).toArray⟩).1,fun _=>True,fun _=>[],fun _=>[Vw b ps rs (vset cs (cnm who) ⟨(cenc c).toArray⟩).2]⟩:=by
 have n1:=Ze who (by omega)
 rw [hv] at n1
 have n2:=X2 who
 have n3:=WT c hc0
 have n4:=Y0 b ps rs cs (cnm who) ⟨(cenc c).toArray⟩ (by show who.size≤_;omega) (Nat.zero_le _) hl
 refine ZI [_,_,_] func110 ntmps110 fun G w hp=>?_
 repeat' (first|refine ZC ?_|refine ZB ?_|refine ZD ?_|refine ZS ?_|refine ZQ (fun b=>?_)|refine ZF ?_|refine ZA (n1) (fun _ _=>?_)|refine ZA (n2) (fun _ _=>?_)|refine ZA (n3) (fun _ _=>?_)|refine ZA (n4) (fun _ _=>?_)|fail)
 exact ZG () rfl trivial
theorem mem_tw {α:Type} {p:α→Bool}:∀{l:List α} {x:α},x ∈ l.takeWhile p→p x=true
 | [],_,h=>by cases h
 | a::l,x,h=>by
  rw [List.takeWhile_cons] at h
  split at h
  ·rename_i ha
   rcases List.mem_cons.1 h with rfl|h
   ·exact ha
   ·exact mem_tw h
  ·cases h
theorem dval_pos:∀(init:List UInt8) (b:UInt8),b.toNat<128→0<b.toNat→0<dval (init++[b])
 | [],b,h,h0=>by simp [dval];omega
 | c::init,b,h,h0=>by
  have:=dval_pos init b h h0
  simp only [List.cons_append,dval];omega
theorem venc_dval:∀(init:List UInt8) (b:UInt8),(∀c ∈ init,128≤c.toNat)→b.toNat<128→(init≠[]→b.toNat≠0)→venc (dval (init++[b]))=init++[b]
 | [],b,_,h,_=>by
  have h1:dval ([]++[b])=b.toNat:=by simp [dval];omega
  rw [h1,venc,if_pos h];simp
 | c::init,b,hc,h,h0=>by
  have hb:0<b.toNat:=Nat.pos_of_ne_zero (h0 (by simp))
  have hp:=dval_pos init b h hb
  have ih:=venc_dval init b (fun x hx=>hc x (by simp [hx])) h (fun _=>by omega)
  have hc1:128≤c.toNat:=hc c (by simp)
  have hc2:c.toNat<256:=c.toNat_lt
  simp only [List.cons_append,dval]
  rw [venc,if_neg (by omega)]
  have e1:(c.toNat % 128+128 * dval (init++[b])) / 128=dval (init++[b]):=by omega
  have e2:(c.toNat % 128+128 * dval (init++[b])) % 128+128=c.toNat:=by omega
  rw [e1,e2,ih];simp
theorem pnat_inv (bs:List UInt8) (h:(pnat bs 9).2.2=0):bs.take (pnat bs 9).2.1=venc (pnat bs 9).1:=by
 have hle:=lastN_le bs 9
 unfold pnat at h ⊢
 dsimp only at h ⊢
 have hall:∀c ∈ bs.take (lastN bs 9),128≤c.toNat:=by
  intro c hc
  have h1:bs.take (lastN bs 9)=(bs.take 9).takeWhile fun b=>decide (128≤b.toNat):=by
   have h2:(bs.take 9).takeWhile (fun b=>decide (128≤b.toNat)) <+: bs:=(List.takeWhile_prefix _).trans (List.take_prefix _ _)
   exact (List.prefix_iff_eq_take.1 h2).symm
  rw [h1] at hc
  simpa using mem_tw hc
 by_cases h9:lastN bs 9=9
 ·simp [h9] at h
 ·rw [if_neg h9] at h ⊢
  cases hb:bs[lastN bs 9]? with
  | none=>simp [hb] at h
  | some b=>
   simp only [hb] at h ⊢
   by_cases hc:0<lastN bs 9∧b.toNat=0
   ·rw [if_pos hc] at h;cases h
   ·rw [if_neg hc] at h ⊢
    have h8:¬(lastN bs 9=9∧1<b.toNat):=fun h=>h9 h.1
    rw [if_neg h8]
    have hlt:lastN bs 9<bs.length:=(List.getElem?_eq_some_iff.1 hb).1
    have ht:bs.take (lastN bs 9+1)=bs.take (lastN bs 9)++[b]:=by rw [List.take_add_one,hb];rfl
    have hbl:b.toNat<128:=by
     have h1:lastN bs 9<(bs.take 9).length:=by simp;omega
     have h3:(bs.take 9)[lastN bs 9]? = some b:=by rw [List.getElem?_take];rw [if_pos (by omega)];exact hb
     have h4:((bs.take 9).takeWhile fun b=>decide (128≤b.toNat)).length=lastN bs 9:=rfl
     by_cases hx:128≤b.toNat
     ·exfalso
      have h5:(bs.take 9).take (lastN bs 9+1)=(bs.take 9).take (lastN bs 9)++[b]:=by rw [List.take_add_one,h3];rfl
      have h6:((bs.take 9).takeWhile fun b=>decide (128≤b.toNat))=(bs.take 9).take (lastN bs 9):=List.prefix_iff_eq_take.1 (List.takeWhile_prefix _)
      have h7:bs.take 9=((bs.take 9).take (lastN bs 9)++[b])++(bs.take 9).drop (lastN bs 9+1):=by rw [←h5,List.take_append_drop]
      have h8:∀c ∈ (bs.take 9).take (lastN bs 9)++[b],decide (128≤c.toNat)=true:=by
       intro c hc
       rcases List.mem_append.1 hc with hc|hc
       ·rw [←h6] at hc;exact mem_tw (p:=fun b:UInt8=>decide (128≤b.toNat)) hc
       ·simp only [List.mem_singleton] at hc;subst hc;simpa using hx
      have h9:((bs.take 9).take (lastN bs 9)++[b]).length≤((bs.take 9).takeWhile fun b=>decide (128≤b.toNat)).length:=by
       conv=>rhs;rw [h7]
       rw [List.takeWhile_append_of_pos h8]
       simp only [List.length_append];omega
      rw [h4] at h9
      simp at h9;omega
     ·omega
    show bs.take (lastN bs 9+1)=venc (dval (bs.take (lastN bs 9+1)) % 18446744073709551616)
    have hd:=dval_lt (bs.take (lastN bs 9+1))
    have hl:(bs.take (lastN bs 9+1)).length≤9:=by simp;omega
    have h128:128 ^ (bs.take (lastN bs 9+1)).length≤128 ^ 9:=Nat.pow_le_pow_right (by decide) hl
    rw [Nat.mod_eq_of_lt (Nat.lt_of_lt_of_le (Nat.lt_of_lt_of_le hd h128) (by decide)),ht]
    exact (venc_dval _ b hall hbl (fun hne hb0=>hc ⟨by
     rcases Nat.eq_zero_or_pos (lastN bs 9) with h0|h0
     ·rw [h0] at hne;exact absurd rfl hne
     ·exact h0,hb0⟩)).symm
theorem rstep_err {α:Type} (z:α) (s:RS) (p:α×Nat×Int) (h:(rstep z s p).2.err=0):s.err=0∧p.2.2=0∧rstep z s p=(p.1,⟨s.rest.drop p.2.1,s.pos+p.2.1,0⟩):=by
 unfold rstep at h ⊢
 by_cases h1:s.err=0
 ·rw [if_neg (by simp [h1])] at h ⊢
  by_cases h2:p.2.2=0
  ·rw [if_neg (by simp [h2])];exact ⟨h1,h2,rfl⟩
  ·rw [if_pos h2] at h;exact absurd h h2
 ·rw [if_pos h1] at h;exact absurd h h1
theorem rtext_inv {s:RS} {most:Int} (h:(rtext s most).2.err=0):s.err=0∧((rtext s most).1.size:Int)≤most∧(rtext s most).1.size≤16777216∧s.rest=venc (rtext s most).1.size++(rtext s most).1.data.toList++(rtext s most).2.rest:=by
 obtain ⟨h1,h2,h3⟩:=rstep_err _ _ _ h
 have h4:rtext s most=_:=h3
 rw [h4]
 unfold ptext at h2 ⊢
 by_cases ha:(pnat s.rest 9).2.2=0
 ·rw [if_neg (by simp [ha])] at h2 ⊢
  by_cases hb:most<((pnat s.rest 9).1:Int)∨16777216<(pnat s.rest 9).1
  ·rw [if_pos hb] at h2;cases h2
  ·rw [if_neg hb] at h2 ⊢
   by_cases hc:s.rest.length<(pnat s.rest 9).2.1+(pnat s.rest 9).1
   ·rw [if_pos hc] at h2;cases h2
   ·rw [if_neg hc]
    have hsz:(ByteArray.mk ((s.rest.take ((pnat s.rest 9).2.1+(pnat s.rest 9).1)).drop (pnat s.rest 9).2.1).toArray).size=(pnat s.rest 9).1:=by
     show (List.toArray _).size=_
     simp;omega
    refine ⟨h1,by dsimp only;rw [hsz];omega,by dsimp only;rw [hsz];omega,?_⟩
    dsimp only
    rw [hsz]
    have h6:=pnat_inv s.rest ha
    generalize (pnat s.rest 9).2.1=a at *
    generalize (pnat s.rest 9).1=m at *
    rw [←h6]
    show s.rest=s.rest.take a++(List.toArray ((s.rest.take (a+m)).drop a)).toList++s.rest.drop (a+m)
    have e1:(s.rest.take (a+m)).take a=s.rest.take a:=by rw [List.take_take];congr 1;omega
    have e2:s.rest.take a++(s.rest.take (a+m)).drop a=s.rest.take (a+m):=by rw [←e1,List.take_append_drop]
    rw [List.toList_toArray,e2,List.take_append_drop]
 ·rw [if_pos ha] at h2;exact absurd h2 ha
structure Ino where
 kd:Int
 ow:Int
 gr:Int
 md:Int
 sz:Int
 lk:Int
 tg:ByteArray
 deriving DecidableEq
def inf (n:Ino):List Value:=[.int .i64 n.kd,.int .i64 n.ow,.int .i64 n.gr,.int .i64 n.md,.int .i64 n.sz,.int .i64 n.lk,.string n.tg]
def Ino.v (n:Ino):Value:=.agg #[.int .i64 n.kd,.int .i64 n.ow,.int .i64 n.gr,.int .i64 n.md,.int .i64 n.sz,.int .i64 n.lk,.string n.tg]
def Ino.z:Ino:=⟨0,0,0,0,0,0,⟨#[]⟩⟩
def badt (c:UInt8):Bool:=decide ((c.toNat:Int)<32) || ((c.toNat:Int) == 127)
def tchk (s:ByteArray):Int:=if isE s then 4 else if 256<s.size then 5 else if s.data.toList.any badt then 6 else 0
def ifit (n:Ino):Prop:=0≤n.ow∧n.ow≤65535∧0≤n.gr∧n.gr≤65535∧0≤n.md∧n.md≤2047∧0≤n.sz∧n.sz≤4096∧0≤n.lk∧n.lk≤1000
instance (n:Ino):Decidable (ifit n):=by unfold ifit;infer_instance
def ichk (n:Ino):Int:=
 if n.kd<1∨3<n.kd then 11
 else if ¬ifit n then 2
 else if (n.kd≠1∧n.sz≠0)∨(n.kd≠3∧isE n.tg=false) then 3
 else if n.kd≠3 then 0
 else tchk n.tg
def ienc (n:Ino):List UInt8:=([n.kd,n.ow,n.gr,n.md,n.sz,n.lk].flatMap fun z=>venc z.toNat)++venc n.tg.size++n.tg.data.toList
def iencS (n:Ino):ByteArray:=if ichk n=0 then ⟨(ienc n).toArray⟩ else ⟨#[]⟩
def iread (s:RS):Ino×RS:=
 let (a1,s1):=rnum s 3
 let (a2,s2):=rnum s1 65535
 let (a3,s3):=rnum s2 65535
 let (a4,s4):=rnum s3 2047
 let (a5,s5):=rnum s4 4096
 let (a6,s6):=rnum s5 1000
 let (a7,s7):=rtext s6 256
 (⟨a1,a2,a3,a4,a5,a6,a7⟩,s7)
def idec (s:ByteArray):Option Ino:=
 let r:=iread ⟨s.data.toList,0,0⟩
 if r.2.err=0∧r.2.rest=[]∧ichk r.1=0 then some r.1 else none
theorem YK (s:RS) (m:Int):(rnum s m).2.pos+(rnum s m).2.rest.length≤s.pos+s.rest.length:=X5 0 s _ (pnum_le _ _)
theorem rtext_le3 (s:RS) (m:Int):(rtext s m).2.pos+(rtext s m).2.rest.length≤s.pos+s.rest.length:=X5 _ s _ (ptext_le _ _)
structure Bi where
 mkr:ByteArray
 nu:Int
 deriving DecidableEq
def Bi.v (b:Bi):Value:=.agg #[.string b.mkr,.int .i64 b.nu]
def Bi.z:Bi:=⟨⟨#[]⟩,0⟩
def bchk (b:Bi):Int:=if lvalid b.mkr.data.toList=false then 12 else if 0≤b.nu∧b.nu≤1073741824 then 0 else 2
def nnm (b:Bi):Nm:=⟨7,b.mkr,b.nu,0,⟨#[]⟩⟩
def bnm (b:Bi) (i:Int):Nm:=⟨8,b.mkr,b.nu,i,⟨#[]⟩⟩
theorem birthCheck_ok (b:Bi) (hb:b.mkr.size≤1099511627776):Enters 61∧Spec prog 61 #[b.v] [] [] (RetV (.int .i64 (bchk b))):=by
 have n1:=Ze b.mkr hb
 have n2:=Yj b.nu 1073741824
 generalize hr:bchk b=r
 unfold bchk at hr
 cases hv:lvalid b.mkr.data.toList
 all_goals rw [hv] at n1 hr
 all_goals simp only [Bool.true_eq_false,if_true,if_false] at hr
 all_goals refine ZI [_] func61 ntmps61 fun G w hp=>?_
 all_goals repeat' (first|refine ZC ?_|refine ZB ?_|refine ZD ?_|refine ZS ?_|refine ZQ (fun b=>?_)|refine ZJ ?_|refine ZF ?_|refine ZA (n1) (fun _ _=>?_)|refine ZA (n2) (fun _ _=>?_)|(refine ZH (fun hc=>?_) (fun hc=>?_)<;>(try simp at hc)<;>(try omega))|fail)
 all_goals first
  | (subst hr;exact ZG () rfl trivial)
  | (rw [if_pos (by simp_all)] at hr;subst hr;exact ZG () rfl trivial)
  | (rw [if_neg (by simp_all;omega)] at hr;subst hr;exact ZG () rfl trivial)
def iget (es:Al) (cs:List Ch) (b:Bi):Ino×Int:=
 if bchk b≠0 then (Ino.z,bchk b) else if (vget es cs (nnm b)).2 then ((idec (vget es cs (nnm b)).1).getD Ino.z,if (idec (vget es cs (nnm b)).1).isSome then 0 else 3) else (Ino.z,8)
def igetR (es:Al) (rs:List (Nm×Ch)) (cs:List Ch) (b:Bi):List (Nm×Ch):=if bchk b≠0 then rs else vread es rs cs (nnm b)
def ifile (es:Al) (cs:List Ch) (b:Bi):Ino×Int:=
 if (iget es cs b).2≠0 then (Ino.z,(iget es cs b).2) else if (iget es cs b).1.kd=2 then (Ino.z,15) else if (iget es cs b).1.kd=3 then (Ino.z,11) else ((iget es cs b).1,0)
def pad64 (s:ByteArray):List UInt8:=cpy (List.replicate 64 0) 0 s 64
structure Pr where
 kd:Int
 st:Int
 cd:Int
 ep:Int
 us:Int
 gs:List Int
 sp:ByteArray
 pg:Int
 dr:Bi
 tm:Int
 deriving DecidableEq
def Pr.v (p:Pr) (o:Option Addr) (c:Nat):Value:=.agg #[.int .i64 p.kd,.int .i64 p.st,.int .i64 p.cd,.int .i64 p.ep,.int .i64 p.us,.slice o p.gs.length c,.string p.sp,.int .i64 p.pg,.string p.dr.mkr,.int .i64 p.dr.nu,.int .i64 p.tm]
def Pr.z:Pr:=⟨0,0,0,0,0,[],⟨#[]⟩,0,Bi.z,0⟩
def gok (gs:List Int):Prop:=∀i<gs.length,0≤gs.getD i 0∧gs.getD i 0≤65535
instance (gs:List Int):Decidable (gok gs):=by unfold gok;infer_instance
def gsq (gs:List Int):Prop:=∀i<gs.length,i+1<gs.length→gs.getD i 0<gs.getD (i+1) 0
instance (gs:List Int):Decidable (gsq gs):=by unfold gsq;infer_instance
def gchk (gs:List Int):Int:=if 8<gs.length then 9 else if ¬gok gs then 2 else if ¬gsq gs then 32 else 0
def pfit (p:Pr):Prop:=(0≤p.cd∧p.cd≤410)∧(p.st≠1∨p.cd=0)∧(0≤p.ep∧p.ep≤1073741824)∧(0≤p.us∧p.us≤65535)∧(0≤p.pg∧p.pg≤64)∧0≤p.tm∧p.tm≤99
instance (p:Pr):Decidable (pfit p):=by unfold pfit;infer_instance
def pchk (p:Pr):Int:=
 if p.kd≠1∧p.kd≠2 then 11
 else if p.st<1∨3<p.st then 10
 else if ¬pfit p then 2
 else if gchk p.gs≠0 then gchk p.gs
 else if lvalid p.sp.data.toList=false then 12
 else bchk p.dr
theorem XR (x m:Int):Enters 58∧Spec prog 58 #[.int .i64 x,.int .i64 m] [] [] (RetV (.bool (decide (0≤x) && decide (x≤m)))):=by
 refine ZI [_,_] func58 ntmps58 fun G w hp=>?_
 repeat' (first|refine ZC ?_|refine ZB ?_|refine ZP ?_|refine ZD ?_|refine ZM (fun hc=>?_) (fun hc=>?_)|fail)
 all_goals (refine ZG () ?_ trivial;simp_all [RetV,resV]<;>omega)
theorem getD_of {l:List Int} {i:Nat} {x:Int} (h:l[i]? = some x):l.getD i 0=x:=by simp [List.getD,h]
set_option maxHeartbeats 1000000 in
theorem checkGroups_ok (o:Option Addr) (c:Nat) (gs:List Int) (hl:gs.length≤1099511627776):Enters 67∧Spec prog 67 #[.slice o gs.length c] [Sl 3 zf o c gs] [] (RetV (.int .i64 (gchk gs))):=by
 generalize hr:gchk gs=r
 unfold gchk at hr
 refine ZI [_] func67 ntmps67 fun G w hp=>?_
 repeat' (first|refine ZC ?_|refine ZB ?_|refine ZD ?_|(refine ZH (fun hc=>?_) (fun hc=>?_)<;>(try simp at hc)<;>(try omega))|fail)
 ·rw [if_pos (by omega)] at hr;subst hr;exact ZG () rfl trivial
 rw [if_neg (by omega)] at hr
 refine YF (X:={i:Nat // i≤gs.length∧∀j<i,0≤gs.getD j 0∧gs.getD j 0≤65535}) (fun i=>[(0,.slice o gs.length c),(9,.slice o gs.length c),(10,.int .i64 (gs.length:Int)),(11,.int .i64 (i.1:Int))]) (fun _=>[Sl 3 zf o c gs]) (fun _=>[]) (fun i=>gs.length - i.1) ⟨0,by omega,fun j hj=>by omega⟩ ⟨rfl,rfl,rfl,rfl,trivial⟩ ?_
 rintro ⟨i,hi1,hi2⟩
 dsimp only
 by_cases hlt:i<gs.length
 ·obtain ⟨x,hx⟩:∃x,gs[i]? = some x:=⟨_,List.getElem?_eq_getElem hlt⟩
  have hg:=getD_of hx
  have n1:=XR x 65535
  repeat' (first|refine ZC ?_|refine ZB ?_|refine ZD ?_|refine ZA (n1) (fun _ _=>?_)|refine YY (es:=gs) i x hx (fun b off=>?_)|refine Zw ?_|(refine ZH (fun hc=>?_) (fun hc=>?_)<;>(try simp at hc)<;>(try omega))|fail)
  ·have e:r=2:=by
    rw [←hr,if_pos]
    intro h
    have h2:=h i hlt
    rw [hg] at h2
    omega
   exact k_rt (w_lq (w_rv (congrArg (Value.int .i64) e) (Yv () rfl trivial)))
  ·rw [wrapi (z:=(i:Int)+1) (by omega) (by omega)]
   refine ZW ⟨i+1,by omega,fun j hj=>?_⟩ (by show gs.length - (i+1)<gs.length - i;omega) ⟨rfl,rfl,rfl,rfl,trivial⟩
   by_cases hij:j=i
   ·subst hij
    rw [hg]
    omega
   ·exact hi2 j (by omega)
 ·have hk:gok gs:=fun j hj=>hi2 j (by omega)
  rw [if_neg (by simp [hk])] at hr
  repeat' (first|refine ZC ?_|refine ZB ?_|refine ZD ?_|refine Zj ?_|(refine ZH (fun hc=>?_) (fun hc=>?_)<;>(try simp at hc)<;>(try omega))|fail)
  refine YF (X:={i:Nat // i≤gs.length∧∀j<i,j+1<gs.length→gs.getD j 0<gs.getD (j+1) 0}) (fun i=>[(0,.slice o gs.length c),(5,.int .i64 ((i.1+1:Nat):Int))]) (fun _=>[Sl 3 zf o c gs]) (fun _=>[]) (fun i=>gs.length - i.1) ⟨0,by omega,fun j hj=>by omega⟩ ⟨rfl,rfl,trivial⟩ ?_
  rintro ⟨k,hk1,hk2⟩
  dsimp only
  by_cases hlk:k+1<gs.length
  ·obtain ⟨x,hx⟩:∃x,gs[k]? = some x:=⟨_,List.getElem?_eq_getElem (by omega)⟩
   obtain ⟨y,hy⟩:∃y,gs[k+1]? = some y:=⟨_,List.getElem?_eq_getElem hlk⟩
   have hgx:=getD_of hx
   have hgy:=getD_of hy
   have hw1:IntKind.i64.wrap (((k+1:Nat):Int) - 1)=(k:Int):=by rw [wrapi (by omega) (by omega)];omega
   have hw2:IntKind.i64.wrap (((k+1:Nat):Int)+1)=((k+1+1:Nat):Int):=by rw [wrapi (by omega) (by omega)];omega
   repeat' (first|refine ZC ?_|refine ZB ?_|refine ZD ?_|refine Zq ?_|refine Zp ?_|rw [hw1]|rw [hw2]|refine r_ixe (es:=gs) (k+1) y hy (fun b off=>?_)|refine r_ixe (es:=gs) k x hx (fun b off=>?_)|refine r_ldC ?_|refine Za 12 [] [(0,0),(1,0),(2,0),(3,0),(4,0),(5,0),(6,0),(7,0),(8,0),(9,0)] [] ?_|(refine ZH (fun hc=>?_) (fun hc=>?_)<;>(try simp at hc)<;>(try omega))|fail)
   ·have e:r=32:=by
     rw [←hr,if_pos]
     intro h
     have h2:=h k (by omega) hlk
     rw [hgx,hgy] at h2
     omega
    exact k_rt (w_lq (w_rv (congrArg (Value.int .i64) e) (Yv () rfl trivial)))
   ·refine ZW ⟨k+1,by omega,fun j hj h1=>?_⟩ (by show gs.length - (k+1)<gs.length - k;omega) ⟨rfl,rfl,trivial⟩
    by_cases hjk:j=k
    ·subst hjk
     rw [hgx,hgy]
     omega
    ·exact hk2 j (by omega) h1
  ·have hs:gsq gs:=fun j hj h1=>hk2 j (by omega) h1
   rw [if_neg (by simp [hs])] at hr
   subst hr
   repeat' (first|refine ZC ?_|refine ZB ?_|refine ZD ?_|refine Zj ?_|(refine ZH (fun hc=>?_) (fun hc=>?_)<;>(try simp at hc)<;>(try omega))|fail)
   exact ZG () rfl trivial
theorem inRange_ok (p:Pr) (o:Option Addr) (c:Nat):Enters 66∧Spec prog 66 #[p.v o c] [] [] (RetV (.bool (decide (pfit p)))):=by
 have n1:=XR p.cd 410
 have n2:=XR p.ep 1073741824
 have n3:=XR p.us 65535
 have n4:=XR p.pg 64
 have n5:=XR p.tm 99
 refine ZI [_] func66 ntmps66 fun G w hp=>?_
 repeat' (first|refine ZC ?_|refine ZB ?_|refine ZP ?_|refine ZD ?_|refine ZS ?_|refine ZQ (fun b=>?_)|refine ZA (n1) (fun _ _=>?_)|refine ZA (n2) (fun _ _=>?_)|refine ZA (n3) (fun _ _=>?_)|refine ZA (n4) (fun _ _=>?_)|refine ZA (n5) (fun _ _=>?_)|(refine ZM (fun hc=>?_) (fun hc=>?_)<;>(try simp at hc))|fail)
 all_goals refine ZG () ?_ trivial
 all_goals refine congrArg Value.bool ?_
 all_goals first|(unfold pfit;simp_all;done)|(unfold pfit;simp_all;omega)|(symm;rw [decide_eq_false_iff_not];unfold pfit;omega)
theorem XI (p:Pr) (o:Option Addr) (c:Nat) (hl:p.gs.length≤1099511627776) (h1:p.sp.size≤1099511627776) (h2:p.dr.mkr.size≤1099511627776):Enters 18∧Spec prog 18 #[p.v o c] [Sl 3 zf o c p.gs] [] (RetV (.int .i64 (pchk p))):=by
 have n1:=inRange_ok p o c
 have n2:=checkGroups_ok o c p.gs hl
 have n3:=Ze p.sp h1
 have n4:=birthCheck_ok p.dr h2
 generalize hr:pchk p=r
 unfold pchk at hr
 refine ZI [_] func18 ntmps18 fun G w hp=>?_
 repeat' (first|refine ZC ?_|refine ZB ?_|refine ZP ?_|refine ZD ?_|refine ZS ?_|refine ZQ (fun b=>?_)|refine ZJ ?_|refine ZF ?_|refine ZA (n1) (fun _ _=>?_)|refine ZA (n2) (fun _ _=>?_)|refine ZA (n3) (fun _ _=>?_)|refine ZA (n4) (fun _ _=>?_)|(refine ZM (fun hc=>?_) (fun hc=>?_)<;>(try simp at hc)<;>(try omega))|(refine ZH (fun hc=>?_) (fun hc=>?_)<;>(try simp at hc)<;>(try omega))|fail)
 all_goals (refine ZG () ?_ trivial;refine congrArg (Value.int .i64) ?_;rw [←hr])
 all_goals first
  | (rw [if_pos (by omega)];done)
  | (rw [if_neg (by omega),if_pos (by omega)];done)
  | (rw [if_neg (by omega),if_neg (by omega),if_pos (by simpa using hc)];done)
  | (rw [if_neg (by omega),if_neg (by omega),if_neg (by simp_all),if_pos (by simpa using hc)];done)
  | (rw [if_neg (by omega),if_neg (by omega),if_neg (by simp_all),if_neg (by simp_all),if_pos (by simp_all)];done)
  | (rw [if_neg (by omega),if_neg (by omega),if_neg (by simp_all),if_neg (by simp_all),if_neg (by simp_all)];done)
def shO (o:Ou):Ou:=⟨o.ch,cutS o.tg 80,cutS o.tx 4200,o.us⟩
def shL (x:Lf):Lf:=⟨⟨cutS x.e.who 80,x.e.nu,x.e.tk,shO x.e.o⟩,x.tm,x.rd⟩
def mleaveE (ls:List Lf) (x:Lf):Int:=if lchk x≠0 then lchk x else if late ls x then 32 else 0
def idq (x:Lf) (w:ByteArray) (nu tk:Int):Bool:=decide (x.e.who=w) && (decide (x.e.nu=nu) && decide (x.e.tk=tk))
def lfind (ls:List Lf) (w:ByteArray) (nu tk:Int):Nat→Option Nat
 | 0=>none
 | m+1=>match ls[m]? with|some x=>if idq x w nu tk then some m else lfind ls w nu tk m|none=>lfind ls w nu tk m
def fndv (r:Option Nat):Int:=match r with|some j=>(j:Int)|none=>-1
def lenc (x:Lf):List UInt8:=venc x.e.who.size++x.e.who.data.toList++venc x.e.nu.toNat++venc x.e.tk.toNat++oenc x.e.o++venc x.tm.toNat++venc x.rd.toNat
def lencs (ls:List Lf):List UInt8:=venc ls.length++ls.flatMap lenc
section
theorem k_wtc {b:Nat} {xs ys:List UInt8} (h:xs=ys) (t:Wk n C k Q E F (Wtr b ys::R0)) (hs:Sel (Wtr b xs) R R0:=by (repeat (first|exact Sel.here|apply Sel.there));first|done|fail):Wk n C k Q E F R:=by
 subst h;exact fun a w ha hsat=>t a w ha (hsat.sel hs)
end
def EncOK (x:Lf):Prop:=lchk x=0∧x.e.who.size≤1000
def lencsS (ls:List Lf):ByteArray:=⟨(lencs ls).toArray⟩
theorem XV {gs:List Int} (h:gchk gs=0):gs.length≤8∧(∀g ∈ gs,0≤g∧g≤65535)∧gsq gs:=by
 unfold gchk at h
 split at h
 ·cases h
 ·split at h
  ·cases h
  ·split at h
   ·cases h
   ·rename_i h1 h2 h3
    refine ⟨by omega,fun g hg=>?_,by simpa using h3⟩
    obtain ⟨i,hi,rfl⟩:=List.mem_iff_getElem.1 hg
    have h4:=(Classical.not_not.1 h2) i hi
    rw [getD_of (List.getElem?_eq_getElem hi)] at h4
    exact h4
theorem Zt {p:Pr} (h:pchk p=0):(p.kd=1∨p.kd=2)∧(1≤p.st∧p.st≤3)∧pfit p∧gchk p.gs=0∧lvalid p.sp.data.toList=true∧bchk p.dr=0:=by
 unfold pchk at h
 split at h
 ·cases h
 ·split at h
  ·cases h
  ·split at h
   ·cases h
   ·split at h
    ·rename_i h1;exact absurd h h1
    ·split at h
     ·cases h
     ·rename_i h1 h2 h3 h4 h5
      exact ⟨by omega,by omega,Classical.not_not.1 h3,Classical.not_not.1 h4,by simpa using h5,h⟩
theorem WC {b:Bi} (h:bchk b=0):lvalid b.mkr.data.toList=true∧0≤b.nu∧b.nu≤1073741824:=by
 unfold bchk at h
 split at h
 ·cases h
 ·split at h
  ·rename_i h1 h2;exact ⟨by simpa using h1,h2⟩
  ·cases h
def genc (gs:List Int):List UInt8:=gs.flatMap fun z=>venc z.toNat
def penc (p:Pr):List UInt8:=venc p.kd.toNat++venc p.st.toNat++venc p.cd.toNat++venc p.ep.toNat++venc p.us.toNat++venc p.gs.length++genc p.gs++venc p.sp.size++p.sp.data.toList++venc p.pg.toNat++venc p.dr.mkr.size++p.dr.mkr.data.toList++venc p.dr.nu.toNat++venc p.tm.toNat
def pencS (p:Pr):ByteArray:=if pchk p=0 then ⟨(penc p).toArray⟩ else ⟨#[]⟩
theorem genc_len (gs:List Int) (h:∀g ∈ gs,0≤g∧g≤65535):(genc gs).length≤gs.length * 10:=by
 induction gs with
 | nil=>simp [genc]
 | cons a l ih=>
  have h1:=ih fun g hg=>h g (List.mem_cons_of_mem _ hg)
  have h2:=ZO a.toNat (by have:=h a List.mem_cons_self;omega)
  simp only [genc,List.flatMap_cons,List.length_append,List.length_cons] at h1 ⊢
  omega
def prf (p:Pr) (o:Option Addr) (c:Nat):List Value:=[.int .i64 p.kd,.int .i64 p.st,.int .i64 p.cd,.int .i64 p.ep,.int .i64 p.us,.slice o p.gs.length c,.string p.sp,.int .i64 p.pg,.string p.dr.mkr,.int .i64 p.dr.nu,.int .i64 p.tm]
set_option maxHeartbeats 2000000 in
theorem proEncode_ok (p:Pr) (o:Option Addr) (c:Nat) (h:pchk p=0) (h1:p.sp.size≤1000) (h2:p.dr.mkr.size≤1000):Enters 17∧Spec prog 17 #[p.v o c] [Sl 3 zf o c p.gs] [] (RetV (.tuple #[.string (pencS p),.int .i64 0])):=by
 obtain ⟨q1,q2,q3,q4,q5,q6⟩:=Zt h
 obtain ⟨q7,q8,q9⟩:=XV q4
 obtain ⟨q10,q11,q12⟩:=WC q6
 unfold pfit at q3
 have n0:=XI p o c (by omega) (by omega) (by omega)
 rw [h] at n0
 have e1:p.kd=((p.kd.toNat:Nat):Int):=by omega
 have e2:p.st=((p.st.toNat:Nat):Int):=by omega
 have e3:p.cd=((p.cd.toNat:Nat):Int):=by omega
 have e4:p.ep=((p.ep.toNat:Nat):Int):=by omega
 have e5:p.us=((p.us.toNat:Nat):Int):=by omega
 have e6:p.pg=((p.pg.toNat:Nat):Int):=by omega
 have e7:p.dr.nu=((p.dr.nu.toNat:Nat):Int):=by omega
 have e8:p.tm=((p.tm.toNat:Nat):Int):=by omega
 have l1:=ZO p.kd.toNat (by omega)
 have l2:=ZO p.st.toNat (by omega)
 have l3:=ZO p.cd.toNat (by omega)
 have l4:=ZO p.ep.toNat (by omega)
 have l5:=ZO p.us.toNat (by omega)
 have l6:=ZO p.gs.length (by omega)
 have l7:=ZO p.sp.size (by omega)
 have l8:=ZO p.pg.toNat (by omega)
 have l9:=ZO p.dr.mkr.size (by omega)
 have l10:=ZO p.dr.nu.toNat (by omega)
 have l11:=ZO p.tm.toNat (by omega)
 have s1:p.sp.data.toList.length=p.sp.size:=by simp
 have s2:p.dr.mkr.data.toList.length=p.dr.mkr.size:=by simp
 have n1:=fun bw=>Zf bw [] p.kd.toNat (by omega) (by simp)
 have n2:=fun bw=>Zf bw ([]++venc p.kd.toNat) p.st.toNat (by omega) (by simp only [List.length_append,List.length_nil];omega)
 have n3:=fun bw=>Zf bw ([]++venc p.kd.toNat++venc p.st.toNat) p.cd.toNat (by omega) (by simp only [List.length_append,List.length_nil];omega)
 have n4:=fun bw=>Zf bw ([]++venc p.kd.toNat++venc p.st.toNat++venc p.cd.toNat) p.ep.toNat (by omega) (by simp only [List.length_append,List.length_nil];omega)
 have n5:=fun bw=>Zf bw ([]++venc p.kd.toNat++venc p.st.toNat++venc p.cd.toNat++venc p.ep.toNat) p.us.toNat (by omega) (by simp only [List.length_append,List.length_nil];omega)
 have n6:=fun bw=>Zf bw ([]++venc p.kd.toNat++venc p.st.toNat++venc p.cd.toNat++venc p.ep.toNat++venc p.us.toNat) p.gs.length (by omega) (by simp only [List.length_append,List.length_nil];omega)
 simp only [←e1] at n1
 simp only [←e2] at n2
 simp only [←e3] at n3
 simp only [←e4] at n4
 simp only [←e5] at n5
 have hg:=genc_len p.gs q8
 generalize hB0:([]++venc p.kd.toNat++venc p.st.toNat++venc p.cd.toNat++venc p.ep.toNat++venc p.us.toNat++venc p.gs.length)=B0 at *
 have hB0l:B0.length≤60:=by rw [←hB0];simp only [List.length_append,List.length_nil];omega
 have hB1l:(B0++genc p.gs).length≤140:=by rw [List.length_append];omega
 generalize hB1:B0++genc p.gs=B1 at *
 have n7:=fun bw=>wtrText_ok bw B1 p.sp (by omega) (by omega)
 have n8:=fun bw=>Zf bw (B1++venc p.sp.size++p.sp.data.toList) p.pg.toNat (by omega) (by simp only [List.length_append];omega)
 have n9:=fun bw=>wtrText_ok bw (B1++venc p.sp.size++p.sp.data.toList++venc p.pg.toNat) p.dr.mkr (by omega) (by simp only [List.length_append];omega)
 have n10:=fun bw=>Zf bw (B1++venc p.sp.size++p.sp.data.toList++venc p.pg.toNat++venc p.dr.mkr.size++p.dr.mkr.data.toList) p.dr.nu.toNat (by omega) (by simp only [List.length_append];omega)
 have n11:=fun bw=>Zf bw (B1++venc p.sp.size++p.sp.data.toList++venc p.pg.toNat++venc p.dr.mkr.size++p.dr.mkr.data.toList++venc p.dr.nu.toNat) p.tm.toNat (by omega) (by simp only [List.length_append];omega)
 simp only [←e6] at n8
 simp only [←e7] at n10
 simp only [←e8] at n11
 have hfin:B1++venc p.sp.size++p.sp.data.toList++venc p.pg.toNat++venc p.dr.mkr.size++p.dr.mkr.data.toList++venc p.dr.nu.toNat++venc p.tm.toNat=penc p:=by rw [←hB1,←hB0];simp [penc]
 have hlen:(penc p).length≤4000:=by rw [←hfin];simp only [List.length_append];omega
 simp only [hfin] at n11
 have n12:=fun bw=>WH bw (penc p) (by omega)
 have n13:=fun bw i (hi:i<p.gs.length)=>Zf bw (B0++genc (p.gs.take i)) (p.gs[i]).toNat (by have:=q8 _ (List.getElem_mem hi);omega) (by
  have:=genc_len (p.gs.take i) (fun g hg=>q8 g (List.mem_of_mem_take hg))
  simp only [List.length_append,List.length_take] at this ⊢;omega)
 rw [pencS,if_pos h]
 refine ZI [_] func17 ntmps17 fun G w hp=>?_
 repeat' (first|refine ZC ?_|refine ZB ?_|refine ZD ?_|refine ZS ?_|refine ZQ (fun b=>?_)|refine ZF ?_|refine ZA (n0) (fun _ _=>?_)|refine ZA (X4) (fun _ _=>?_)|refine ZA (n1 _) (fun _ _=>?_)|refine ZA (n2 _) (fun _ _=>?_)|refine ZA (n3 _) (fun _ _=>?_)|refine ZA (n4 _) (fun _ _=>?_)|refine ZA (n5 _) (fun _ _=>?_)|refine ZA (n6 _) (fun _ _=>?_)|fail)
 rename_i _ _ bw _ _ _ _ _ _ _ _ _ _ _ _ _
 refine k_wtc (xs:=B0) (ys:=B0++genc (p.gs.take 0)) (by simp [genc]) ?_
 refine k_lpx (X:={i:Nat // i≤p.gs.length}) (Y:=Unit) (fun i=>[(1,.pointer (some ⟨b,0,none⟩)),(5,.pointer (some ⟨bw,0,none⟩)),(45,.slice o p.gs.length c),(46,.int .i64 (p.gs.length:Int)),(47,.int .i64 (i.1:Int))]) (fun _=>[Sl 3 zf o c p.gs]) (fun i=>[Wtr bw (B0++genc (p.gs.take i.1)),Pt b (.cells (prf p o c).toArray 44)]) (fun i=>p.gs.length - i.1)
  (fun _=>[(1,.pointer (some ⟨b,0,none⟩)),(5,.pointer (some ⟨bw,0,none⟩))]) (fun _=>[]) (fun _=>[Wtr bw B1,Pt b (.cells (prf p o c).toArray 44)]) ⟨0,by omega⟩ ⟨rfl,rfl,rfl,rfl,rfl,trivial⟩ ?_ ?_
 ·rintro ⟨⟩
  repeat' (first|refine ZC ?_|refine ZB ?_|refine ZD ?_|refine ZS ?_|refine ZF ?_|refine ZA (n7 _) (fun _ _=>?_)|refine ZA (n8 _) (fun _ _=>?_)|refine ZA (n9 _) (fun _ _=>?_)|refine ZA (n10 _) (fun _ _=>?_)|refine ZA (n11 _) (fun _ _=>?_)|refine ZA (n12 _) (fun _ _=>?_)|fail)
  refine l_frz (sz:=1) (f:=bf) (penc p) ?_ (Zz _) rfl
  refine l_b2s ?_
  repeat' (first|refine ZC ?_|refine ZB ?_|fail)
  exact ZG () rfl trivial
 ·intro hxx
  rintro ⟨i,hi⟩
  dsimp only at hi ⊢
  by_cases hlt:i<p.gs.length
  ·have hx:=List.getElem?_eq_getElem hlt
   have n14:=n13 bw i hlt
   have hq:=q8 _ (List.getElem_mem hlt)
   have e9:p.gs[i]=((p.gs[i].toNat:Nat):Int):=by omega
   have htk:p.gs.take (i+1)=p.gs.take i++[p.gs[i]]:=by rw [List.take_add_one,hx];rfl
   have hl:B0++genc (p.gs.take i)++venc p.gs[i].toNat=B0++genc (p.gs.take (i+1)):=by rw [htk];simp only [genc,List.flatMap_append,List.flatMap_cons,List.flatMap_nil,List.append_nil,List.append_assoc]
   rw [←e9,hl] at n14
   repeat' (first|refine ZC ?_|refine ZB ?_|refine ZD ?_|refine ZA (n14) (fun _ _=>?_)|refine YY (es:=p.gs) i _ hx (fun b off=>?_)|refine Zw ?_|(refine ZH (fun hc=>?_) (fun hc=>?_)<;>(try simp at hc)<;>(try omega))|fail)
   rw [wrapi (z:=(i:Int)+1) (by omega) (by omega)]
   exact ZW ⟨i+1,by omega⟩ (by show p.gs.length - (i+1)<p.gs.length - i;omega) ⟨rfl,rfl,rfl,rfl,rfl,trivial⟩
  ·obtain rfl:i=p.gs.length:=by omega
   rw [List.take_length,hB1]
   repeat' (first|refine ZC ?_|refine ZB ?_|refine ZD ?_|(refine ZH (fun hc=>?_) (fun hc=>?_)<;>(try simp at hc)<;>(try omega))|fail)
   exact k_out hxx () ⟨rfl,rfl,trivial⟩

def cvs (c:Ct):ByteArray:=⟨(cenc c).toArray⟩
theorem cvs_size {c:Ct} (h:CtOK c):(cvs c).size≤30:=by
 have:=cenc_len h
 show (cenc c).toArray.size≤_
 rw [List.size_toArray];exact this
theorem chk_cnm {who:ByteArray} (h:lvalid who.data.toList=true):nchk (cnm who)=0:=by
 have h2:isE ⟨#[]⟩=true:=by simp [isE]
 rw [nchk,if_pos (by simp [cnm])]
 show uchk ⟨_,true,false,false,false,0⟩ (cnm who)=0
 have h1:lvalid (cnm who).owner.data.toList=true:=h
 simp [uchk,h,h2,cnm]
theorem enc_cdec {c:Ct} (h:CtOK c):cdec (cvs c)=some c:=by
 obtain ⟨h1,h2,h3,h4,h5,h6⟩:=h
 have e1:((c.b.toNat:Nat):Int)=c.b:=by omega
 have e2:((c.o.toNat:Nat):Int)=c.o:=by omega
 have e3:((c.c.toNat:Nat):Int)=c.c:=by omega
 unfold cdec cread cvs
 have r1:=Zo c.b.toNat (by omega) (venc c.o.toNat++venc c.c.toNat) 0 1048576 (by omega)
 have hl:cenc c=venc c.b.toNat++(venc c.o.toNat++venc c.c.toNat):=by simp [cenc]
 have r2:=Zo c.o.toNat (by omega) (venc c.c.toNat) (0+(venc c.b.toNat).length) 1048576 (by omega)
 have r3:=Zo c.c.toNat (by omega) [] (0+(venc c.b.toNat).length+(venc c.o.toNat).length) 1048576 (by omega)
 rw [List.append_nil] at r3
 simp only [hl,r1,r2,r3,e1,e2,e3]
 simp
theorem rnum_in (s:RS) (m:Int) (hm:0≤m):0≤(rnum s m).1∧(rnum s m).1≤m:=by
 unfold rnum rstep
 split
 ·exact ⟨Int.le_refl _,hm⟩
 ·split
  ·exact ⟨Int.le_refl _,hm⟩
  ·rename_i h
   simp only [ne_eq,Decidable.not_not] at h
   unfold pnum at h ⊢
   dsimp only at h ⊢
   refine ⟨Int.natCast_nonneg _,?_⟩
   split at h
   ·cases h
   ·rename_i h2
    rw [h] at h2
    simp at h2;omega
def nbE (es:Al) (cs:List Ch) (who:ByteArray):Bi×Int:=
 if (madeE es cs who).2≠0 then (Bi.z,(madeE es cs who).2) else if (madeE es cs who).1.b=1048576 then (Bi.z,9) else (⟨who,(madeE es cs who).1.b⟩,0)
def nbC (es:Al) (cs:List Ch) (who:ByteArray):List Ch:=
 if (nbE es cs who).2=0 then cs++[⟨cnm who,cvs {(madeE es cs who).1 with b:=(madeE es cs who).1.b+1},false⟩] else cs
def mkE (es:Al) (cs:List Ch) (who:ByteArray) (nd:Ino):Bi×Int:=
 if ichk nd≠0 then (Bi.z,ichk nd) else if nd.sz≠0 then (Bi.z,2) else nbE es cs who
def mkC (es:Al) (cs:List Ch) (who:ByteArray) (nd:Ino):List Ch:=
 if (mkE es cs who nd).2=0 then nbC es cs who++[⟨nnm (mkE es cs who nd).1,iencS nd,false⟩] else cs
def mkR (es:Al) (rs:List (Nm×Ch)) (cs:List Ch) (who:ByteArray) (nd:Ino):List (Nm×Ch):=if ichk nd=0∧nd.sz=0 then madeR es rs cs who else rs
def rnums:Nat→RS→List Int×RS
 | 0,s=>([],s)
 | n+1,s=>((rnums n s).1++[(rnum (rnums n s).2 65535).1],(rnum (rnums n s).2 65535).2)
theorem rnums_len:∀n s,(rnums n s).1.length=n
 | 0,_=>rfl
 | n+1,s=>by simp [rnums,rnums_len n s]
theorem rnums_le:∀n s,(rnums n s).2.pos+(rnums n s).2.rest.length≤s.pos+s.rest.length
 | 0,_=>Nat.le_refl _
 | n+1,s=>Nat.le_trans (YK (rnums n s).2 65535) (rnums_le n s)
def pread (s0:RS):Pr×RS:=
 let k:=rnum s0 2
 let t:=rnum k.2 3
 let c:=rnum t.2 410
 let e:=rnum c.2 1073741824
 let u:=rnum e.2 65535
 let n:=rnum u.2 8
 let g:=rnums n.1.toNat n.2
 let sp:=rtext g.2 65536
 let pg:=rnum sp.2 64
 let mk:=rtext pg.2 65536
 let nu:=rnum mk.2 1073741824
 let tm:=rnum nu.2 99
 (⟨k.1,t.1,c.1,e.1,u.1,g.1,sp.1,pg.1,⟨mk.1,nu.1⟩,tm.1⟩,tm.2)
def pdec (s:ByteArray):Option Pr:=
 let r:=pread ⟨s.data.toList,0,0⟩
 if r.2.err=0∧r.2.rest=[]∧pchk r.1=0 then some r.1 else none
theorem rtext_size (s:RS) (m:Int) (hm:0≤m):((rtext s m).1.size:Int)≤m:=by
 by_cases h:(rtext s m).2.err=0
 ·exact (rtext_inv h).2.1
 ·have h0:(rtext s m).1=⟨#[]⟩:=by
   unfold rtext rstep at h ⊢
   split
   ·rfl
   ·rename_i h1
    rw [if_neg h1] at h
    split
    ·rfl
    ·rename_i h2
     rw [if_neg h2] at h
     exact absurd rfl h
  rw [h0]
  exact hm
set_option maxHeartbeats 4000000 in
theorem proDecode_ok (s:ByteArray) (hs:s.size≤1099511627776):Enters 21∧Spec prog 21 #[.string s] [] []
  ⟨Option Addr×Nat,fun q=>.tuple #[((pdec s).getD Pr.z).v q.1 q.2,.int .i64 (if (pdec s).isSome then 0 else 3)],fun _=>True,fun q=>[Sl 3 zf q.1 q.2 ((pdec s).getD Pr.z).gs],fun _=>[]⟩:=by
 have hsz:s.data.toList.length=s.size:=by simp
 have n0:=fun o cap=>X9 o cap s.data.toList (by omega)
 generalize hd:pdec s=d
 unfold pdec pread at hd
 dsimp only at hd
 generalize h0:(⟨s.data.toList,0,0⟩:RS)=s0 at hd n0
 have g0:s0.pos+s0.rest.length≤1099511627776:=by subst h0;dsimp only;omega
 have e0:s.data.toList=s0.rest:=by rw [←h0]
 rw [e0] at n0
 clear h0 hsz
 have g1:=YK s0 2
 have n1:=fun b o cap=>Zd b o cap s0 2 (by omega)
 generalize rnum s0 2=r1 at *
 obtain ⟨v1,s1⟩:=r1
 dsimp only at *
 have g2:=YK s1 3
 have n2:=fun b o cap=>Zd b o cap s1 3 (by omega)
 generalize rnum s1 3=r2 at *
 obtain ⟨v2,s2⟩:=r2
 dsimp only at *
 have g3:=YK s2 410
 have n3:=fun b o cap=>Zd b o cap s2 410 (by omega)
 generalize rnum s2 410=r3 at *
 obtain ⟨v3,s3⟩:=r3
 dsimp only at *
 have g4:=YK s3 1073741824
 have n4:=fun b o cap=>Zd b o cap s3 1073741824 (by omega)
 generalize rnum s3 1073741824=r4 at *
 obtain ⟨v4,s4⟩:=r4
 dsimp only at *
 have g5:=YK s4 65535
 have n5:=fun b o cap=>Zd b o cap s4 65535 (by omega)
 generalize rnum s4 65535=r5 at *
 obtain ⟨v5,s5⟩:=r5
 dsimp only at *
 have g6:=YK s5 8
 have i6:=rnum_in s5 8 (by decide)
 have n6:=fun b o cap=>Zd b o cap s5 8 (by omega)
 generalize rnum s5 8=r6 at *
 obtain ⟨v6,s6⟩:=r6
 dsimp only at *
 have g7:=fun n=>rnums_le n s6
 have nl:=fun n b o cap=>Zd b o cap (rnums n s6).2 65535 (by have:=g7 n;omega)
 have hgl:=rnums_len v6.toNat s6
 have g7':=g7 v6.toNat
 have n8:=fun b o cap=>rdrText_ok b o cap (rnums v6.toNat s6).2 65536 (by omega)
 have i8:=rtext_size (rnums v6.toNat s6).2 65536 (by decide)
 have g8:=rtext_le3 (rnums v6.toNat s6).2 65536
 generalize rtext (rnums v6.toNat s6).2 65536=r8 at *
 obtain ⟨v8,s8⟩:=r8
 dsimp only at *
 have g9:=YK s8 64
 have n9:=fun b o cap=>Zd b o cap s8 64 (by omega)
 generalize rnum s8 64=r9 at *
 obtain ⟨v9,s9⟩:=r9
 dsimp only at *
 have g10:=rtext_le3 s9 65536
 have n10:=fun b o cap=>rdrText_ok b o cap s9 65536 (by omega)
 have i10:=rtext_size s9 65536 (by decide)
 generalize rtext s9 65536=r10 at *
 obtain ⟨v10,s10⟩:=r10
 dsimp only at *
 have g11:=YK s10 1073741824
 have n11:=fun b o cap=>Zd b o cap s10 1073741824 (by omega)
 generalize rnum s10 1073741824=r11 at *
 obtain ⟨v11,s11⟩:=r11
 dsimp only at *
 have n12:=fun b o cap=>Zd b o cap s11 99 (by omega)
 generalize rnum s11 99=r12 at *
 obtain ⟨v12,s12⟩:=r12
 dsimp only at *
 have n13:=fun b o cap=>WQ b o cap s12
 have n14:=fun o c=>XI ⟨v1,v2,v3,v4,v5,(rnums v6.toNat s6).1,v8,v9,⟨v10,v11⟩,v12⟩ o c (by dsimp only;omega) (by dsimp only;omega) (by dsimp only;omega)
 refine ZI [_] func21 ntmps21 fun G w hp=>?_
 repeat' (first|refine ZC ?_|refine ZB ?_|refine ZD ?_|refine ZV ?_|refine ZQ (fun b=>?_)|refine ZA (n0 _ _) (fun _ _=>?_)|refine ZA (n1 _ _ _) (fun _ _=>?_)|refine ZA (n2 _ _ _) (fun _ _=>?_)|refine ZA (n3 _ _ _) (fun _ _=>?_)|refine ZA (n4 _ _ _) (fun _ _=>?_)|refine ZA (n5 _ _ _) (fun _ _=>?_)|refine ZA (n6 _ _ _) (fun _ _=>?_)|refine l_s2b (fun o cap=>?_)|rw [e0]|fail)
 rename_i b2 rd _ _ _ _ _ _ _ _ _ _ _ q6 _
 obtain ⟨br,or0,cr0⟩:=rd
 obtain ⟨o6,c6⟩:=q6
 dsimp only
 refine Zi (r:=Row 3 1 none 0 0 []) (Lx:=[]) (fun h _=>YV _ _ h) ?_
 refine YF (X:={q:Nat×(Option Addr×Nat)×(Option Addr×Nat) // q.1≤v6.toNat}) (fun q=>[(2,.pointer (some ⟨b2,0,none⟩)),(4,.pointer (some ⟨br,0,none⟩)),(5,.pointer (some ⟨b,0,none⟩)),(26,.int .i64 v6),(27,.int .i64 (q.1.1:Int))]) (fun q=>[Sl 5 bf q.1.2.1.1 q.1.2.1.2 (rnums q.1.1 s6).2.rest])
  (fun q=>[Rdr br q.1.2.1.1 q.1.2.1.2 (rnums q.1.1 s6).2,Row 3 1 q.1.2.2.1 q.1.1 q.1.2.2.2 ((rnums q.1.1 s6).1.flatMap zf),Pt b (.cells #[.int .i64 v1,.int .i64 v2,.int .i64 v3,.int .i64 v4,.int .i64 v5,.slice q.1.2.2.1 q.1.1 q.1.2.2.2,.string ⟨#[]⟩,.int .i64 0,.string ⟨#[]⟩,.int .i64 0,.int .i64 0] 44),Pt b2 (.cells #[.int .i64 0,.int .i64 0,.int .i64 0,.int .i64 0,.int .i64 0,.slice none 0 0,.string ⟨#[]⟩,.int .i64 0,.string ⟨#[]⟩,.int .i64 0,.int .i64 0] 44)])
  (fun q=>v6.toNat - q.1.1) ⟨(0,(o6,c6),(none,0)),by omega⟩ ⟨rfl,rfl,rfl,rfl,rfl,trivial⟩ ?_
 rintro ⟨⟨i,⟨oi,ci⟩,og,cg⟩,hi⟩
 dsimp only at hi ⊢
 by_cases hlt:i<v6.toNat
 ·have m1:=nl i br oi ci
  repeat' (first|refine ZC ?_|refine ZB ?_|refine ZD ?_|refine ZV ?_|refine Zq ?_|refine Ym ?_|refine r_bs (fun b=>?_)|refine Zp ?_|refine ZY (m1) (fun _ _=>?_)|refine r_app1 (fun o' cap'=>?_)|refine Za 10 [Rdr _ _ _ _,Row 3 _ _ _ _ _] [(0,0),(1,0),(2,0),(3,0),(4,4),(5,1),(6,4),(7,0),(8,0)] [9] ?_|(refine ZH (fun hc=>?_) (fun hc=>?_)<;>(try simp at hc)<;>(try omega))|fail)
  rename_i q _
  have hE:(rnums i s6).1.flatMap zf++(#[Value.int .i64 (rnum (rnums i s6).2 65535).1]:Array Value).toList=(rnums (i+1) s6).1.flatMap zf:=by simp [rnums,zf]
  rw [hE,wrapi (z:=(i:Int)+1) (by omega) (by omega)]
  exact ZW ⟨(i+1,(q.1,q.2),(o',cap')),by dsimp only;omega⟩ (by show v6.toNat - (i+1)<v6.toNat - i;omega) ⟨rfl,rfl,rfl,rfl,rfl,trivial⟩
 ·obtain rfl:i=v6.toNat:=by omega
  repeat' (first|refine ZC ?_|refine ZB ?_|refine ZP ?_|refine ZD ?_|refine ZS ?_|refine ZV ?_|refine ZJ ?_|refine Zj ?_|refine ZA (n8 _ _ _) (fun _ _=>?_)|refine ZA (n9 _ _ _) (fun _ _=>?_)|refine ZA (n10 _ _ _) (fun _ _=>?_)|refine ZA (n11 _ _ _) (fun _ _=>?_)|refine ZA (n12 _ _ _) (fun _ _=>?_)|refine ZA (n13 _ _ _) (fun _ _=>?_)|(refine ZM (fun hc=>?_) (fun hc=>?_)<;>(try simp at hc)<;>(try omega))|(refine ZH (fun hc=>?_) (fun hc=>?_)<;>(try simp at hc)<;>(try omega))|fail)
  ·rw [if_neg fun h=>hc (by rw [if_pos h.1,if_pos h.2.1])] at hd
   subst hd
   refine k_add (sl_nil 3 zf) ?_
   exact ZG (none,0) rfl trivial
  ·have hcl:s12.err=0∧s12.rest=[]:=by
    by_cases h1:s12.err=0
    ·rw [if_pos h1] at hc
     by_cases h2:s12.rest=[]
     ·exact ⟨h1,h2⟩
     ·rw [if_neg h2] at hc;cases hc
    ·rw [if_neg h1] at hc;exact absurd hc h1
   clear n8 nl g7 g7'
   generalize (rnums v6.toNat s6).1=gl at *
   rw [←hgl]
   refine l_frz (T:=3) (sz:=1) (f:=zf) gl ?_ rfl rfl
   generalize hP:pchk ⟨v1,v2,v3,v4,v5,gl,v8,v9,⟨v10,v11⟩,v12⟩=e at *
   simp only [Pr.v] at n14
   repeat' (first|refine ZC ?_|refine ZB ?_|refine ZP ?_|refine ZD ?_|refine ZS ?_|refine ZV ?_|refine ZA (n14 _ _) (fun _ _=>?_)|(refine ZH (fun hc=>?_) (fun hc=>?_)<;>(try simp at hc)<;>(try omega))|fail)
   ·rw [if_neg fun h=>by simp_all] at hd
    subst hd
    refine k_add (sl_nil 3 zf) ?_
    exact ZG (none,0) rfl trivial
   ·rw [if_pos ⟨hcl.1,hcl.2,by simp_all⟩] at hd
    subst hd
    exact ZG (og,cg) rfl trivial
structure Pp where
 bl:Nat
 fr:Nat
 to:Nat
def Pp.v (p:Pp):Value:=.agg #[.int .i64 (p.bl:Int),.int .i64 (p.fr:Int),.int .i64 (p.to:Int)]
def pts (a t:Nat):List Pp:=
 if a<t then ⟨a / 64,a - a / 64 * 64,min t (a / 64 * 64+64) - a / 64 * 64⟩::pts (min t (a / 64 * 64+64)) t else []
termination_by t - a
decreasing_by omega
def wnew (es:Al) (cs:List Ch) (bi:Bi) (f:Nat) (s:ByteArray) (p:Pp):List UInt8:=
 cpy (if p.to - p.fr<64 then pad64 (vget es cs (bnm bi p.bl)).1 else List.replicate 64 0) p.fr (s.extract (p.bl * 64+p.fr - f) s.size) (p.to - p.fr)
def wstep (es:Al) (bi:Bi) (f:Nat) (s:ByteArray) (q:List (Nm×Ch)×List Ch) (p:Pp):List (Nm×Ch)×List Ch:=
 (if p.to - p.fr<64 then vread es q.1 q.2 (bnm bi p.bl) else q.1,q.2++[⟨bnm bi p.bl,⟨(wnew es q.2 bi f s p).toArray⟩,false⟩])
def wfold (es:Al) (bi:Bi) (f:Nat) (s:ByteArray) (q:List (Nm×Ch)×List Ch) (l:List Pp):List (Nm×Ch)×List Ch:=l.foldl (wstep es bi f s) q
abbrev JWL (b:Nat) (ps:Option Addr) (q:List (Nm×Ch)×List Ch):List HP:=[Vw b ps q.1 q.2]
def JW (b:Nat) (ps:Option Addr) (es:Al) (bi:Bi) (f:Nat) (s:ByteArray) (q:List (Nm×Ch)×List Ch) (pre:List Pp):HP:=Vw b ps (wfold es bi f s q pre).1 (wfold es bi f s q pre).2
def iwE (es:Al) (cs:List Ch) (bi:Bi) (f:Int) (s:ByteArray):Int×Int:=
 if (ifile es cs bi).2≠0 then (0,(ifile es cs bi).2) else if f<0∨4096<f then (0,2) else if f=4096∧isE s=false then (0,26) else ((min s.size (4096 - f.toNat):Nat),0)
def iwQ (es:Al) (rs:List (Nm×Ch)) (cs:List Ch) (bi:Bi) (f:Nat) (s:ByteArray):List (Nm×Ch)×List Ch:=wfold es bi f s (igetR es rs cs bi,cs) (pts f (f+min s.size (4096 - f)))
def iwN (es:Al) (cs:List Ch) (bi:Bi) (f:Nat) (s:ByteArray):List Ch:=
 if 0<min s.size (4096 - f)∧(ifile es cs bi).1.sz<((f+min s.size (4096 - f):Nat):Int) then [⟨nnm bi,iencS {(ifile es cs bi).1 with sz:=((f+min s.size (4096 - f):Nat):Int)},false⟩] else []
section
variable {l:List Oper}
end
abbrev WtL (b:Nat) (o:Option Addr) (cap:Nat) (e:Int) (bs:List UInt8):List HP:=[Pt b (.cells #[.slice o bs.length cap,.int .i64 e] 200),Row 5 1 o bs.length cap (byt bs)]
def WtA (b k:Nat):HP:=fun h=>∃q:(Option Addr×Nat)×Int×List UInt8,q.2.2.length≤k∧Sep (WtL b q.1.1 q.1.2 q.2.1 q.2.2) h
def BtA (b k:Nat):Post:=⟨(Option Addr×Nat×Nat)×Int,fun q=>.tuple #[.slice q.1.1 q.1.2.1 q.1.2.2,.int .i64 q.2],fun _=>True,fun _=>[],fun _=>[WtA b k]⟩
abbrev EnA (b bw:Nat) (e:Int) (k:Nat):List HP:=[Pt b (.cells #[.pointer (some ⟨bw,0,none⟩),.int .i64 e] 307),WtA bw k]
section
variable {l:List Oper} {z:Operand}
end
abbrev BdL (b:Nat) (p o:Option Addr) (cap:Nat) (bs:List UInt8):List HP:=[Pt b (.cells #[.pointer p,.slice o bs.length cap] 223),Row 5 1 o bs.length cap (byt bs)]
def Bdr (b:Nat) (bs:List UInt8):HP:=fun h=>∃q:Option Addr×Option Addr×Nat,((q.1=none∨q.1=some ⟨b,0,none⟩)∧(bs=[]→q.2.1=none))∧Sep (BdL b q.1 q.2.1 q.2.2 bs) h
section
variable {l:List Oper} {y1 y2:Operand}
theorem l_fz {o:Obj} (nx:Wl n C ops.toArray k Q l E (Blk b o::F) R0) (hs:Sel (Pt b o) R R0:=by (repeat (first|exact Sel.here|apply Sel.there));first|done|fail):Wl n C ops.toArray k Q l E F R:=
 fun a w ha hsat=>nx a w ha (hsat.sel hs).freeze
end
def rdS (es:Al) (cs:List Ch) (bi:Bi) (p:Pp):List UInt8:=((pad64 (vget es cs (bnm bi p.bl)).1).drop p.fr).take (p.to - p.fr)
def rdB (es:Al) (cs:List Ch) (bi:Bi) (l:List Pp):List UInt8:=l.flatMap (rdS es cs bi)
def rdR (es:Al) (cs:List Ch) (bi:Bi) (rs:List (Nm×Ch)) (l:List Pp):List (Nm×Ch):=l.foldl (fun rs p=>vread es rs cs (bnm bi p.bl)) rs
abbrev JRL (b b12:Nat) (ps:Option Addr) (es:Al) (cs:List Ch) (bi:Bi) (rs:List (Nm×Ch)) (pre:List Pp):List HP:=[Vw b ps (rdR es cs bi rs pre) cs,Bdr b12 (rdB es cs bi pre)]
def JR (b b12:Nat) (ps:Option Addr) (es:Al) (cs:List Ch) (bi:Bi) (rs:List (Nm×Ch)) (pre:List Pp):HP:=fun h=>Sep (JRL b b12 ps es cs bi rs pre) h
section
variable {l:List Oper} {y1 y2:Operand}
def clrB (Lb:List UInt8) (lo:Nat):List UInt8:=Lb.take lo++List.replicate (Lb.length - lo) 0
end
def dls (bi:Bi) (a k:Nat):List Ch:=(List.range' a k).map fun j:Nat=>(⟨bnm bi (j:Int),⟨#[]⟩,true⟩:Ch)
def cutD (cs:List Ch) (bi:Bi) (e sz:Nat):List Ch:=cs++dls bi ((e+63) / 64) ((sz+63) / 64 - (e+63) / 64)
def cutC (es:Al) (cs:List Ch) (bi:Bi) (e sz:Nat):List Ch:=
 if e % 64=0 then cutD cs bi e sz else if (vget es (cutD cs bi e sz) (bnm bi ((e / 64:Nat):Int))).2 then cutD cs bi e sz++[⟨bnm bi ((e / 64:Nat):Int),⟨(clrB (pad64 (vget es (cutD cs bi e sz) (bnm bi ((e / 64:Nat):Int))).1) (e % 64)).toArray⟩,false⟩] else cutD cs bi e sz
def cutR (es:Al) (rs:List (Nm×Ch)) (cs:List Ch) (bi:Bi) (e sz:Nat):List (Nm×Ch):=
 if e % 64=0 then rs else vread es rs (cutD cs bi e sz) (bnm bi ((e / 64:Nat):Int))
def rszC (es:Al) (cs:List Ch) (bi:Bi) (n sz:Nat):List Ch:=if n=sz then cs else (if n<sz then cutC es cs bi n sz else cs)++[⟨nnm bi,iencS {(ifile es cs bi).1 with sz:=(n:Int)},false⟩]
def rszR (es:Al) (rs:List (Nm×Ch)) (cs:List Ch) (bi:Bi) (n sz:Nat):List (Nm×Ch):=if n<sz then cutR es (igetR es rs cs bi) cs bi n sz else igetR es rs cs bi
def insN (a:Nm):List Nm→List Nm
 | []=>[a]
 | b::l=>if cmpO a b<0 then a::b::l else if 0<cmpO a b then b::insN a l else a::l

def o1:ByteArray:=⟨#[49]⟩
theorem ZT:lvalid o1.data.toList=true:=by
 have h:=(Zh [49] 0 0 (by simp)).2.2.2
 rw [show ffirst (([49]:List UInt8).drop 0) 0 0=(⟨1,0,0⟩,1) from rfl] at h
 simp at h
 simp [o1,lvalid,lparts,h]
def nd0 (z:Int):Ino:=⟨1,0,0,0,z,1,⟨#[]⟩⟩
def b0:Bi:=⟨o1,0⟩
def zer (n:Nat):ByteArray:=⟨(List.replicate n 0).toArray⟩
theorem X6 (n:Nm):vget [] [] n=(⟨#[]⟩,false):=by
 unfold vget
 split
 ·rfl
 ·rfl
def kc27:List Ch:=[⟨cnm o1,cvs ⟨1,0,0⟩,false⟩,⟨nnm b0,iencS (nd0 0),false⟩]
def ks27 (rs:List (Nm×Ch)):List Ch:=(iwQ [] rs kc27 b0 0 (zer 100)).2++iwN [] kc27 b0 0 (zer 100)
theorem ZX {es:Al} {cs:List Ch} {c:Ch} {n:Nm} (h:c.nm≠n):vget es (cs++[c]) n=vget es cs n:=by
 unfold vget
 rw [Xq,if_neg h]
theorem Yx {es:Al} {cs:List Ch} {c:Ch} {n:Nm} (h:c.nm=n) (hn:nchk n=0):vget es (cs++[c]) n=(c.val,!c.abs):=by
 unfold vget
 rw [if_neg (by rw [hn];simp),Xq,if_pos h]
def fb (es:Al) (cs:List Ch) (bi:Bi) (k:Nat):UInt8:=(pad64 (vget es cs (bnm bi ((k / 64:Nat):Int))).1).getD (k % 64) 0
structure FOK (es:Al) (cs:List Ch) (bi:Bi) (w:ByteArray):Prop where
 nd:∃nd:Ino,ichk nd=0∧nd.kd=1∧nd.sz=(w.size:Int)∧vget es cs (nnm bi)=(iencS nd,true)
 le:w.size≤4096
 b:∀k,k<4096→fb es cs bi k=w.data.toList.getD k 0
 e:∀j:Nat,j<64→(vget es cs (bnm bi (j:Int))).2=false→(vget es cs (bnm bi (j:Int))).1=⟨#[]⟩
section
variable {es:Al} {cs:List Ch} {bi:Bi} {w:ByteArray}
end
theorem XZ (b:Nat) (ps:Option Addr) (rs:List (Nm×Ch)) (cs:List Ch):Enters 81∧Spec prog 81 #[.pointer (some ⟨b,0,none⟩)] [] [Vw b ps rs cs] ⟨Unit,fun _=>.int .i64 (cs.length:Int),fun _=>True,fun _=>[],fun _=>[Vw b ps rs cs]⟩:=by
 refine ZI [_] func81 ntmps81 fun G w hp=>?_
 refine k_vw fun q=>?_
 obtain ⟨r1,r2,o,cap⟩:=q
 repeat' (first|refine ZC ?_|refine ZB ?_|refine ZD ?_|refine ZS ?_|refine ZF ?_|fail)
 refine k_vw' (cs:=cs) (rs:=rs) ?_ rfl rfl rfl
 exact ZG () rfl trivial
def onm (who:ByteArray) (n t:Int):Nm:=⟨18,who,n,t,⟨#[]⟩⟩
def snt (who:ByteArray) (c:Ct) (tk:Int) (o:Ou):List Ch:=[⟨onm who c.o tk,oencS o,false⟩,⟨cnm who,⟨(cenc {c with o:=c.o+1}).toArray⟩,false⟩]
theorem genc_snoc (gs:List Int) (x:Int):genc (gs++[x])=genc gs++venc x.toNat:=by simp [genc]
theorem rnums_genc (gs:List Int):(∀z ∈ gs,0≤z∧z≤65535)→∀(rest:List UInt8) (pos:Nat),∃pos',rnums gs.length ⟨genc gs++rest,pos,0⟩=(gs,⟨rest,pos',0⟩):=by
 refine snoc_ind (P:=fun gs=>(∀z ∈ gs,0≤z∧z≤65535)→∀(rest:List UInt8) (pos:Nat),∃pos',rnums gs.length ⟨genc gs++rest,pos,0⟩=(gs,⟨rest,pos',0⟩)) (fun _ rest pos=>⟨pos,by simp [rnums,genc]⟩) (fun gs x ih h rest pos=>?_) gs
 obtain ⟨p1,h1⟩:=ih (fun z hz=>h z (by simp [hz])) (venc x.toNat++rest) pos
 have hx:=h x (by simp)
 have e1:((x.toNat:Nat):Int)=x:=by omega
 refine ⟨p1+(venc x.toNat).length,?_⟩
 rw [List.length_append,List.length_singleton,genc_snoc,List.append_assoc]
 show ((rnums gs.length _).1++[(rnum (rnums gs.length _).2 65535).1],(rnum (rnums gs.length _).2 65535).2)=_
 rw [h1]
 dsimp only
 rw [Zo x.toNat (by omega) rest p1 65535 (by omega),e1]
theorem pdec_enc {p:Pr} (h:pchk p=0) (h1:p.sp.size≤65536) (h2:p.dr.mkr.size≤65536):pdec (pencS p)=some p:=by
 obtain ⟨q1,q2,q3,q4,q5,q6⟩:=Zt h
 obtain ⟨q7,q8,q9⟩:=XV q4
 obtain ⟨q10,q11,q12⟩:=WC q6
 unfold pfit at q3
 have e1:((p.kd.toNat:Nat):Int)=p.kd:=by omega
 have e2:((p.st.toNat:Nat):Int)=p.st:=by omega
 have e3:((p.cd.toNat:Nat):Int)=p.cd:=by omega
 have e4:((p.ep.toNat:Nat):Int)=p.ep:=by omega
 have e5:((p.us.toNat:Nat):Int)=p.us:=by omega
 have e6:((p.pg.toNat:Nat):Int)=p.pg:=by omega
 have e7:((p.dr.nu.toNat:Nat):Int)=p.dr.nu:=by omega
 have e8:((p.tm.toNat:Nat):Int)=p.tm:=by omega
 have hl:penc p=venc p.kd.toNat++(venc p.st.toNat++(venc p.cd.toNat++(venc p.ep.toNat++(venc p.us.toNat++(venc p.gs.length++(genc p.gs++(venc p.sp.size++p.sp.data.toList++(venc p.pg.toNat++(venc p.dr.mkr.size++p.dr.mkr.data.toList++(venc p.dr.nu.toNat++(venc p.tm.toNat++[]))))))))))):=by simp [penc]
 have r1:=fun p' rest=>Zo p.kd.toNat (by omega) rest p' 2 (by omega)
 have r2:=fun p' rest=>Zo p.st.toNat (by omega) rest p' 3 (by omega)
 have r3:=fun p' rest=>Zo p.cd.toNat (by omega) rest p' 410 (by omega)
 have r4:=fun p' rest=>Zo p.ep.toNat (by omega) rest p' 1073741824 (by omega)
 have r5:=fun p' rest=>Zo p.us.toNat (by omega) rest p' 65535 (by omega)
 have r6:=fun p' rest=>Zo p.gs.length (by omega) rest p' 8 (by omega)
 have r8:=fun p' rest=>rtext_venc p.sp rest p' 65536 (by omega) (by omega)
 have r9:=fun p' rest=>Zo p.pg.toNat (by omega) rest p' 64 (by omega)
 have r10:=fun p' rest=>rtext_venc p.dr.mkr rest p' 65536 (by omega) (by omega)
 have r11:=fun p' rest=>Zo p.dr.nu.toNat (by omega) rest p' 1073741824 (by omega)
 have r12:=fun p' rest=>Zo p.tm.toNat (by omega) rest p' 99 (by omega)
 rw [pencS,if_pos h]
 unfold pdec pread
 dsimp only
 rw [hl]
 simp only [r1,r2,r3,r4,r5,r6,Int.toNat_natCast]
 obtain ⟨p7,r7⟩:=rnums_genc p.gs q8 (venc p.sp.size++p.sp.data.toList++(venc p.pg.toNat++(venc p.dr.mkr.size++p.dr.mkr.data.toList++(venc p.dr.nu.toNat++(venc p.tm.toNat++[]))))) (0+(venc p.kd.toNat).length+(venc p.st.toNat).length+(venc p.cd.toNat).length+(venc p.ep.toNat).length+(venc p.us.toNat).length+(venc p.gs.length).length)
 simp only [r7,r8,r9,r10,r11,r12,e1,e2,e3,e4,e5,e6,e7,e8]
 rw [if_pos ⟨trivial,trivial,h⟩]
end Go.Proofs.YtgfohjbcccfolaaGreatDoor
