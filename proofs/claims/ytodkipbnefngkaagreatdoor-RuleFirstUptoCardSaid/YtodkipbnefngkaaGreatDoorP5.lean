/-
  Regions that draw their order, by what holds after any part of them.
  The statements' model of the language of rules: expanded templates.
  The statements' model of the language of rules: what a tree says of a consequence.
  The statements' cut of a text; the errors of a reading.
  The first example of the language of rules: what is read, and what it decides. No program in sight.
  Package rule: Parse.
  Package rule: Len, Holds, Decide.
  Equality of actions of rules: rules for it.
  The statements' first example of the language of rules holds.
  The statements' model of the language of rules: what rules decide.
  From contracts to the statements' form: memory that was there stays; plain data read the same everywhere; the table of the kinds.
  Slices of plain data as arguments: the fact that they lie in memory, and that they read the same later.
  The settled world; arguments of plain types, opened.
  Contracts of the statements' own functions: names, out, build.
  The statements' arguments, opened: items, bytes.
  The contract of the statements' example, known.
  What the consequences of a ledger and a state hold; no program in sight.
  The contract of consequence.Equal.
  Contracts of consequence.Differences and consequence.Count.
  The statement ConsequenceErrors, walked.
  The statement ConsequenceCounts, walked.
  More of the statements' arguments, opened: a consequence, small integers.
  What the given cards of the laws about rules lay in memory, and an argument that is a consequence.
  Conditions: those that each theorem states.
-/
import Derived.Test.YtodkipbnefngkaaGreatDoorP2
import Derived.Test.YtodkipbnefngkaaGreatDoorP4
import Derived.Test.YtodkipbnefngkaaGreatDoorP3
import Derived.Test.YtodkipbnefngkaaGreatDoorRows
import Derived.Test.YtodkipbnefngkaaGreatDoorCards
import Derived.Test.YtodkipbnefngkaaGreatDoorTie
import Derived.ChangeSame
import Derived.ProofKit
import Derived.OpenShut
import Derived.MakeChecks
import Derived.Deep.DeepHandedRow
import Derived.Stop.LaidErr
import Derived.Deep.DeepWitnessRowRef
import Derived.Deep.DeepLaidRun
import Derived.Lib.LaidU8
import Derived.Lib.DecodeN
import Derived.Shelf.Vars
set_option maxRecDepth 10000
namespace Go.Proofs.YtodkipbnefngkaaGreatDoor
open Go.RowKit Go.Proofs.Tryz
def upd1 (D:Nat→Bool) (i:Nat):Nat→Bool:=fun j=>if j=i then true else D j
def Qx (T:Act→World→Prop) (Q:Exit→Act→World→Prop):Exit→Act→World→Prop
 | .normal,a,w=>T a w
 | e,a,w=>Q e a w
theorem one_step {F:Fence} {n:Nat} {P:Program} {ops:Array Oper} {Q:Exit→Act→World→Prop} {T:Act→World→Prop} {i:Nat} {o:Oper} {a:Act} {w:World} (ho:ops[i]? = some o) (h:wpListIn F n P ops (Qx T Q) [o] a w) :
  wpOpIn F n P ops Q i (fun a' w'=>T a' w'∧∃(a0:Act) (v:Value),a0.tmps=a.tmps∧a'=a0.put o.dst v) a w:=by
 unfold wpListIn at h
 unfold wpOpIn
 simp only [ho]
 split
 ·rename_i hw
  rw [if_pos hw] at h
  unfold Oper.wpIn at *
  refine ⟨h.1,?_⟩
  have hh:=h.2
  generalize (o.semAt F.round a.eval).run P w=r at *
  cases r with
  | ok x w'=>
   cases x<;>simp only [Oper.uponIn] at hh ⊢<;>
    first
     | exact ⟨hh,a,_,rfl,rfl⟩
     | (rename_i d;exact ⟨hh,{a with defers:=d::a.defers},undef,rfl,rfl⟩)
     | exact ⟨hh.1,CallsIn.mono hh.2 (fun e w'' he=>by cases e<;>first|exact ⟨he,a,_,rfl,rfl⟩|exact he)⟩
     | exact ⟨hh.1,RowsIn.mono hh.2 (fun _ _ he=>⟨he,a,_,rfl,rfl⟩)⟩
     | exact ⟨hh.1,RoundIn.mono hh.2 (fun e w'' he=>by cases e<;>first|exact ⟨he,a,_,rfl,rfl⟩|exact he)⟩
  | halt x w'=>cases x<;>simp only [Oper.uponIn] at hh ⊢<;>exact hh
 ·rename_i hw
  rw [if_neg hw] at h
  exact ⟨h.1,h.2,a,_,rfl,rfl⟩
def depB (o:Oper) (i:Nat):Bool:=o.after.any fun e=>Region.binds .any e && e.on == i
def ClD (l:List Oper) (D:Nat→Bool):Prop:=∀j o,nth l j=some o→D j=true→∀i,depB o i=true→D i=true
theorem wpAny_J {P:Program} {r:Option Nat} {ops:Array Oper} {Q:Exit→Act→World→Prop} (hdag:∀(x:Nat) (o:Oper),ops[x]? = some o→∀i,depB o i=true→i<x) {J:(Nat→Bool)→Act→World→Prop}
  (hs:∀D a w i o,ops[i]? = some o→D i=false→(∀j,depB o j=true→D j=true)→J D a w→wpOpIn (fz r) 0 P ops Q i (J (upd1 D i)) a w)
  (he:∀a w,J (fun i=>decide (i<ops.size)) a w→Q .normal a w) :
  ∀(m:Nat) (listed:Array Bool) (a:Act) (w:World),listed.size=ops.size→listed.toList.count false=m→J (fun i=>listed.getD i false) a w→wpAnyIn (fz r) 0 P .any ops Q m listed a w:=by
 have dep:∀(o:Oper) (listed:Array Bool),(∀e ∈ o.after,Region.binds .any e=true→listed.getD e.on false=true)↔∀j,depB o j=true→listed.getD j false=true:=fun o listed=>by
  constructor
  ·intro h j hj
   obtain ⟨e,he,hb⟩:=Array.any_eq_true'.1 hj
   simp only [Bool.and_eq_true,beq_iff_eq] at hb
   rw [←hb.2];exact h e he hb.1
  ·intro h e he hb
   exact h _ (Array.any_eq_true'.2 ⟨e,he,by simp [hb]⟩)
 have full:∀(listed:Array Bool),listed.size=ops.size→Region.ready .any ops listed=[]→∀x,x<ops.size→listed.getD x false=true:=by
  intro listed hsz hr x
  induction x using Nat.strongRecOn with
  | _ x ih=>
   intro hx
   by_cases hd:listed.getD x false=true
   ·exact hd
   ·exfalso
    have hx':x<listed.size:=by omega
    have ho:ops[x]? = some ops[x]:=by simp [hx]
    have:x ∈ Region.ready .any ops listed:=mem_ready.2 ⟨by simpa [Array.getD,hx'] using hd,_,ho,(dep _ listed).2 fun j hj=>ih j (hdag x _ ho j hj) (by have:=hdag x _ ho j hj;omega)⟩
    rw [hr] at this;cases this
 intro m
 induction m with
 | zero=>
  intro listed a w hsz hc hJ
  have hall:∀x,x<ops.size→listed.getD x false=true:=fun x hx=>by
   have hx':x<listed.size:=by omega
   have h1:=List.count_eq_zero.1 hc
   by_cases hd:listed.getD x false=true
   ·exact hd
   ·exfalso;apply h1
    have:listed[x]=false:=by simpa [Array.getD,hx'] using hd
    rw [←this];exact Array.getElem_mem_toList hx'
  have e:(fun i=>listed.getD i false)=fun i=>decide (i<ops.size):=by
   funext i
   by_cases hi:i<ops.size
   ·rw [hall i hi];simp [hi]
   ·have:¬i<listed.size:=by omega
    simp [Array.getD,this,hi]
  rw [e] at hJ
  refine ⟨List.eq_nil_iff_forall_not_mem.2 fun i hi=>?_,he a w hJ⟩
  obtain ⟨h1,o,h2,_⟩:=mem_ready.1 hi
  have hi':=(Array.getElem?_eq_some_iff.1 h2).1
  have h3:=hall i hi'
  have hx':i<listed.size:=by omega
  simp [Array.getD,hx'] at h1 h3
  rw [h1] at h3;cases h3
 | succ m ih=>
  intro listed a w hsz hc hJ
  refine ⟨fun hr=>?_,fun i hi=>?_⟩
  ·exfalso
   have h1:false ∈ listed.toList:=List.count_pos_iff.1 (by omega)
   obtain ⟨x,hx,hx2⟩:=List.getElem_of_mem h1
   have hx':x<listed.size:=by simpa using hx
   have h3:=full listed hsz hr x (by omega)
   simp [Array.getD,hx'] at h3
   simp at hx2
   rw [hx2] at h3;cases h3
  ·obtain ⟨h1,o,h2,h3⟩:=mem_ready.1 hi
   have hi':=(Array.getElem?_eq_some_iff.1 h2).1
   have hx':i<listed.size:=by omega
   have hf:listed[i]=false:=by simpa [Array.getD,hx'] using h1
   have e:(fun j=>(listed.setIfInBounds i true).getD j false)=upd1 (fun j=>listed.getD j false) i:=by
    funext j
    unfold upd1
    by_cases hj:j=i
    ·subst hj;simp [Array.getD,hx']
    ·rw [if_neg hj]
     by_cases hjs:j<listed.size
     ·simp [Array.getD,hjs,Ne.symm hj]
     ·simp [Array.getD,hjs]
   refine wpOpIn_mono (fun a' w' h'=>ih _ a' w' (by simpa using hsz) ?_ (by rw [e];exact h')) (hs _ a w i o h2 (by simp [Array.getD,hx',hf]) ((dep o listed).1 h3) hJ)
   have hcs:(listed.toList.set i true).count false=listed.toList.count false - 1:=by
    have hl:i<listed.toList.length:=by simpa using hx'
    have:=List.count_set (l:=listed.toList) (i:=i) (a:=true) (b:=false) hl
    simpa [hf] using this
   rw [Array.toList_setIfInBounds,hcs,hc];rfl
def chkJ (l:List Oper) (sk:List (Nat×Nat)) (last:Nat):Bool:=
 ((List.range l.length).all fun i=>match nth l i with
  | none=>true
  | some o=>(match o.dst with
   | none=>true
   | some d=>sk.any fun x=>x.1 == i && x.2 == d) && o.after.all fun e=>!Region.binds .any e || decide (e.on<i)) &&
 (sk.all fun x=>sk.all fun y=>!(x.2 == y.2) || x.1 == y.1) && (sk.all fun x=>match nth l x.1 with
  | some o=>o.dst == some x.2
  | none=>false) && ((List.range l.length).all fun i=>i == last || (match nth l last with
  | some o=>depB o i
  | none=>false)) && decide (last<l.length)
variable {n:Nat} {C:Cx} {Q:Exit→Act→World→Prop} {E E':List (Nat×Value)} {F F' F1 Fs F0:List Pf} {R R' R0 Rs N N' A:List HP} {k k':List Fr} {ops l:List Oper}
section
def TJ {γ:Type} (n:Nat) (C:Cx) (F:List Pf) (sk:List (Nat×Nat)) (val:γ→Nat→Value) (RJ:(Nat→Bool)→γ→List HP) (pj:(Nat→Bool)→γ→Prop) (Rr:List HP) (D:Nat→Bool) (i:Nat) (g:γ):Act→World→Prop:=fun a w=>
 ∃g',pj (upd1 D i) g'∧(∀j,D j=true→val g' j=val g j)∧(∀x ∈ sk,x.1=i→a.tmps[x.2]? = some (val g' i))∧a.tmps.size=n∧a.defers=C.ds∧Sat C.G C.w0 C.hp0 F (RJ (upd1 D i) g'++Rr) w
theorem k_J {γ:Type} {sk:List (Nat×Nat)} {val:γ→Nat→Value} {RJ:(Nat→Bool)→γ→List HP} {pj:(Nat→Bool)→γ→Prop} {Rr Rx:List HP} {D:Nat→Bool} {i:Nat} {g:γ} {Qr:Exit→Act→World→Prop} (g':γ) (hp:pj (upd1 D i) g') (hv:∀j,D j=true→val g' j=val g j)
  (hs:∀x ∈ sk,x.1=i→look E x.2=some (val g' i)) (hF:EntF F' F) (hR:Sels (RJ (upd1 D i) g'++Rr) R Rx):Wk n C [] (Qx (TJ n C F sk val RJ pj Rr D i g) Qr) E F' R:=fun a w ha hsat=>
 ⟨g',hp,hv,fun x hx hi=>ha.slots _ _ (hs x hx hi),ha.size,ha.defers,by
  obtain ⟨hp',hr,t⟩:=(hsat.sels hR)
  obtain ⟨h1,h2,d,s1,s2,hA,_⟩:=Yj t.r
  exact ⟨hp',h1,t.inp,t.inr.sub s1,t.ing,(t.d1.symm.sub s1).symm,t.d2,t.d3.sub s1,t.sub,hF.all hp' t.f,hA,t.same⟩⟩
theorem entE_look:∀{X:List (Nat×Value)},EntE E X→∀t v,look X t=some v→look E t=some v
 | [],_,t,v,h=>by cases h
 | (d,u)::X,⟨h1,h2⟩,t,v,h=>by
  rw [Yl] at h
  by_cases hdt:d=t
  ·subst hdt
   rw [Ye] at h
   rw [h1];exact h
  ·rw [Yk _ _ hdt] at h
   exact entE_look h2 t v h
theorem k_regJ {γ:Type} (id:Nat) (sk:List (Nat×Nat)) (last:Nat) (val:γ→Nat→Value) (RJ:(Nat→Bool)→γ→List HP) (pj:(Nat→Bool)→γ→Prop) (g0:γ) (E0:List (Nat×Value)) (Rr:List HP)
  (h:nf 1000 k = .c (.region id l.toArray true)::k') (hchk:chkJ l sk last=true) (hE:∀x ∈ sk,x.1≠last→look E x.2=none) (hE0:EntE E E0) (hE1:∀x ∈ sk,look E0 x.2=none)
  (h0:pj (fun _=>false) g0) (hR0:Sels (RJ (fun _=>false) g0) R Rr)
  (step:∀i o,nth l i=some o→∀D g,ClD l D→D i=false→(∀j,depB o j=true→D j=true)→pj D g→
   ∃Ei:List (Nat×Value),(∀x ∈ Ei,∃j,(j,x.1) ∈ sk∧D j=true∧x.2=val g j)∧∀Qr,Wl n C l.toArray [] (Qx (TJ n C F sk val RJ pj Rr D i g) Qr) [o] (Ei++E) F (RJ D g++Rr))
  (fin:∀g,pj (fun i=>decide (i<l.length)) g→Wk n C k' Q ((sk.map fun x=>(x.2,val g x.1))++E0) F (RJ (fun i=>decide (i<l.length)) g++Rr)):Wk n C k Q E F R:=fun a w ha hsat=>Yo 1000 k (by
 rw [h]
 unfold chkJ at hchk
 simp only [Bool.and_eq_true,List.all_eq_true,List.mem_range,decide_eq_true_eq] at hchk
 obtain ⟨⟨⟨⟨c1,c2⟩,c3⟩,c4⟩,c5⟩:=hchk
 have hn:∀i,l.toArray[i]? = nth l i:=fun i=>by rw [Yi];simp
 have hlt:∀i o,nth l i=some o→i<l.length:=fun i o ho=>by rw [Yi] at ho;exact (List.getElem?_eq_some_iff.1 ho).1
 have hdst:∀i o,nth l i=some o→∀d,o.dst=some d→(i,d) ∈ sk:=fun i o ho d hd=>by
  have:=c1 i (hlt i o ho)
  rw [ho] at this
  dsimp only at this
  rw [hd] at this
  simp only [Bool.and_eq_true,List.any_eq_true,beq_iff_eq] at this
  obtain ⟨⟨x,hx,e1,e2⟩,_⟩:=this
  rw [←e1,←e2];exact hx
 have hdag:∀(x:Nat) (o:Oper),l.toArray[x]? = some o→∀i,depB o i=true→i<x:=fun x o ho i hi=>by
  rw [hn] at ho
  have:=c1 x (hlt x o ho)
  rw [ho] at this
  dsimp only at this
  simp only [Bool.and_eq_true] at this
  obtain ⟨e,he,hb⟩:=Array.any_eq_true'.1 hi
  simp only [Bool.and_eq_true,beq_iff_eq] at hb
  have h2:=Array.all_eq_true_iff_forall_mem.1 this.2 e he
  simp only [hb.1,Bool.not_true,Bool.false_or,decide_eq_true_eq] at h2
  omega
 have hinj:∀x ∈ sk,∀y ∈ sk,x.2=y.2→x.1=y.1:=fun x hx y hy e=>by
  have:=c2 x hx y hy
  simp only [Bool.or_eq_true,Bool.not_eq_true',beq_eq_false_iff_ne,ne_eq,beq_iff_eq] at this
  rcases this with h|h
  ·exact absurd e h
  ·exact h
 let J:(Nat→Bool)→Act→World→Prop:=fun D a w=>∃g,pj D g∧ClD l D∧a.tmps.size=n∧a.defers=C.ds∧(∀t v,look E0 t=some v→a.tmps[t]? = some v)∧(D last=false→∀t v,look E t=some v→a.tmps[t]? = some v)∧(∀x ∈ sk,D x.1=true→a.tmps[x.2]? = some (val g x.1))∧Sat C.G C.w0 C.hp0 F (RJ D g++Rr) w
 have hd:Ext w {w with drawn:=w.drawn+1}:=(Below.refl _ w).drew
 refine wpIn_region_any mixed_ok ?_
 refine wpAny_J (J:=J) hdag ?_ ?_ _ _ a _ (by simp) ?_ ?_
 ·-- a step
  rintro D a w i o ho hDi hdep ⟨g,hpj,hcl,hsz,hdf,hs0,hsE,hsk,hst⟩
  rw [hn] at ho
  have hil:=hlt i o ho
  have hlast:D last=false:=by
   by_cases hi:i=last
   ·rw [←hi];exact hDi
   ·cases hL:D last with
    | false=>rfl
    | true=>
     have h4:=c4 i hil
     cases hol:nth l last with
     | none=>rw [hol] at h4;simp [hi] at h4
     | some ol=>
      rw [hol] at h4
      simp only [Bool.or_eq_true,beq_iff_eq] at h4
      have:=hcl last ol hol hL i (h4.resolve_left hi)
      rw [hDi] at this;cases this
  obtain ⟨Ei,hEi,hwl⟩:=step i o ho D g hcl hDi hdep hpj
  have hag:Agree n C.ds (look (Ei++E)) a:=⟨hsz,hdf,fun t v hv=>by
   have:∀(X:List (Nat×Value)),(∀x ∈ X,∃j,(j,x.1) ∈ sk∧D j=true∧x.2=val g j)→look (X++E) t=some v→a.tmps[t]? = some v:=by
    intro X
    induction X with
    | nil=>intro _ h;exact hsE hlast t v h
    | cons x X ih=>
     intro hX h
     obtain ⟨d,u⟩:=x
     rw [List.cons_append,Yl] at h
     by_cases hdt:d=t
     ·subst hdt
      rw [Ye] at h
      obtain ⟨j,e1,e2,e3⟩:=hX (d,u) (.head _)
      have:=hsk (j,d) e1 e2
      rw [this,←e3];exact h
     ·rw [Yk _ _ hdt] at h
      exact ih (fun y hy=>hX y (.tail _ hy)) h
   exact this Ei hEi hv⟩
  have h1:=one_step (by rw [hn];exact ho) (hwl (after C.r k' Q) a w hag hst)
  refine wpOpIn_mono ?_ h1
  rintro a' w' ⟨⟨g',t1,t2,t3,t4,t5,t6⟩,a0,v,e1,rfl⟩
  have keep:∀t,o.dst≠some t→(a0.put o.dst v).tmps[t]? = a.tmps[t]?:=fun t ht=>by
   cases hd:o.dst with
   | none=>simp [Act.put,e1]
   | some d=>
    have:d≠t:=fun e=>ht (by rw [hd,e])
    simp only [Act.put]
    rw [Array.getElem?_setIfInBounds_ne this,e1]
  refine ⟨g',t1,?_,t4,t5,fun t v ht=>?_,fun hL t v ht=>?_,fun x hx hD=>?_,t6⟩
  ·intro j oj hj hDj q hq
   unfold upd1 at hDj ⊢
   by_cases hqi:q=i
   ·rw [if_pos hqi]
   ·rw [if_neg hqi]
    by_cases hji:j=i
    ·subst hji
     rw [hj] at ho
     obtain rfl:=Option.some.inj ho
     exact hdep q hq
    ·rw [if_neg hji] at hDj
     exact hcl j oj hj hDj q hq
  ·rw [keep t fun hd=>by have:=hE1 _ (hdst i o ho t hd);rw [ht] at this;cases this]
   exact hs0 t v ht
  ·have hil:i≠last:=fun e=>by unfold upd1 at hL;rw [if_pos e.symm] at hL;cases hL
   rw [keep t fun hd=>by have:=hE _ (hdst i o ho t hd) hil;rw [ht] at this;cases this]
   exact hsE hlast t v ht
  ·by_cases hxi:x.1=i
   ·rw [hxi];exact t3 x hx hxi
   ·unfold upd1 at hD
    rw [if_neg hxi] at hD
    rw [keep x.2 fun hd=>hxi (hinj x hx _ (hdst i o ho _ hd) rfl),t2 _ hD]
    exact hsk x hx hD
 ·-- the end
  rintro a w ⟨g,hpj,_,hsz,hdf,hs0,_,hsk,hst⟩
  have e:(fun i=>decide (i<l.toArray.size))=fun i=>decide (i<l.length):=by simp
  rw [e] at hpj hsk hst
  refine fin g hpj a w ⟨hsz,hdf,fun t v hv=>?_⟩ hst
  have:∀(X:List (Nat×Nat)),(∀x ∈ X,x ∈ sk)→look ((X.map fun x=>(x.2,val g x.1))++E0) t=some v→a.tmps[t]? = some v:=by
   intro X
   induction X with
   | nil=>intro _ h;exact hs0 t v h
   | cons x X ih=>
    intro hX h
    rw [List.map_cons,List.cons_append,Yl] at h
    by_cases hdt:x.2=t
    ·rw [hdt,Ye] at h
     have hx:=hX x (.head _)
     have h3:=c3 x hx
     have hl:x.1<l.length:=by
      cases hq:nth l x.1 with
      | none=>rw [hq] at h3;cases h3
      | some oq=>exact hlt _ _ hq
     have:=hsk x hx (by simpa using hl)
     rw [←hdt,this];exact h
    ·rw [Yk _ _ hdt] at h
     exact ih (fun y hy=>hX y (.tail _ hy)) h
  exact this sk (fun x hx=>hx) hv
 ·simp
 ·refine ⟨g0,?_,fun j o _ hD=>?_,ha.size,ha.defers,fun t v ht=>?_,fun _=>ha.slots,fun x _ hD=>?_,?_⟩
  ·have e:(fun i=>(Array.replicate l.toArray.size false).getD i false)=fun _=>false:=by
    funext i;simp [Array.getD]
   rw [e];exact h0
  ·simp [Array.getD] at hD
  ·exact ha.slots t v (entE_look hE0 t v ht)
  ·simp [Array.getD] at hD
  ·have e:(fun i=>(Array.replicate l.toArray.size false).getD i false)=fun _=>false:=by
    funext i;simp [Array.getD]
   rw [e];exact (hsat.sels hR0).ext hd)
end
section
variable {n:Nat} {C:Cx} {Q:Exit→Act→World→Prop} {E E':List (Nat×Value)} {F F' F1 Fs F0:List Pf} {R R' R0 Rs N N' A:List HP} {k k':List Fr} {ops l:List Oper} {i d:Nat} {t ty0:TypeId} {x y z:Operand} {pos:String} {aft:Array Edge} {gd:Option (Nat×Bool)} {α β:Type} [DecidableEq α] {K:α→Value} {V:β→Value}
theorem l_mgetS {kt et r:Nat} {rs te:TRow} {m:List (α×β)} {zv:Value} (hk:KeyOK kt K) (a:α) (o:Option β) (ho:mget a m=o) (nx:Wl n C ops.toArray k Q l ((d,(o.map V).getD zv)::E) F R) (hw:wantL ops E ⟨some d,.lookup t x y false,ty0,pos,aft,gd⟩=some true:=by rfl) (hn:Nat.blt d n=true:=by rfl)
  (hx:ev E x=some (.map (some r)):=by rfl) (hy:ev E y=some (K a):=by rfl) (hts:lookT tab t=some rs:=by rfl) (hrs:rs.k = .map kt et:=by rfl) (hte:lookT tab et=some te:=by rfl) (hzv:zval te=some zv:=by rfl)
  (hs:Sel (Mp K V r m) R R0:=by (repeat (first|exact Sel.here|apply Sel.there));first|done|fail):Wl n C ops.toArray k Q (⟨some d,.lookup t x y false,ty0,pos,aft,gd⟩::l) E F R:=by
 rw [←ho] at nx
 exact l_mget hk a nx hw hn hx hy hts hrs hte hzv hs
end
abbrev mapJ (b:Bool) (g:Nat×List (ByteArray×ByteArray)):HP:=cond b (Mp skv skv g.1 g.2) (fun _=>True)
def kvX (c:Cq):List (Nat×ByteArray×ByteArray):=[(4,(⟨#[116,97,114,103,101,116]⟩:ByteArray),(subO c).tg),(8,(⟨#[117,115,101,114]⟩:ByteArray),(ofL (Lib.itoa (subO c).us))),(11,(⟨#[116,105,99,107]⟩:ByteArray),(ofL (Lib.itoa (subT c)))),(14,(⟨#[98,121]⟩:ByteArray),c.who),(18,(⟨#[110,117,109,98,101,114]⟩:ByteArray),(ofL (Lib.itoa c.nu))),(22,(⟨#[111,108,100]⟩:ByteArray),c.old.tx),(26,(⟨#[110,101,119]⟩:ByteArray),c.new.tx)]
def pjX (c:Cq) (D:Nat→Bool) (g:Nat×List (ByteArray×ByteArray)):Prop:=∀x ∈ kvX c,D x.1=true→mget x.2.1 g.2=some x.2.2
def skX:List (Nat×Nat):=[(0,63),(1,64),(2,65),(3,66),(5,67),(6,68),(7,69),(9,70),(10,71),(12,72),(13,73),(15,74),(16,75),(17,76),(19,77),(20,78),(21,79),(23,80),(24,81),(25,82),(27,83),(28,84),(29,85),(30,86),(31,87),(32,88),(33,89),(34,90),(35,7)]
def vlX (c:Cq) (s:ByteArray) (b3 b5:Nat) (acc wd vv:ByteArray) (i m:Nat) (g:Nat×List (ByteArray×ByteArray)):List Value:=[Value.string acc,Value.map (some g.1),Value.pointer (some ⟨b5,1,none⟩),Value.string (subO c).tg,undef,Value.pointer (some ⟨b5,3,none⟩),Value.int .i64 (subO c).us,Value.string (ofL (Lib.itoa (subO c).us)),undef,Value.int .i64 (subT c),Value.string (ofL (Lib.itoa (subT c))),undef,Value.pointer (some ⟨b3,1,none⟩),Value.string c.who,undef,Value.pointer (some ⟨b3,2,none⟩),Value.int .i64 c.nu,Value.string (ofL (Lib.itoa c.nu)),undef,Value.pointer (some ⟨b3,4,none⟩),Value.pointer (some ⟨b3,6,none⟩),Value.string c.old.tx,undef,Value.pointer (some ⟨b3,9,none⟩),Value.pointer (some ⟨b3,11,none⟩),Value.string c.new.tx,undef,Value.map (some g.1),Value.string s,Value.int .i64 (i:Int),Value.int .i64 ((i:Int)+1),Value.int .i64 ((i+1+m:Nat):Int),Value.string wd,Value.string vv,Value.string (acc++vv),Value.string (acc++vv)]
theorem YD {c:Cq} {x:Nat×ByteArray×ByteArray} (h:x ∈ kvX c):x.1=4∨x.1=8∨x.1=11∨x.1=14∨x.1=18∨x.1=22∨x.1=26:=by
 simp only [kvX,List.mem_cons,List.not_mem_nil,or_false] at h
 rcases h with rfl|rfl|rfl|rfl|rfl|rfl|rfl<;>simp
theorem kv_inj {c:Cq} {x y:Nat×ByteArray×ByteArray} (hx:x ∈ kvX c) (hy:y ∈ kvX c) (h:x.1=y.1):x=y:=by
 simp only [kvX,List.mem_cons,List.not_mem_nil,or_false] at hx hy
 rcases hx with rfl|rfl|rfl|rfl|rfl|rfl|rfl<;>rcases hy with rfl|rfl|rfl|rfl|rfl|rfl|rfl<;>first|rfl|(simp at h)
def kvK:List (Nat×ByteArray):=[(4,(⟨#[116,97,114,103,101,116]⟩:ByteArray)),(8,(⟨#[117,115,101,114]⟩:ByteArray)),(11,(⟨#[116,105,99,107]⟩:ByteArray)),(14,(⟨#[98,121]⟩:ByteArray)),(18,(⟨#[110,117,109,98,101,114]⟩:ByteArray)),(22,(⟨#[111,108,100]⟩:ByteArray)),(26,(⟨#[110,101,119]⟩:ByteArray))]
theorem kv_keys {c:Cq} {x y:Nat×ByteArray×ByteArray} (hx:x ∈ kvX c) (hy:y ∈ kvX c) (h:x.1≠y.1):x.2.1≠y.2.1:=by
 have e:(kvX c).map (fun x=>(x.1,x.2.1))=kvK:=rfl
 have hx2:(x.1,x.2.1) ∈ kvK:=by rw [←e];exact List.mem_map_of_mem hx
 have hy2:(y.1,y.2.1) ∈ kvK:=by rw [←e];exact List.mem_map_of_mem hy
 exact (by decide:∀a ∈ kvK,∀b ∈ kvK,a.1≠b.1→a.2≠b.2) _ hx2 _ hy2 h
theorem kv_get {c:Cq} {D:Nat→Bool} {g:Nat×List (ByteArray×ByteArray)} {wd:ByteArray} (hp:pjX c D g) (hD:∀x ∈ kvX c,D x.1=true) (hi:idx wd wFlds<7):mget wd g.2=some (valF wd c):=by
 have hm:wd ∈ wFlds:=Zx.1 hi
 simp only [wFlds,List.mem_cons,List.not_mem_nil,or_false] at hm
 have go:∀x ∈ kvX c,mget x.2.1 g.2=some x.2.2:=fun x hx=>hp x hx (hD x hx)
 simp only [kvX,List.forall_mem_cons] at go
 obtain ⟨g0,g1,g2,g3,g4,g5,g6,_⟩:=go
 rcases hm with rfl|rfl|rfl|rfl|rfl|rfl|rfl
 ·exact g0
 ·exact g1
 ·exact g2
 ·exact g3
 ·exact g4
 ·exact g5
 ·exact g6
theorem vlX_eq {c:Cq} {s:ByteArray} {b3 b5:Nat} {acc wd vv:ByteArray} {i m:Nat} {g g2:Nat×List (ByteArray×ByteArray)} {q:Nat} (h1:q≠1) (h27:q≠27):((vlX c s b3 b5 acc wd vv i m g2)[q]?).getD undef=((vlX c s b3 b5 acc wd vv i m g)[q]?).getD undef:=by
 have e:vlX c s b3 b5 acc wd vv i m g2=((vlX c s b3 b5 acc wd vv i m g).set 1 (.map (some g2.1))).set 27 (.map (some g2.1)):=rfl
 rw [e,List.getElem?_set_ne (Ne.symm h27),List.getElem?_set_ne (Ne.symm h1)]
theorem noD {b:Bool} (h:b=true→False):b=false:=by cases b<;>first|rfl|exact (h rfl).elim
theorem all_none {sk:List (Nat×Nat)} {E:List (Nat×Value)} (h:(sk.all fun x=>(look E x.2).isNone)=true):∀x ∈ sk,look E x.2=none:=fun x hx=>by
 have:=List.all_eq_true.1 h x hx
 simpa using this
theorem all_none2 {sk:List (Nat×Nat)} {last:Nat} {E:List (Nat×Value)} (h:(sk.all fun x=>x.1 == last || (look E x.2).isNone)=true):∀x ∈ sk,x.1≠last→look E x.2=none:=fun x hx hl=>by
 have:=List.all_eq_true.1 h x hx
 simpa [hl] using this
theorem selsA:∀A:List HP,Sels A A []
 | []=>.nil
 | _::A=>.cons .here (selsA A)
theorem selsB (x:HP):∀A:List HP,Sels A (x::A) [x]
 | []=>.nil
 | _::A=>.cons (.there .here) (selsB x A)
set_option maxHeartbeats 16000000 in
theorem X3 (s:ByteArray) (hs:s.size≤100000) (c:Cq) (hcj:CqJ c) (hq:CqS c) (h:tmF s.data.toList 0 0=none):Enters 18∧Spec prog 18 #[.string s,cqa c] [] [] (RetV (.string (ofL (exF c s.data.toList 0)))):=by
 have hsz:=lsz s
 have n1:=Z7 c
 have d1:=Vb (subO c).us (by have:=hcj.u0;omega) hcj.i.u1
 have d2:=Vb (subT c) (by have:=hcj.t0;omega) hcj.i.t1
 have d3:=Vb c.nu (by have:=hcj.n0;omega) hcj.i.n1
 obtain ⟨V,hV⟩:∃V,ofL (exF c s.data.toList 0)=V:=⟨_,rfl⟩
 have hVz:V.size≤20000000000:=by
  have e1:V=expF s c:=by rw [←hV];exact YH (by rw [Z8,(Xe s c).2 h])
  rw [e1]
  exact Nat.le_trans (exp_sz hs hq hcj.i) (by decide)
 rw [hV]
 refine ZT [_,_] func18 ntmps18 fun G w hp=>?_
 repeat' (first|refine ZG ?_|refine ZF ?_|refine ZJ ?_|refine ZH ?_|refine ZL ?_|refine ZI ?_|refine ZN ?_|refine ZO (fun b=>?_)|refine ZM (fun b=>?_)|refine ZB ?_|refine ZD ?_|refine ZA (n1) (fun _ _=>?_)|refine l_call0 (n1) (fun _ _=>?_)|(refine ZC (fun hc=>?_) (fun hc=>?_)<;>(try simp at hc))|(refine ZE (fun hc=>?_) (fun hc=>?_)<;>(try simp at hc)))
 rename_i b3 _ _
 generalize b=b5 at *
 have cat:∀(a:ByteArray) (p q:List UInt8),a++ofL (p++q)=(a++ofL p)++ofL q:=fun a p q=>YH (by rw [Xd,Xd,Xd,Z8,Z8,Z8,List.append_assoc])
 refine YJ (X:={q:Nat×ByteArray // q.1≤s.size∧tmF (s.data.toList.drop q.1) 0 q.1=none∧q.2++ofL (exF c (s.data.toList.drop q.1) 0)=V}) (fun q=>[(0,.string s),(3,pv0 b3),(5,pv0 b5),(6,.int .i64 (subT c)),(7,.string q.1.2),(8,.int .i64 (q.1.1:Int))]) (fun _=>[]) (fun _=>[Pt b3 (.cells (cqf c).toArray 26),Pt b5 (.cells (ouf (subO c)).toArray 24)]) (fun q=>s.size - q.1.1) ⟨(0,ofL []),Nat.zero_le _,h,by rw [←hV];exact YH (by rw [Xd,Z8,Z8];rfl)⟩ ⟨rfl,rfl,rfl,rfl,rfl,rfl,trivial⟩ ?_
 rintro ⟨⟨i,acc⟩,hi,hT,hR⟩
 dsimp only at hi hT hR ⊢
 have haz:acc.size≤20000000000:=by
  have:=congrArg ByteArray.size hR
  rw [Y1] at this;omega
 by_cases hlt:i<s.data.toList.length
 ·have hcc:=List.getElem?_eq_getElem hlt
  have hdr:=List.drop_eq_getElem_cons hlt
  generalize hce:s.data.toList[i]=a at *
  have hlt2:i<s.size:=by omega
  rw [hdr] at hT hR
  have w1:=wrapi (z:=(i:Int)+1) (by omega) (by omega)
  have w2:=wrapi (z:=(i:Int)+1+1) (by omega) (by omega)
  have hd2:(s.data.toList.drop (i+1)).drop 1=s.data.toList.drop (i+2):=by rw [List.drop_drop]
  have hu1:(s.data.toList.take (i+1)).drop i=(ofL [a]).data.toList:=by
   rw [Z8,List.drop_take,hdr];simp
  by_cases hb:isBr a=true
  ·have kb:(a.toNat:Int)=123∨(a.toNat:Int)=125:=by
    have:a=123∨a=125:=by simpa [isBr] using hb
    rcases this with rfl|rfl<;>decide
   rw [exF,if_pos hb] at hR
   by_cases hx:(s.data.toList.drop (i+1)).head? = some a
   ·rw [if_pos hx,WI,hd2] at hR
    have hcd:s.data.toList[i+1]? = some a:=by rw [←hx,List.head?_drop]
    have hlt4:i+1<s.size:=by have:=(List.getElem?_eq_some_iff.1 hcd).1;omega
    have hT2:tmF (s.data.toList.drop (i+2)) 0 (i+2)=none:=by
     rw [←hd2]
     have:a=123∨a=125:=by simpa [isBr] using hb
     rcases this with rfl|rfl
     ·rw [tmF,if_neg (by decide),if_pos rfl,if_pos hx,Yf] at hT;exact hT
     ·rw [tmF,if_pos rfl,if_pos hx,Yf] at hT;exact hT
    repeat' (first|refine XA (s:=s) i a hcc ?_|refine XA (s:=s) (i+1) a hcd ?_|refine Zm (s:=s) i a hcc ?_|refine ZG ?_|refine ZF ?_|refine ZJ ?_|refine ZH ?_|refine ZL ?_|refine ZI ?_|refine ZN ?_|refine ZO (fun b=>?_)|refine ZM (fun b=>?_)|refine ZB ?_|refine ZD ?_|refine ZX ?_|refine ZZ ?_|refine Zg ?_|refine ZY ?_|refine ZW ?_|refine Zh (fun b=>?_)|refine Zf (fun b=>?_)|refine Ze ?_|refine ZV ?_|refine Yc (s:=s) (u:=ofL [a]) i (i+1) (by omega) (by omega) hu1 ?_|refine YO ?_|refine YO ?_ (h:=by rw [YG];simp;omega)|rw [w1]|rw [w2]|(refine ZC (fun hc=>?_) (fun hc=>?_)<;>(try simp at hc)<;>(try omega))|(refine ZS (fun hc=>?_) (fun hc=>?_)<;>(try simp at hc)<;>(try omega))|refine ZQ 8 [] [(0,0),(1,0),(2,0),(3,0),(4,0),(5,0),(6,0),(7,0)] [] ?_|(refine ZE (fun hc=>?_) (fun hc=>?_)<;>(try simp at hc)<;>(try omega)))
    all_goals exact Za ⟨(i+2,acc++ofL [a]),by show i+2≤s.size;omega,hT2,by rw [←cat];exact hR⟩ (by show s.size - (i+2)<s.size - i;omega) ⟨rfl,rfl,rfl,rfl,rfl,rfl,trivial⟩
   ·have ha:a=123:=by
     have:a=123∨a=125:=by simpa [isBr] using hb
     rcases this with rfl|rfl
     ·rfl
     ·rw [tmF,if_pos rfl,if_neg hx] at hT;cases hT
    subst ha
    rw [if_neg hx] at hR
    rw [tmF,if_neg (by decide),if_pos rfl,if_neg hx] at hT
    have hfe:=VH (s.data.toList.drop (i+1))
    have hfd:spanF (fun x=>!(x == 125)) (s.data.toList.drop (i+1))<(s.data.toList.drop (i+1)).length∧idx (ofL ((s.data.toList.drop (i+1)).take (spanF (fun x=>!(x == 125)) (s.data.toList.drop (i+1))))) wFlds<7:=by
     by_cases hq:spanF (fun x=>!(x == 125)) (s.data.toList.drop (i+1))<(s.data.toList.drop (i+1)).length∧idx (ofL ((s.data.toList.drop (i+1)).take (spanF (fun x=>!(x == 125)) (s.data.toList.drop (i+1))))) wFlds<7
     ·exact hq
     ·rw [if_neg hq] at hfe;rw [hfe] at hT;cases hT
    rw [if_pos hfd] at hfe
    rw [hfe] at hT
    have hT:tmF (s.data.toList.drop (i+1)) (spanF (fun x=>!(x == 125)) (s.data.toList.drop (i+1))+1) (i+1)=none:=hT
    rw [Yf,List.drop_drop] at hT
    rw [WI,List.drop_drop] at hR
    have st1:=XR (fun x=>!(x == 125)) (s.data.toList.drop (i+1))
    have st2:=X9 (fun x=>!(x == 125)) (s.data.toList.drop (i+1)) hfd.1
    obtain ⟨f1,f2⟩:=hfd
    generalize spanF (fun x=>!(x == 125)) (s.data.toList.drop (i+1))=m at *
    rw [List.length_drop] at f1
    have hat:∀k,i+1≤k→k≤i+1+m→∃d,s.data.toList[k]? = some d∧((d.toNat:Int)=125↔k=i+1+m):=fun k k1 k2=>by
     have hk:k<s.data.toList.length:=by omega
     refine ⟨_,List.getElem?_eq_getElem hk,?_⟩
     rw [show ∀c:UInt8,((c.toNat:Int)=125)↔c=125 from fun c=>(u8i (k:=125) (by decide)).symm]
     by_cases he:k=i+1+m
     ·subst he
      rw [List.getElem_drop] at st2
      have:s.data.toList[i+1+m]=125:=by simpa using st2
      exact ⟨fun _=>rfl,fun _=>this⟩
     ·have hm:s.data.toList[k] ∈ (s.data.toList.drop (i+1)).take m:=by
       rw [List.mem_iff_getElem]
       exact ⟨k - (i+1),by rw [List.length_take,List.length_drop];omega,by rw [List.getElem_take,List.getElem_drop];congr 1;omega⟩
      have:=st1 _ hm
      exact ⟨fun h=>by rw [h] at this;exact absurd this (by decide),fun h=>absurd h he⟩
    have hd3:∀d:UInt8,s.data.toList[i+1]? = some d→¬(d.toNat:Int)=123:=fun d hd h=>hx (by
     rw [List.head?_drop,hd,(u8i (k:=123) (by decide)).2 h];rfl)
    obtain ⟨d,hcd,_⟩:=hat (i+1) (by omega) (by omega)
    have hd4:=hd3 d hcd
    have hne:¬(d.toNat:Int)=((123:UInt8).toNat:Int):=hd4
    repeat' (first|refine XA (s:=s) i 123 hcc ?_|refine XA (s:=s) (i+1) d hcd ?_|refine Zm (s:=s) i 123 hcc ?_|refine ZG ?_|refine ZF ?_|refine ZJ ?_|refine ZH ?_|refine ZL ?_|refine ZI ?_|refine ZN ?_|refine ZO (fun b=>?_)|refine ZM (fun b=>?_)|refine ZB ?_|refine ZD ?_|refine ZX ?_|refine ZZ ?_|refine Zg ?_|refine ZY ?_|refine ZW ?_|refine Zh (fun b=>?_)|refine Zf (fun b=>?_)|refine Ze ?_|refine ZV ?_|rw [w1]|rw [w2]|(refine ZC (fun hc=>?_) (fun hc=>?_)<;>(try simp at hc)<;>(try omega))|(refine ZS (fun hc=>?_) (fun hc=>?_)<;>(try simp at hc)<;>(try omega))|refine ZQ 8 [] [(0,0),(1,0),(2,0),(3,0),(4,0),(5,0),(6,0),(7,0)] [] ?_|(refine ZE (fun hc=>?_) (fun hc=>?_)<;>(try simp at hc)<;>(try omega)))
    refine YJ (X:={k:Nat // i+1≤k∧k≤i+1+m}) (fun k=>[(0,.string s),(3,pv0 b3),(5,pv0 b5),(6,.int .i64 (subT c)),(7,.string acc),(8,.int .i64 (i:Int)),(9,.int .i64 (k.1:Int))]) (fun _=>[]) (fun _=>[Pt b3 (.cells (cqf c).toArray 26),Pt b5 (.cells (ouf (subO c)).toArray 24)]) (fun k=>s.size - k.1) ⟨i+1,by omega,by omega⟩ ⟨rfl,rfl,rfl,rfl,rfl,rfl,rfl,trivial⟩ ?_
    rintro ⟨k,hk1,hk2⟩
    dsimp only at hk1 hk2 ⊢
    obtain ⟨e,hke,hkd⟩:=hat k hk1 hk2
    by_cases hk:k=i+1+m
    ·have ke:=hkd.2 hk
     subst hk
     have hu2:(s.data.toList.take (i+1+m)).drop (i+1)=(ofL ((s.data.toList.drop (i+1)).take m)).data.toList:=by
      rw [Z8,List.drop_take,Nat.add_sub_cancel_left]
     have w3:=wrapi (z:=((i+1+m:Nat):Int)+1) (by omega) (by omega)
     generalize hwd:ofL ((s.data.toList.drop (i+1)).take m)=wd at *
     generalize hvv:valF wd c=vv at *
     have hR2:(acc++vv)++ofL (exF c (s.data.toList.drop (i+1+(m+1))) 0)=V:=by
      rw [←hR,cat]
     have hvz:vv.size≤5000:=by rw [←hvv];exact hq.val hcj.i wd
     repeat' (first|refine Zm (s:=s) (i+1+m) e hke ?_|refine ZG ?_|refine ZF ?_|refine ZJ ?_|refine ZH ?_|refine ZL ?_|refine ZI ?_|refine ZN ?_|refine ZO (fun b=>?_)|refine ZM (fun b=>?_)|refine ZB ?_|refine ZD ?_|refine ZP ?_|refine ZX ?_|refine ZZ ?_|refine Zg ?_|refine ZY ?_|refine ZW ?_|refine Zh (fun b=>?_)|refine Zf (fun b=>?_)|refine Ze ?_|refine ZV ?_|(refine ZC (fun hc=>?_) (fun hc=>?_)<;>(try simp at hc)<;>(try omega))|(refine ZS (fun hc=>?_) (fun hc=>?_)<;>(try simp at hc)<;>(try omega))|refine ZQ 8 [] [(0,0),(1,0),(2,0),(3,0),(4,0),(5,0),(6,0),(7,0)] [] ?_|(refine ZE (fun hc=>?_) (fun hc=>?_)<;>(try simp at hc)<;>(try omega)))
     refine Z2 (Lx:=[]) (r:=mapJ false (0,[])) (fun h _=>trivial) ?_
     have pjm:∀(j:Nat) (D:Nat→Bool) (g:Nat×List (ByteArray×ByteArray)),(∀x ∈ kvX c,x.1≠j)→pjX c D g→pjX c (upd1 D j) g:=fun j D g h hp x hx hD=>hp x hx (by unfold upd1 at hD;rwa [if_neg (h x hx)] at hD)
     have pji:∀(j:Nat) (key v:ByteArray) (D:Nat→Bool) (g:Nat×List (ByteArray×ByteArray)),(j,key,v) ∈ kvX c→pjX c D g→pjX c (upd1 D j) (g.1,mset key v g.2):=fun j key v D g h1 hp x hx hD=>by
      show mget x.2.1 (mset key v g.2)=_
      rw [mget_set]
      by_cases hj:x.1=j
      ·rw [kv_inj hx h1 hj,if_pos rfl]
      ·rw [if_neg (kv_keys h1 hx (fun e=>hj e.symm))]
       exact hp x hx (by unfold upd1 at hD;rwa [if_neg hj] at hD)
     refine k_regJ (γ:=Nat×List (ByteArray×ByteArray)) 14 skX 35 (fun g j=>((vlX c s b3 b5 acc wd vv i m g)[j]?).getD undef) (fun D g=>[mapJ (D 1) g]) (pjX c) (0,[]) [(0,.string s),(3,pv0 b3),(5,pv0 b5),(6,.int .i64 (subT c)),(8,.int .i64 (i:Int)),(9,.int .i64 ((i+1+m:Nat):Int))] _ rfl (by decide +kernel) (all_none2 rfl) ⟨rfl,rfl,rfl,rfl,rfl,rfl,trivial⟩ (all_none rfl) (fun x _ hD=>by cases hD) (.cons .here .nil) ?_ ?_
     ·intro j o ho D g hcl hDi hdep hpj
      match j,ho,hDi,hdep with
      | 0,ho,hDi,hdep=>
       obtain rfl:=Option.some.inj ho
       refine ⟨[],(fun x hx=>by cases hx),fun Qr=>?_⟩
       refine ZG ?_
       refine ZF ?_
       exact k_J g (pjm 0 D g (fun x hx=>by have:=YD hx;omega) hpj) (fun _ _=>rfl) (fun x hx h=>by rw [(by decide:∀x ∈ skX,x.1=0→x.2=63) x hx h];rfl) (by first|exact Zc _|exact Zn _ _) (selsA _)
      | 1,ho,hDi,hdep=>
       obtain rfl:=Option.some.inj ho
       refine ⟨[],(fun x hx=>by cases hx),fun Qr=>?_⟩
       refine Ym Zb skv (fun r=>?_)
       refine ZF ?_
       have hno:∀q,q=4∨q=8∨q=11∨q=14∨q=18∨q=22∨q=26∨q=27→D q=false:=fun q hq=>by
        rcases hq with rfl|rfl|rfl|rfl|rfl|rfl|rfl|rfl
        ·exact noD fun hh=>by have:=hcl 4 _ rfl hh 1 (by decide +kernel);rw [hDi] at this;cases this
        ·exact noD fun hh=>by have:=hcl 8 _ rfl hh 1 (by decide +kernel);rw [hDi] at this;cases this
        ·exact noD fun hh=>by have:=hcl 11 _ rfl hh 1 (by decide +kernel);rw [hDi] at this;cases this
        ·exact noD fun hh=>by have:=hcl 14 _ rfl hh 1 (by decide +kernel);rw [hDi] at this;cases this
        ·exact noD fun hh=>by have:=hcl 18 _ rfl hh 1 (by decide +kernel);rw [hDi] at this;cases this
        ·exact noD fun hh=>by have:=hcl 22 _ rfl hh 1 (by decide +kernel);rw [hDi] at this;cases this
        ·exact noD fun hh=>by have:=hcl 26 _ rfl hh 1 (by decide +kernel);rw [hDi] at this;cases this
        ·exact noD fun hh=>by have:=hcl 27 _ rfl hh 1 (by decide +kernel);rw [hDi] at this;cases this
       exact k_J (r,[]) (fun x hx hD=>by
        exfalso
        have h1:=YD hx
        unfold upd1 at hD;rw [if_neg (by omega),hno x.1 (by omega)] at hD;cases hD) (fun q hq=>vlX_eq (fun e=>by rw [e,hDi] at hq;cases hq) (fun e=>by rw [e,hno 27 (by omega)] at hq;cases hq)) (fun x hx h=>by rw [(by decide:∀x ∈ skX,x.1=1→x.2=64) x hx h];rfl) (Zc _) (.cons .here (selsB _ _))
      | 2,ho,hDi,hdep=>
       obtain rfl:=Option.some.inj ho
       refine ⟨[],(fun x hx=>by cases hx),fun Qr=>?_⟩
       refine ZG ?_
       refine ZF ?_
       exact k_J g (pjm 2 D g (fun x hx=>by have:=YD hx;omega) hpj) (fun _ _=>rfl) (fun x hx h=>by rw [(by decide:∀x ∈ skX,x.1=2→x.2=65) x hx h];rfl) (by first|exact Zc _|exact Zn _ _) (selsA _)
      | 3,ho,hDi,hdep=>
       obtain rfl:=Option.some.inj ho
       refine ⟨[(65,Value.pointer (some ⟨b5,1,none⟩))],(fun x hx=>by
        simp only [List.mem_cons,List.not_mem_nil,or_false] at hx
        rcases hx with rfl
        ·exact ⟨2,(show (2,65) ∈ skX by decide),hdep 2 (by decide +kernel),rfl⟩),fun Qr=>?_⟩
       refine ZL ?_
       refine ZF ?_
       exact k_J g (pjm 3 D g (fun x hx=>by have:=YD hx;omega) hpj) (fun _ _=>rfl) (fun x hx h=>by rw [(by decide:∀x ∈ skX,x.1=3→x.2=66) x hx h];rfl) (by first|exact Zc _|exact Zn _ _) (selsA _)
      | 4,ho,hDi,hdep=>
       obtain rfl:=Option.some.inj ho
       refine ⟨[(64,Value.map (some g.1)),(66,Value.string (subO c).tg)],(fun x hx=>by
        simp only [List.mem_cons,List.not_mem_nil,or_false] at hx
        rcases hx with rfl|rfl
        ·exact ⟨1,(show (1,64) ∈ skX by decide),hdep 1 (by decide +kernel),rfl⟩
        ·exact ⟨3,(show (3,66) ∈ skX by decide),hdep 3 (by decide +kernel),rfl⟩),fun Qr=>?_⟩
       have hD1:D 1=true:=hdep 1 (by decide +kernel)
       show Wl _ _ _ _ _ _ _ _ ([mapJ (D 1) g]++_)
       rw [hD1]
       refine Z5 (V:=skv) Zb (⟨#[116,97,114,103,101,116]⟩:ByteArray) (subO c).tg ?_
       refine ZF ?_
       exact k_J (g.1,mset (⟨#[116,97,114,103,101,116]⟩:ByteArray) (subO c).tg g.2) (pji 4 _ _ D g (.head _) hpj) (fun q _=>rfl) (fun x hx h=>absurd h ((by decide:∀x ∈ skX,x.1≠4) x hx)) (Zc _) (by show Sels ([mapJ (D 1) _]++_) _ _;rw [hD1];exact .cons .here (selsA _))
      | 5,ho,hDi,hdep=>
       obtain rfl:=Option.some.inj ho
       refine ⟨[],(fun x hx=>by cases hx),fun Qr=>?_⟩
       refine ZG ?_
       refine ZF ?_
       exact k_J g (pjm 5 D g (fun x hx=>by have:=YD hx;omega) hpj) (fun _ _=>rfl) (fun x hx h=>by rw [(by decide:∀x ∈ skX,x.1=5→x.2=67) x hx h];rfl) (by first|exact Zc _|exact Zn _ _) (selsA _)
      | 6,ho,hDi,hdep=>
       obtain rfl:=Option.some.inj ho
       refine ⟨[(67,Value.pointer (some ⟨b5,3,none⟩))],(fun x hx=>by
        simp only [List.mem_cons,List.not_mem_nil,or_false] at hx
        rcases hx with rfl
        ·exact ⟨5,(show (5,67) ∈ skX by decide),hdep 5 (by decide +kernel),rfl⟩),fun Qr=>?_⟩
       refine ZL ?_
       refine ZF ?_
       exact k_J g (pjm 6 D g (fun x hx=>by have:=YD hx;omega) hpj) (fun _ _=>rfl) (fun x hx h=>by rw [(by decide:∀x ∈ skX,x.1=6→x.2=68) x hx h];rfl) (by first|exact Zc _|exact Zn _ _) (selsA _)
      | 7,ho,hDi,hdep=>
       obtain rfl:=Option.some.inj ho
       refine ⟨[(68,Value.int .i64 (subO c).us)],(fun x hx=>by
        simp only [List.mem_cons,List.not_mem_nil,or_false] at hx
        rcases hx with rfl
        ·exact ⟨6,(show (6,68) ∈ skX by decide),hdep 6 (by decide +kernel),rfl⟩),fun Qr=>?_⟩
       refine ZA d1 (fun _ _=>?_)
       refine ZF ?_
       exact k_J g (pjm 7 D g (fun x hx=>by have:=YD hx;omega) hpj) (fun _ _=>rfl) (fun x hx h=>by rw [(by decide:∀x ∈ skX,x.1=7→x.2=69) x hx h];rfl) (by first|exact Zc _|exact Zn _ _) (selsA _)
      | 8,ho,hDi,hdep=>
       obtain rfl:=Option.some.inj ho
       refine ⟨[(64,Value.map (some g.1)),(69,Value.string (ofL (Lib.itoa (subO c).us)))],(fun x hx=>by
        simp only [List.mem_cons,List.not_mem_nil,or_false] at hx
        rcases hx with rfl|rfl
        ·exact ⟨1,(show (1,64) ∈ skX by decide),hdep 1 (by decide +kernel),rfl⟩
        ·exact ⟨7,(show (7,69) ∈ skX by decide),hdep 7 (by decide +kernel),rfl⟩),fun Qr=>?_⟩
       have hD1:D 1=true:=hdep 1 (by decide +kernel)
       show Wl _ _ _ _ _ _ _ _ ([mapJ (D 1) g]++_)
       rw [hD1]
       refine Z5 (V:=skv) Zb (⟨#[117,115,101,114]⟩:ByteArray) (ofL (Lib.itoa (subO c).us)) ?_
       refine ZF ?_
       exact k_J (g.1,mset (⟨#[117,115,101,114]⟩:ByteArray) (ofL (Lib.itoa (subO c).us)) g.2) (pji 8 _ _ D g (.tail _ (.head _)) hpj) (fun q _=>rfl) (fun x hx h=>absurd h ((by decide:∀x ∈ skX,x.1≠8) x hx)) (Zc _) (by show Sels ([mapJ (D 1) _]++_) _ _;rw [hD1];exact .cons .here (selsA _))
      | 9,ho,hDi,hdep=>
       obtain rfl:=Option.some.inj ho
       refine ⟨[],(fun x hx=>by cases hx),fun Qr=>?_⟩
       refine ZG ?_
       refine ZF ?_
       exact k_J g (pjm 9 D g (fun x hx=>by have:=YD hx;omega) hpj) (fun _ _=>rfl) (fun x hx h=>by rw [(by decide:∀x ∈ skX,x.1=9→x.2=70) x hx h];rfl) (by first|exact Zc _|exact Zn _ _) (selsA _)
      | 10,ho,hDi,hdep=>
       obtain rfl:=Option.some.inj ho
       refine ⟨[(70,Value.int .i64 (subT c))],(fun x hx=>by
        simp only [List.mem_cons,List.not_mem_nil,or_false] at hx
        rcases hx with rfl
        ·exact ⟨9,(show (9,70) ∈ skX by decide),hdep 9 (by decide +kernel),rfl⟩),fun Qr=>?_⟩
       refine ZA d2 (fun _ _=>?_)
       refine ZF ?_
       exact k_J g (pjm 10 D g (fun x hx=>by have:=YD hx;omega) hpj) (fun _ _=>rfl) (fun x hx h=>by rw [(by decide:∀x ∈ skX,x.1=10→x.2=71) x hx h];rfl) (by first|exact Zc _|exact Zn _ _) (selsA _)
      | 11,ho,hDi,hdep=>
       obtain rfl:=Option.some.inj ho
       refine ⟨[(64,Value.map (some g.1)),(71,Value.string (ofL (Lib.itoa (subT c))))],(fun x hx=>by
        simp only [List.mem_cons,List.not_mem_nil,or_false] at hx
        rcases hx with rfl|rfl
        ·exact ⟨1,(show (1,64) ∈ skX by decide),hdep 1 (by decide +kernel),rfl⟩
        ·exact ⟨10,(show (10,71) ∈ skX by decide),hdep 10 (by decide +kernel),rfl⟩),fun Qr=>?_⟩
       have hD1:D 1=true:=hdep 1 (by decide +kernel)
       show Wl _ _ _ _ _ _ _ _ ([mapJ (D 1) g]++_)
       rw [hD1]
       refine Z5 (V:=skv) Zb (⟨#[116,105,99,107]⟩:ByteArray) (ofL (Lib.itoa (subT c))) ?_
       refine ZF ?_
       exact k_J (g.1,mset (⟨#[116,105,99,107]⟩:ByteArray) (ofL (Lib.itoa (subT c))) g.2) (pji 11 _ _ D g (.tail _ (.tail _ (.head _))) hpj) (fun q _=>rfl) (fun x hx h=>absurd h ((by decide:∀x ∈ skX,x.1≠11) x hx)) (Zc _) (by show Sels ([mapJ (D 1) _]++_) _ _;rw [hD1];exact .cons .here (selsA _))
      | 12,ho,hDi,hdep=>
       obtain rfl:=Option.some.inj ho
       refine ⟨[],(fun x hx=>by cases hx),fun Qr=>?_⟩
       refine ZG ?_
       refine ZF ?_
       exact k_J g (pjm 12 D g (fun x hx=>by have:=YD hx;omega) hpj) (fun _ _=>rfl) (fun x hx h=>by rw [(by decide:∀x ∈ skX,x.1=12→x.2=72) x hx h];rfl) (by first|exact Zc _|exact Zn _ _) (selsA _)
      | 13,ho,hDi,hdep=>
       obtain rfl:=Option.some.inj ho
       refine ⟨[(72,Value.pointer (some ⟨b3,1,none⟩))],(fun x hx=>by
        simp only [List.mem_cons,List.not_mem_nil,or_false] at hx
        rcases hx with rfl
        ·exact ⟨12,(show (12,72) ∈ skX by decide),hdep 12 (by decide +kernel),rfl⟩),fun Qr=>?_⟩
       refine ZL ?_
       refine ZF ?_
       exact k_J g (pjm 13 D g (fun x hx=>by have:=YD hx;omega) hpj) (fun _ _=>rfl) (fun x hx h=>by rw [(by decide:∀x ∈ skX,x.1=13→x.2=73) x hx h];rfl) (by first|exact Zc _|exact Zn _ _) (selsA _)
      | 14,ho,hDi,hdep=>
       obtain rfl:=Option.some.inj ho
       refine ⟨[(64,Value.map (some g.1)),(73,Value.string c.who)],(fun x hx=>by
        simp only [List.mem_cons,List.not_mem_nil,or_false] at hx
        rcases hx with rfl|rfl
        ·exact ⟨1,(show (1,64) ∈ skX by decide),hdep 1 (by decide +kernel),rfl⟩
        ·exact ⟨13,(show (13,73) ∈ skX by decide),hdep 13 (by decide +kernel),rfl⟩),fun Qr=>?_⟩
       have hD1:D 1=true:=hdep 1 (by decide +kernel)
       show Wl _ _ _ _ _ _ _ _ ([mapJ (D 1) g]++_)
       rw [hD1]
       refine Z5 (V:=skv) Zb (⟨#[98,121]⟩:ByteArray) c.who ?_
       refine ZF ?_
       exact k_J (g.1,mset (⟨#[98,121]⟩:ByteArray) c.who g.2) (pji 14 _ _ D g (.tail _ (.tail _ (.tail _ (.head _)))) hpj) (fun q _=>rfl) (fun x hx h=>absurd h ((by decide:∀x ∈ skX,x.1≠14) x hx)) (Zc _) (by show Sels ([mapJ (D 1) _]++_) _ _;rw [hD1];exact .cons .here (selsA _))
      | 15,ho,hDi,hdep=>
       obtain rfl:=Option.some.inj ho
       refine ⟨[],(fun x hx=>by cases hx),fun Qr=>?_⟩
       refine ZG ?_
       refine ZF ?_
       exact k_J g (pjm 15 D g (fun x hx=>by have:=YD hx;omega) hpj) (fun _ _=>rfl) (fun x hx h=>by rw [(by decide:∀x ∈ skX,x.1=15→x.2=74) x hx h];rfl) (by first|exact Zc _|exact Zn _ _) (selsA _)
      | 16,ho,hDi,hdep=>
       obtain rfl:=Option.some.inj ho
       refine ⟨[(74,Value.pointer (some ⟨b3,2,none⟩))],(fun x hx=>by
        simp only [List.mem_cons,List.not_mem_nil,or_false] at hx
        rcases hx with rfl
        ·exact ⟨15,(show (15,74) ∈ skX by decide),hdep 15 (by decide +kernel),rfl⟩),fun Qr=>?_⟩
       refine ZL ?_
       refine ZF ?_
       exact k_J g (pjm 16 D g (fun x hx=>by have:=YD hx;omega) hpj) (fun _ _=>rfl) (fun x hx h=>by rw [(by decide:∀x ∈ skX,x.1=16→x.2=75) x hx h];rfl) (by first|exact Zc _|exact Zn _ _) (selsA _)
      | 17,ho,hDi,hdep=>
       obtain rfl:=Option.some.inj ho
       refine ⟨[(75,Value.int .i64 c.nu)],(fun x hx=>by
        simp only [List.mem_cons,List.not_mem_nil,or_false] at hx
        rcases hx with rfl
        ·exact ⟨16,(show (16,75) ∈ skX by decide),hdep 16 (by decide +kernel),rfl⟩),fun Qr=>?_⟩
       refine ZA d3 (fun _ _=>?_)
       refine ZF ?_
       exact k_J g (pjm 17 D g (fun x hx=>by have:=YD hx;omega) hpj) (fun _ _=>rfl) (fun x hx h=>by rw [(by decide:∀x ∈ skX,x.1=17→x.2=76) x hx h];rfl) (by first|exact Zc _|exact Zn _ _) (selsA _)
      | 18,ho,hDi,hdep=>
       obtain rfl:=Option.some.inj ho
       refine ⟨[(64,Value.map (some g.1)),(76,Value.string (ofL (Lib.itoa c.nu)))],(fun x hx=>by
        simp only [List.mem_cons,List.not_mem_nil,or_false] at hx
        rcases hx with rfl|rfl
        ·exact ⟨1,(show (1,64) ∈ skX by decide),hdep 1 (by decide +kernel),rfl⟩
        ·exact ⟨17,(show (17,76) ∈ skX by decide),hdep 17 (by decide +kernel),rfl⟩),fun Qr=>?_⟩
       have hD1:D 1=true:=hdep 1 (by decide +kernel)
       show Wl _ _ _ _ _ _ _ _ ([mapJ (D 1) g]++_)
       rw [hD1]
       refine Z5 (V:=skv) Zb (⟨#[110,117,109,98,101,114]⟩:ByteArray) (ofL (Lib.itoa c.nu)) ?_
       refine ZF ?_
       exact k_J (g.1,mset (⟨#[110,117,109,98,101,114]⟩:ByteArray) (ofL (Lib.itoa c.nu)) g.2) (pji 18 _ _ D g (.tail _ (.tail _ (.tail _ (.tail _ (.head _))))) hpj) (fun q _=>rfl) (fun x hx h=>absurd h ((by decide:∀x ∈ skX,x.1≠18) x hx)) (Zc _) (by show Sels ([mapJ (D 1) _]++_) _ _;rw [hD1];exact .cons .here (selsA _))
      | 19,ho,hDi,hdep=>
       obtain rfl:=Option.some.inj ho
       refine ⟨[],(fun x hx=>by cases hx),fun Qr=>?_⟩
       refine ZG ?_
       refine ZF ?_
       exact k_J g (pjm 19 D g (fun x hx=>by have:=YD hx;omega) hpj) (fun _ _=>rfl) (fun x hx h=>by rw [(by decide:∀x ∈ skX,x.1=19→x.2=77) x hx h];rfl) (by first|exact Zc _|exact Zn _ _) (selsA _)
      | 20,ho,hDi,hdep=>
       obtain rfl:=Option.some.inj ho
       refine ⟨[(77,Value.pointer (some ⟨b3,4,none⟩))],(fun x hx=>by
        simp only [List.mem_cons,List.not_mem_nil,or_false] at hx
        rcases hx with rfl
        ·exact ⟨19,(show (19,77) ∈ skX by decide),hdep 19 (by decide +kernel),rfl⟩),fun Qr=>?_⟩
       refine ZG ?_
       refine ZF ?_
       exact k_J g (pjm 20 D g (fun x hx=>by have:=YD hx;omega) hpj) (fun _ _=>rfl) (fun x hx h=>by rw [(by decide:∀x ∈ skX,x.1=20→x.2=78) x hx h];rfl) (by first|exact Zc _|exact Zn _ _) (selsA _)
      | 21,ho,hDi,hdep=>
       obtain rfl:=Option.some.inj ho
       refine ⟨[(78,Value.pointer (some ⟨b3,6,none⟩))],(fun x hx=>by
        simp only [List.mem_cons,List.not_mem_nil,or_false] at hx
        rcases hx with rfl
        ·exact ⟨20,(show (20,78) ∈ skX by decide),hdep 20 (by decide +kernel),rfl⟩),fun Qr=>?_⟩
       refine ZL ?_
       refine ZF ?_
       exact k_J g (pjm 21 D g (fun x hx=>by have:=YD hx;omega) hpj) (fun _ _=>rfl) (fun x hx h=>by rw [(by decide:∀x ∈ skX,x.1=21→x.2=79) x hx h];rfl) (by first|exact Zc _|exact Zn _ _) (selsA _)
      | 22,ho,hDi,hdep=>
       obtain rfl:=Option.some.inj ho
       refine ⟨[(64,Value.map (some g.1)),(79,Value.string c.old.tx)],(fun x hx=>by
        simp only [List.mem_cons,List.not_mem_nil,or_false] at hx
        rcases hx with rfl|rfl
        ·exact ⟨1,(show (1,64) ∈ skX by decide),hdep 1 (by decide +kernel),rfl⟩
        ·exact ⟨21,(show (21,79) ∈ skX by decide),hdep 21 (by decide +kernel),rfl⟩),fun Qr=>?_⟩
       have hD1:D 1=true:=hdep 1 (by decide +kernel)
       show Wl _ _ _ _ _ _ _ _ ([mapJ (D 1) g]++_)
       rw [hD1]
       refine Z5 (V:=skv) Zb (⟨#[111,108,100]⟩:ByteArray) c.old.tx ?_
       refine ZF ?_
       exact k_J (g.1,mset (⟨#[111,108,100]⟩:ByteArray) c.old.tx g.2) (pji 22 _ _ D g (.tail _ (.tail _ (.tail _ (.tail _ (.tail _ (.head _)))))) hpj) (fun q _=>rfl) (fun x hx h=>absurd h ((by decide:∀x ∈ skX,x.1≠22) x hx)) (Zc _) (by show Sels ([mapJ (D 1) _]++_) _ _;rw [hD1];exact .cons .here (selsA _))
      | 23,ho,hDi,hdep=>
       obtain rfl:=Option.some.inj ho
       refine ⟨[],(fun x hx=>by cases hx),fun Qr=>?_⟩
       refine ZG ?_
       refine ZF ?_
       exact k_J g (pjm 23 D g (fun x hx=>by have:=YD hx;omega) hpj) (fun _ _=>rfl) (fun x hx h=>by rw [(by decide:∀x ∈ skX,x.1=23→x.2=80) x hx h];rfl) (by first|exact Zc _|exact Zn _ _) (selsA _)
      | 24,ho,hDi,hdep=>
       obtain rfl:=Option.some.inj ho
       refine ⟨[(80,Value.pointer (some ⟨b3,9,none⟩))],(fun x hx=>by
        simp only [List.mem_cons,List.not_mem_nil,or_false] at hx
        rcases hx with rfl
        ·exact ⟨23,(show (23,80) ∈ skX by decide),hdep 23 (by decide +kernel),rfl⟩),fun Qr=>?_⟩
       refine ZG ?_
       refine ZF ?_
       exact k_J g (pjm 24 D g (fun x hx=>by have:=YD hx;omega) hpj) (fun _ _=>rfl) (fun x hx h=>by rw [(by decide:∀x ∈ skX,x.1=24→x.2=81) x hx h];rfl) (by first|exact Zc _|exact Zn _ _) (selsA _)
      | 25,ho,hDi,hdep=>
       obtain rfl:=Option.some.inj ho
       refine ⟨[(81,Value.pointer (some ⟨b3,11,none⟩))],(fun x hx=>by
        simp only [List.mem_cons,List.not_mem_nil,or_false] at hx
        rcases hx with rfl
        ·exact ⟨24,(show (24,81) ∈ skX by decide),hdep 24 (by decide +kernel),rfl⟩),fun Qr=>?_⟩
       refine ZL ?_
       refine ZF ?_
       exact k_J g (pjm 25 D g (fun x hx=>by have:=YD hx;omega) hpj) (fun _ _=>rfl) (fun x hx h=>by rw [(by decide:∀x ∈ skX,x.1=25→x.2=82) x hx h];rfl) (by first|exact Zc _|exact Zn _ _) (selsA _)
      | 26,ho,hDi,hdep=>
       obtain rfl:=Option.some.inj ho
       refine ⟨[(64,Value.map (some g.1)),(82,Value.string c.new.tx)],(fun x hx=>by
        simp only [List.mem_cons,List.not_mem_nil,or_false] at hx
        rcases hx with rfl|rfl
        ·exact ⟨1,(show (1,64) ∈ skX by decide),hdep 1 (by decide +kernel),rfl⟩
        ·exact ⟨25,(show (25,82) ∈ skX by decide),hdep 25 (by decide +kernel),rfl⟩),fun Qr=>?_⟩
       have hD1:D 1=true:=hdep 1 (by decide +kernel)
       show Wl _ _ _ _ _ _ _ _ ([mapJ (D 1) g]++_)
       rw [hD1]
       refine Z5 (V:=skv) Zb (⟨#[110,101,119]⟩:ByteArray) c.new.tx ?_
       refine ZF ?_
       exact k_J (g.1,mset (⟨#[110,101,119]⟩:ByteArray) c.new.tx g.2) (pji 26 _ _ D g (.tail _ (.tail _ (.tail _ (.tail _ (.tail _ (.tail _ (.head _))))))) hpj) (fun q _=>rfl) (fun x hx h=>absurd h ((by decide:∀x ∈ skX,x.1≠26) x hx)) (Zc _) (by show Sels ([mapJ (D 1) _]++_) _ _;rw [hD1];exact .cons .here (selsA _))
      | 27,ho,hDi,hdep=>
       obtain rfl:=Option.some.inj ho
       refine ⟨[(64,Value.map (some g.1))],(fun x hx=>by
        simp only [List.mem_cons,List.not_mem_nil,or_false] at hx
        rcases hx with rfl
        ·exact ⟨1,(show (1,64) ∈ skX by decide),hdep 1 (by decide +kernel),rfl⟩),fun Qr=>?_⟩
       refine ZG ?_
       refine ZF ?_
       exact k_J g (pjm 27 D g (fun x hx=>by have:=YD hx;omega) hpj) (fun _ _=>rfl) (fun x hx h=>by rw [(by decide:∀x ∈ skX,x.1=27→x.2=83) x hx h];rfl) (by first|exact Zc _|exact Zn _ _) (selsA _)
      | 28,ho,hDi,hdep=>
       obtain rfl:=Option.some.inj ho
       refine ⟨[],(fun x hx=>by cases hx),fun Qr=>?_⟩
       refine ZG ?_
       refine ZF ?_
       exact k_J g (pjm 28 D g (fun x hx=>by have:=YD hx;omega) hpj) (fun _ _=>rfl) (fun x hx h=>by rw [(by decide:∀x ∈ skX,x.1=28→x.2=84) x hx h];rfl) (by first|exact Zc _|exact Zn _ _) (selsA _)
      | 29,ho,hDi,hdep=>
       obtain rfl:=Option.some.inj ho
       refine ⟨[],(fun x hx=>by cases hx),fun Qr=>?_⟩
       refine ZG ?_
       refine ZF ?_
       exact k_J g (pjm 29 D g (fun x hx=>by have:=YD hx;omega) hpj) (fun _ _=>rfl) (fun x hx h=>by rw [(by decide:∀x ∈ skX,x.1=29→x.2=85) x hx h];rfl) (by first|exact Zc _|exact Zn _ _) (selsA _)
      | 30,ho,hDi,hdep=>
       obtain rfl:=Option.some.inj ho
       refine ⟨[(85,Value.int .i64 (i:Int))],(fun x hx=>by
        simp only [List.mem_cons,List.not_mem_nil,or_false] at hx
        rcases hx with rfl
        ·exact ⟨29,(show (29,85) ∈ skX by decide),hdep 29 (by decide +kernel),rfl⟩),fun Qr=>?_⟩
       refine ZG ?_
       rw [w1]
       refine ZF ?_
       exact k_J g (pjm 30 D g (fun x hx=>by have:=YD hx;omega) hpj) (fun _ _=>rfl) (fun x hx h=>by rw [(by decide:∀x ∈ skX,x.1=30→x.2=86) x hx h];rfl) (by first|exact Zc _|exact Zn _ _) (selsA _)
      | 31,ho,hDi,hdep=>
       obtain rfl:=Option.some.inj ho
       refine ⟨[],(fun x hx=>by cases hx),fun Qr=>?_⟩
       refine ZG ?_
       refine ZF ?_
       exact k_J g (pjm 31 D g (fun x hx=>by have:=YD hx;omega) hpj) (fun _ _=>rfl) (fun x hx h=>by rw [(by decide:∀x ∈ skX,x.1=31→x.2=87) x hx h];rfl) (by first|exact Zc _|exact Zn _ _) (selsA _)
      | 32,ho,hDi,hdep=>
       obtain rfl:=Option.some.inj ho
       refine ⟨[(84,Value.string s),(86,Value.int .i64 ((i:Int)+1)),(87,Value.int .i64 ((i+1+m:Nat):Int))],(fun x hx=>by
        simp only [List.mem_cons,List.not_mem_nil,or_false] at hx
        rcases hx with rfl|rfl|rfl
        ·exact ⟨28,(show (28,84) ∈ skX by decide),hdep 28 (by decide +kernel),rfl⟩
        ·exact ⟨30,(show (30,86) ∈ skX by decide),hdep 30 (by decide +kernel),rfl⟩
        ·exact ⟨31,(show (31,87) ∈ skX by decide),hdep 31 (by decide +kernel),rfl⟩),fun Qr=>?_⟩
       refine Yc (s:=s) (u:=wd) (i+1) (i+1+m) (by omega) (by omega) hu2 ?_
       refine ZF ?_
       exact k_J g (pjm 32 D g (fun x hx=>by have:=YD hx;omega) hpj) (fun _ _=>rfl) (fun x hx h=>by rw [(by decide:∀x ∈ skX,x.1=32→x.2=88) x hx h];rfl) (by first|exact Zc _|exact Zn _ _) (selsA _)
      | 33,ho,hDi,hdep=>
       obtain rfl:=Option.some.inj ho
       refine ⟨[(83,Value.map (some g.1)),(88,Value.string wd)],(fun x hx=>by
        simp only [List.mem_cons,List.not_mem_nil,or_false] at hx
        rcases hx with rfl|rfl
        ·exact ⟨27,(show (27,83) ∈ skX by decide),hdep 27 (by decide +kernel),rfl⟩
        ·exact ⟨32,(show (32,88) ∈ skX by decide),hdep 32 (by decide +kernel),rfl⟩),fun Qr=>?_⟩
       have h27:=hcl 27 _ rfl (hdep 27 (by decide +kernel))
       have hD1:D 1=true:=h27 1 (by decide +kernel)
       show Wl _ _ _ _ _ _ _ _ ([mapJ (D 1) g]++_)
       rw [hD1]
       have hmg:mget wd g.2=some vv:=by
        rw [kv_get hpj (fun x hx=>by rcases YD hx with e|e|e|e|e|e|e<;>rw [e]<;>exact h27 _ (by decide +kernel)) f2,hvv]
       refine l_mgetS Zb wd (some vv) hmg ?_
       refine ZF ?_
       exact k_J g (pjm 33 D g (fun x hx=>by have:=YD hx;omega) hpj) (fun _ _=>rfl) (fun x hx h=>by rw [(by decide:∀x ∈ skX,x.1=33→x.2=89) x hx h];rfl) (by first|exact Zc _|exact Zn _ _) (by show Sels ([mapJ (D 1) _]++_) _ _;rw [hD1];exact selsA _)
      | 34,ho,hDi,hdep=>
       obtain rfl:=Option.some.inj ho
       refine ⟨[(63,Value.string acc),(89,Value.string vv)],(fun x hx=>by
        simp only [List.mem_cons,List.not_mem_nil,or_false] at hx
        rcases hx with rfl|rfl
        ·exact ⟨0,(show (0,63) ∈ skX by decide),hdep 0 (by decide +kernel),rfl⟩
        ·exact ⟨33,(show (33,89) ∈ skX by decide),hdep 33 (by decide +kernel),rfl⟩),fun Qr=>?_⟩
       refine YO ?_ (h:=by omega)
       refine ZF ?_
       exact k_J g (pjm 34 D g (fun x hx=>by have:=YD hx;omega) hpj) (fun _ _=>rfl) (fun x hx h=>by rw [(by decide:∀x ∈ skX,x.1=34→x.2=90) x hx h];rfl) (by first|exact Zc _|exact Zn _ _) (selsA _)
      | 35,ho,hDi,hdep=>
       obtain rfl:=Option.some.inj ho
       refine ⟨[(90,Value.string (acc++vv))],(fun x hx=>by
        simp only [List.mem_cons,List.not_mem_nil,or_false] at hx
        rcases hx with rfl
        ·exact ⟨34,(show (34,90) ∈ skX by decide),hdep 34 (by decide +kernel),rfl⟩),fun Qr=>?_⟩
       refine ZG ?_
       refine ZF ?_
       exact k_J g (pjm 35 D g (fun x hx=>by have:=YD hx;omega) hpj) (fun _ _=>rfl) (fun x hx h=>by rw [(by decide:∀x ∈ skX,x.1=35→x.2=7) x hx h];rfl) (by first|exact Zc _|exact Zn _ _) (selsA _)
     ·intro g hpj
      dsimp only
      refine k_drop (E':=[(0,.string s),(3,pv0 b3),(5,pv0 b5),(6,.int .i64 (subT c)),(7,.string (acc++vv)),(8,.int .i64 (i:Int)),(9,.int .i64 ((i+1+m:Nat):Int))]) ⟨rfl,rfl,rfl,rfl,rfl,rfl,rfl,trivial⟩ (Zc _) (selsA _) ?_
      repeat' (first|refine ZG ?_|refine ZF ?_|refine ZJ ?_|refine ZH ?_|refine ZL ?_|refine ZI ?_|refine ZN ?_|refine ZO (fun b=>?_)|refine ZM (fun b=>?_)|refine ZB ?_|refine ZD ?_|refine ZP ?_|refine ZX ?_|refine ZZ ?_|refine Zg ?_|refine ZY ?_|refine ZW ?_|refine Zh (fun b=>?_)|refine Zf (fun b=>?_)|refine Ze ?_|refine ZV ?_|rw [w3]|(refine ZC (fun hc=>?_) (fun hc=>?_)<;>(try simp at hc)<;>(try omega))|(refine ZS (fun hc=>?_) (fun hc=>?_)<;>(try simp at hc)<;>(try omega))|refine ZQ 8 [] [(0,0),(1,0),(2,0),(3,0),(4,0),(5,0),(6,0),(7,0)] [] ?_|(refine ZE (fun hc=>?_) (fun hc=>?_)<;>(try simp at hc)<;>(try omega)))
      all_goals exact Za ⟨(i+1+m+1,acc++vv),by show i+1+m+1≤s.size;omega,by show tmF (s.data.toList.drop (i+1+m+1)) 0 (i+1+m+1)=none;exact hT,hR2⟩ (by show s.size - (i+1+m+1)<s.size - i;omega) ⟨rfl,rfl,rfl,rfl,rfl,rfl,trivial⟩
    ·have ke:¬(e.toNat:Int)=125:=fun h=>hk (hkd.1 h)
     have w3:=wrapi (z:=(k:Int)+1) (by omega) (by omega)
     repeat' (first|refine Zm (s:=s) k e hke ?_|refine ZG ?_|refine ZF ?_|refine ZJ ?_|refine ZH ?_|refine ZL ?_|refine ZI ?_|refine ZN ?_|refine ZO (fun b=>?_)|refine ZM (fun b=>?_)|refine ZB ?_|refine ZD ?_|refine ZX ?_|refine ZZ ?_|refine Zg ?_|refine ZY ?_|refine ZW ?_|refine Zh (fun b=>?_)|refine Zf (fun b=>?_)|refine Ze ?_|refine ZV ?_|rw [w3]|(refine ZC (fun hc=>?_) (fun hc=>?_)<;>(try simp at hc)<;>(try omega))|(refine ZS (fun hc=>?_) (fun hc=>?_)<;>(try simp at hc)<;>(try omega))|refine ZQ 8 [] [(0,0),(1,0),(2,0),(3,0),(4,0),(5,0),(6,0),(7,0)] [] ?_|(refine ZE (fun hc=>?_) (fun hc=>?_)<;>(try simp at hc)<;>(try omega)))
     all_goals exact Za ⟨k+1,by omega,by omega⟩ (by show s.size - (k+1)<s.size - k;omega) ⟨rfl,rfl,rfl,rfl,rfl,rfl,rfl,trivial⟩
  ·have hb2:a≠123∧a≠125:=by simpa [isBr,not_or] using hb
   have k1:¬(a.toNat:Int)=123:=fun h=>hb2.1 ((u8i (k:=123) (by decide)).2 h)
   have k2:¬(a.toNat:Int)=125:=fun h=>hb2.2 ((u8i (k:=125) (by decide)).2 h)
   rw [exF,if_neg hb] at hR
   rw [tmF,if_neg hb2.2,if_neg hb2.1] at hT
   repeat' (first|refine Zm (s:=s) i a hcc ?_|refine ZG ?_|refine ZF ?_|refine ZJ ?_|refine ZH ?_|refine ZL ?_|refine ZI ?_|refine ZN ?_|refine ZO (fun b=>?_)|refine ZM (fun b=>?_)|refine ZB ?_|refine ZD ?_|refine Yc (s:=s) (u:=ofL [a]) i (i+1) (by omega) (by omega) hu1 ?_|refine YO ?_|refine YO ?_ (h:=by rw [YG];simp;omega)|rw [w1]|(refine ZC (fun hc=>?_) (fun hc=>?_)<;>(try simp at hc)<;>(try omega))|(refine ZE (fun hc=>?_) (fun hc=>?_)<;>(try simp at hc)<;>(try omega)))
   all_goals exact Za ⟨(i+1,acc++ofL [a]),by show i+1≤s.size;omega,hT,by rw [←cat];exact hR⟩ (by show s.size - (i+1)<s.size - i;omega) ⟨rfl,rfl,rfl,rfl,rfl,rfl,trivial⟩
 ·have hd:s.data.toList.drop i=[]:=List.drop_eq_nil_of_le (by omega)
  have hlt2:¬i<s.size:=by omega
  rw [hd] at hR
  have hR:acc++ofL []=V:=hR
  have e1:acc++ofL []=acc:=YH (by rw [Xd,Z8,List.append_nil])
  rw [e1] at hR
  subst hR
  repeat' (first|refine ZG ?_|refine ZF ?_|refine ZJ ?_|refine ZH ?_|refine ZL ?_|refine ZI ?_|refine ZN ?_|refine ZO (fun b=>?_)|refine ZM (fun b=>?_)|refine ZB ?_|refine ZD ?_|refine ZP ?_|(refine ZC (fun hc=>?_) (fun hc=>?_)<;>(try simp at hc)<;>(try omega))|(refine ZE (fun hc=>?_) (fun hc=>?_)<;>(try simp at hc)<;>(try omega)))
  exact ZR () rfl trivial
mutual
def SzT:Tr5→Prop
 | .mk _ args _ tx _=>tx.size≤200000∧args.length≤200000∧SzTs args
def SzTs:List Tr5→Prop
 | []=>True
 | t::l=>SzT t∧SzTs l
end
theorem szTs_app:∀l m:List Tr5,SzTs (l++m)↔SzTs l∧SzTs m
 | [],m=>by simp [SzTs]
 | t::l,m=>by rw [List.cons_append,SzTs,SzTs,szTs_app l m,and_assoc]
def SfM (m m':Mq):Prop:=m'.tk <:+ m.tk
namespace SfM
theorem rfl' (m:Mq):SfM m m:=List.suffix_refl _
theorem trans {a b c:Mq} (h:SfM a b) (k:SfM b c):SfM a c:=List.IsSuffix.trans k h
theorem fail (m:Mq) (e:Int):SfM m (m.fail e):=by
 unfold Mq.fail
 split<;>exact List.suffix_refl _
theorem pass (m:Mq):SfM m m.pass:=List.tail_suffix _
theorem take (m:Mq) (q:Tk→Bool):SfM m (m.take q).2:=by
 unfold Mq.take
 split
 ·exact fail m 30
 ·exact pass m
theorem num (m:Mq):SfM m (numM m).2:=by
 unfold numM
 split
 ·exact fail m 30
 ·split
  ·exact fail m 3
  ·split
   ·exact fail m 2
   ·exact pass m
theorem tst (w:ByteArray) (m:Mq):SfM m (tstM w m).2:=by
 unfold tstM
 split
 ·exact rfl' m
 ·split
  ·split
   ·exact pass m
   ·exact fail m 30
  ·split
   ·split
    ·exact (pass m).trans (take _ _)
    ·exact fail m 30
   ·split
    ·split
     ·exact (pass m).trans (num _)
     ·exact fail m 30
    ·refine trans ?_ (take _ _)
     split
     ·exact fail m 12
     ·exact rfl' m
end SfM
def OkQ (m:Mq):Prop:=(∀t ∈ m.tk,t.tx.size≤100000)∧m.tk.length≤100000
theorem OkQ.sf {a b:Mq} (h:OkQ a) (s:SfM a b):OkQ b:=⟨fun t ht=>h.1 t (List.IsSuffix.subset s ht),Nat.le_trans s.length_le h.2⟩
theorem hd_sz {m:Mq} (h:OkQ m):m.hd.size≤100000:=by
 obtain ⟨tk,en,op,e,cl⟩:=m
 cases tk with
 | nil=>exact Nat.zero_le _
 | cons t ts=>exact h.1 t (.head _)
theorem take_tx {m:Mq} (h:OkQ m) (q:Tk→Bool):(m.take q).1.size≤200000:=by
 unfold Mq.take
 split
 ·exact Nat.zero_le _
 ·exact Nat.le_trans (hd_sz h) (by decide)
theorem Y9 (w rel tx:ByteArray) (n:Int) (h:tx.size≤200000):SzT (.mk w [] rel tx n):=by
 rw [SzT];exact ⟨h,Nat.zero_le _,trivial⟩
theorem tst_sz (w:ByteArray) {m:Mq} (h:OkQ m):SzT (tstM w m).1:=by
 have z:eB.size≤200000:=by decide
 unfold tstM
 split
 ·exact Y9 _ _ _ _ z
 ·split
  ·split
   ·exact Y9 _ _ _ _ z
   ·exact Y9 _ _ _ _ z
  ·split
   ·split
    ·exact Y9 _ _ _ _ (take_tx (h.sf (.pass m)) _)
    ·exact Y9 _ _ _ _ z
   ·split
    ·split
     ·exact Y9 _ _ _ _ z
     ·exact Y9 _ _ _ _ z
    ·refine Y9 _ _ _ _ (take_tx (OkQ.sf h ?_) _)
     split
     ·exact .fail m 12
     ·exact .rfl' m
theorem node_sz (w rel:ByteArray) (n:Int) {l:List Tr5} (h:SzTs l) (h2:l.length≤200000):SzT (.mk w l rel eB n):=by
 rw [SzT];exact ⟨by decide,h2,h⟩
theorem szM_all:∀n:Nat,(∀m,SfM m (factorM n m).2∧(OkQ m→SzT (factorM n m).1))∧(∀m,SfM m (termM n m).2∧(OkQ m→SzT (termM n m).1))∧
  (∀l m,SfM m (termN n l m).2∧(OkQ m→SzTs l→SzTs (termN n l m).1)∧(termN n l m).1.length≤l.length+m.tk.length)∧
  (∀m,SfM m (condM n m).2∧(OkQ m→SzT (condM n m).1))∧(∀l m,SfM m (condN n l m).2∧(OkQ m→SzTs l→SzTs (condN n l m).1)∧(condN n l m).1.length≤l.length+m.tk.length)
 | 0=>by
  have z:SzT t0:=Y9 _ _ _ _ (by decide)
  refine ⟨fun m=>?_,fun m=>?_,fun l m=>?_,fun m=>?_,fun l m=>?_⟩
  ·rw [factorM];exact ⟨.fail m 99,fun _=>z⟩
  ·rw [termM];exact ⟨.fail m 99,fun _=>z⟩
  ·rw [termN];exact ⟨.fail m 99,fun _ h=>h,Nat.le_add_right _ _⟩
  ·rw [condM];exact ⟨.fail m 99,fun _=>z⟩
  ·rw [condN];exact ⟨.fail m 99,fun _ h=>h,Nat.le_add_right _ _⟩
 | n+1=>by
  obtain ⟨h1,h2,h3,h4,h5⟩:=szM_all n
  have z:SzT t0:=Y9 _ _ _ _ (by decide)
  refine ⟨fun m=>?_,fun m=>?_,fun l m=>?_,fun m=>?_,fun l m=>?_⟩
  ·rw [factorM]
   split
   ·exact ⟨(SfM.pass m).trans (h1 _).1,fun h=>node_sz _ _ _ (by rw [SzTs];exact ⟨(h1 m.pass).2 (h.sf (.pass m)),trivial⟩) (by simp)⟩
   ·split
    ·split
     ·exact ⟨.fail m 9,fun _=>z⟩
     ·refine ⟨?_,fun h=>?_⟩
      ·have a1:=(h4 {m.pass with op:=m.op+1}).1
       have a2:=SfM.take (condM n {m.pass with op:=m.op+1}).2 (Mq.isS yCls)
       have a3:=a1.trans a2
       exact (SfM.pass m).trans a3
      ·exact (h4 {m.pass with op:=m.op+1}).2 (show OkQ m.pass from h.sf (.pass m))
    ·split
     ·exact ⟨(SfM.pass m).trans (.tst _ _),fun h=>tst_sz _ (h.sf (.pass m))⟩
     ·exact ⟨.fail m 30,fun _=>z⟩
  ·rw [termM]
   have a:=h3 [(factorM n m).1] (factorM n m).2
   refine ⟨(h1 m).1.trans a.1,fun h=>node_sz _ _ _ (a.2.1 (h.sf (h1 m).1) (by rw [SzTs];exact ⟨(h1 m).2 h,trivial⟩)) ?_⟩
   have b:=(h.sf (h1 m).1).2
   have c:=a.2.2
   simp only [List.length_cons,List.length_nil] at c
   omega
  ·rw [termN]
   split
   ·rename_i hw
    have a:=h3 (l++[(factorM n m.pass).1]) (factorM n m.pass).2
    have b:=h1 m.pass
    refine ⟨(SfM.pass m).trans (b.1.trans a.1),fun h hl=>a.2.1 ((h.sf (.pass m)).sf b.1) ((szTs_app _ _).2 ⟨hl,by rw [SzTs];exact ⟨b.2 (h.sf (.pass m)),trivial⟩⟩),?_⟩
    have c:=a.2.2
    have d:=b.1.length_le
    have e:=Xf hw
    simp only [List.length_append,List.length_cons,List.length_nil] at c
    dsimp only
    omega
   ·exact ⟨.rfl' m,fun _ h=>h,Nat.le_add_right _ _⟩
  ·rw [condM]
   have a:=h5 [(termM n m).1] (termM n m).2
   refine ⟨(h2 m).1.trans a.1,fun h=>node_sz _ _ _ (a.2.1 (h.sf (h2 m).1) (by rw [SzTs];exact ⟨(h2 m).2 h,trivial⟩)) ?_⟩
   have b:=(h.sf (h2 m).1).2
   have c:=a.2.2
   simp only [List.length_cons,List.length_nil] at c
   omega
  ·rw [condN]
   split
   ·rename_i hw
    have a:=h5 (l++[(termM n m.pass).1]) (termM n m.pass).2
    have b:=h2 m.pass
    refine ⟨(SfM.pass m).trans (b.1.trans a.1),fun h hl=>a.2.1 ((h.sf (.pass m)).sf b.1) ((szTs_app _ _).2 ⟨hl,by rw [SzTs];exact ⟨b.2 (h.sf (.pass m)),trivial⟩⟩),?_⟩
    have c:=a.2.2
    have d:=b.1.length_le
    have e:=Xf hw
    simp only [List.length_append,List.length_cons,List.length_nil] at c
    dsimp only
    omega
   ·exact ⟨.rfl' m,fun _ h=>h,Nat.le_add_right _ _⟩
theorem specF_fact {f:FuncId} {args:Array Value} {F:List Pf} {R:List HP} {post:Post} {X:Type} {g:Pf} {Fx:X→List Pf} {p:X→Prop} (en:Enters f) (h:∀hp,g.p hp→∃x,p x∧∀k ∈ Fx x,k.p hp)
  (s:∀x,p x→Spec prog f args (Fx x++F) R post):Enters f∧Spec prog f args (g::F) R post:=⟨en,fun G w hp hs=>by
 obtain ⟨x,hx,hs⟩:=sat_fact hs h
 exact s x hx G w hp hs⟩
abbrev HoT (c:Cq) (t:Tr5):Prop:=∀x,Enters 30∧Spec prog 30 #[tcv x,cqa c] [TcF t x,MxL] [] (RetV (.bool (holM c t)))
theorem tcsP_get {h:H}:∀{l:List Tr5} {vs:List TC} {i:Nat} {t:Tr5} {v:TC},TcsP h l vs→l[i]? = some t→vs[i]? = some v→TcP h t v
 | t::l,vs,0,_,_,hh,e1,e2=>by
  rw [TcsP] at hh
  obtain ⟨v,ws,rfl,h2,_⟩:=hh
  cases e1;cases e2;exact h2
 | t::l,vs,i+1,_,_,hh,e1,e2=>by
  rw [TcsP] at hh
  obtain ⟨v,ws,rfl,_,h3⟩:=hh
  exact tcsP_get h3 e1 e2
theorem hp_ext {s t:ByteArray} (_:t.size≤s.size):Lib.hasPrefix s.data.toList t.data.toList=((s.extract 0 t.size).toList == t.toList):=by
 have hl:t.data.toList.length=t.size:=lsz t
 rw [Bool.eq_iff_iff,beq_iff_eq,Y7]
 unfold Lib.hasPrefix
 rw [List.isPrefixOf_iff_prefix,List.prefix_iff_eq_take,hl]
 have e:(s.extract 0 t.size).data.toList=s.data.toList.take t.size:=by
  rw [ByteArray.data_extract,Array.toList_extract,List.extract_eq_take_drop,List.drop_zero];congr 1
 constructor
 ·intro hh;apply YH;rw [e,←hh]
 ·intro hh;rw [←e,hh]
theorem hp_short {s t:ByteArray} (h:¬t.size≤s.size):Lib.hasPrefix s.data.toList t.data.toList=false:=by
 have hl:t.data.toList.length=t.size:=lsz t
 have hs:s.data.toList.length=s.size:=lsz s
 unfold Lib.hasPrefix
 rw [Bool.eq_false_iff,ne_eq,List.isPrefixOf_iff_prefix]
 intro hh
 have:=hh.length_le
 omega
set_option maxHeartbeats 4000000 in
theorem holM_or (c:Cq) (args:List Tr5) (o:Option Addr) (cap:Nat) (vs:List TC) (op rel tx:ByteArray) (n:Int) (hop:op=⟨#[111,114]⟩) (hl:vs.length=args.length) (hbd:args.length≤200000) (ih:∀t ∈ args,HoT c t):Spec prog 30 #[tcv ⟨op,o,vs.length,cap,rel,tx,n⟩,cqa c] ([TcS o cap vs,TcsF args vs]++[MxL]) [] (RetV (.bool (anyM c args))):=by
 refine And.right (a:=Enters 30) ?_
 have q0:=beqT (a:=op) (b:=⟨#[111,114]⟩) hop
 obtain ⟨R,hR⟩:∃R,anyM c args=R:=⟨_,rfl⟩
 rw [hR]
 have n0:=Z7 c
 refine ZT [_,_] func30 ntmps30 fun G w hp=>?_
 repeat' (first|refine ZG ?_|refine ZF ?_|refine ZJ ?_|refine ZH ?_|refine ZL ?_|refine ZI ?_|refine ZN ?_|refine ZO (fun b=>?_)|refine ZM (fun b=>?_)|refine ZB ?_|refine ZD ?_|refine ZA (n0) (fun _ _=>?_)|refine l_call0 (n0) (fun _ _=>?_)|rw [q0]|(refine ZC (fun hc=>?_) (fun hc=>?_)<;>(try simp at hc)<;>(try omega))|(refine ZE (fun hc=>?_) (fun hc=>?_)<;>(try simp at hc)<;>(try omega)))
 rename_i b2 b3 _ _
 refine YJ (X:={j:Nat // j≤vs.length∧anyM c (args.drop j)=R}) (fun j=>[(2,pv0 b2),(3,pv0 b3),(7,.int .i64 (j.1:Int))]) (fun _=>[TcS o cap vs,TcsF args vs,MxL]) (fun _=>[Pt b2 (.cells (tcf ⟨op,o,vs.length,cap,rel,tx,n⟩).toArray 65),Pt b3 (.cells (cqf c).toArray 26)]) (fun j=>vs.length - j.1) ⟨0,Nat.zero_le _,hR⟩ ⟨rfl,rfl,rfl,trivial⟩ ?_
 rintro ⟨j,hj,hRj⟩
 dsimp only at hj hRj ⊢
 by_cases hlt:j<vs.length
 ·have hxj:=List.getElem?_eq_getElem hlt
  have hltc:j<args.length:=by omega
  have hcj:=List.getElem?_eq_getElem hltc
  rw [List.drop_eq_getElem_cons hltc] at hRj
  have ihd:=ih _ (List.getElem_mem hltc)
  generalize vs[j]=x at *
  generalize args[j]=d at *
  rw [anyM] at hRj
  have n1:=ihd x
  refine Zs (F1:=[TcsF args vs]) (f:=TcF d x) (fun hp hF=>tcsP_get (hF _ (.head _)) hcj hxj) ?_
  have w1:=wrapi (z:=(j:Int)+1) (by omega) (by omega)
  cases hh:holM c d with
  | true=>
   rw [hh] at n1 hRj
   obtain rfl:R=true:=hRj.symm
   repeat' (first|refine ZG ?_|refine ZF ?_|refine ZJ ?_|refine ZH ?_|refine ZL ?_|refine ZI ?_|refine ZN ?_|refine ZO (fun b=>?_)|refine ZM (fun b=>?_)|refine ZB ?_|refine ZD ?_|refine ZX ?_|refine ZZ ?_|refine Zg ?_|refine ZY ?_|refine ZW ?_|refine Zh (fun b=>?_)|refine Zf (fun b=>?_)|refine Ze ?_|refine ZV ?_|refine ZA (n1) (fun _ _=>?_)|refine l_call0 (n1) (fun _ _=>?_)|refine ZK (n1) (fun _ _=>?_)|refine YK (es:=vs) (f:=tcf) j x hxj (fun b off=>?_)|refine YL ?_|rw [w1]|(refine ZC (fun hc=>?_) (fun hc=>?_)<;>(try simp at hc)<;>(try omega))|(refine ZS (fun hc=>?_) (fun hc=>?_)<;>(try simp at hc)<;>(try omega))|refine ZQ 7 [] [(0,0),(1,0),(2,0),(3,0),(4,0),(5,0),(6,4)] [] ?_|refine ZQ 14 [] [(0,0),(1,0),(2,0),(3,0),(4,0),(5,0),(6,4),(7,0)] [] ?_|refine ZQ 18 [] [(0,0),(1,0),(2,0),(3,0),(4,0),(5,4),(6,0),(7,0)] [] ?_|refine ZQ 37 [] [(0,0),(1,0),(2,0),(3,0),(4,0),(5,0),(6,0),(7,0),(8,0),(9,0),(10,0),(11,0),(12,0),(13,0),(14,0),(15,0),(16,0)] [] ?_|(refine ZE (fun hc=>?_) (fun hc=>?_)<;>(try simp at hc)<;>(try omega)))
   exact Zq (Zr (Zk () rfl trivial))
  | false=>
   rw [hh] at n1 hRj
   repeat' (first|refine ZG ?_|refine ZF ?_|refine ZJ ?_|refine ZH ?_|refine ZL ?_|refine ZI ?_|refine ZN ?_|refine ZO (fun b=>?_)|refine ZM (fun b=>?_)|refine ZB ?_|refine ZD ?_|refine ZX ?_|refine ZZ ?_|refine Zg ?_|refine ZY ?_|refine ZW ?_|refine Zh (fun b=>?_)|refine Zf (fun b=>?_)|refine Ze ?_|refine ZV ?_|refine ZA (n1) (fun _ _=>?_)|refine l_call0 (n1) (fun _ _=>?_)|refine ZK (n1) (fun _ _=>?_)|refine YK (es:=vs) (f:=tcf) j x hxj (fun b off=>?_)|refine YL ?_|rw [w1]|(refine ZC (fun hc=>?_) (fun hc=>?_)<;>(try simp at hc)<;>(try omega))|(refine ZS (fun hc=>?_) (fun hc=>?_)<;>(try simp at hc)<;>(try omega))|refine ZQ 7 [] [(0,0),(1,0),(2,0),(3,0),(4,0),(5,0),(6,4)] [] ?_|refine ZQ 14 [] [(0,0),(1,0),(2,0),(3,0),(4,0),(5,0),(6,4),(7,0)] [] ?_|refine ZQ 18 [] [(0,0),(1,0),(2,0),(3,0),(4,0),(5,4),(6,0),(7,0)] [] ?_|refine ZQ 37 [] [(0,0),(1,0),(2,0),(3,0),(4,0),(5,0),(6,0),(7,0),(8,0),(9,0),(10,0),(11,0),(12,0),(13,0),(14,0),(15,0),(16,0)] [] ?_|(refine ZE (fun hc=>?_) (fun hc=>?_)<;>(try simp at hc)<;>(try omega)))
   exact Za ⟨j+1,by show j+1≤vs.length;omega,hRj⟩ (by show vs.length - (j+1)<vs.length - j;omega) ⟨rfl,rfl,rfl,trivial⟩
 ·rw [List.drop_eq_nil_of_le (by omega)] at hRj
  obtain rfl:R=false:=hRj.symm
  repeat' (first|refine ZG ?_|refine ZF ?_|refine ZJ ?_|refine ZH ?_|refine ZL ?_|refine ZI ?_|refine ZN ?_|refine ZO (fun b=>?_)|refine ZM (fun b=>?_)|refine ZB ?_|refine ZD ?_|refine ZP ?_|refine ZX ?_|refine ZZ ?_|refine Zg ?_|refine ZY ?_|refine ZW ?_|refine Zh (fun b=>?_)|refine Zf (fun b=>?_)|refine Ze ?_|refine ZV ?_|(refine ZC (fun hc=>?_) (fun hc=>?_)<;>(try simp at hc)<;>(try omega))|(refine ZS (fun hc=>?_) (fun hc=>?_)<;>(try simp at hc)<;>(try omega))|refine ZQ 7 [] [(0,0),(1,0),(2,0),(3,0),(4,0),(5,0),(6,4)] [] ?_|refine ZQ 14 [] [(0,0),(1,0),(2,0),(3,0),(4,0),(5,0),(6,4),(7,0)] [] ?_|refine ZQ 18 [] [(0,0),(1,0),(2,0),(3,0),(4,0),(5,4),(6,0),(7,0)] [] ?_|refine ZQ 37 [] [(0,0),(1,0),(2,0),(3,0),(4,0),(5,0),(6,0),(7,0),(8,0),(9,0),(10,0),(11,0),(12,0),(13,0),(14,0),(15,0),(16,0)] [] ?_|(refine ZE (fun hc=>?_) (fun hc=>?_)<;>(try simp at hc)<;>(try omega)))
  exact ZR () rfl trivial
set_option maxHeartbeats 4000000 in
theorem holM_and (c:Cq) (args:List Tr5) (o:Option Addr) (cap:Nat) (vs:List TC) (op rel tx:ByteArray) (n:Int) (hop:op=⟨#[97,110,100]⟩) (hl:vs.length=args.length) (hbd:args.length≤200000) (ih:∀t ∈ args,HoT c t):Spec prog 30 #[tcv ⟨op,o,vs.length,cap,rel,tx,n⟩,cqa c] ([TcS o cap vs,TcsF args vs]++[MxL]) [] (RetV (.bool (allM c args))):=by
 refine And.right (a:=Enters 30) ?_
 have q0:=beqF (a:=op) (b:=⟨#[111,114]⟩) (by rw [hop];decide)
 have q1:=beqT (a:=op) (b:=⟨#[97,110,100]⟩) hop
 obtain ⟨R,hR⟩:∃R,allM c args=R:=⟨_,rfl⟩
 rw [hR]
 have n0:=Z7 c
 refine ZT [_,_] func30 ntmps30 fun G w hp=>?_
 repeat' (first|refine ZG ?_|refine ZF ?_|refine ZJ ?_|refine ZH ?_|refine ZL ?_|refine ZI ?_|refine ZN ?_|refine ZO (fun b=>?_)|refine ZM (fun b=>?_)|refine ZB ?_|refine ZD ?_|refine ZA (n0) (fun _ _=>?_)|refine l_call0 (n0) (fun _ _=>?_)|rw [q0]|rw [q1]|(refine ZC (fun hc=>?_) (fun hc=>?_)<;>(try simp at hc)<;>(try omega))|(refine ZE (fun hc=>?_) (fun hc=>?_)<;>(try simp at hc)<;>(try omega)))
 rename_i b2 b3 _ _
 refine YJ (X:={j:Nat // j≤vs.length∧allM c (args.drop j)=R}) (fun j=>[(2,pv0 b2),(3,pv0 b3),(8,.int .i64 (j.1:Int))]) (fun _=>[TcS o cap vs,TcsF args vs,MxL]) (fun _=>[Pt b2 (.cells (tcf ⟨op,o,vs.length,cap,rel,tx,n⟩).toArray 65),Pt b3 (.cells (cqf c).toArray 26)]) (fun j=>vs.length - j.1) ⟨0,Nat.zero_le _,hR⟩ ⟨rfl,rfl,rfl,trivial⟩ ?_
 rintro ⟨j,hj,hRj⟩
 dsimp only at hj hRj ⊢
 by_cases hlt:j<vs.length
 ·have hxj:=List.getElem?_eq_getElem hlt
  have hltc:j<args.length:=by omega
  have hcj:=List.getElem?_eq_getElem hltc
  rw [List.drop_eq_getElem_cons hltc] at hRj
  have ihd:=ih _ (List.getElem_mem hltc)
  generalize vs[j]=x at *
  generalize args[j]=d at *
  rw [allM] at hRj
  have n1:=ihd x
  refine Zs (F1:=[TcsF args vs]) (f:=TcF d x) (fun hp hF=>tcsP_get (hF _ (.head _)) hcj hxj) ?_
  have w1:=wrapi (z:=(j:Int)+1) (by omega) (by omega)
  cases hh:holM c d with
  | false=>
   rw [hh] at n1 hRj
   obtain rfl:R=false:=hRj.symm
   repeat' (first|refine ZG ?_|refine ZF ?_|refine ZJ ?_|refine ZH ?_|refine ZL ?_|refine ZI ?_|refine ZN ?_|refine ZO (fun b=>?_)|refine ZM (fun b=>?_)|refine ZB ?_|refine ZD ?_|refine ZX ?_|refine ZZ ?_|refine Zg ?_|refine ZY ?_|refine ZW ?_|refine Zh (fun b=>?_)|refine Zf (fun b=>?_)|refine Ze ?_|refine ZV ?_|refine ZA (n1) (fun _ _=>?_)|refine l_call0 (n1) (fun _ _=>?_)|refine ZK (n1) (fun _ _=>?_)|refine YK (es:=vs) (f:=tcf) j x hxj (fun b off=>?_)|refine YL ?_|rw [w1]|(refine ZC (fun hc=>?_) (fun hc=>?_)<;>(try simp at hc)<;>(try omega))|(refine ZS (fun hc=>?_) (fun hc=>?_)<;>(try simp at hc)<;>(try omega))|refine ZQ 7 [] [(0,0),(1,0),(2,0),(3,0),(4,0),(5,0),(6,4)] [] ?_|refine ZQ 14 [] [(0,0),(1,0),(2,0),(3,0),(4,0),(5,0),(6,4),(7,0)] [] ?_|refine ZQ 18 [] [(0,0),(1,0),(2,0),(3,0),(4,0),(5,4),(6,0),(7,0)] [] ?_|refine ZQ 37 [] [(0,0),(1,0),(2,0),(3,0),(4,0),(5,0),(6,0),(7,0),(8,0),(9,0),(10,0),(11,0),(12,0),(13,0),(14,0),(15,0),(16,0)] [] ?_|(refine ZE (fun hc=>?_) (fun hc=>?_)<;>(try simp at hc)<;>(try omega)))
   exact Zq (Zr (Zk () rfl trivial))
  | true=>
   rw [hh] at n1 hRj
   repeat' (first|refine ZG ?_|refine ZF ?_|refine ZJ ?_|refine ZH ?_|refine ZL ?_|refine ZI ?_|refine ZN ?_|refine ZO (fun b=>?_)|refine ZM (fun b=>?_)|refine ZB ?_|refine ZD ?_|refine ZX ?_|refine ZZ ?_|refine Zg ?_|refine ZY ?_|refine ZW ?_|refine Zh (fun b=>?_)|refine Zf (fun b=>?_)|refine Ze ?_|refine ZV ?_|refine ZA (n1) (fun _ _=>?_)|refine l_call0 (n1) (fun _ _=>?_)|refine ZK (n1) (fun _ _=>?_)|refine YK (es:=vs) (f:=tcf) j x hxj (fun b off=>?_)|refine YL ?_|rw [w1]|(refine ZC (fun hc=>?_) (fun hc=>?_)<;>(try simp at hc)<;>(try omega))|(refine ZS (fun hc=>?_) (fun hc=>?_)<;>(try simp at hc)<;>(try omega))|refine ZQ 7 [] [(0,0),(1,0),(2,0),(3,0),(4,0),(5,0),(6,4)] [] ?_|refine ZQ 14 [] [(0,0),(1,0),(2,0),(3,0),(4,0),(5,0),(6,4),(7,0)] [] ?_|refine ZQ 18 [] [(0,0),(1,0),(2,0),(3,0),(4,0),(5,4),(6,0),(7,0)] [] ?_|refine ZQ 37 [] [(0,0),(1,0),(2,0),(3,0),(4,0),(5,0),(6,0),(7,0),(8,0),(9,0),(10,0),(11,0),(12,0),(13,0),(14,0),(15,0),(16,0)] [] ?_|(refine ZE (fun hc=>?_) (fun hc=>?_)<;>(try simp at hc)<;>(try omega)))
   exact Za ⟨j+1,by show j+1≤vs.length;omega,hRj⟩ (by show vs.length - (j+1)<vs.length - j;omega) ⟨rfl,rfl,rfl,trivial⟩
 ·rw [List.drop_eq_nil_of_le (by omega)] at hRj
  obtain rfl:R=true:=hRj.symm
  repeat' (first|refine ZG ?_|refine ZF ?_|refine ZJ ?_|refine ZH ?_|refine ZL ?_|refine ZI ?_|refine ZN ?_|refine ZO (fun b=>?_)|refine ZM (fun b=>?_)|refine ZB ?_|refine ZD ?_|refine ZP ?_|refine ZX ?_|refine ZZ ?_|refine Zg ?_|refine ZY ?_|refine ZW ?_|refine Zh (fun b=>?_)|refine Zf (fun b=>?_)|refine Ze ?_|refine ZV ?_|(refine ZC (fun hc=>?_) (fun hc=>?_)<;>(try simp at hc)<;>(try omega))|(refine ZS (fun hc=>?_) (fun hc=>?_)<;>(try simp at hc)<;>(try omega))|refine ZQ 7 [] [(0,0),(1,0),(2,0),(3,0),(4,0),(5,0),(6,4)] [] ?_|refine ZQ 14 [] [(0,0),(1,0),(2,0),(3,0),(4,0),(5,0),(6,4),(7,0)] [] ?_|refine ZQ 18 [] [(0,0),(1,0),(2,0),(3,0),(4,0),(5,4),(6,0),(7,0)] [] ?_|refine ZQ 37 [] [(0,0),(1,0),(2,0),(3,0),(4,0),(5,0),(6,0),(7,0),(8,0),(9,0),(10,0),(11,0),(12,0),(13,0),(14,0),(15,0),(16,0)] [] ?_|(refine ZE (fun hc=>?_) (fun hc=>?_)<;>(try simp at hc)<;>(try omega)))
  exact ZR () rfl trivial
set_option maxHeartbeats 4000000 in
theorem holM_not (c:Cq) (args:List Tr5) (o:Option Addr) (cap:Nat) (vs:List TC) (op rel tx:ByteArray) (n:Int) (hop:op=⟨#[110,111,116]⟩) (d:Tr5) (hd:args=[d]) (ih:HoT c d) (hl:vs.length=args.length):Spec prog 30 #[tcv ⟨op,o,vs.length,cap,rel,tx,n⟩,cqa c] ([TcS o cap vs,TcsF args vs]++[MxL]) [] (RetV (.bool (!holM c d))):=by
 refine And.right (a:=Enters 30) ?_
 have q0:=beqF (a:=op) (b:=⟨#[111,114]⟩) (by rw [hop];decide)
 have q1:=beqF (a:=op) (b:=⟨#[97,110,100]⟩) (by rw [hop];decide)
 have q2:=beqT (a:=op) (b:=⟨#[110,111,116]⟩) hop
 obtain ⟨x,rfl⟩:∃x,vs=[x]:=by
  subst hd
  cases vs with
  | nil=>cases hl
  | cons x l=>cases l with
   | nil=>exact ⟨x,rfl⟩
   | cons y l=>simp at hl
 have n0:=Z7 c
 have n1:=ih x
 have hx0:[x][0]? = some x:=rfl
 generalize holM c d=bb at *
 subst hd
 refine ZT [_,_] func30 ntmps30 fun G w hp=>?_
 refine Zs (F1:=[TcsF [d] [x]]) (f:=TcF d x) (fun hp hF=>Xh.1 (hF _ (.head _))) ?_
 repeat' (first|refine ZG ?_|refine ZF ?_|refine ZJ ?_|refine ZH ?_|refine ZL ?_|refine ZI ?_|refine ZN ?_|refine ZO (fun b=>?_)|refine ZM (fun b=>?_)|refine ZB ?_|refine ZD ?_|refine ZX ?_|refine ZZ ?_|refine Zg ?_|refine ZY ?_|refine ZW ?_|refine Zh (fun b=>?_)|refine Zf (fun b=>?_)|refine Ze ?_|refine ZV ?_|refine ZA (n0) (fun _ _=>?_)|refine l_call0 (n0) (fun _ _=>?_)|refine ZK (n0) (fun _ _=>?_)|refine ZA (n1) (fun _ _=>?_)|refine l_call0 (n1) (fun _ _=>?_)|refine ZK (n1) (fun _ _=>?_)|rw [q0]|rw [q1]|rw [q2]|refine YK (es:=[x]) (f:=tcf) 0 x hx0 (fun b off=>?_)|refine YL ?_|(refine ZC (fun hc=>?_) (fun hc=>?_)<;>(try simp at hc)<;>(try omega))|(refine ZS (fun hc=>?_) (fun hc=>?_)<;>(try simp at hc)<;>(try omega))|refine ZQ 7 [] [(0,0),(1,0),(2,0),(3,0),(4,0),(5,0),(6,4)] [] ?_|refine ZQ 14 [] [(0,0),(1,0),(2,0),(3,0),(4,0),(5,0),(6,4),(7,0)] [] ?_|refine ZQ 18 [] [(0,0),(1,0),(2,0),(3,0),(4,0),(5,4),(6,0),(7,0)] [] ?_|refine ZQ 37 [] [(0,0),(1,0),(2,0),(3,0),(4,0),(5,0),(6,0),(7,0),(8,0),(9,0),(10,0),(11,0),(12,0),(13,0),(14,0),(15,0),(16,0)] [] ?_|(refine ZE (fun hc=>?_) (fun hc=>?_)<;>(try simp at hc)<;>(try omega)))
 all_goals exact ZR () rfl trivial
set_option maxHeartbeats 4000000 in
theorem holM_k2 (c:Cq) (args:List Tr5) (o:Option Addr) (cap:Nat) (vs:List TC) (op rel tx:ByteArray) (n:Int) (hop:op=⟨#[109,105,115,115,105,110,103]⟩):Spec prog 30 #[tcv ⟨op,o,vs.length,cap,rel,tx,n⟩,cqa c] ([TcS o cap vs,TcsF args vs]++[MxL]) [] (RetV (.bool (c.kind == 2))):=by
 refine And.right (a:=Enters 30) ?_
 have q0:=beqF (a:=op) (b:=⟨#[111,114]⟩) (by rw [hop];decide)
 have q1:=beqF (a:=op) (b:=⟨#[97,110,100]⟩) (by rw [hop];decide)
 have q2:=beqF (a:=op) (b:=⟨#[110,111,116]⟩) (by rw [hop];decide)
 have q3:=beqT (a:=op) (b:=⟨#[109,105,115,115,105,110,103]⟩) hop
 have n0:=Z7 c
 refine ZT [_,_] func30 ntmps30 fun G w hp=>?_
 repeat' (first|refine ZG ?_|refine ZF ?_|refine ZJ ?_|refine ZH ?_|refine ZL ?_|refine ZI ?_|refine ZN ?_|refine ZO (fun b=>?_)|refine ZM (fun b=>?_)|refine ZB ?_|refine ZD ?_|refine ZA (n0) (fun _ _=>?_)|refine l_call0 (n0) (fun _ _=>?_)|rw [q0]|rw [q1]|rw [q2]|rw [q3]|(refine ZC (fun hc=>?_) (fun hc=>?_)<;>(try simp at hc)<;>(try omega))|(refine ZE (fun hc=>?_) (fun hc=>?_)<;>(try simp at hc)<;>(try omega)))
 all_goals exact ZR () rfl trivial
set_option maxHeartbeats 4000000 in
theorem holM_k3 (c:Cq) (args:List Tr5) (o:Option Addr) (cap:Nat) (vs:List TC) (op rel tx:ByteArray) (n:Int) (hop:op=⟨#[99,104,97,110,103,101,100]⟩):Spec prog 30 #[tcv ⟨op,o,vs.length,cap,rel,tx,n⟩,cqa c] ([TcS o cap vs,TcsF args vs]++[MxL]) [] (RetV (.bool (c.kind == 3))):=by
 refine And.right (a:=Enters 30) ?_
 have q0:=beqF (a:=op) (b:=⟨#[111,114]⟩) (by rw [hop];decide)
 have q1:=beqF (a:=op) (b:=⟨#[97,110,100]⟩) (by rw [hop];decide)
 have q2:=beqF (a:=op) (b:=⟨#[110,111,116]⟩) (by rw [hop];decide)
 have q3:=beqF (a:=op) (b:=⟨#[109,105,115,115,105,110,103]⟩) (by rw [hop];decide)
 have q4:=beqT (a:=op) (b:=⟨#[99,104,97,110,103,101,100]⟩) hop
 have n0:=Z7 c
 refine ZT [_,_] func30 ntmps30 fun G w hp=>?_
 repeat' (first|refine ZG ?_|refine ZF ?_|refine ZJ ?_|refine ZH ?_|refine ZL ?_|refine ZI ?_|refine ZN ?_|refine ZO (fun b=>?_)|refine ZM (fun b=>?_)|refine ZB ?_|refine ZD ?_|refine ZA (n0) (fun _ _=>?_)|refine l_call0 (n0) (fun _ _=>?_)|rw [q0]|rw [q1]|rw [q2]|rw [q3]|rw [q4]|(refine ZC (fun hc=>?_) (fun hc=>?_)<;>(try simp at hc)<;>(try omega))|(refine ZE (fun hc=>?_) (fun hc=>?_)<;>(try simp at hc)<;>(try omega)))
 all_goals exact ZR () rfl trivial
set_option maxHeartbeats 4000000 in
theorem holM_k4 (c:Cq) (args:List Tr5) (o:Option Addr) (cap:Nat) (vs:List TC) (op rel tx:ByteArray) (n:Int) (hop:op=⟨#[110,101,119]⟩):Spec prog 30 #[tcv ⟨op,o,vs.length,cap,rel,tx,n⟩,cqa c] ([TcS o cap vs,TcsF args vs]++[MxL]) [] (RetV (.bool (c.kind == 4))):=by
 refine And.right (a:=Enters 30) ?_
 have q0:=beqF (a:=op) (b:=⟨#[111,114]⟩) (by rw [hop];decide)
 have q1:=beqF (a:=op) (b:=⟨#[97,110,100]⟩) (by rw [hop];decide)
 have q2:=beqF (a:=op) (b:=⟨#[110,111,116]⟩) (by rw [hop];decide)
 have q3:=beqF (a:=op) (b:=⟨#[109,105,115,115,105,110,103]⟩) (by rw [hop];decide)
 have q4:=beqF (a:=op) (b:=⟨#[99,104,97,110,103,101,100]⟩) (by rw [hop];decide)
 have q5:=beqT (a:=op) (b:=⟨#[110,101,119]⟩) hop
 have n0:=Z7 c
 refine ZT [_,_] func30 ntmps30 fun G w hp=>?_
 repeat' (first|refine ZG ?_|refine ZF ?_|refine ZJ ?_|refine ZH ?_|refine ZL ?_|refine ZI ?_|refine ZN ?_|refine ZO (fun b=>?_)|refine ZM (fun b=>?_)|refine ZB ?_|refine ZD ?_|refine ZA (n0) (fun _ _=>?_)|refine l_call0 (n0) (fun _ _=>?_)|rw [q0]|rw [q1]|rw [q2]|rw [q3]|rw [q4]|rw [q5]|(refine ZC (fun hc=>?_) (fun hc=>?_)<;>(try simp at hc)<;>(try omega))|(refine ZE (fun hc=>?_) (fun hc=>?_)<;>(try simp at hc)<;>(try omega)))
 all_goals exact ZR () rfl trivial
set_option maxHeartbeats 4000000 in
theorem holM_ch (c:Cq) (args:List Tr5) (o:Option Addr) (cap:Nat) (vs:List TC) (op rel tx:ByteArray) (n:Int) (hop:op=⟨#[99,104,97,110,110,101,108]⟩):Spec prog 30 #[tcv ⟨op,o,vs.length,cap,rel,tx,n⟩,cqa c] ([TcS o cap vs,TcsF args vs]++[MxL]) [] (RetV (.bool ((subO c).ch == n))):=by
 refine And.right (a:=Enters 30) ?_
 have q0:=beqF (a:=op) (b:=⟨#[111,114]⟩) (by rw [hop];decide)
 have q1:=beqF (a:=op) (b:=⟨#[97,110,100]⟩) (by rw [hop];decide)
 have q2:=beqF (a:=op) (b:=⟨#[110,111,116]⟩) (by rw [hop];decide)
 have q3:=beqF (a:=op) (b:=⟨#[109,105,115,115,105,110,103]⟩) (by rw [hop];decide)
 have q4:=beqF (a:=op) (b:=⟨#[99,104,97,110,103,101,100]⟩) (by rw [hop];decide)
 have q5:=beqF (a:=op) (b:=⟨#[110,101,119]⟩) (by rw [hop];decide)
 have q6:=beqT (a:=op) (b:=⟨#[99,104,97,110,110,101,108]⟩) hop
 have n0:=Z7 c
 refine ZT [_,_] func30 ntmps30 fun G w hp=>?_
 repeat' (first|refine ZG ?_|refine ZF ?_|refine ZJ ?_|refine ZH ?_|refine ZL ?_|refine ZI ?_|refine ZN ?_|refine ZO (fun b=>?_)|refine ZM (fun b=>?_)|refine ZB ?_|refine ZD ?_|refine ZA (n0) (fun _ _=>?_)|refine l_call0 (n0) (fun _ _=>?_)|rw [q0]|rw [q1]|rw [q2]|rw [q3]|rw [q4]|rw [q5]|rw [q6]|(refine ZC (fun hc=>?_) (fun hc=>?_)<;>(try simp at hc)<;>(try omega))|(refine ZE (fun hc=>?_) (fun hc=>?_)<;>(try simp at hc)<;>(try omega)))
 all_goals exact ZR () rfl trivial
set_option maxHeartbeats 4000000 in
theorem holM_by (c:Cq) (args:List Tr5) (o:Option Addr) (cap:Nat) (vs:List TC) (op rel tx:ByteArray) (n:Int) (hop:op=⟨#[98,121]⟩) (h1:c.who.size≤5000) (h2:tx.size≤200000):Spec prog 30 #[tcv ⟨op,o,vs.length,cap,rel,tx,n⟩,cqa c] ([TcS o cap vs,TcsF args vs]++[MxL]) [] (RetV (.bool (lwith c.who tx))):=by
 refine And.right (a:=Enters 30) ?_
 have q0:=beqF (a:=op) (b:=⟨#[111,114]⟩) (by rw [hop];decide)
 have q1:=beqF (a:=op) (b:=⟨#[97,110,100]⟩) (by rw [hop];decide)
 have q2:=beqF (a:=op) (b:=⟨#[110,111,116]⟩) (by rw [hop];decide)
 have q3:=beqF (a:=op) (b:=⟨#[109,105,115,115,105,110,103]⟩) (by rw [hop];decide)
 have q4:=beqF (a:=op) (b:=⟨#[99,104,97,110,103,101,100]⟩) (by rw [hop];decide)
 have q5:=beqF (a:=op) (b:=⟨#[110,101,119]⟩) (by rw [hop];decide)
 have q6:=beqF (a:=op) (b:=⟨#[99,104,97,110,110,101,108]⟩) (by rw [hop];decide)
 have q7:=beqT (a:=op) (b:=⟨#[98,121]⟩) hop
 have n0:=Z7 c
 have n1:=Vq c.who tx (by omega) (by omega)
 refine ZT [_,_] func30 ntmps30 fun G w hp=>?_
 repeat' (first|refine ZG ?_|refine ZF ?_|refine ZJ ?_|refine ZH ?_|refine ZL ?_|refine ZI ?_|refine ZN ?_|refine ZO (fun b=>?_)|refine ZM (fun b=>?_)|refine ZB ?_|refine ZD ?_|refine ZA (n0) (fun _ _=>?_)|refine l_call0 (n0) (fun _ _=>?_)|refine ZA (n1) (fun _ _=>?_)|refine l_call0 (n1) (fun _ _=>?_)|rw [q0]|rw [q1]|rw [q2]|rw [q3]|rw [q4]|rw [q5]|rw [q6]|rw [q7]|(refine ZC (fun hc=>?_) (fun hc=>?_)<;>(try simp at hc)<;>(try omega))|(refine ZE (fun hc=>?_) (fun hc=>?_)<;>(try simp at hc)<;>(try omega)))
 all_goals exact ZR () rfl trivial
set_option maxHeartbeats 4000000 in
theorem holM_tx (c:Cq) (args:List Tr5) (o:Option Addr) (cap:Nat) (vs:List TC) (op rel tx:ByteArray) (n:Int) (hn0:op≠⟨#[111,114]⟩) (hn1:op≠⟨#[97,110,100]⟩) (hn2:op≠⟨#[110,111,116]⟩) (hn3:op≠⟨#[109,105,115,115,105,110,103]⟩) (hn4:op≠⟨#[99,104,97,110,103,101,100]⟩) (hn5:op≠⟨#[110,101,119]⟩) (hn6:op≠⟨#[99,104,97,110,110,101,108]⟩) (hn7:op≠⟨#[98,121]⟩) (hc:CqS c) (hi:idx op wTxs<3):Spec prog 30 #[tcv ⟨op,o,vs.length,cap,rel,tx,n⟩,cqa c] ([TcS o cap vs,TcsF args vs]++[MxL]) [] (RetV (.bool (cmpB (idx rel wCts) (fldT (idx op wTxs) c) tx))):=by
 refine And.right (a:=Enters 30) ?_
 have q0:=beqF (a:=op) (b:=⟨#[111,114]⟩) hn0
 have q1:=beqF (a:=op) (b:=⟨#[97,110,100]⟩) hn1
 have q2:=beqF (a:=op) (b:=⟨#[110,111,116]⟩) hn2
 have q3:=beqF (a:=op) (b:=⟨#[109,105,115,115,105,110,103]⟩) hn3
 have q4:=beqF (a:=op) (b:=⟨#[99,104,97,110,103,101,100]⟩) hn4
 have q5:=beqF (a:=op) (b:=⟨#[110,101,119]⟩) hn5
 have q6:=beqF (a:=op) (b:=⟨#[99,104,97,110,110,101,108]⟩) hn6
 have q7:=beqF (a:=op) (b:=⟨#[98,121]⟩) hn7
 have n0:=Z7 c
 have hT:=mget_txs op (.string (subO c).tg) (.string c.old.tx) (.string c.new.tx)
 have hfs:=hc.fld (idx op wTxs)
 have hF:(if idx op wTxs=0 then some (Value.string (subO c).tg) else if idx op wTxs=1 then some (.string c.old.tx) else if idx op wTxs=2 then some (.string c.new.tx) else none)=some (.string (fldT (idx op wTxs) c)):=by
  unfold fldT
  generalize idx op wTxs=f at *
  match f,hi with
  | 0,_=>rfl
  | 1,_=>rfl
  | 2,_=>rfl
 rw [hF] at hT
 generalize fldT (idx op wTxs) c=S at *
 by_cases r1:rel=⟨#[105,115]⟩
 ·have u1:=beqT (a:=rel) (b:=⟨#[105,115]⟩) r1
  have e:idx rel wCts=0:=by rw [r1];decide
  rw [e]
  refine ZT [_,_] func30 ntmps30 fun G w hp=>?_
  repeat' (first|refine Z4 (V:=vid) Zb op (some (.string S)) hT ?_|refine Z5 (V:=vid) Zb _ _ ?_|refine Ym Zb vid (fun r=>?_)|refine ZG ?_|refine ZF ?_|refine ZJ ?_|refine ZH ?_|refine ZL ?_|refine ZI ?_|refine ZN ?_|refine ZO (fun b=>?_)|refine ZM (fun b=>?_)|refine ZB ?_|refine ZD ?_|refine ZA (n0) (fun _ _=>?_)|refine l_call0 (n0) (fun _ _=>?_)|rw [q0]|rw [q1]|rw [q2]|rw [q3]|rw [q4]|rw [q5]|rw [q6]|rw [q7]|rw [u1]|(refine ZC (fun hc=>?_) (fun hc=>?_)<;>(try simp at hc)<;>(try omega))|(refine ZE (fun hc=>?_) (fun hc=>?_)<;>(try simp at hc)<;>(try omega)))
  all_goals exact ZR () rfl trivial
 have u1:=beqF (a:=rel) (b:=⟨#[105,115]⟩) r1
 by_cases r2:rel=⟨#[104,97,115]⟩
 ·have u2:=beqT (a:=rel) (b:=⟨#[104,97,115]⟩) r2
  have e:idx rel wCts=1:=by rw [r2];decide
  rw [e]
  have n1:=W3 S tx (by omega)
  refine ZT [_,_] func30 ntmps30 fun G w hp=>?_
  repeat' (first|refine Z4 (V:=vid) Zb op (some (.string S)) hT ?_|refine Z5 (V:=vid) Zb _ _ ?_|refine Ym Zb vid (fun r=>?_)|refine ZG ?_|refine ZF ?_|refine ZJ ?_|refine ZH ?_|refine ZL ?_|refine ZI ?_|refine ZN ?_|refine ZO (fun b=>?_)|refine ZM (fun b=>?_)|refine ZB ?_|refine ZD ?_|refine ZA (n0) (fun _ _=>?_)|refine l_call0 (n0) (fun _ _=>?_)|refine ZA (n1) (fun _ _=>?_)|refine l_call0 (n1) (fun _ _=>?_)|rw [q0]|rw [q1]|rw [q2]|rw [q3]|rw [q4]|rw [q5]|rw [q6]|rw [q7]|rw [u1]|rw [u2]|(refine ZC (fun hc=>?_) (fun hc=>?_)<;>(try simp at hc)<;>(try omega))|(refine ZE (fun hc=>?_) (fun hc=>?_)<;>(try simp at hc)<;>(try omega)))
  all_goals exact ZR () rfl trivial
 have u2:=beqF (a:=rel) (b:=⟨#[104,97,115]⟩) r2
 have e:cmpB (idx rel wCts) S tx=Lib.hasPrefix S.data.toList tx.data.toList:=by
  have h0:idx rel wCts≠0:=fun h=>r1 (by
   rw [wCts,idx] at h
   split at h
   ·rename_i hx;exact hx.symm
   ·omega)
  have h1:idx rel wCts≠1:=fun h=>r2 (by
   rw [wCts,idx,if_neg (Ne.symm r1),idx] at h
   split at h
   ·rename_i hx;exact hx.symm
   ·omega)
  unfold cmpB
  rw [if_neg h0,if_neg h1]
 rw [e]
 by_cases hge:tx.size≤S.size
 ·have hmid:S.data.toList.take tx.size=(S.extract 0 tx.size).data.toList:=by
   rw [ByteArray.data_extract,Array.toList_extract,List.extract_eq_take_drop,List.drop_zero];congr 1
  rw [hp_ext hge]
  refine ZT [_,_] func30 ntmps30 fun G w hp=>?_
  repeat' (first|refine Z4 (V:=vid) Zb op (some (.string S)) hT ?_|refine Z5 (V:=vid) Zb _ _ ?_|refine Ym Zb vid (fun r=>?_)|refine ZG ?_|refine ZF ?_|refine ZJ ?_|refine ZH ?_|refine ZL ?_|refine ZI ?_|refine ZN ?_|refine ZO (fun b=>?_)|refine ZM (fun b=>?_)|refine ZB ?_|refine ZD ?_|refine ZX ?_|refine ZZ ?_|refine Zg ?_|refine ZY ?_|refine ZW ?_|refine Zh (fun b=>?_)|refine Zf (fun b=>?_)|refine Ze ?_|refine ZV ?_|refine ZA (n0) (fun _ _=>?_)|refine l_call0 (n0) (fun _ _=>?_)|refine ZK (n0) (fun _ _=>?_)|rw [q0]|rw [q1]|rw [q2]|rw [q3]|rw [q4]|rw [q5]|rw [q6]|rw [q7]|rw [u1]|rw [u2]|refine r_sTo (s:=S) (u:=S.extract 0 tx.size) tx.size hge hmid ?_|(refine ZC (fun hc=>?_) (fun hc=>?_)<;>(try simp at hc)<;>(try omega))|(refine ZS (fun hc=>?_) (fun hc=>?_)<;>(try simp at hc)<;>(try omega))|refine ZQ 37 [] [(0,0),(1,0),(2,0),(3,0),(4,0),(5,0),(6,0),(7,0),(8,0),(9,0),(10,0),(11,0),(12,0),(13,0),(14,0),(15,0),(16,0)] [] ?_|(refine ZE (fun hc=>?_) (fun hc=>?_)<;>(try simp at hc)<;>(try omega)))
  all_goals exact ZR () rfl trivial
 ·rw [hp_short hge]
  have hge2:¬(tx.size:Int)≤(S.size:Int):=by omega
  refine ZT [_,_] func30 ntmps30 fun G w hp=>?_
  repeat' (first|refine Z4 (V:=vid) Zb op (some (.string S)) hT ?_|refine Z5 (V:=vid) Zb _ _ ?_|refine Ym Zb vid (fun r=>?_)|refine ZG ?_|refine ZF ?_|refine ZJ ?_|refine ZH ?_|refine ZL ?_|refine ZI ?_|refine ZN ?_|refine ZO (fun b=>?_)|refine ZM (fun b=>?_)|refine ZB ?_|refine ZD ?_|refine ZX ?_|refine ZZ ?_|refine Zg ?_|refine ZY ?_|refine ZW ?_|refine Zh (fun b=>?_)|refine Zf (fun b=>?_)|refine Ze ?_|refine ZV ?_|refine ZA (n0) (fun _ _=>?_)|refine l_call0 (n0) (fun _ _=>?_)|refine ZK (n0) (fun _ _=>?_)|rw [q0]|rw [q1]|rw [q2]|rw [q3]|rw [q4]|rw [q5]|rw [q6]|rw [q7]|rw [u1]|rw [u2]|(refine ZC (fun hc=>?_) (fun hc=>?_)<;>(try simp at hc)<;>(try omega))|(refine ZS (fun hc=>?_) (fun hc=>?_)<;>(try simp at hc)<;>(try omega))|refine ZQ 37 [] [(0,0),(1,0),(2,0),(3,0),(4,0),(5,0),(6,0),(7,0),(8,0),(9,0),(10,0),(11,0),(12,0),(13,0),(14,0),(15,0),(16,0)] [] ?_|(refine ZE (fun hc=>?_) (fun hc=>?_)<;>(try simp at hc)<;>(try omega)))
  all_goals exact ZR () rfl trivial
set_option maxHeartbeats 4000000 in
theorem holM_nm (c:Cq) (args:List Tr5) (o:Option Addr) (cap:Nat) (vs:List TC) (op rel tx:ByteArray) (n:Int) (hn0:op≠⟨#[111,114]⟩) (hn1:op≠⟨#[97,110,100]⟩) (hn2:op≠⟨#[110,111,116]⟩) (hn3:op≠⟨#[109,105,115,115,105,110,103]⟩) (hn4:op≠⟨#[99,104,97,110,103,101,100]⟩) (hn5:op≠⟨#[110,101,119]⟩) (hn6:op≠⟨#[99,104,97,110,110,101,108]⟩) (hn7:op≠⟨#[98,121]⟩) (hi0:¬idx op wTxs<3) (hi:idx op wNms<4):Spec prog 30 #[tcv ⟨op,o,vs.length,cap,rel,tx,n⟩,cqa c] ([TcS o cap vs,TcsF args vs]++[MxL]) [] (RetV (.bool (cmpZ (idx rel yCns) (fldN (idx op wNms) c) n))):=by
 refine And.right (a:=Enters 30) ?_
 have q0:=beqF (a:=op) (b:=⟨#[111,114]⟩) hn0
 have q1:=beqF (a:=op) (b:=⟨#[97,110,100]⟩) hn1
 have q2:=beqF (a:=op) (b:=⟨#[110,111,116]⟩) hn2
 have q3:=beqF (a:=op) (b:=⟨#[109,105,115,115,105,110,103]⟩) hn3
 have q4:=beqF (a:=op) (b:=⟨#[99,104,97,110,103,101,100]⟩) hn4
 have q5:=beqF (a:=op) (b:=⟨#[110,101,119]⟩) hn5
 have q6:=beqF (a:=op) (b:=⟨#[99,104,97,110,110,101,108]⟩) hn6
 have q7:=beqF (a:=op) (b:=⟨#[98,121]⟩) hn7
 have n0:=Z7 c
 have hT:=mget_txs op (.string (subO c).tg) (.string c.old.tx) (.string c.new.tx)
 rw [if_neg (by omega),if_neg (by omega),if_neg (by omega)] at hT
 have hN:=mget_nms op (.int .i64 (subO c).us) (.int .i64 c.nu) (.int .i64 ((subO c).tx.size:Int)) (.int .i64 (subT c))
 have hF:(if idx op wNms=0 then some (Value.int .i64 (subO c).us) else if idx op wNms=1 then some (.int .i64 c.nu) else if idx op wNms=2 then some (.int .i64 ((subO c).tx.size:Int)) else if idx op wNms=3 then some (.int .i64 (subT c)) else none)=some (.int .i64 (fldN (idx op wNms) c)):=by
  unfold fldN
  generalize idx op wNms=f at *
  match f,hi with
  | 0,_=>rfl
  | 1,_=>rfl
  | 2,_=>rfl
  | 3,_=>rfl
 rw [hF] at hN
 generalize fldN (idx op wNms) c=S at *
 by_cases r1:rel=⟨#[61]⟩
 ·have u1:=beqT (a:=rel) (b:=⟨#[61]⟩) r1
  have e:idx rel yCns=0:=by rw [r1];decide
  rw [e]
  refine ZT [_,_] func30 ntmps30 fun G w hp=>?_
  repeat' (first|refine l_mgetS (V:=vid) Zb op (some (.int .i64 S)) hN ?_|refine Z4 (V:=vid) Zb op none hT ?_|refine Z5 (V:=vid) Zb _ _ ?_|refine Ym Zb vid (fun r=>?_)|refine ZG ?_|refine ZF ?_|refine ZJ ?_|refine ZH ?_|refine ZL ?_|refine ZI ?_|refine ZN ?_|refine ZO (fun b=>?_)|refine ZM (fun b=>?_)|refine ZB ?_|refine ZD ?_|refine ZA (n0) (fun _ _=>?_)|refine l_call0 (n0) (fun _ _=>?_)|rw [q0]|rw [q1]|rw [q2]|rw [q3]|rw [q4]|rw [q5]|rw [q6]|rw [q7]|rw [u1]|(refine ZC (fun hc=>?_) (fun hc=>?_)<;>(try simp at hc)<;>(try omega))|(refine ZE (fun hc=>?_) (fun hc=>?_)<;>(try simp at hc)<;>(try omega)))
  all_goals exact ZR () rfl trivial
 have u1:=beqF (a:=rel) (b:=⟨#[61]⟩) r1
 by_cases r2:rel=⟨#[60]⟩
 ·have u2:=beqT (a:=rel) (b:=⟨#[60]⟩) r2
  have e:idx rel yCns=1:=by rw [r2];decide
  rw [e]
  refine ZT [_,_] func30 ntmps30 fun G w hp=>?_
  repeat' (first|refine l_mgetS (V:=vid) Zb op (some (.int .i64 S)) hN ?_|refine Z4 (V:=vid) Zb op none hT ?_|refine Z5 (V:=vid) Zb _ _ ?_|refine Ym Zb vid (fun r=>?_)|refine ZG ?_|refine ZF ?_|refine ZJ ?_|refine ZH ?_|refine ZL ?_|refine ZI ?_|refine ZN ?_|refine ZO (fun b=>?_)|refine ZM (fun b=>?_)|refine ZB ?_|refine ZD ?_|refine ZA (n0) (fun _ _=>?_)|refine l_call0 (n0) (fun _ _=>?_)|rw [q0]|rw [q1]|rw [q2]|rw [q3]|rw [q4]|rw [q5]|rw [q6]|rw [q7]|rw [u1]|rw [u2]|(refine ZC (fun hc=>?_) (fun hc=>?_)<;>(try simp at hc)<;>(try omega))|(refine ZE (fun hc=>?_) (fun hc=>?_)<;>(try simp at hc)<;>(try omega)))
  all_goals exact ZR () rfl trivial
 have u2:=beqF (a:=rel) (b:=⟨#[60]⟩) r2
 have e:cmpZ (idx rel yCns) S n=decide (n<S):=by
  have h0:idx rel yCns≠0:=fun h=>r1 (by
   rw [yCns,idx] at h
   split at h
   ·rename_i hx;exact hx.symm
   ·omega)
  have h1:idx rel yCns≠1:=fun h=>r2 (by
   rw [yCns,idx,if_neg (Ne.symm r1),idx] at h
   split at h
   ·rename_i hx;exact hx.symm
   ·omega)
  unfold cmpZ
  rw [if_neg h0,if_neg h1]
 rw [e]
 refine ZT [_,_] func30 ntmps30 fun G w hp=>?_
 repeat' (first|refine l_mgetS (V:=vid) Zb op (some (.int .i64 S)) hN ?_|refine Z4 (V:=vid) Zb op none hT ?_|refine Z5 (V:=vid) Zb _ _ ?_|refine Ym Zb vid (fun r=>?_)|refine ZG ?_|refine ZF ?_|refine ZJ ?_|refine ZH ?_|refine ZL ?_|refine ZI ?_|refine ZN ?_|refine ZO (fun b=>?_)|refine ZM (fun b=>?_)|refine ZB ?_|refine ZD ?_|refine ZA (n0) (fun _ _=>?_)|refine l_call0 (n0) (fun _ _=>?_)|rw [q0]|rw [q1]|rw [q2]|rw [q3]|rw [q4]|rw [q5]|rw [q6]|rw [q7]|rw [u1]|rw [u2]|(refine ZC (fun hc=>?_) (fun hc=>?_)<;>(try simp at hc)<;>(try omega))|(refine ZE (fun hc=>?_) (fun hc=>?_)<;>(try simp at hc)<;>(try omega)))
 all_goals exact ZR () rfl trivial
theorem head_one (c:Cq) (d:Tr5):headM c [d]=holM c d:=by rw [headM]
mutual
theorem Xy (c:Cq) (hc:CqS c):∀t:Tr5,WfT t→SzT t→HoT c t
 | .mk op args rel tx n,hw,hz,x=>by
  rw [WfT] at hw;rw [SzT] at hz
  obtain ⟨z1,z2,z3⟩:=hz
  refine specF_fact (X:=Option Addr×Nat×List TC) (Fx:=fun q=>[TcS q.1 q.2.1 q.2.2,TcsF args q.2.2]) (p:=fun q=>x=⟨op,q.1,q.2.2.length,q.2.1,rel,tx,n⟩∧q.2.2.length=args.length) (enters_of func30 (by kernel_rfl) rfl) (fun h hh=>?_) (fun q hq=>?_)
  ·have hh:TcP h (.mk op args rel tx n) x:=hh
   rw [TcP] at hh
   obtain ⟨h1,h2,h3,h4,vs,h5,h6,h7⟩:=hh
   obtain ⟨xo,xa,xl,xc,xr,xt,xn⟩:=x
   dsimp only at h1 h2 h3 h4 h5 h6 ⊢
   subst h1;subst h2;subst h3;subst h4;subst h5
   exact ⟨(xa,xc,vs),⟨rfl,tcsP_len h7⟩,fun g hg=>by
    simp only [List.mem_cons,List.not_mem_nil,or_false] at hg
    rcases hg with rfl|rfl
    ·exact h6
    ·exact h7⟩
  ·obtain ⟨o,cap,vs⟩:=q
   obtain ⟨rfl,hl⟩:=hq
   dsimp only at hl ⊢
   rw [holM]
   by_cases h1:op=wOr
   ·rw [if_pos (.inl h1)] at hw
    rw [if_pos h1]
    exact holM_or c args o cap vs op rel tx n h1 hl z2 (Xc c hc args hw.2 z3)
   by_cases h2:op=wAnd
   ·rw [if_pos (.inr h2)] at hw
    rw [if_neg h1,if_pos h2]
    exact holM_and c args o cap vs op rel tx n h2 hl z2 (Xc c hc args hw.2 z3)
   rw [if_neg (fun h=>h.elim h1 h2)] at hw
   rw [if_neg h1,if_neg h2]
   by_cases h3:op=wNot
   ·rw [if_pos h3] at hw
    rw [if_pos h3]
    obtain ⟨⟨d,hd⟩,hw2⟩:=hw
    have hh:=Xc c hc args hw2 z3 d (by rw [hd];exact .head _)
    have e:headM c args=holM c d:=by rw [hd];exact head_one c d
    rw [e]
    exact holM_not c args o cap vs op rel tx n h3 d hd hh hl
   rw [if_neg h3] at hw
   rw [if_neg h3]
   obtain ⟨_,ht,_,_⟩:=hw
   by_cases k1:op=⟨#[109,105,115,115,105,110,103]⟩
   ·have e:idx op wKinds=0:=by rw [k1];decide
    rw [e,if_pos (by decide)]
    exact holM_k2 c args o cap vs op rel tx n k1
   by_cases k2:op=⟨#[99,104,97,110,103,101,100]⟩
   ·have e:idx op wKinds=1:=by rw [k2];decide
    rw [e,if_pos (by decide)]
    exact holM_k3 c args o cap vs op rel tx n k2
   by_cases k3:op=⟨#[110,101,119]⟩
   ·have e:idx op wKinds=2:=by rw [k3];decide
    rw [e,if_pos (by decide)]
    exact holM_k4 c args o cap vs op rel tx n k3
   have hk:¬idx op wKinds<3:=fun h=>by
    have:=Zx.1 (show idx op wKinds<wKinds.length from h)
    simp only [wKinds,List.mem_cons,List.not_mem_nil,or_false] at this
    rcases this with h|h|h
    ·exact k1 h
    ·exact k2 h
    ·exact k3 h
   rw [if_neg hk]
   by_cases h5:op=wChan
   ·rw [if_pos h5]
    exact holM_ch c args o cap vs op rel tx n h5
   rw [if_neg h5]
   by_cases h6:op=wBy
   ·rw [if_pos h6]
    exact holM_by c args o cap vs op rel tx n h6 hc.wh z1
   rw [if_neg h6]
   by_cases h7:idx op wTxs<3
   ·rw [if_pos h7]
    exact holM_tx c args o cap vs op rel tx n h1 h2 h3 k1 k2 k3 h5 h6 hc h7
   rw [if_neg h7]
   have h8:idx op wNms<4:=by
    simp only [isTst,Bool.or_eq_true,decide_eq_true_eq] at ht
    rcases ht with (((ht|ht)|ht)|ht)|ht
    ·exact absurd ht hk
    ·exact absurd ht h5
    ·exact absurd ht h7
    ·exact ht
    ·exact absurd ht h6
   exact holM_nm c args o cap vs op rel tx n h1 h2 h3 k1 k2 k3 h5 h6 h7 h8
theorem Xc (c:Cq) (hc:CqS c):∀l:List Tr5,WfTs l→SzTs l→∀t ∈ l,HoT c t
 | [],_,_=>fun d hd=>by cases hd
 | x::l,hw,hz=>fun d hd=>by
  rw [WfTs] at hw;rw [SzTs] at hz
  rcases List.mem_cons.1 hd with hd|hd
  ·exact hd ▸ Xy c hc x hw.1 hz.1
  ·exact Xc c hc l hw.2 hz.2 d hd
end
theorem cutM_ok (s:ByteArray):Enters 26∧Spec prog 26 #[.string s] [] [] (RetV (.string (cutS s 1000))):=by
 refine ZT [_] func26 ntmps26 fun G w hp=>?_
 repeat' (first|refine ZG ?_|refine ZF ?_|refine ZJ ?_|refine ZH ?_|refine ZL ?_|refine ZI ?_|refine ZN ?_|refine ZO (fun b=>?_)|refine ZM (fun b=>?_)|refine ZB ?_|refine ZD ?_|refine ZP ?_|refine l_cutS 1000 ?_|refine Y4 1000 ?_|(refine ZC (fun hc=>?_) (fun hc=>?_)<;>(try simp at hc))|(refine ZE (fun hc=>?_) (fun hc=>?_)<;>(try simp at hc)))
 exact ZR () rfl trivial
theorem par_err {s:ByteArray} {x:Int×Int×Int} (h:parF s = .error x):x.2.2≠0:=by
 have go:∀(l:List (List UInt8)) (i:Nat) (acc:List Ru),rowsF l i acc = .error x→x.2.2≠0:=by
  intro l
  induction l with
  | nil=>intro i acc h;cases h
  | cons s l ih=>
   intro i acc h
   unfold rowsF at h
   split at h
   ·exact ih _ _ h
   ·split at h
    ·exact ih _ _ h
    ·rename_i he
     obtain rfl:=Except.error.inj h
     exact he
 unfold parF at h
 split at h
 ·obtain rfl:=Except.error.inj h
  exact (by decide:(5:Int)≠0)
 ·exact go _ _ _ h
def knS:ByteArray:=⟨#[105,102,32,109,105,115,115,105,110,103,32,97,110,100,32,99,104,97,110,110,101,108,32,109,97,105,108,58,32,99,111,109,112,101,110,115,97,116,101,32,34,80,108,101,97,115,101,32,105,103,110,111,114,101,32,116,104,101,32,109,97,105,108,32,116,111,32,123,116,97,114,103,101,116,125,46,34,10,105,102,32,110,101,119,32,97,110,100,32,110,111,116,32,40,99,104,97,110,110,101,108,32,111,114,100,101,114,32,111,114,32,115,105,122,101,32,62,32,49,48,48,48,41,58,32,115,101,110,100,10,97,115,107,10]⟩
def knT:ByteArray:=⟨#[80,108,101,97,115,101,32,105,103,110,111,114,101,32,116,104,101,32,109,97,105,108,32,116,111,32,123,116,97,114,103,101,116,125,46]⟩
def knX:ByteArray:=⟨#[80,108,101,97,115,101,32,105,103,110,111,114,101,32,116,104,101,32,109,97,105,108,32,116,111,32,97,64,98,46]⟩
def knA:ByteArray:=⟨#[97,64,98]⟩
def wNew:ByteArray:=⟨#[110,101,119]⟩
def wMis:ByteArray:=⟨#[109,105,115,115,105,110,103]⟩
def knL:List Ru:=[⟨some (.all [.kd wMis 2,.ch (wChan++wSp++⟨#[109,97,105,108]⟩) 1]),⟨2,knT⟩⟩,
 ⟨some (.all [.kd wNew 4,.nt (.any [.ch (wChan++wSp++⟨#[111,114,100,101,114]⟩) 3,.nm ((⟨#[115,105,122,101]⟩:ByteArray)++wSp++⟨#[62]⟩++wSp++ofL (Lib.itoa 1000)) 2 2 1000])]),⟨3,ofL []⟩⟩,⟨none,⟨5,ofL []⟩⟩]
set_option maxHeartbeats 4000000 in
theorem kn_par:parF knS = .ok knL:=by kernel_rfl
def ou0:Ou:=⟨0,ofL [],ofL [],0⟩
def kc1:Cq:=⟨2,ofL [],0,0,⟨1,knA,ofL [],0⟩,0,ou0,0⟩
def kc2:Cq:=⟨4,ofL [],0,0,ou0,0,⟨2,ofL [],ofL [],0⟩,0⟩
def kc3:Cq:=⟨4,ofL [],0,0,ou0,0,⟨3,ofL [],ofL [],0⟩,0⟩
theorem kn_1:decideF knL kc1=(⟨2,knX⟩,0):=by kernel_rfl
theorem kn_2:decideF knL kc2=(⟨3,ofL []⟩,1):=by kernel_rfl
theorem kn_3:decideF knL kc3=(⟨5,ofL []⟩,2):=by kernel_rfl
variable {i d:Nat} {t ty0:TypeId} {x y:Operand} {pos:String} {aft:Array Edge} {gd:Option (Nat×Bool)}
section
variable {L L':List (Nat×Nat)} {Tl:List Nat} {b off:Nat} {t2 ty:TypeId} {z:Operand} {v:Value} {cs:Array Value}
theorem r_stI (nx:Wr n C ops k Q Tl Fs R L E F N) (ho:nth ops i=some ⟨none,.store t x y,ty0,pos,aft,gd⟩:=by rfl) (hw:wantL ops E ⟨none,.store t x y,ty0,pos,aft,gd⟩=some true:=by rfl)
  (hx:ev E x=some (.pointer (some ⟨b,off,none⟩)):=by rfl) (hy:ev E y=some v:=by rfl) (hs:Sel (Pt b (.cells cs ty (0,0))) R R0:=by (repeat (first|exact Sel.here|apply Sel.there));first|done|fail) (hv:stv t cs.toList off v=some cs.toList:=by rfl) :
  Wr n C ops k Q Tl Fs R ((i,4)::L) E F N:=
 Yt ho fun hp hr w st hz sb=>by
  simp only [Zw hw]
  refine ⟨⟨Unit,fun _=>undef,fun _=>True,fun _=>F,fun _=>N⟩,fun a G w1 hp' ha hsub hsat=>?_,fun _ _=>nx hp hr w st hz sb⟩
  obtain ⟨h1,h2,_,s1,_,hpt,_⟩:=hs.sep st.r
  have hb:w1.heap[b]? = some (.cells cs ty (0,0)):=hsat.stat hsub b _ (sb b _ (Zd _ _ _ _ (s1 _ _ hpt)))
  obtain ⟨w',g1,g2,g3,g4⟩:=stv_ok hb hv
  have hh:∀c,w'.heap[c]? = w1.heap[c]?:=fun c=>by
   by_cases hc:c=b
   ·rw [hc,g2,hb]
   ·exact g4 c hc
  unfold OpRes
  simp only [execOp,Instr.storeAt,ha.ev (x:=x) (by rw [ZU];exact hx),ha.ev (x:=y) (by rw [ZU];exact hy),Instr.sureAddr,Sem.run_bind,Sem.run_pure,Result.andThen,g1]
  obtain ⟨hp2,hr2,s⟩:=hsat
  exact ⟨(),trivial,trivial,hp2,hr2,fun c o e=>(hh c).trans (s.inp c o e),fun c o e=>(hh c).trans (s.inr c o e),fun c o e=>(hh c).trans (s.ing c o e),s.d1,s.d2,s.d3,s.sub,s.f,s.r,s.same.trans g3⟩
end
def RlsF (b:Nat) (l:List Ru):Pf:=⟨fun h=>∃(xs:List RI) (o:Option Addr) (cap:Nat),(Blk b (.cells #[.slice o xs.length cap] 95)).p h∧(Sl 102 rul o cap xs).p h∧RusP h l xs,
 fun _ _ s ⟨xs,o,cap,h1,h2,h3⟩=>⟨xs,o,cap,(Blk b _).m _ _ s h1,(Sl _ _ o cap xs).m _ _ s h2,Vc s l xs h3⟩⟩
abbrev PaP (r:Except (Int×Int×Int) (List Ru)):Post:=match r with
 | .ok l=>⟨Nat,fun b=>.tuple #[.pointer (some ⟨b,0,none⟩),.int .i64 0,.int .i64 0,.int .i64 0],fun _=>True,fun b=>[RlsF b l],fun _=>[]⟩
 | .error x=>⟨Unit,fun _=>.tuple #[.pointer none,.int .i64 x.1,.int .i64 x.2.1,.int .i64 x.2.2],fun _=>True,fun _=>[],fun _=>[]⟩
abbrev PG:=List Ru×List RI×Option Addr×Nat
def PaJ (_:ByteArray) (b2 b3 b4 b5 br:Nat) (pre:List (List UInt8)) (g:PG):HP:=fun h=>((∀rest,rowsF (pre++rest) 0 []=rowsF rest pre.length g.1)∧g.2.1.length=g.1.length∧g.1.length≤256)∧
 Sep ([Pt b2 (.cells #[.pointer (some ⟨br,0,none⟩)] 39),Pt b3 (.cells #[.int .i64 (pre.length:Nat)] 3),Pt b4 (.cells #[.int .i64 0] 3),Pt b5 (.cells #[.int .i64 0] 28)]++RlR br g.2.1 g.2.2.1 g.2.2.2) h
def PaX (s:ByteArray) (b2 b3 b4 b5:Nat) (_:List (List UInt8)) (_:PG):HP:=fun h=>∃x:Int×Int×Int,rowsF (linesF s.data.toList) 0 [] = .error x∧
 Sep [Pt b2 (.cells #[.pointer none] 39),Pt b3 (.cells #[.int .i64 x.1] 3),Pt b4 (.cells #[.int .i64 x.2.1] 3),Pt b5 (.cells #[.int .i64 x.2.2] 28)] h
set_option maxHeartbeats 4000000 in
theorem Y3 (s:ByteArray) (hs:s.size≤1000000000):Enters 21∧Spec prog 21 #[.string s] [ErA,P10] [] (PaP (parF s)):=by
 have hsz:=lsz s
 by_cases hb:65536<s.size
 ·have e:parF s = .error (0,0,5):=if_pos hb
  rw [e]
  refine ZT [_] func21 ntmps21 fun G w hp=>?_
  repeat' (first|refine ZG ?_|refine ZF ?_|refine ZJ ?_|refine ZH ?_|refine ZL ?_|refine ZI ?_|refine ZN ?_|refine ZO (fun b=>?_)|refine ZM (fun b=>?_)|refine ZB ?_|refine ZD ?_|refine ZP ?_|(refine ZC (fun hc=>?_) (fun hc=>?_)<;>(try simp at hc)<;>(try omega))|(refine ZE (fun hc=>?_) (fun hc=>?_)<;>(try simp at hc)<;>(try omega)))
  exact ZR () rfl trivial
 ·have e0:parF s=rowsF (linesF s.data.toList) 0 []:=if_neg hb
  rw [e0]
  obtain ⟨hl1,hl2⟩:=Wb s.data.toList
  have n0:=splitSeq_ok s.data.toList
  have es:ofL s.data.toList=s:=YH rfl
  rw [es] at n0
  have hit:=fun (a b c:Nat)=>split_iter a b c s.data.toList (by omega)
  obtain ⟨R,hR⟩:∃R,rowsF (linesF s.data.toList) 0 []=R:=⟨_,rfl⟩
  rw [hR]
  refine ⟨enters_of func21 (by kernel_rfl) rfl,spec_ofM (vs:=[_]) func21 rfl ntmps21 rfl fun G w hp=>?_⟩
  repeat' (first|refine ZG ?_|refine ZF ?_|refine ZJ ?_|refine ZH ?_|refine ZL ?_|refine ZI ?_|refine ZN ?_|refine ZO (fun b=>?_)|refine ZM (fun b=>?_)|refine ZB ?_|refine ZD ?_|refine ZA (n0) (fun _ _=>?_)|refine l_call0 (n0) (fun _ _=>?_)|(refine ZC (fun hc=>?_) (fun hc=>?_)<;>(try simp at hc)<;>(try omega))|(refine ZE (fun hc=>?_) (fun hc=>?_)<;>(try simp at hc)<;>(try omega)))
  rename_i b2 b3 b4 b5 q _
  obtain ⟨q1,q2,q3⟩:=q
  generalize b=br at *
  refine Z2 (Lx:=[]) (r:=Row 102 3 none 0 0 []) (fun h _=>XW _ _ h) ?_
  refine k_add (f:=RusF [] []) (fun _=>trivial) ?_
  refine Z2 (Lx:=[Pt b2 (.cells #[.pointer (some ⟨br,0,none⟩)] 39),Pt b3 (.cells #[.int .i64 0] 3),Pt b4 (.cells #[.int .i64 0] 3),Pt b5 (.cells #[.int .i64 0] 28)]++RlR br [] none 0) (r:=PaJ s b2 b3 b4 b5 br [] ([],[],none,0)) (fun h hh=>⟨⟨fun rest=>rfl,rfl,by decide⟩,hh⟩) ?_
  refine k_rangeG (α:=List UInt8) (enc:=fun l=>.string (ofL l)) (xs:=linesF s.data.toList) (fun pre g=>RusF g.1 g.2.1) (PaJ s b2 b3 b4 b5 br) (PaX s b2 b3 b4 b5) ([],[],none,0) (hit q1 q2 q3) ?_ ?_ ?_
  ·intro lr l pre g e hpre G w0 hp0
   obtain ⟨acc,xs,o,cap⟩:=g
   dsimp only
   refine Yw (X:=Unit) (Lx:=fun _=>[Pt b2 (.cells #[.pointer (some ⟨br,0,none⟩)] 39),Pt b3 (.cells #[.int .i64 (pre.length:Nat)] 3),Pt b4 (.cells #[.int .i64 0] 3),Pt b5 (.cells #[.int .i64 0] 28)]++RlR br xs o cap) (p:=fun _=>(∀rest,rowsF (pre++rest) 0 []=rowsF rest pre.length acc)∧xs.length=acc.length∧acc.length≤256) (r:=PaJ s b2 b3 b4 b5 br pre (acc,xs,o,cap)) (.there .here) (fun h hh=>⟨(),hh.1,hh.2⟩) (fun _ hpu=>?_)
   obtain ⟨p1,p2,p3⟩:=hpu
   have hel:e.length≤s.data.toList.length:=hl2 e (hpre.subset (by simp))
   have hpl:pre.length+1≤s.data.toList.length+1:=by
    have:=hpre.length_le
    simp only [List.length_append,List.length_singleton] at this;omega
   have n1:=ruAdd_ok br (ofL e) (by rw [YG];omega) acc xs o cap p2 p3
   rw [Z8] at n1
   delta AdP at n1
   have w1:IntKind.i64.wrap ((pre.length:Int)+1)=(((pre++[e]).length:Nat):Int):=by
    rw [wrapi (by omega) (by omega)];simp
   obtain ⟨a1,a2⟩:=lineF_pl e acc.length
   have w2:=wrapi (z:=(lineF e acc.length).2.1+1) (by omega) (by omega)
   have hlen:=addF_len (s:=e) p3
   by_cases he:(lineF e acc.length).2.2=0
   ·have hst:=fun rest=>rows_step (rest:=rest) (i:=pre.length) he
    rw [he] at n1
    generalize (lineF e acc.length).2.1=a at *
    generalize addF e acc=acc2 at *
    repeat' (first|refine ZG ?_|refine ZF ?_|refine ZJ ?_|refine ZH ?_|refine ZL ?_|refine ZI ?_|refine ZN ?_|refine ZO (fun b=>?_)|refine ZM (fun b=>?_)|refine ZB ?_|refine ZD ?_|refine ZP ?_|refine ZX ?_|refine ZZ ?_|refine Zg ?_|refine ZY ?_|refine ZW ?_|refine Zh (fun b=>?_)|refine Zf (fun b=>?_)|refine Ze ?_|refine ZV ?_|refine ZA (n1) (fun _ _=>?_)|refine l_call0 (n1) (fun _ _=>?_)|refine ZK (n1) (fun _ _=>?_)|refine k_beg ?_|rw [w1]|(refine ZC (fun hc=>?_) (fun hc=>?_)<;>(try simp at hc)<;>(try omega))|(refine ZS (fun hc=>?_) (fun hc=>?_)<;>(try simp at hc)<;>(try omega))|refine ZQ 9 [] [(0,0),(1,0),(2,0),(3,0),(4,4),(5,4),(6,4)] [7] ?_|(refine ZE (fun hc=>?_) (fun hc=>?_)<;>(try simp at hc)<;>(try omega)))
    rename_i q hq
    obtain ⟨xs2,o2,cap2⟩:=q
    dsimp only at hq
    refine Z2 (Lx:=[Pt b2 (.cells #[.pointer (some ⟨br,0,none⟩)] 39),Pt b3 (.cells #[.int .i64 ((pre++[e]).length:Nat)] 3),Pt b4 (.cells #[.int .i64 0] 3),Pt b5 (.cells #[.int .i64 0] 28)]++RlR br xs2 o2 cap2) (r:=PaJ s b2 b3 b4 b5 br (pre++[e]) (acc2,xs2,o2,cap2)) (fun h hh=>⟨⟨fun rest=>(by rw [List.append_assoc,List.singleton_append,p1,hst,List.length_append];rfl),hq,hlen⟩,hh⟩) ?_
    exact k_rnG (acc2,xs2,o2,cap2)
   ·have hbad:=fun rest=>rows_bad (rest:=rest) (i:=pre.length) he
    obtain ⟨rest,hrest⟩:=hpre
    have hx:=p1 (e::rest)
    rw [hbad,show pre++e::rest=linesF s.data.toList by rw [←hrest];simp] at hx
    generalize (lineF e acc.length).2.1=a at *
    generalize (lineF e acc.length).2.2=er at *
    generalize addF e acc=acc2 at *
    have hne:¬er=0:=he
    repeat' (first|refine r_stI ?_|refine ZG ?_|refine ZF ?_|refine ZJ ?_|refine ZH ?_|refine ZL ?_|refine ZI ?_|refine ZN ?_|refine ZO (fun b=>?_)|refine ZM (fun b=>?_)|refine ZB ?_|refine ZD ?_|refine ZP ?_|refine ZX ?_|refine ZZ ?_|refine Zg ?_|refine ZY ?_|refine ZW ?_|refine Zh (fun b=>?_)|refine Zf (fun b=>?_)|refine Ze ?_|refine ZV ?_|refine ZA (n1) (fun _ _=>?_)|refine l_call0 (n1) (fun _ _=>?_)|refine ZK (n1) (fun _ _=>?_)|refine k_beg ?_|rw [w1]|rw [w2]|(refine ZC (fun hc=>?_) (fun hc=>?_)<;>(try simp at hc)<;>(try omega))|(refine ZS (fun hc=>?_) (fun hc=>?_)<;>(try simp at hc)<;>(try omega))|refine ZQ 9 [Pt b2 _,Pt b4 _] [(0,0),(1,0),(2,0),(3,0),(4,4),(5,4),(6,4)] [7] ?_|(refine ZE (fun hc=>?_) (fun hc=>?_)<;>(try simp at hc)<;>(try omega)))
    have e1:((pre.length:Int)+1)=(((pre++[e]).length:Nat):Int):=by simp
    rw [e1] at hx
    refine Z2 (Lx:=[Pt b2 (.cells #[.pointer none] 39),Pt b3 (.cells #[.int .i64 ((pre++[e]).length:Nat)] 3),Pt b4 (.cells #[.int .i64 (a+1)] 3),Pt b5 (.cells #[.int .i64 er] 28)]) (r:=PaX s b2 b3 b4 b5 (pre++[e]) (acc,xs,o,cap)) (fun h hh=>⟨_,hx,hh⟩) ?_
    exact k_rrG (acc,xs,o,cap)
  ·intro D g
   obtain ⟨acc,xs,o,cap⟩:=g
   dsimp only
   refine Yw (X:=Unit) (Lx:=fun _=>[Pt b2 (.cells #[.pointer (some ⟨br,0,none⟩)] 39),Pt b3 (.cells #[.int .i64 ((linesF s.data.toList).length:Nat)] 3),Pt b4 (.cells #[.int .i64 0] 3),Pt b5 (.cells #[.int .i64 0] 28)]++RlR br xs o cap) (p:=fun _=>(∀rest,rowsF (linesF s.data.toList++rest) 0 []=rowsF rest (linesF s.data.toList).length acc)∧xs.length=acc.length∧acc.length≤256) (r:=PaJ s b2 b3 b4 b5 br (linesF s.data.toList) (acc,xs,o,cap)) .here (fun h hh=>⟨(),hh.1,hh.2⟩) (fun _ hpu=>?_)
   obtain ⟨p1,p2,p3⟩:=hpu
   have hRa:=p1 []
   rw [List.append_nil,hR] at hRa
   obtain rfl:R = .ok acc:=hRa
   refine Xg (f:=rul) xs ?_ rfl rfl
   refine Yx (b:=br) ?_
   refine Zs (F1:=[Blk br (.cells #[.slice o xs.length cap] 95),Sl 102 rul o cap xs,RusF acc xs]) (f:=RlsF br acc) (fun hp hF=>⟨xs,o,cap,hF _ (.head _),hF _ (.tail _ (.head _)),hF _ (.tail _ (.tail _ (.head _)))⟩) ?_
   repeat' (first|refine ZG ?_|refine ZF ?_|refine ZJ ?_|refine ZH ?_|refine ZL ?_|refine ZI ?_|refine ZN ?_|refine ZO (fun b=>?_)|refine ZM (fun b=>?_)|refine ZB ?_|refine ZD ?_|refine ZP ?_|refine k_beg ?_|(refine ZC (fun hc=>?_) (fun hc=>?_)<;>(try simp at hc)<;>(try omega))|(refine ZE (fun hc=>?_) (fun hc=>?_)<;>(try simp at hc)<;>(try omega)))
   exact k_retM br rfl trivial
  ·intro D pre g hpre
   refine w_open (X:=Int×Int×Int) (Lx:=fun x=>[Pt b2 (.cells #[.pointer none] 39),Pt b3 (.cells #[.int .i64 x.1] 3),Pt b4 (.cells #[.int .i64 x.2.1] 3),Pt b5 (.cells #[.int .i64 x.2.2] 28)]) (p:=fun x=>rowsF (linesF s.data.toList) 0 [] = .error x) (r:=PaX s b2 b3 b4 b5 pre g) .here (fun h hh=>hh) (fun x hx=>?_)
   obtain rfl:R = .error x:=by rw [←hR,hx]
   exact w_retM () rfl trivial
theorem line_holds (c:Cq) (hc:CqS c) {M:Nat} (hM:M≤100000) (x:Ru) (hx:RuOK M x) (i:Option IV):Enters 46∧Spec prog 46 #[ruV i x.a,cqa c] [OcF x.c i,MxL] [] (RetV (.bool (condH c x))):=by
 obtain ⟨xc,xa⟩:=x
 cases xc with
 | none=>
  cases i with
  | none=>
   refine ZT [_,_] func46 ntmps46 fun G w hp=>?_
   repeat' (first|refine l_eqI underlying100 (.inl ⟨rfl,rfl⟩) ?_|refine ZG ?_|refine ZF ?_|refine ZJ ?_|refine ZH ?_|refine ZL ?_|refine ZI ?_|refine ZN ?_|refine ZO (fun b=>?_)|refine ZM (fun b=>?_)|refine ZB ?_|refine ZD ?_|refine ZP ?_|(refine ZC (fun hc=>?_) (fun hc=>?_)<;>(try simp at hc)<;>(try omega))|(refine ZE (fun hc=>?_) (fun hc=>?_)<;>(try simp at hc)<;>(try omega)))
   exact ZR () rfl trivial
  | some iv=>
   refine ⟨enters_of func46 (by kernel_rfl) rfl,fun G w hp hs=>?_⟩
   obtain ⟨hp',hr,st⟩:=hs
   exact absurd (st.f _ (.head _)) id
 | some d=>
  cases i with
  | none=>
   refine ⟨enters_of func46 (by kernel_rfl) rfl,fun G w hp hs=>?_⟩
   obtain ⟨hp',hr,st⟩:=hs
   exact absurd (st.f _ (.head _)) id
  | some iv=>
   obtain ⟨hw,hz,hv⟩:=hx.c d rfl
   have n1:=Vi c hc hM d hw hz (by omega) (ivOf iv)
   have e:condH c ⟨some d,xa⟩=holF c d:=rfl
   rw [e]
   obtain ⟨R,hR⟩:∃R,holF c d=R:=⟨_,rfl⟩
   rw [hR] at n1 ⊢
   obtain ⟨T,u⟩:=iv
   refine ZT [_,_] func46 ntmps46 fun G w hp=>?_
   refine Zs (F1:=[OcF (some d) (some (T,u))]) (f:=CdF d (ivOf (T,u))) (fun hp hF=>hF _ (.head _)) ?_
   repeat' (first|refine l_eqI underlying100 (.inr ⟨⟨_,_,rfl⟩,rfl⟩) ?_|refine ZG ?_|refine ZF ?_|refine ZJ ?_|refine ZH ?_|refine ZL ?_|refine ZI ?_|refine ZN ?_|refine ZO (fun b=>?_)|refine ZM (fun b=>?_)|refine ZB ?_|refine ZD ?_|refine ZP ?_|refine l_inv n1 (fun _ _=>?_)|(refine ZC (fun hc=>?_) (fun hc=>?_)<;>(try simp at hc)<;>(try omega))|(refine ZE (fun hc=>?_) (fun hc=>?_)<;>(try simp at hc)<;>(try omega)))
   exact ZR () rfl trivial
theorem rls_open {b:Nat} {l:List Ru} (h:H) (hh:(RlsF b l).p h):∃q:List RI×Option Addr×Nat,q.1.length=l.length∧∀g ∈ [Blk b (.cells #[.slice q.2.1 q.1.length q.2.2] 95),Sl 102 rul q.2.1 q.2.2 q.1,RusF l q.1],g.p h:=by
 obtain ⟨xs,o,cap,h1,h2,h3⟩:=hh
 refine ⟨(xs,o,cap),rusP_len h3,fun g hg=>?_⟩
 simp only [List.mem_cons,List.not_mem_nil,or_false] at hg
 rcases hg with rfl|rfl|rfl
 ·exact h1
 ·exact h2
 ·exact h3
theorem Xo (b:Nat) (l:List Ru):Enters 23∧Spec prog 23 #[pv0 b] [RlsF b l] [] (RetV (.int .i64 (l.length:Nat))):=by
 refine ZT [_] func23 ntmps23 fun G w hp=>?_
 refine XD (X:=List RI×Option Addr×Nat) (f:=RlsF b l) .here rls_open (fun q hq=>?_)
 obtain ⟨xs,o,cap⟩:=q
 dsimp only at hq ⊢
 rw [←hq]
 repeat' (first|refine ZG ?_|refine ZF ?_|refine ZJ ?_|refine ZH ?_|refine ZL ?_|refine ZI ?_|refine ZN ?_|refine ZO (fun b=>?_)|refine ZM (fun b=>?_)|refine ZB ?_|refine ZD ?_|refine ZP ?_|(refine ZC (fun hc=>?_) (fun hc=>?_)<;>(try simp at hc)<;>(try omega))|(refine ZE (fun hc=>?_) (fun hc=>?_)<;>(try simp at hc)<;>(try omega)))
 exact ZR () rfl trivial
def hoV (l:List Ru) (i:Int) (c:Cq):Value:=match (if 0≤i then l[i.toNat]? else none) with
 | some x=>.tuple #[.bool (condH c x),.int .i64 0]
 | none=>.tuple #[.bool false,.int .i64 2]
set_option maxHeartbeats 4000000 in
theorem ruHolds_ok (b:Nat) (l:List Ru) (i:Int) (c:Cq) (hs:CqS c) {M:Nat} (hM:M≤100000) (hl:∀x ∈ l,RuOK M x):Enters 25∧Spec prog 25 #[pv0 b,.int .i64 i,cqa c] [RlsF b l,MxL] [] (RetV (hoV l i c)):=by
 have n1:=Xo b l
 obtain ⟨V,hV⟩:∃V,hoV l i c=V:=⟨_,rfl⟩
 rw [hV]
 unfold hoV at hV
 by_cases hi:0≤i∧i<(l.length:Int)
 ·obtain ⟨j,rfl⟩:∃j:Nat,i=(j:Int):=⟨i.toNat,by omega⟩
  have hlt:j<l.length:=by omega
  have hxj:=List.getElem?_eq_getElem hlt
  rw [if_pos (by omega),Int.toNat_natCast,hxj] at hV
  dsimp only at hV
  have hx:=hl _ (List.getElem_mem hlt)
  generalize l[j]=x at *
  subst hV
  refine ZT [_,_,_] func25 ntmps25 fun G w hp=>?_
  refine XD (X:=List RI×Option Addr×Nat) (f:=RlsF b l) .here rls_open (fun q hq=>?_)
  obtain ⟨xs,o,cap⟩:=q
  dsimp only at hq ⊢
  have hyj:=List.getElem?_eq_getElem (show j<xs.length by omega)
  generalize xs[j]=y at *
  obtain ⟨iv,a⟩:=y
  refine XD (X:=Unit) (Fx:=fun _=>[OcF x.c iv]) (p:=fun _=>x.a=a) (f:=RusF l xs) (.there (.there .here)) (fun h hh=>?_) (fun _ ha=>?_)
  ·obtain ⟨g1,g2⟩:=rusP_get (show RusP h l xs from hh) hxj hyj
   exact ⟨(),g2,fun g hg=>by rcases List.mem_singleton.1 hg with rfl;exact g1⟩
  subst ha
  have n2:=line_holds c hs hM x hx iv
  repeat' (first|refine ZG ?_|refine ZF ?_|refine ZJ ?_|refine ZH ?_|refine ZL ?_|refine ZI ?_|refine ZN ?_|refine ZO (fun b=>?_)|refine ZM (fun b=>?_)|refine ZB ?_|refine ZD ?_|refine ZP ?_|refine ZX ?_|refine ZZ ?_|refine Zg ?_|refine ZY ?_|refine ZW ?_|refine Zh (fun b=>?_)|refine Zf (fun b=>?_)|refine Ze ?_|refine ZV ?_|refine ZA (n1) (fun _ _=>?_)|refine l_call0 (n1) (fun _ _=>?_)|refine ZK (n1) (fun _ _=>?_)|refine ZA (n2) (fun _ _=>?_)|refine l_call0 (n2) (fun _ _=>?_)|refine ZK (n2) (fun _ _=>?_)|refine YK (es:=xs) (f:=rul) j _ hyj (fun b off=>?_)|refine YL ?_|(refine ZC (fun hc=>?_) (fun hc=>?_)<;>(try simp at hc)<;>(try omega))|(refine ZS (fun hc=>?_) (fun hc=>?_)<;>(try simp at hc)<;>(try omega))|refine ZQ 3 [] [(0,0),(1,0),(2,0),(3,0),(4,0),(5,0),(6,0),(7,0),(8,4),(9,0),(10,0)] [] ?_|(refine ZE (fun hc=>?_) (fun hc=>?_)<;>(try simp at hc)<;>(try omega)))
  exact ZR () rfl trivial
 ·have hn:(if 0≤i then l[i.toNat]? else none)=none:=by
   split
   ·rw [List.getElem?_eq_none_iff];omega
   ·rfl
  rw [hn] at hV
  dsimp only at hV
  subst hV
  refine ZT [_,_,_] func25 ntmps25 fun G w hp=>?_
  repeat' (first|refine ZG ?_|refine ZF ?_|refine ZJ ?_|refine ZH ?_|refine ZL ?_|refine ZI ?_|refine ZN ?_|refine ZO (fun b=>?_)|refine ZM (fun b=>?_)|refine ZB ?_|refine ZD ?_|refine ZP ?_|refine ZX ?_|refine ZZ ?_|refine Zg ?_|refine ZY ?_|refine ZW ?_|refine Zh (fun b=>?_)|refine Zf (fun b=>?_)|refine Ze ?_|refine ZV ?_|refine ZA (n1) (fun _ _=>?_)|refine l_call0 (n1) (fun _ _=>?_)|refine ZK (n1) (fun _ _=>?_)|(refine ZC (fun hc=>?_) (fun hc=>?_)<;>(try simp at hc)<;>(try omega))|(refine ZS (fun hc=>?_) (fun hc=>?_)<;>(try simp at hc)<;>(try omega))|refine ZQ 3 [] [(0,0),(1,0),(2,0),(3,0),(4,0),(5,0),(6,0),(7,0),(8,4),(9,0),(10,0)] [] ?_|(refine ZE (fun hc=>?_) (fun hc=>?_)<;>(try simp at hc)<;>(try omega)))
  all_goals exact ZR () rfl trivial
abbrev DeV (r:Ac×Int):Value:=.tuple #[acV r.1,.int .i64 r.2]
set_option maxHeartbeats 4000000 in
theorem YY (bp:Nat) (l:List Ru) (c:Cq) (hc:CqI c) (hs:CqS c) {M:Nat} (hM:M≤70000) (hl:∀x ∈ l,RuOK M x) (hn:l.length≤256):Enters 22∧Spec prog 22 #[pv0 bp,cqa c] [RlsF bp l,P10,MxL] [] (RetV (DeV (decideF l c))):=by
 have n1:=Xo bp l
 have m1:=Vl 5 c.kind
 obtain ⟨V,hV⟩:∃V,DeV (decideF l c)=V:=⟨_,rfl⟩
 rw [hV]
 cases hp:posF 5 c.kind with
 | false=>
  rw [hp] at m1
  unfold decideF at hV
  rw [if_pos hp] at hV
  subst hV
  refine ZT [_,_] func22 ntmps22 fun G w hp=>?_
  repeat' (first|refine ZG ?_|refine ZF ?_|refine ZJ ?_|refine ZH ?_|refine ZL ?_|refine ZI ?_|refine ZN ?_|refine ZO (fun b=>?_)|refine ZM (fun b=>?_)|refine ZB ?_|refine ZD ?_|refine ZP ?_|refine ZA (m1) (fun _ _=>?_)|refine l_call0 (m1) (fun _ _=>?_)|(refine ZC (fun hc=>?_) (fun hc=>?_)<;>(try simp at hc)<;>(try omega))|(refine ZE (fun hc=>?_) (fun hc=>?_)<;>(try simp at hc)<;>(try omega)))
  all_goals exact ZR () rfl trivial
 | true=>
  rw [hp] at m1
  unfold decideF at hV
  rw [if_neg (by rw [hp];decide)] at hV
  refine ZT [_,_] func22 ntmps22 fun G w hp=>?_
  refine XD (X:=List RI×Option Addr×Nat) (f:=RlsF bp l) .here rls_open (fun q hq=>?_)
  obtain ⟨xs,o,cap⟩:=q
  dsimp only at hq ⊢
  repeat' (first|refine ZG ?_|refine ZF ?_|refine ZJ ?_|refine ZH ?_|refine ZL ?_|refine ZI ?_|refine ZN ?_|refine ZO (fun b=>?_)|refine ZM (fun b=>?_)|refine ZB ?_|refine ZD ?_|refine ZA (m1) (fun _ _=>?_)|refine l_call0 (m1) (fun _ _=>?_)|refine ZA (n1) (fun _ _=>?_)|refine l_call0 (n1) (fun _ _=>?_)|(refine ZC (fun hc=>?_) (fun hc=>?_)<;>(try simp at hc)<;>(try omega))|(refine ZE (fun hc=>?_) (fun hc=>?_)<;>(try simp at hc)<;>(try omega)))
  rename_i b3 _ _ _ _
  generalize b=b4 at *
  refine YJ (X:={j:Nat // j≤l.length∧DeV (decF c (l.drop j) j)=V}) (fun j=>[(0,pv0 bp),(3,pv0 b3),(4,pv0 b4),(16,.int .i64 (l.length:Int)),(17,.int .i64 (j.1:Int))]) (fun _=>[Blk bp (.cells #[.slice o xs.length cap] 95),Sl 102 rul o cap xs,RusF l xs,P10,MxL]) (fun _=>[Pt b3 (.cells (cqf c).toArray 26),Pt b4 (.cells #[.int .i64 0,.string ⟨#[]⟩] 43)]) (fun j=>l.length - j.1) ⟨0,Nat.zero_le _,hV⟩ ⟨rfl,rfl,rfl,rfl,rfl,trivial⟩ ?_
  rintro ⟨j,hj,hR⟩
  dsimp only at hj hR ⊢
  by_cases hlt:j<l.length
  ·have hxj:=List.getElem?_eq_getElem hlt
   rw [List.drop_eq_getElem_cons hlt] at hR
   have hx:=hl _ (List.getElem_mem hlt)
   generalize l[j]=x at *
   rw [decF] at hR
   have hyj:=List.getElem?_eq_getElem (show j<xs.length by omega)
   generalize xs[j]=y at *
   obtain ⟨iv,a⟩:=y
   have w1:=wrapi (z:=(j:Int)+1) (by omega) (by omega)
   refine XD (X:=Unit) (Fx:=fun _=>[OcF x.c iv]) (p:=fun _=>x.a=a) (f:=RusF l xs) (.there (.there .here)) (fun h hh=>?_) (fun _ ha=>?_)
   ·obtain ⟨g1,g2⟩:=rusP_get (show RusP h l xs from hh) hxj hyj
    exact ⟨(),g2,fun g hg=>by rcases List.mem_singleton.1 hg with rfl;exact g1⟩
   subst ha
   have m2:=Vl x.a.k c.kind
   have m3:=line_holds c hs (show M≤100000 by omega) x hx iv
   have m4:=ruSize_ok x.a.t c (by have:=hx.t;omega) hc (by have:=exp_sz hx.t hs hc;have:(M+1) * (M+5000)≤70001 * 75000:=Nat.mul_le_mul (by omega) (by omega);omega)
   cases hpo:posF x.a.k c.kind with
   | false=>
    rw [if_pos (.inl hpo)] at hR
    rw [hpo] at m2
    rcases iv with _|⟨T,u⟩
    ·repeat' (first|refine ZG ?_|refine ZF ?_|refine ZJ ?_|refine ZH ?_|refine ZL ?_|refine ZI ?_|refine ZN ?_|refine ZO (fun b=>?_)|refine ZM (fun b=>?_)|refine ZB ?_|refine ZD ?_|refine ZA (m2) (fun _ _=>?_)|refine l_call0 (m2) (fun _ _=>?_)|refine ZA (m3) (fun _ _=>?_)|refine l_call0 (m3) (fun _ _=>?_)|refine ZA (m4) (fun _ _=>?_)|refine l_call0 (m4) (fun _ _=>?_)|refine Zj (es:=xs) (f:=rul) j _ hyj (fun b off=>?_)|refine Zi ?_|rw [w1]|(refine ZC (fun hc=>?_) (fun hc=>?_)<;>(try simp at hc)<;>(try omega))|(refine ZE (fun hc=>?_) (fun hc=>?_)<;>(try simp at hc)<;>(try omega)))
     all_goals exact Za ⟨j+1,by show j+1≤l.length;omega,hR⟩ (by show l.length - (j+1)<l.length - j;omega) ⟨rfl,rfl,rfl,rfl,rfl,trivial⟩
    ·repeat' (first|refine ZG ?_|refine ZF ?_|refine ZJ ?_|refine ZH ?_|refine ZL ?_|refine ZI ?_|refine ZN ?_|refine ZO (fun b=>?_)|refine ZM (fun b=>?_)|refine ZB ?_|refine ZD ?_|refine ZA (m2) (fun _ _=>?_)|refine l_call0 (m2) (fun _ _=>?_)|refine ZA (m3) (fun _ _=>?_)|refine l_call0 (m3) (fun _ _=>?_)|refine ZA (m4) (fun _ _=>?_)|refine l_call0 (m4) (fun _ _=>?_)|refine Zj (es:=xs) (f:=rul) j _ hyj (fun b off=>?_)|refine Zi ?_|rw [w1]|(refine ZC (fun hc=>?_) (fun hc=>?_)<;>(try simp at hc)<;>(try omega))|(refine ZE (fun hc=>?_) (fun hc=>?_)<;>(try simp at hc)<;>(try omega)))
     all_goals exact Za ⟨j+1,by show j+1≤l.length;omega,hR⟩ (by show l.length - (j+1)<l.length - j;omega) ⟨rfl,rfl,rfl,rfl,rfl,trivial⟩
   | true=>
    rw [hpo] at m2
    cases hh:condH c x with
    | false=>
     rw [if_pos (.inr hh)] at hR
     rw [hh] at m3
     rcases iv with _|⟨T,u⟩
     ·repeat' (first|refine ZG ?_|refine ZF ?_|refine ZJ ?_|refine ZH ?_|refine ZL ?_|refine ZI ?_|refine ZN ?_|refine ZO (fun b=>?_)|refine ZM (fun b=>?_)|refine ZB ?_|refine ZD ?_|refine ZA (m2) (fun _ _=>?_)|refine l_call0 (m2) (fun _ _=>?_)|refine ZA (m3) (fun _ _=>?_)|refine l_call0 (m3) (fun _ _=>?_)|refine ZA (m4) (fun _ _=>?_)|refine l_call0 (m4) (fun _ _=>?_)|refine Zj (es:=xs) (f:=rul) j _ hyj (fun b off=>?_)|refine Zi ?_|rw [w1]|(refine ZC (fun hc=>?_) (fun hc=>?_)<;>(try simp at hc)<;>(try omega))|(refine ZE (fun hc=>?_) (fun hc=>?_)<;>(try simp at hc)<;>(try omega)))
      all_goals exact Za ⟨j+1,by show j+1≤l.length;omega,hR⟩ (by show l.length - (j+1)<l.length - j;omega) ⟨rfl,rfl,rfl,rfl,rfl,trivial⟩
     ·repeat' (first|refine ZG ?_|refine ZF ?_|refine ZJ ?_|refine ZH ?_|refine ZL ?_|refine ZI ?_|refine ZN ?_|refine ZO (fun b=>?_)|refine ZM (fun b=>?_)|refine ZB ?_|refine ZD ?_|refine ZA (m2) (fun _ _=>?_)|refine l_call0 (m2) (fun _ _=>?_)|refine ZA (m3) (fun _ _=>?_)|refine l_call0 (m3) (fun _ _=>?_)|refine ZA (m4) (fun _ _=>?_)|refine l_call0 (m4) (fun _ _=>?_)|refine Zj (es:=xs) (f:=rul) j _ hyj (fun b off=>?_)|refine Zi ?_|rw [w1]|(refine ZC (fun hc=>?_) (fun hc=>?_)<;>(try simp at hc)<;>(try omega))|(refine ZE (fun hc=>?_) (fun hc=>?_)<;>(try simp at hc)<;>(try omega)))
      all_goals exact Za ⟨j+1,by show j+1≤l.length;omega,hR⟩ (by show l.length - (j+1)<l.length - j;omega) ⟨rfl,rfl,rfl,rfl,rfl,trivial⟩
    | true=>
     rw [if_neg (fun h=>h.elim (fun h=>by rw [hpo] at h;cases h) (fun h=>by rw [hh] at h;cases h))] at hR
     rw [hh] at m3
     by_cases hk:x.a.k=2
     ·rw [if_neg (fun h=>h hk)] at hR
      by_cases hz:4096<(expF x.a.t c).size
      ·rw [if_pos hz] at hR
       subst hR
       rcases iv with _|⟨T,u⟩
       ·repeat' (first|refine ZG ?_|refine ZF ?_|refine ZJ ?_|refine ZH ?_|refine ZL ?_|refine ZI ?_|refine ZN ?_|refine ZO (fun b=>?_)|refine ZM (fun b=>?_)|refine ZB ?_|refine ZD ?_|refine ZP ?_|refine ZA (m2) (fun _ _=>?_)|refine l_call0 (m2) (fun _ _=>?_)|refine ZA (m3) (fun _ _=>?_)|refine l_call0 (m3) (fun _ _=>?_)|refine ZA (m4) (fun _ _=>?_)|refine l_call0 (m4) (fun _ _=>?_)|refine Zj (es:=xs) (f:=rul) j _ hyj (fun b off=>?_)|refine Zi ?_|rw [w1]|(refine ZC (fun hc=>?_) (fun hc=>?_)<;>(try simp at hc)<;>(try omega))|(refine ZE (fun hc=>?_) (fun hc=>?_)<;>(try simp at hc)<;>(try omega)))
        all_goals exact ZR () rfl trivial
       ·repeat' (first|refine ZG ?_|refine ZF ?_|refine ZJ ?_|refine ZH ?_|refine ZL ?_|refine ZI ?_|refine ZN ?_|refine ZO (fun b=>?_)|refine ZM (fun b=>?_)|refine ZB ?_|refine ZD ?_|refine ZP ?_|refine ZA (m2) (fun _ _=>?_)|refine l_call0 (m2) (fun _ _=>?_)|refine ZA (m3) (fun _ _=>?_)|refine l_call0 (m3) (fun _ _=>?_)|refine ZA (m4) (fun _ _=>?_)|refine l_call0 (m4) (fun _ _=>?_)|refine Zj (es:=xs) (f:=rul) j _ hyj (fun b off=>?_)|refine Zi ?_|rw [w1]|(refine ZC (fun hc=>?_) (fun hc=>?_)<;>(try simp at hc)<;>(try omega))|(refine ZE (fun hc=>?_) (fun hc=>?_)<;>(try simp at hc)<;>(try omega)))
        all_goals exact ZR () rfl trivial
      ·rw [if_neg hz] at hR
       have m5:=ruExpand_ok x.a.t c (by have:=hx.t;omega) hc (by omega)
       rw [hx.a.2.2.1 hk] at m5
       have hR':DeV (⟨2,expF x.a.t c⟩,(j:Int))=V:=hR
       subst hR'
       rcases iv with _|⟨T,u⟩
       ·repeat' (first|refine ZG ?_|refine ZF ?_|refine ZJ ?_|refine ZH ?_|refine ZL ?_|refine ZI ?_|refine ZN ?_|refine ZO (fun b=>?_)|refine ZM (fun b=>?_)|refine ZB ?_|refine ZD ?_|refine ZA (m2) (fun _ _=>?_)|refine l_call0 (m2) (fun _ _=>?_)|refine ZA (m3) (fun _ _=>?_)|refine l_call0 (m3) (fun _ _=>?_)|refine ZA (m4) (fun _ _=>?_)|refine l_call0 (m4) (fun _ _=>?_)|refine ZA (m5) (fun _ _=>?_)|refine l_call0 (m5) (fun _ _=>?_)|refine Zj (es:=xs) (f:=rul) j _ hyj (fun b off=>?_)|refine Zi ?_|rw [w1]|(refine ZC (fun hc=>?_) (fun hc=>?_)<;>(try simp at hc)<;>(try omega))|(refine ZE (fun hc=>?_) (fun hc=>?_)<;>(try simp at hc)<;>(try omega)))
        all_goals exact Zq (Zr (Zk () rfl trivial))
       ·repeat' (first|refine ZG ?_|refine ZF ?_|refine ZJ ?_|refine ZH ?_|refine ZL ?_|refine ZI ?_|refine ZN ?_|refine ZO (fun b=>?_)|refine ZM (fun b=>?_)|refine ZB ?_|refine ZD ?_|refine ZA (m2) (fun _ _=>?_)|refine l_call0 (m2) (fun _ _=>?_)|refine ZA (m3) (fun _ _=>?_)|refine l_call0 (m3) (fun _ _=>?_)|refine ZA (m4) (fun _ _=>?_)|refine l_call0 (m4) (fun _ _=>?_)|refine ZA (m5) (fun _ _=>?_)|refine l_call0 (m5) (fun _ _=>?_)|refine Zj (es:=xs) (f:=rul) j _ hyj (fun b off=>?_)|refine Zi ?_|rw [w1]|(refine ZC (fun hc=>?_) (fun hc=>?_)<;>(try simp at hc)<;>(try omega))|(refine ZE (fun hc=>?_) (fun hc=>?_)<;>(try simp at hc)<;>(try omega)))
        all_goals exact Zq (Zr (Zk () rfl trivial))
     ·rw [if_pos hk] at hR
      subst hR
      rcases iv with _|⟨T,u⟩
      ·repeat' (first|refine ZG ?_|refine ZF ?_|refine ZJ ?_|refine ZH ?_|refine ZL ?_|refine ZI ?_|refine ZN ?_|refine ZO (fun b=>?_)|refine ZM (fun b=>?_)|refine ZB ?_|refine ZD ?_|refine ZA (m2) (fun _ _=>?_)|refine l_call0 (m2) (fun _ _=>?_)|refine ZA (m3) (fun _ _=>?_)|refine l_call0 (m3) (fun _ _=>?_)|refine ZA (m4) (fun _ _=>?_)|refine l_call0 (m4) (fun _ _=>?_)|refine Zj (es:=xs) (f:=rul) j _ hyj (fun b off=>?_)|refine Zi ?_|rw [w1]|(refine ZC (fun hc=>?_) (fun hc=>?_)<;>(try simp at hc)<;>(try omega))|(refine ZE (fun hc=>?_) (fun hc=>?_)<;>(try simp at hc)<;>(try omega)))
       all_goals exact Zq (Zr (Zk () rfl trivial))
      ·repeat' (first|refine ZG ?_|refine ZF ?_|refine ZJ ?_|refine ZH ?_|refine ZL ?_|refine ZI ?_|refine ZN ?_|refine ZO (fun b=>?_)|refine ZM (fun b=>?_)|refine ZB ?_|refine ZD ?_|refine ZA (m2) (fun _ _=>?_)|refine l_call0 (m2) (fun _ _=>?_)|refine ZA (m3) (fun _ _=>?_)|refine l_call0 (m3) (fun _ _=>?_)|refine ZA (m4) (fun _ _=>?_)|refine l_call0 (m4) (fun _ _=>?_)|refine Zj (es:=xs) (f:=rul) j _ hyj (fun b off=>?_)|refine Zi ?_|rw [w1]|(refine ZC (fun hc=>?_) (fun hc=>?_)<;>(try simp at hc)<;>(try omega))|(refine ZE (fun hc=>?_) (fun hc=>?_)<;>(try simp at hc)<;>(try omega)))
       all_goals exact Zq (Zr (Zk () rfl trivial))
  ·rw [List.drop_eq_nil_of_le (by omega)] at hR
   subst hR
   repeat' (first|refine ZG ?_|refine ZF ?_|refine ZJ ?_|refine ZH ?_|refine ZL ?_|refine ZI ?_|refine ZN ?_|refine ZO (fun b=>?_)|refine ZM (fun b=>?_)|refine ZB ?_|refine ZD ?_|refine ZP ?_|(refine ZC (fun hc=>?_) (fun hc=>?_)<;>(try simp at hc)<;>(try omega))|(refine ZE (fun hc=>?_) (fun hc=>?_)<;>(try simp at hc)<;>(try omega)))
   exact ZR () rfl trivial
def eqA:List Nat:=[43]
theorem eqA_ok:eqA.all chkE=true:=by decide +kernel
section
variable {L L':List (Nat×Nat)} {Tl:List Nat} {t2:TypeId} {xs ys:Array Value}
theorem l_seqA {b:Bool} (nx:Wl n C ops.toArray k Q l ((d,.bool b)::E) F R) (hw:wantL ops E ⟨some d,.binOp .eql t x y t2,ty0,pos,aft,gd⟩=some true:=by rfl) (hn:Nat.blt d n=true:=by rfl)
  (hx:ev E x=some (.agg xs):=by rfl) (hy:ev E y=some (.agg ys):=by rfl) (hm:memN eqA t=true:=by rfl) (he:eqC eqA 20 t (.agg xs) (.agg ys)=some b:=by rfl):Wl n C ops.toArray k Q (⟨some d,.binOp .eql t x y t2,ty0,pos,aft,gd⟩::l) E F R:=
 l_q (fun a w ha=>by
  have hc:=List.all_eq_true.1 eqA_ok t (memN_mem hm)
  simp only [chkE,Bool.and_eq_true,beq_iff_eq] at hc
  have h1:=eqC_ok eqA_ok 20 10000 t _ _ b w (by omega) he
  simp only [execOp,ha.ev (x:=x) (by rw [ZU];exact hx),ha.ev (x:=y) (by rw [ZU];exact hy),Sem.run_bind,run_eqGuard_agg w .eql t x y xs ys hc.2,Result.andThen,run_eql_struct,h1,Sem.run_pure]) nx (by intro c h;cases h) hw hn
end
theorem kc_i:CqI kc1∧CqI kc2∧CqI kc3:=by refine ⟨?_,?_,?_⟩<;>constructor<;>decide
theorem kc_s:CqS kc1∧CqS kc2∧CqS kc3:=by refine ⟨?_,?_,?_⟩<;>constructor<;>decide
set_option maxHeartbeats 4000000 in
theorem Ww:Enters 17∧Spec prog 17 #[] [ErA,P10,MxL] [] (RetV (.bool true)):=by
 have n1:=Y3 knS (by decide)
 rw [kn_par] at n1
 obtain ⟨h1,h2⟩:=par_ok kn_par
 have hz:knS.size≤70000:=by decide
 have d1:=fun b=>YY b knL kc1 kc_i.1 kc_s.1 hz h2 h1
 have d2:=fun b=>YY b knL kc2 kc_i.2.1 kc_s.2.1 hz h2 h1
 have d3:=fun b=>YY b knL kc3 kc_i.2.2 kc_s.2.2 hz h2 h1
 rw [kn_1] at d1;rw [kn_2] at d2;rw [kn_3] at d3
 have l1:=fun b=>Xo b knL
 rw [show knL.length=3 from rfl] at l1
 generalize knL=l at *
 have bX:(knX.toList == (⟨#[80,108,101,97,115,101,32,105,103,110,111,114,101,32,116,104,101,32,109,97,105,108,32,116,111,32,97,64,98,46]⟩:ByteArray).toList)=true:=beqT rfl
 refine ZT [] func17 ntmps17 fun G w hp=>?_
 repeat' (first|rw [bX]|refine ZG ?_|refine ZF ?_|refine ZJ ?_|refine ZH ?_|refine ZL ?_|refine ZI ?_|refine ZN ?_|refine ZO (fun b=>?_)|refine ZM (fun b=>?_)|refine ZB ?_|refine ZD ?_|refine ZP ?_|refine ZA (n1) (fun _ _=>?_)|refine l_call0 (n1) (fun _ _=>?_)|refine ZA (l1 _) (fun _ _=>?_)|refine l_call0 (l1 _) (fun _ _=>?_)|refine ZA (d1 _) (fun _ _=>?_)|refine l_call0 (d1 _) (fun _ _=>?_)|refine ZA (d2 _) (fun _ _=>?_)|refine l_call0 (d2 _) (fun _ _=>?_)|refine ZA (d3 _) (fun _ _=>?_)|refine l_call0 (d3 _) (fun _ _=>?_)|refine l_seqA ?_|(refine ZC (fun hc=>?_) (fun hc=>?_)<;>(try simp at hc)<;>(try omega))|(refine ZE (fun hc=>?_) (fun hc=>?_)<;>(try simp at hc)<;>(try omega)))
 all_goals exact ZR () rfl trivial
def SzR (x:RuM):Prop:=∀t,x.c=some t→SzT t
theorem rule_szM {m:Mq} (h:OkQ m):SzR (ruleM m).1:=by
 rw [ruleM_eq]
 intro t ht
 dsimp only at ht
 split at ht
 ·obtain rfl:=Option.some.inj ht
  exact ((szM_all _).2.2.2.1 m.pass).2 (h.sf (.pass m))
 ·cases ht
theorem line_szM {s:List UInt8} {n:Nat} {x:RuM} {y:Int×Int} (hs:s.length≤100000) (h:lineM s n=(some x,y)):SzR x:=by
 have hl:=scan_lok hs
 unfold lineM at h
 dsimp only at h
 generalize scanF (s.length+1) s 0 []=r at *
 split at h
 ·cases h
 ·split at h
  ·cases h
  ·split at h
   ·cases h
   ·split at h
    ·cases h
    ·obtain ⟨h1,_⟩:=Prod.mk.inj h
     rw [←Option.some.inj h1]
     exact rule_szM ⟨fun t ht=>(hl.1 t ht).2,hl.2.1⟩
theorem rows_szM:∀(l:List (List UInt8)) (i:Nat) (acc:List RuM),(∀e ∈ l,e.length≤100000)→(∀x ∈ acc,SzR x)→∀r,rowsM l i acc = .ok r→∀x ∈ r,SzR x
 | [],_,acc,_,h,r,hr=>by cases hr;exact h
 | s::l,i,acc,hl,h,r,hr=>by
  unfold rowsM at hr
  split at hr
  ·rename_i x a e hx
   refine rows_szM l (i+1) _ (fun e he=>hl e (.tail _ he)) (fun z hz=>?_) r hr
   rcases List.mem_append.1 hz with hz|hz
   ·exact h z hz
   ·rcases List.mem_singleton.1 hz with rfl
    exact line_szM (hl s (.head _)) hx
  ·split at hr
   ·exact rows_szM l (i+1) acc (fun e he=>hl e (.tail _ he)) h r hr
   ·cases hr
theorem par_both (s:ByteArray):(∃k:List RuM,parM s = .ok k∧parF s = .ok (k.map ruC)∧(∀x ∈ k,WfR x∧SzR x)∧(k.map ruC).length≤256∧∀x ∈ k.map ruC,RuOK s.size x)∨∃x,parM s = .error x∧parF s = .error x∧x.2.2≠0:=by
 have h:=par_sim s
 cases hf:parF s with
 | error x=>
  rw [hf] at h
  cases hm:parM s with
  | error y=>
   rw [hm] at h
   obtain rfl:x=y:=h
   exact .inr ⟨x,rfl,rfl,par_err hf⟩
  | ok k=>rw [hm] at h;exact absurd h id
 | ok a=>
  rw [hf] at h
  obtain ⟨p1,p2⟩:=par_ok hf
  cases hm:parM s with
  | error y=>rw [hm] at h;exact absurd h id
  | ok k=>
   rw [hm] at h
   obtain ⟨rfl,h2⟩:=h
   refine .inl ⟨k,rfl,rfl,fun x hx=>⟨h2 x hx,?_⟩,p1,p2⟩
   unfold parM at hm
   split at hm
   ·cases hm
   ·rename_i hz
    obtain ⟨_,l2⟩:=Wb s.data.toList
    exact rows_szM _ 0 [] (fun e he=>by have:=l2 e he;have:=lsz s;omega) (fun x hx=>by cases hx) k hm x hx
def LnX (t:Option Tr5) (p:Option Addr) (q:Nat×TC):Prop:=match t with
 | none=>p=none
 | some _=>p=some ⟨q.1,0,none⟩
def LnY (t:Option Tr5) (q:Nat×TC):List Pf:=match t with
 | none=>[]
 | some t=>[Blk q.1 (.cells (tcf q.2).toArray 65),TcF t q.2]
theorem ln_open {l:List RuM} {vs:List LC} {i:Nat} {x:RuM} {v:LC} (h1:l[i]? = some x) (h2:vs[i]? = some v) (h:H) (hh:(LnsF l vs).p h):∃q:Nat×TC,(LnX x.c v.p q∧v.k=x.a.k∧v.t=x.a.t)∧∀g ∈ LnY x.c q,g.p h:=by
 obtain ⟨g1,g2,g3⟩:=lnsP_get (show LnsP h l vs from hh) h1 h2
 obtain ⟨xc,xa⟩:=x
 dsimp only at g1 g2 g3 ⊢
 cases xc with
 | none=>exact ⟨(0,⟨eB,none,0,0,eB,eB,0⟩),⟨g3,g1,g2⟩,fun g hg=>by cases hg⟩
 | some t=>
  obtain ⟨b,tc,e1,e2,e3⟩:=g3
  exact ⟨(b,tc),⟨e1,g1,g2⟩,fun g hg=>by
   have hg:g ∈ [Blk b (.cells (tcf tc).toArray 65),TcF t tc]:=hg
   simp only [List.mem_cons,List.not_mem_nil,or_false] at hg
   rcases hg with rfl|rfl
   ·exact e2
   ·exact e3⟩
theorem condH_ru (c:Cq) (x:RuM) (hw:WfR x):condH c (ruC x)=match x.c with
  | none=>true
  | some t=>holM c t:=by
 obtain ⟨xc,xa⟩:=x
 cases xc with
 | none=>rfl
 | some t=>exact VB c t (hw t rfl)
set_option maxHeartbeats 8000000 in
theorem mpDecide_ok (l:List RuM) (vs:List LC) (hlen:vs.length=l.length) (o:Option Addr) (cap:Nat) (c:Cq) (hj:CqJ c) (hs:CqS c) {M:Nat} (hM:M≤70000) (hl:∀x ∈ l,WfR x∧SzR x) (hl2:∀x ∈ l.map ruC,RuOK M x) (hn:l.length≤256):Enters 28∧Spec prog 28 #[.slice o vs.length cap,cqa c] [lnS o cap vs,LnsF l vs,MxL] [] (RetV (DeV (decideF (l.map ruC) c))):=by
 obtain ⟨V,hV⟩:∃V,DeV (decideF (l.map ruC) c)=V:=⟨_,rfl⟩
 rw [hV]
 have i5:=pos_iff 5 c.kind
 cases hp:posF 5 c.kind with
 | false=>
  have hk:¬(2≤c.kind∧c.kind≤4):=fun h=>by
   have:=i5.2 (by omega)
   rw [hp] at this;cases this
  unfold decideF at hV
  rw [if_pos hp] at hV
  subst hV
  refine ZT [_,_] func28 ntmps28 fun G w hp=>?_
  repeat' (first|refine ZG ?_|refine ZF ?_|refine ZJ ?_|refine ZH ?_|refine ZL ?_|refine ZI ?_|refine ZN ?_|refine ZO (fun b=>?_)|refine ZM (fun b=>?_)|refine ZB ?_|refine ZD ?_|refine ZP ?_|(refine ZC (fun hc=>?_) (fun hc=>?_)<;>(try simp at hc)<;>(try omega))|(refine ZE (fun hc=>?_) (fun hc=>?_)<;>(try simp at hc)<;>(try omega)))
  all_goals exact ZR () rfl trivial
 | true=>
  have hk:=i5.1 hp
  have hk1:2≤c.kind:=by omega
  have hk2:c.kind≤4:=by omega
  unfold decideF at hV
  rw [if_neg (by rw [hp];decide)] at hV
  refine ZT [_,_] func28 ntmps28 fun G w hp=>?_
  repeat' (first|refine ZG ?_|refine ZF ?_|refine ZJ ?_|refine ZH ?_|refine ZL ?_|refine ZI ?_|refine ZN ?_|refine ZO (fun b=>?_)|refine ZM (fun b=>?_)|refine ZB ?_|refine ZD ?_|(refine ZC (fun hc=>?_) (fun hc=>?_)<;>(try simp at hc)<;>(try omega))|(refine ZE (fun hc=>?_) (fun hc=>?_)<;>(try simp at hc)<;>(try omega)))
  rename_i b3 _
  generalize b=b4 at *
  refine YJ (X:={j:Nat // j≤l.length∧DeV (decF c ((l.drop j).map ruC) j)=V}) (fun j=>[(0,.slice o vs.length cap),(3,pv0 b3),(4,pv0 b4),(6,.int .i64 (j.1:Int))]) (fun _=>[lnS o cap vs,LnsF l vs,MxL]) (fun _=>[Pt b3 (.cells (cqf c).toArray 26),Pt b4 (.cells #[.int .i64 0,.string ⟨#[]⟩] 43)]) (fun j=>l.length - j.1) ⟨0,Nat.zero_le _,hV⟩ ⟨rfl,rfl,rfl,rfl,trivial⟩ ?_
  rintro ⟨j,hj0,hR⟩
  dsimp only at hj0 hR ⊢
  by_cases hlt:j<l.length
  ·have hxj:=List.getElem?_eq_getElem hlt
   rw [List.drop_eq_getElem_cons hlt] at hR
   obtain ⟨hxw,hxs⟩:=hl _ (List.getElem_mem hlt)
   have hx:=hl2 _ (List.mem_map.2 ⟨_,List.getElem_mem hlt,rfl⟩)
   generalize l[j]=x at *
   rw [List.map_cons,decF] at hR
   have hyj:=List.getElem?_eq_getElem (show j<vs.length by omega)
   generalize vs[j]=y at *
   have w1:=wrapi (z:=(j:Int)+1) (by omega) (by omega)
   have hjv:(j:Int)<(vs.length:Int):=by omega
   have hcd:=condH_ru c x hxw
   refine XD (f:=LnsF l vs) (.there .here) (fun h hh=>ln_open hxj hyj h hh) (fun q hq=>?_)
   obtain ⟨hq1,hq2,hq3⟩:=hq
   obtain ⟨yp,yk,yt⟩:=y
   obtain ⟨bt,tc⟩:=q
   obtain ⟨xc,xk,xt⟩:=x
   dsimp only at hq1 hq2 hq3 hcd ⊢
   subst hq2;subst hq3
   have m2:=W4 yk c.kind
   have eR:ruC ⟨xc,⟨yk,yt⟩⟩=⟨xc.map toC,⟨yk,yt⟩⟩:=rfl
   rw [eR] at hR hcd hx
   dsimp only at hR
   have hxt:yt.size≤M:=hx.t
   cases xc with
   | none=>
    have hq1:yp=none:=hq1
    subst hq1
    cases hpo:posF yk c.kind with
    | false=>
     rw [hpo] at m2
     rw [if_pos (.inl hpo)] at hR
     repeat' (first|refine ZG ?_|refine ZF ?_|refine ZJ ?_|refine ZH ?_|refine ZL ?_|refine ZI ?_|refine ZN ?_|refine ZO (fun b=>?_)|refine ZM (fun b=>?_)|refine ZB ?_|refine ZD ?_|refine ZX ?_|refine ZZ ?_|refine Zg ?_|refine ZY ?_|refine ZW ?_|refine Zh (fun b=>?_)|refine Zf (fun b=>?_)|refine Ze ?_|refine ZV ?_|refine ZA (m2) (fun _ _=>?_)|refine l_call0 (m2) (fun _ _=>?_)|refine ZK (m2) (fun _ _=>?_)|refine Zj (es:=vs) (f:=lnf) j _ hyj (fun b off=>?_)|refine Zi ?_|refine YK (es:=vs) (f:=lnf) j _ hyj (fun b off=>?_)|refine YL ?_|rw [w1]|(refine ZC (fun hc=>?_) (fun hc=>?_)<;>(try simp at hc)<;>(try omega))|(refine ZS (fun hc=>?_) (fun hc=>?_)<;>(try simp at hc)<;>(try omega))|refine ZQ 7 [] [(0,0),(1,0),(2,0),(3,0),(4,4),(5,0),(6,0),(7,0),(8,0),(9,0),(10,0),(11,0),(12,0),(13,0),(14,0),(15,0),(16,0),(17,0),(18,0),(19,0),(20,0),(21,0),(22,4),(23,0),(24,0),(25,0)] [] ?_|(refine ZE (fun hc=>?_) (fun hc=>?_)<;>(try simp at hc)<;>(try omega)))
     all_goals exact Za ⟨j+1,by show j+1≤l.length;omega,hR⟩ (by show l.length - (j+1)<l.length - j;omega) ⟨rfl,rfl,rfl,rfl,trivial⟩
    | true=>
     rw [hpo] at m2
     rw [if_neg (fun h=>h.elim (fun h=>by rw [hpo] at h;cases h) (fun h=>by have h2:=h.symm.trans hcd;cases h2))] at hR
     by_cases hk:yk=2
     ·subst hk
      rw [if_neg (fun h=>h rfl)] at hR
      have htm:tmF yt.data.toList 0 0=none:=by rw [←(Xe yt c).1];exact hx.a.2.2.1 rfl
      have m5:=X3 yt (by omega) c hj hs htm
      have e5:ofL (exF c yt.data.toList 0)=expF yt c:=YH (by rw [Z8,(Xe yt c).2 htm])
      rw [e5] at m5
      generalize expF yt c=X at *
      by_cases hz:4096<X.size
      ·rw [if_pos hz] at hR
       subst hR
       repeat' (first|refine ZG ?_|refine ZF ?_|refine ZJ ?_|refine ZH ?_|refine ZL ?_|refine ZI ?_|refine ZN ?_|refine ZO (fun b=>?_)|refine ZM (fun b=>?_)|refine ZB ?_|refine ZD ?_|refine ZP ?_|refine ZX ?_|refine ZZ ?_|refine Zg ?_|refine ZY ?_|refine ZW ?_|refine Zh (fun b=>?_)|refine Zf (fun b=>?_)|refine Ze ?_|refine ZV ?_|refine ZA (m2) (fun _ _=>?_)|refine l_call0 (m2) (fun _ _=>?_)|refine ZK (m2) (fun _ _=>?_)|refine ZA (m5) (fun _ _=>?_)|refine l_call0 (m5) (fun _ _=>?_)|refine ZK (m5) (fun _ _=>?_)|refine Zj (es:=vs) (f:=lnf) j _ hyj (fun b off=>?_)|refine Zi ?_|refine YK (es:=vs) (f:=lnf) j _ hyj (fun b off=>?_)|refine YL ?_|rw [w1]|(refine ZC (fun hc=>?_) (fun hc=>?_)<;>(try simp at hc)<;>(try omega))|(refine ZS (fun hc=>?_) (fun hc=>?_)<;>(try simp at hc)<;>(try omega))|refine ZQ 7 [] [(0,0),(1,0),(2,0),(3,0),(4,4),(5,0),(6,0),(7,0),(8,0),(9,0),(10,0),(11,0),(12,0),(13,0),(14,0),(15,0),(16,0),(17,0),(18,0),(19,0),(20,0),(21,0),(22,4),(23,0),(24,0),(25,0)] [] ?_|(refine ZE (fun hc=>?_) (fun hc=>?_)<;>(try simp at hc)<;>(try omega)))
       all_goals exact ZR () rfl trivial
      ·rw [if_neg hz] at hR
       subst hR
       repeat' (first|refine ZG ?_|refine ZF ?_|refine ZJ ?_|refine ZH ?_|refine ZL ?_|refine ZI ?_|refine ZN ?_|refine ZO (fun b=>?_)|refine ZM (fun b=>?_)|refine ZB ?_|refine ZD ?_|refine ZX ?_|refine ZZ ?_|refine Zg ?_|refine ZY ?_|refine ZW ?_|refine Zh (fun b=>?_)|refine Zf (fun b=>?_)|refine Ze ?_|refine ZV ?_|refine ZA (m2) (fun _ _=>?_)|refine l_call0 (m2) (fun _ _=>?_)|refine ZK (m2) (fun _ _=>?_)|refine ZA (m5) (fun _ _=>?_)|refine l_call0 (m5) (fun _ _=>?_)|refine ZK (m5) (fun _ _=>?_)|refine Zj (es:=vs) (f:=lnf) j _ hyj (fun b off=>?_)|refine Zi ?_|refine YK (es:=vs) (f:=lnf) j _ hyj (fun b off=>?_)|refine YL ?_|rw [w1]|(refine ZC (fun hc=>?_) (fun hc=>?_)<;>(try simp at hc)<;>(try omega))|(refine ZS (fun hc=>?_) (fun hc=>?_)<;>(try simp at hc)<;>(try omega))|refine ZQ 7 [] [(0,0),(1,0),(2,0),(3,0),(4,4),(5,0),(6,0),(7,0),(8,0),(9,0),(10,0),(11,0),(12,0),(13,0),(14,0),(15,0),(16,0),(17,0),(18,0),(19,0),(20,0),(21,0),(22,4),(23,0),(24,0),(25,0)] [] ?_|(refine ZE (fun hc=>?_) (fun hc=>?_)<;>(try simp at hc)<;>(try omega)))
       all_goals exact Zq (Zr (Zk () rfl trivial))
     ·rw [if_pos hk] at hR
      subst hR
      repeat' (first|refine ZG ?_|refine ZF ?_|refine ZJ ?_|refine ZH ?_|refine ZL ?_|refine ZI ?_|refine ZN ?_|refine ZO (fun b=>?_)|refine ZM (fun b=>?_)|refine ZB ?_|refine ZD ?_|refine ZX ?_|refine ZZ ?_|refine Zg ?_|refine ZY ?_|refine ZW ?_|refine Zh (fun b=>?_)|refine Zf (fun b=>?_)|refine Ze ?_|refine ZV ?_|refine ZA (m2) (fun _ _=>?_)|refine l_call0 (m2) (fun _ _=>?_)|refine ZK (m2) (fun _ _=>?_)|refine Zj (es:=vs) (f:=lnf) j _ hyj (fun b off=>?_)|refine Zi ?_|refine YK (es:=vs) (f:=lnf) j _ hyj (fun b off=>?_)|refine YL ?_|rw [w1]|(refine ZC (fun hc=>?_) (fun hc=>?_)<;>(try simp at hc)<;>(try omega))|(refine ZS (fun hc=>?_) (fun hc=>?_)<;>(try simp at hc)<;>(try omega))|refine ZQ 7 [] [(0,0),(1,0),(2,0),(3,0),(4,4),(5,0),(6,0),(7,0),(8,0),(9,0),(10,0),(11,0),(12,0),(13,0),(14,0),(15,0),(16,0),(17,0),(18,0),(19,0),(20,0),(21,0),(22,4),(23,0),(24,0),(25,0)] [] ?_|(refine ZE (fun hc=>?_) (fun hc=>?_)<;>(try simp at hc)<;>(try omega)))
      all_goals exact Zq (Zr (Zk () rfl trivial))
   | some t=>
    have hq1:yp=some ⟨bt,0,none⟩:=hq1
    subst hq1
    have m3:=Xy c hs t (hxw t rfl) (hxs t rfl) tc
    have hcd:condH c ⟨some (toC t),⟨yk,yt⟩⟩=holM c t:=hcd
    cases hpo:posF yk c.kind with
    | false=>
     rw [hpo] at m2
     rw [if_pos (.inl hpo)] at hR
     repeat' (first|refine ZG ?_|refine ZF ?_|refine ZJ ?_|refine ZH ?_|refine ZL ?_|refine ZI ?_|refine ZN ?_|refine ZO (fun b=>?_)|refine ZM (fun b=>?_)|refine ZB ?_|refine ZD ?_|refine ZX ?_|refine ZZ ?_|refine Zg ?_|refine ZY ?_|refine ZW ?_|refine Zh (fun b=>?_)|refine Zf (fun b=>?_)|refine Ze ?_|refine ZV ?_|refine ZA (m2) (fun _ _=>?_)|refine l_call0 (m2) (fun _ _=>?_)|refine ZK (m2) (fun _ _=>?_)|refine ZA (m3) (fun _ _=>?_)|refine l_call0 (m3) (fun _ _=>?_)|refine ZK (m3) (fun _ _=>?_)|refine Zj (es:=vs) (f:=lnf) j _ hyj (fun b off=>?_)|refine Zi ?_|refine YK (es:=vs) (f:=lnf) j _ hyj (fun b off=>?_)|refine YL ?_|rw [w1]|(refine ZC (fun hc=>?_) (fun hc=>?_)<;>(try simp at hc)<;>(try omega))|(refine ZS (fun hc=>?_) (fun hc=>?_)<;>(try simp at hc)<;>(try omega))|refine ZQ 7 [] [(0,0),(1,0),(2,0),(3,0),(4,4),(5,0),(6,0),(7,0),(8,0),(9,0),(10,0),(11,0),(12,0),(13,0),(14,0),(15,0),(16,0),(17,0),(18,0),(19,0),(20,0),(21,0),(22,4),(23,0),(24,0),(25,0)] [] ?_|(refine ZE (fun hc=>?_) (fun hc=>?_)<;>(try simp at hc)<;>(try omega)))
     all_goals exact Za ⟨j+1,by show j+1≤l.length;omega,hR⟩ (by show l.length - (j+1)<l.length - j;omega) ⟨rfl,rfl,rfl,rfl,trivial⟩
    | true=>
     rw [hpo] at m2
     rw [←hcd] at m3
     cases hcd:condH c ⟨some (toC t),⟨yk,yt⟩⟩ with
     | false=>
      rw [hcd] at m3
      rw [if_pos (.inr hcd)] at hR
      repeat' (first|refine ZG ?_|refine ZF ?_|refine ZJ ?_|refine ZH ?_|refine ZL ?_|refine ZI ?_|refine ZN ?_|refine ZO (fun b=>?_)|refine ZM (fun b=>?_)|refine ZB ?_|refine ZD ?_|refine ZX ?_|refine ZZ ?_|refine Zg ?_|refine ZY ?_|refine ZW ?_|refine Zh (fun b=>?_)|refine Zf (fun b=>?_)|refine Ze ?_|refine ZV ?_|refine ZA (m2) (fun _ _=>?_)|refine l_call0 (m2) (fun _ _=>?_)|refine ZK (m2) (fun _ _=>?_)|refine ZA (m3) (fun _ _=>?_)|refine l_call0 (m3) (fun _ _=>?_)|refine ZK (m3) (fun _ _=>?_)|refine Zj (es:=vs) (f:=lnf) j _ hyj (fun b off=>?_)|refine Zi ?_|refine YK (es:=vs) (f:=lnf) j _ hyj (fun b off=>?_)|refine YL ?_|rw [w1]|(refine ZC (fun hc=>?_) (fun hc=>?_)<;>(try simp at hc)<;>(try omega))|(refine ZS (fun hc=>?_) (fun hc=>?_)<;>(try simp at hc)<;>(try omega))|refine ZQ 7 [] [(0,0),(1,0),(2,0),(3,0),(4,4),(5,0),(6,0),(7,0),(8,0),(9,0),(10,0),(11,0),(12,0),(13,0),(14,0),(15,0),(16,0),(17,0),(18,0),(19,0),(20,0),(21,0),(22,4),(23,0),(24,0),(25,0)] [] ?_|(refine ZE (fun hc=>?_) (fun hc=>?_)<;>(try simp at hc)<;>(try omega)))
      all_goals exact Za ⟨j+1,by show j+1≤l.length;omega,hR⟩ (by show l.length - (j+1)<l.length - j;omega) ⟨rfl,rfl,rfl,rfl,trivial⟩
     | true=>
      rw [hcd] at m3
      rw [if_neg (fun h=>h.elim (fun h=>by rw [hpo] at h;cases h) (fun h=>by have h2:=h.symm.trans hcd;cases h2))] at hR
      by_cases hk:yk=2
      ·subst hk
       rw [if_neg (fun h=>h rfl)] at hR
       have htm:tmF yt.data.toList 0 0=none:=by rw [←(Xe yt c).1];exact hx.a.2.2.1 rfl
       have m5:=X3 yt (by omega) c hj hs htm
       have e5:ofL (exF c yt.data.toList 0)=expF yt c:=YH (by rw [Z8,(Xe yt c).2 htm])
       rw [e5] at m5
       generalize expF yt c=X at *
       by_cases hz:4096<X.size
       ·rw [if_pos hz] at hR
        subst hR
        repeat' (first|refine ZG ?_|refine ZF ?_|refine ZJ ?_|refine ZH ?_|refine ZL ?_|refine ZI ?_|refine ZN ?_|refine ZO (fun b=>?_)|refine ZM (fun b=>?_)|refine ZB ?_|refine ZD ?_|refine ZP ?_|refine ZX ?_|refine ZZ ?_|refine Zg ?_|refine ZY ?_|refine ZW ?_|refine Zh (fun b=>?_)|refine Zf (fun b=>?_)|refine Ze ?_|refine ZV ?_|refine ZA (m2) (fun _ _=>?_)|refine l_call0 (m2) (fun _ _=>?_)|refine ZK (m2) (fun _ _=>?_)|refine ZA (m3) (fun _ _=>?_)|refine l_call0 (m3) (fun _ _=>?_)|refine ZK (m3) (fun _ _=>?_)|refine ZA (m5) (fun _ _=>?_)|refine l_call0 (m5) (fun _ _=>?_)|refine ZK (m5) (fun _ _=>?_)|refine Zj (es:=vs) (f:=lnf) j _ hyj (fun b off=>?_)|refine Zi ?_|refine YK (es:=vs) (f:=lnf) j _ hyj (fun b off=>?_)|refine YL ?_|rw [w1]|(refine ZC (fun hc=>?_) (fun hc=>?_)<;>(try simp at hc)<;>(try omega))|(refine ZS (fun hc=>?_) (fun hc=>?_)<;>(try simp at hc)<;>(try omega))|refine ZQ 7 [] [(0,0),(1,0),(2,0),(3,0),(4,4),(5,0),(6,0),(7,0),(8,0),(9,0),(10,0),(11,0),(12,0),(13,0),(14,0),(15,0),(16,0),(17,0),(18,0),(19,0),(20,0),(21,0),(22,4),(23,0),(24,0),(25,0)] [] ?_|(refine ZE (fun hc=>?_) (fun hc=>?_)<;>(try simp at hc)<;>(try omega)))
        all_goals exact ZR () rfl trivial
       ·rw [if_neg hz] at hR
        subst hR
        repeat' (first|refine ZG ?_|refine ZF ?_|refine ZJ ?_|refine ZH ?_|refine ZL ?_|refine ZI ?_|refine ZN ?_|refine ZO (fun b=>?_)|refine ZM (fun b=>?_)|refine ZB ?_|refine ZD ?_|refine ZX ?_|refine ZZ ?_|refine Zg ?_|refine ZY ?_|refine ZW ?_|refine Zh (fun b=>?_)|refine Zf (fun b=>?_)|refine Ze ?_|refine ZV ?_|refine ZA (m2) (fun _ _=>?_)|refine l_call0 (m2) (fun _ _=>?_)|refine ZK (m2) (fun _ _=>?_)|refine ZA (m3) (fun _ _=>?_)|refine l_call0 (m3) (fun _ _=>?_)|refine ZK (m3) (fun _ _=>?_)|refine ZA (m5) (fun _ _=>?_)|refine l_call0 (m5) (fun _ _=>?_)|refine ZK (m5) (fun _ _=>?_)|refine Zj (es:=vs) (f:=lnf) j _ hyj (fun b off=>?_)|refine Zi ?_|refine YK (es:=vs) (f:=lnf) j _ hyj (fun b off=>?_)|refine YL ?_|rw [w1]|(refine ZC (fun hc=>?_) (fun hc=>?_)<;>(try simp at hc)<;>(try omega))|(refine ZS (fun hc=>?_) (fun hc=>?_)<;>(try simp at hc)<;>(try omega))|refine ZQ 7 [] [(0,0),(1,0),(2,0),(3,0),(4,4),(5,0),(6,0),(7,0),(8,0),(9,0),(10,0),(11,0),(12,0),(13,0),(14,0),(15,0),(16,0),(17,0),(18,0),(19,0),(20,0),(21,0),(22,4),(23,0),(24,0),(25,0)] [] ?_|(refine ZE (fun hc=>?_) (fun hc=>?_)<;>(try simp at hc)<;>(try omega)))
        all_goals exact Zq (Zr (Zk () rfl trivial))
      ·rw [if_pos hk] at hR
       subst hR
       repeat' (first|refine ZG ?_|refine ZF ?_|refine ZJ ?_|refine ZH ?_|refine ZL ?_|refine ZI ?_|refine ZN ?_|refine ZO (fun b=>?_)|refine ZM (fun b=>?_)|refine ZB ?_|refine ZD ?_|refine ZX ?_|refine ZZ ?_|refine Zg ?_|refine ZY ?_|refine ZW ?_|refine Zh (fun b=>?_)|refine Zf (fun b=>?_)|refine Ze ?_|refine ZV ?_|refine ZA (m2) (fun _ _=>?_)|refine l_call0 (m2) (fun _ _=>?_)|refine ZK (m2) (fun _ _=>?_)|refine ZA (m3) (fun _ _=>?_)|refine l_call0 (m3) (fun _ _=>?_)|refine ZK (m3) (fun _ _=>?_)|refine Zj (es:=vs) (f:=lnf) j _ hyj (fun b off=>?_)|refine Zi ?_|refine YK (es:=vs) (f:=lnf) j _ hyj (fun b off=>?_)|refine YL ?_|rw [w1]|(refine ZC (fun hc=>?_) (fun hc=>?_)<;>(try simp at hc)<;>(try omega))|(refine ZS (fun hc=>?_) (fun hc=>?_)<;>(try simp at hc)<;>(try omega))|refine ZQ 7 [] [(0,0),(1,0),(2,0),(3,0),(4,4),(5,0),(6,0),(7,0),(8,0),(9,0),(10,0),(11,0),(12,0),(13,0),(14,0),(15,0),(16,0),(17,0),(18,0),(19,0),(20,0),(21,0),(22,4),(23,0),(24,0),(25,0)] [] ?_|(refine ZE (fun hc=>?_) (fun hc=>?_)<;>(try simp at hc)<;>(try omega)))
       all_goals exact Zq (Zr (Zk () rfl trivial))
  ·rw [List.drop_eq_nil_of_le (by omega)] at hR
   have hR:DeV (⟨5,ofL []⟩,-1)=V:=hR
   subst hR
   have hjv:¬(j:Int)<(vs.length:Int):=by omega
   repeat' (first|refine ZG ?_|refine ZF ?_|refine ZJ ?_|refine ZH ?_|refine ZL ?_|refine ZI ?_|refine ZN ?_|refine ZO (fun b=>?_)|refine ZM (fun b=>?_)|refine ZB ?_|refine ZD ?_|refine ZP ?_|(refine ZC (fun hc=>?_) (fun hc=>?_)<;>(try simp at hc)<;>(try omega))|(refine ZE (fun hc=>?_) (fun hc=>?_)<;>(try simp at hc)<;>(try omega)))
   exact ZR () rfl trivial
section
open Go.ChangeShapes Go.WideShapes Go.ChangeAt
structure Kept (W W':World):Prop where
 os:W'.os=W.os
 output:W'.output=W.output
 heap:∀(b:Nat) (o:Obj),W.heap[b]? = some o→W'.heap[b]? = some o
theorem Kept.but {W W':World} (h:Kept W W') (may:MemPlace→Prop):W.keptBut W' may:=by
 refine ⟨h.os,h.output,fun i hi=>?_⟩
 have h1:W.heap[i]? = some W.heap[i]:=Array.getElem?_eq_getElem hi
 have h2:=h.heap i _ h1
 rw [h1,h2]
 split
 ·rename_i c t fr c' t' fr' e1 e2
  rw [e1] at e2
  injection e2 with e2
  injection e2 with a1 a2 a3
  subst a1 a2 a3
  exact ⟨rfl,rfl,rfl,fun _ _=>rfl⟩
 ·rename_i es clock es' clock' e1 e2
  rw [e1] at e2
  injection e2 with e2
  injection e2 with a1 a2
  subst a1 a2
  exact .inr ⟨rfl,rfl⟩
 ·rfl
theorem VY {f:FuncId} {args:Array Value} {F:List Pf} {v:Value} (h:Spec prog f args F [] (RetV v)) (W:World) (hF:∀x ∈ F,x.p fun b=>W.heap[b]?) :
  Calls prog f args W fun e W'=>e = .returned v∧Kept W W':=by
 have hs:Sat emp W (fun b=>W.heap[b]?) F [] W:=⟨fun b=>W.heap[b]?,emp,fun _ _ e=>e,(fun _ _ e=>by cases e),(fun _ _ e=>by cases e),fun _=>.inr rfl,fun _=>.inr rfl,fun _=>.inr rfl,Sub.refl _,hF,trivial,Same.refl _⟩
 refine (h _ _ _ hs).mono ?_
 rintro e W' ⟨_,rfl,_,hp',hr,st⟩
 exact ⟨rfl,st.same.os,st.same.output,fun b o hb=>st.inp b o (st.sub b o hb)⟩
def contig (P:Program):Nat→List Field→Option Nat
 | o,[]=>some o
 | o,f::fs=>if f.offset=o then contig P (o+P.cellsOf f.type) fs else none
def plainT (P:Program):Nat→TypeId→Bool
 | 0,_=>false
 | k+1,t=>match P.underlying t with
  | some .bool=>true
  | some (.int _)=>true
  | some .string=>true
  | some (.struct fs)=>(fs.toList.all fun f=>plainT P k f.type) && (contig P 0 fs.toList == some (P.cellsOf t))
  | some (.array n e)=>plainT P k e && (P.cellsOf t == n * P.cellsOf e)
  | _=>false
variable {H:Type} {enc:TypeId×Value→H} {P:Program}
theorem Wi {α β:Type} {f g:α→Option β}:∀{l:List α} {r:List β},(∀a ∈ l,∀x,f a=some x→g a=some x)→l.mapM f=some r→l.mapM g=some r
 | [],r,_,h=>h
 | a::l,r,hfg,h=>by
  rw [List.mapM_cons] at h ⊢
  simp only [Option.bind_eq_bind,Option.bind_eq_some_iff,Option.pure_def,Option.some.injEq] at h ⊢
  obtain ⟨x,hx,xs,hxs,rfl⟩:=h
  exact ⟨x,hfg a (by simp) x hx,xs,Wi (fun b hb=>hfg b (by simp [hb])) hxs,rfl⟩
theorem mapM_all {α β:Type} {f:α→Option β} {p:β→Prop}:∀{l:List α} {r:List β},(∀a ∈ l,∀x,f a=some x→p x)→l.mapM f=some r→∀x ∈ r,p x
 | [],r,_,h=>by simp at h;subst h;simp
 | a::l,r,hfg,h=>by
  rw [List.mapM_cons] at h
  simp only [Option.bind_eq_bind,Option.bind_eq_some_iff,Option.pure_def,Option.some.injEq] at h
  obtain ⟨x,hx,xs,hxs,rfl⟩:=h
  intro y hy
  rcases List.mem_cons.1 hy with rfl|hy
  ·exact hfg a (by simp) y hx
  ·exact mapM_all (fun b hb=>hfg b (by simp [hb])) hxs y hy
theorem X0 {β γ:Type} {f:β→List γ}:∀{l:List β},(∀x ∈ l,f x=[])→l.flatMap f=[]
 | [],_=>rfl
 | a::l,h=>by rw [List.flatMap_cons,h a (by simp),X0 (fun x hx=>h x (by simp [hx]))];rfl
theorem XM:∀(n k:Nat) (t:TypeId) (w:World) (base:Nat) (sp:Nat→Bool) (hd:Bool) (cs:List Value) (x:DataW H×List MemPlace),plainT P k t=true→DataW.trod enc P w base sp hd n t cs=some x→
  x.2=[]∧∀w' base' sp' hd',DataW.trod enc P w' base' sp' hd' n t cs=some x
 | 0,_,_,_,_,_,_,_,_,_,h=>by simp [DataW.trod] at h
 | n+1,0,_,_,_,_,_,_,_,hp,_=>by simp [plainT] at hp
 | n+1,k+1,t,w,base,sp,hd,cs,x,hp,h=>by
  unfold plainT at hp
  split at hp
  ·rename_i hu
   obtain ⟨b,rfl,rfl⟩:=DataW.trod_bool hu h
   exact ⟨rfl,fun _ _ _ _=>by simp [DataW.trod,hu]⟩
  ·rename_i hu
   obtain ⟨z,rfl,rfl,hz⟩:=DataW.trod_int hu h
   exact ⟨rfl,fun _ _ _ _=>by simp [DataW.trod,hu,hz]⟩
  ·rename_i hu
   obtain ⟨s,rfl,rfl,hs⟩:=DataW.trod_string hu h
   exact ⟨rfl,fun _ _ _ _=>by simp [DataW.trod,hu,hs]⟩
  ·rename_i fs hu
   rw [Bool.and_eq_true,List.all_eq_true] at hp
   simp only [DataW.trod,hu] at h ⊢
   split at h
   ·rename_i hl
    simp only [Option.map_eq_some_iff] at h
    obtain ⟨xs,hxs,rfl⟩:=h
    have ih:∀f ∈ fs.toList,∀y,DataW.trod enc P w base sp hd n f.type ((cs.drop f.offset).take (P.cellsOf f.type))=some y→y.2=[]∧∀w' base' sp' hd',DataW.trod enc P w' base' sp' hd' n f.type ((cs.drop f.offset).take (P.cellsOf f.type))=some y:=fun f hf y hy=>
     XM n k f.type w base sp hd _ y (hp.1 f hf) hy
    refine ⟨X0 (mapM_all (fun f hf y hy=>(ih f hf y hy).1) hxs),fun w' base' sp' hd'=>?_⟩
    rw [if_pos hl,Wi (fun f hf y hy=>(ih f hf y hy).2 w' base' sp' hd') hxs]
    rfl
   ·cases h
  ·rename_i m e hu
   rw [Bool.and_eq_true] at hp
   simp only [DataW.trod,hu] at h ⊢
   split at h
   ·rename_i hl
    simp only [Option.map_eq_some_iff] at h
    obtain ⟨xs,hxs,rfl⟩:=h
    have ih:∀i ∈ List.range m,∀y,DataW.trod enc P w base sp hd n e ((cs.drop (i * P.cellsOf e)).take (P.cellsOf e))=some y→y.2=[]∧∀w' base' sp' hd',DataW.trod enc P w' base' sp' hd' n e ((cs.drop (i * P.cellsOf e)).take (P.cellsOf e))=some y:=fun i _ y hy=>
     XM n k e w base sp hd _ y hp.1 hy
    refine ⟨X0 (mapM_all (fun i hi y hy=>(ih i hi y hy).1) hxs),fun w' base' sp' hd'=>?_⟩
    rw [if_pos hl,Wi (fun i hi y hy=>(ih i hi y hy).2 w' base' sp' hd') hxs]
    rfl
   ·cases h
  ·cases hp
theorem XV {α β:Type} {f:α→Option β}:∀{l:List α} {r:List β},l.mapM f=some r→∀(i:Nat) (a:α),l[i]? = some a→∃b,r[i]? = some b∧f a=some b
 | [],r,_,i,a,hi=>by simp at hi
 | c::l,r,h,i,a,hi=>by
  rw [List.mapM_cons] at h
  simp only [Option.bind_eq_bind,Option.bind_eq_some_iff,Option.pure_def,Option.some.injEq] at h
  obtain ⟨x,hx,xs,hxs,rfl⟩:=h
  cases i with
  | zero=>simp at hi;subst hi;exact ⟨x,by simp,hx⟩
  | succ i=>simpa using XV hxs i a (by simpa using hi)
theorem cover:∀(fs:List Field) (o total:Nat) (cs cs':List Value),contig P o fs=some total→cs.length=total→cs'.length=total→
  (∀f ∈ fs,(cs.drop f.offset).take (P.cellsOf f.type)=(cs'.drop f.offset).take (P.cellsOf f.type))→cs.drop o=cs'.drop o
 | [],o,total,cs,cs',h,h1,h2,_=>by
  simp only [contig,Option.some.injEq] at h
  rw [List.drop_eq_nil_of_le (by omega),List.drop_eq_nil_of_le (by omega)]
 | f::fs,o,total,cs,cs',h,h1,h2,hp=>by
  unfold contig at h
  split at h
  ·rename_i ho
   have ih:=cover fs (o+P.cellsOf f.type) total cs cs' h h1 h2 fun g hg=>hp g (by simp [hg])
   have h3:=hp f (by simp)
   rw [ho] at h3
   rw [←List.take_append_drop (P.cellsOf f.type) (cs.drop o),←List.take_append_drop (P.cellsOf f.type) (cs'.drop o),List.drop_drop,List.drop_drop,h3,ih]
  ·cases h
theorem trod_inj {H':Type} {enc':TypeId×Value→H'}:∀(n n' k:Nat) (t:TypeId) (w w':World) (base base':Nat) (sp sp':Nat→Bool) (hd hd':Bool) (cs cs':List Value) (x x':DataW H×List MemPlace),plainT P k t=true→
  DataW.trod enc P w base sp hd n t cs=some x→DataW.trod enc P w' base' sp' hd' n' t cs'=some x'→x.1=x'.1→cs=cs'
 | 0,_,_,_,_,_,_,_,_,_,_,_,_,_,_,_,_,h,_,_=>by simp [DataW.trod] at h
 | _+1,0,_,_,_,_,_,_,_,_,_,_,_,_,_,_,_,_,h,_=>by simp [DataW.trod] at h
 | n+1,n'+1,0,_,_,_,_,_,_,_,_,_,_,_,_,_,hp,_,_,_=>by simp [plainT] at hp
 | n+1,n'+1,k+1,t,w,w',base,base',sp,sp',hd,hd',cs,cs',x,x',hp,h,h',he=>by
  unfold plainT at hp
  split at hp
  ·rename_i hu
   obtain ⟨b,rfl,rfl⟩:=DataW.trod_bool hu h
   obtain ⟨b',rfl,rfl⟩:=DataW.trod_bool hu h'
   simp at he;subst he;rfl
  ·rename_i hu
   obtain ⟨z,rfl,rfl,hz⟩:=DataW.trod_int hu h
   obtain ⟨z',rfl,rfl,hz'⟩:=DataW.trod_int hu h'
   simp at he;subst he;rfl
  ·rename_i hu
   obtain ⟨s,rfl,rfl,hs⟩:=DataW.trod_string hu h
   obtain ⟨s',rfl,rfl,hs'⟩:=DataW.trod_string hu h'
   simp at he
   rw [YH (by rw [he]:s.data.toList=s'.data.toList)]
  ·rename_i fs hu
   rw [Bool.and_eq_true,List.all_eq_true,beq_iff_eq] at hp
   simp only [DataW.trod,hu] at h h'
   split at h
   ·rename_i hl
    split at h'
    ·rename_i hl'
     simp only [Option.map_eq_some_iff] at h h'
     obtain ⟨xs,hxs,rfl⟩:=h
     obtain ⟨xs',hxs',rfl⟩:=h'
     simp only [DataW.agg.injEq] at he
     have:=cover fs.toList 0 _ cs cs' hp.2 hl hl' fun f hf=>by
      obtain ⟨i,hi,rfl⟩:=List.mem_iff_getElem.1 hf
      have hi':=List.getElem?_eq_getElem hi
      obtain ⟨y,hy1,hy2⟩:=XV hxs i _ hi'
      obtain ⟨y',hy1',hy2'⟩:=XV hxs' i _ hi'
      have hyy:y.1=y'.1:=by
       have h1:(xs.map (·.1))[i]? = some y.1:=by simp [hy1]
       have h2:(xs'.map (·.1))[i]? = some y'.1:=by simp [hy1']
       rw [he] at h1
       exact Option.some.inj (h1.symm.trans h2)
      exact trod_inj (enc':=enc') n n' k _ w w' base base' sp sp' hd hd' _ _ y y' (hp.1 _ hf) hy2 hy2' hyy
     simpa using this
    ·cases h'
   ·cases h
  ·rename_i m e hu
   rw [Bool.and_eq_true,beq_iff_eq] at hp
   simp only [DataW.trod,hu] at h h'
   split at h
   ·rename_i hl
    split at h'
    ·rename_i hl'
     simp only [Option.map_eq_some_iff] at h h'
     obtain ⟨xs,hxs,rfl⟩:=h
     obtain ⟨xs',hxs',rfl⟩:=h'
     simp only [DataW.agg.injEq] at he
     have hpart:∀i,i<m→(cs.drop (i * P.cellsOf e)).take (P.cellsOf e)=(cs'.drop (i * P.cellsOf e)).take (P.cellsOf e):=fun i hi=>by
      have hi':(List.range m)[i]? = some i:=by simp [hi]
      obtain ⟨y,hy1,hy2⟩:=XV hxs i _ hi'
      obtain ⟨y',hy1',hy2'⟩:=XV hxs' i _ hi'
      have hyy:y.1=y'.1:=by
       have h1:(xs.map (·.1))[i]? = some y.1:=by simp [hy1]
       have h2:(xs'.map (·.1))[i]? = some y'.1:=by simp [hy1']
       rw [he] at h1
       exact Option.some.inj (h1.symm.trans h2)
      exact trod_inj (enc':=enc') n n' k _ w w' base base' sp sp' hd hd' _ _ y y' hp.1 hy2 hy2' hyy
     apply List.ext_getElem?
     intro j
     by_cases hj:j<m * P.cellsOf e
     ·have hc:0<P.cellsOf e:=Nat.pos_of_ne_zero fun h0=>by rw [h0] at hj;simp at hj
      have h1:=congrArg (fun l=>l[j % P.cellsOf e]?) (hpart (j / P.cellsOf e) (Nat.div_lt_of_lt_mul (by rw [Nat.mul_comm];exact hj)))
      simp only [List.getElem?_take,List.getElem?_drop,if_pos (Nat.mod_lt j hc)] at h1
      rw [show j / P.cellsOf e * P.cellsOf e+j % P.cellsOf e=j by rw [Nat.mul_comm];exact Nat.div_add_mod j _] at h1
      exact h1
     ·rw [List.getElem?_eq_none (by omega),List.getElem?_eq_none (by omega)]
    ·cases h'
   ·cases h
  ·cases hp
theorem VW {f:Func} {s:ChangeSpec} {apart fresh handsOn again:Bool} {W W':World} {args:Array Value} {v:Value} {ds gs:List (DataW H)} {before pa pv:List MemPlace}
  (hW:DataW.Whole enc P f.params.toList s.vars apart W args.toList ds gs before)
  (hres:∀(b:Nat) (sp:Nat→Bool) (hd:Bool),DataW.TrodAll enc P W' b sp hd f.resultTypes.toList (v.resultList f.resultTypes.size) (s.fn H (ds++gs)).results [])
  (hargs:∀sp:Nat→Bool,(∀b<W.heap.size,sp b=true)→DataW.TrodAll enc P W' 0 sp true f.params.toList args.toList (s.fn H (ds++gs)).args pa)
  (hvars:∀sp:Nat→Bool,(∀b<W.heap.size,sp b=true)→DataW.TrodVars enc P W' sp s.vars (s.fn H (ds++gs)).vars pv)
  (hps:before=pa++pv) (hk:Kept W W')
  (hok:∀(j:Nat) (t:TypeId) (r:Value),f.resultTypes[j]? = some t→(v.resultList f.resultTypes.size)[j]? = some r→Value.okWide P W' .any 0 t r) :
  s.post enc P f apart fresh handsOn again W args v W':=by
 have hlt:=hW.lt
 refine ⟨ds,gs,before,[],pa,pv,hW,hres _ _ _,hargs _ (fun b hb=>by simpa using hb),hvars _ (fun b hb=>by simpa using hb),World.keptBut_mono (fun p hp=>⟨hp,?_⟩) (hk.but (· ∈ before)),fun _=>?_⟩
 ·rw [hps,List.mem_append] at hp
  exact Or.inr hp
 ·obtain ⟨_,_,_,_,_,hz,hn⟩:=hW
  refine ⟨hok,_,_,([]++pa)++pv,⟨[]++pa,pv,trodAll_append (hargs _ (fun _ _=>rfl)) (hres _ _ _),hvars _ (fun _ _=>rfl),rfl,?_,?_⟩,?_⟩
  ·intro b off hp
   have hm:MemPlace.cell b off ∈ before:=by rw [hps];simpa using hp
   have h1:=hz b off hm
   have h2:b<W.heap.size:=hlt _ hm
   have h4:W.heap[b]? = some W.heap[b]:=Array.getElem?_eq_getElem h2
   have h3:=hk.heap b _ h4
   unfold World.frozen? at h1 ⊢
   dsimp only at h1 ⊢
   rw [h4] at h1
   rw [h3]
   exact h1
  ·intro ha
   have:=hn ha
   rw [hps] at this
   simpa using this
  ·intro p hp _
   rw [hps]
   simpa using hp
inductive SK where
 | b
 | i (k:IntKind)
 | s
def sksF (g:TypeId→Option (List SK)):List Field→Option (List SK)
 | []=>some []
 | f::fs=>match g f.type,sksF g fs with
  | some a,some r=>some (a++r)
  | _,_=>none
def sks (P:Program):Nat→TypeId→Option (List SK)
 | 0,_=>none
 | k+1,t=>match P.underlying t with
  | some .bool=>some [.b]
  | some (.int ik)=>some [.i ik]
  | some .string=>some [.s]
  | some (.struct fs)=>sksF (sks P k) fs.toList
  | some (.array n e)=>(sks P k e).map fun l=>(List.replicate n l).flatten
  | _=>none
def CellOK (M:Nat):SK→Value→Prop
 | .b,v=>∃b,v = .bool b
 | .i k,v=>∃z,v = .int k z∧(Lit.int k z).wf=true
 | .s,v=>∃s:ByteArray,v = .string s∧s.size≤M
def CellsOK (M:Nat):List SK→List Value→Prop
 | [],[]=>True
 | k::ks,v::vs=>CellOK M k v∧CellsOK M ks vs
 | _,_=>False
theorem XN {M:Nat}:∀{a b:List SK} {x y:List Value},CellsOK M a x→CellsOK M b y→CellsOK M (a++b) (x++y)
 | [],_,[],_,_,h=>h
 | _::_,_,_::_,_,⟨h1,h2⟩,h=>⟨h1,XN h2 h⟩
theorem X5 {M M':Nat} (hM:M≤M'):∀{a:List SK} {x:List Value},CellsOK M a x→CellsOK M' a x
 | [],[],_=>trivial
 | k::_,_::_,⟨h1,h2⟩=>⟨by
   cases k with
   | b=>exact h1
   | i k=>exact h1
   | s=>obtain ⟨s,hs,hl⟩:=h1;exact ⟨s,hs,Nat.le_trans hl hM⟩,X5 hM h2⟩
theorem bulk_mem:∀{l:List (DataW H)} {d:DataW H},d ∈ l→Rows.uptoBulk d≤Rows.uptoBulkAll l
 | c::l,d,h=>by
  rcases List.mem_cons.1 h with rfl|h
  ·simp only [Rows.uptoBulkAll];omega
  ·have:=bulk_mem h
   simp only [Rows.uptoBulkAll];omega
theorem sksF_ok {M:Nat} {g:TypeId→Option (List SK)}:∀(fs:List Field) (o total:Nat) (cs:List Value) (ks:List SK),contig P o fs=some total→cs.length=total→sksF g fs=some ks→
  (∀f ∈ fs,∀k,g f.type=some k→CellsOK M k ((cs.drop f.offset).take (P.cellsOf f.type)))→CellsOK M ks (cs.drop o)
 | [],o,total,cs,ks,h,h1,h2,_=>by
  simp only [contig,Option.some.injEq] at h
  simp only [sksF,Option.some.injEq] at h2
  rw [←h2,List.drop_eq_nil_of_le (by omega)];trivial
 | f::fs,o,total,cs,ks,h,h1,h2,hp=>by
  unfold contig at h
  split at h
  ·rename_i ho
   unfold sksF at h2
   split at h2
   ·rename_i a r ha hr
    obtain rfl:=Option.some.inj h2
    have ih:=sksF_ok fs (o+P.cellsOf f.type) total cs r h h1 hr fun g hg=>hp g (by simp [hg])
    have h3:=hp f (by simp) a ha
    rw [ho] at h3
    rw [←List.take_append_drop (P.cellsOf f.type) (cs.drop o),List.drop_drop]
    exact XN h3 ih
   ·cases h2
  ·cases h
theorem arr_cells {M c:Nat} {l:List SK}:∀(m:Nat) (cs:List Value),cs.length=m * c→(∀i,i<m→CellsOK M l ((cs.drop (i * c)).take c))→CellsOK M (List.replicate m l).flatten cs
 | 0,cs,h,_=>by
  have:cs=[]:=List.length_eq_zero_iff.1 (by omega)
  subst this;trivial
 | m+1,cs,h,hp=>by
  have h0:=hp 0 (by omega)
  rw [Nat.zero_mul,List.drop_zero] at h0
  have hl:cs.length=m * c+c:=by rw [h,Nat.succ_mul]
  have ih:=arr_cells (M:=M) (c:=c) (l:=l) m (cs.drop c) (by rw [List.length_drop];omega) fun i hi=>by
   have:=hp (i+1) (by omega)
   rw [List.drop_drop,show c+i * c=(i+1) * c by rw [Nat.succ_mul];omega]
   exact this
  rw [List.replicate_succ,List.flatten_cons,←List.take_append_drop c cs]
  exact XN h0 ih
theorem XO:∀(n k:Nat) (t:TypeId) (w:World) (base:Nat) (sp:Nat→Bool) (hd:Bool) (cs:List Value) (x:DataW H×List MemPlace) (ks:List SK),plainT P k t=true→sks P k t=some ks→DataW.trod enc P w base sp hd n t cs=some x→CellsOK (Rows.uptoBulk x.1) ks cs
 | 0,_,_,_,_,_,_,_,_,_,_,_,h=>by simp [DataW.trod] at h
 | n+1,0,_,_,_,_,_,_,_,_,hp,_,_=>by simp [plainT] at hp
 | n+1,k+1,t,w,base,sp,hd,cs,x,ks,hp,hk,h=>by
  unfold plainT at hp
  unfold sks at hk
  split at hp
  ·rename_i hu
   rw [hu] at hk
   obtain rfl:=Option.some.inj hk
   obtain ⟨b,rfl,rfl⟩:=DataW.trod_bool hu h
   exact ⟨⟨b,rfl⟩,trivial⟩
  ·rename_i hu
   rw [hu] at hk
   obtain rfl:=Option.some.inj hk
   obtain ⟨z,rfl,rfl,hz⟩:=DataW.trod_int hu h
   exact ⟨⟨z,rfl,hz⟩,trivial⟩
  ·rename_i hu
   rw [hu] at hk
   obtain rfl:=Option.some.inj hk
   obtain ⟨s,rfl,rfl,hs⟩:=DataW.trod_string hu h
   refine ⟨⟨s,rfl,?_⟩,trivial⟩
   have hsz:s.data.toList.length=s.size:=by simp
   simp only [Rows.uptoBulk];omega
  ·rename_i fs hu
   rw [hu] at hk
   rw [Bool.and_eq_true,List.all_eq_true,beq_iff_eq] at hp
   simp only [DataW.trod,hu] at h
   split at h
   ·rename_i hl
    simp only [Option.map_eq_some_iff] at h
    obtain ⟨xs,hxs,rfl⟩:=h
    have:=sksF_ok (M:=Rows.uptoBulk (.agg (xs.map (·.1)))) (g:=sks P k) fs.toList 0 _ cs ks hp.2 hl hk fun f hf k' hk'=>by
     obtain ⟨i,hi,rfl⟩:=List.mem_iff_getElem.1 hf
     obtain ⟨y,hy1,hy2⟩:=XV hxs i _ (List.getElem?_eq_getElem hi)
     refine X5 ?_ (XO n k _ w base sp hd _ y k' (hp.1 _ hf) hk' hy2)
     have hm:y.1 ∈ xs.map (·.1):=List.mem_map.2 ⟨y,List.mem_of_getElem? hy1,rfl⟩
     have:=bulk_mem hm
     simp only [Rows.uptoBulk];omega
    simpa using this
   ·cases h
  ·rename_i m e hu
   rw [hu] at hk
   rw [Bool.and_eq_true,beq_iff_eq] at hp
   simp only [DataW.trod,hu] at h
   split at h
   ·rename_i hl
    simp only [Option.map_eq_some_iff] at h hk
    obtain ⟨xs,hxs,rfl⟩:=h
    obtain ⟨l,hl2,rfl⟩:=hk
    refine arr_cells m cs (by rw [hl,hp.2]) fun i hi=>?_
    have hi':(List.range m)[i]? = some i:=by simp [hi]
    obtain ⟨y,hy1,hy2⟩:=XV hxs i _ hi'
    refine X5 ?_ (XO n k _ w base sp hd _ y l hp.1 hl2 hy2)
    have hm:y.1 ∈ xs.map (·.1):=List.mem_map.2 ⟨y,List.mem_of_getElem? hy1,rfl⟩
    have:=bulk_mem hm
    simp only [Rows.uptoBulk];omega
   ·cases h
  ·cases hp
end
section
open Go.ChangeShapes Go.WideShapes Go.ChangeAt
theorem Kept.cell {W W':World} (h:Kept W W') {a:Addr} {v:Value} (hc:W.cell? a=some v):W'.cell? a=some v:=by
 unfold World.cell? at hc ⊢
 split at hc
 ·rename_i c T fz hb
  rw [h.heap _ _ hb]
  exact hc
 ·cases hc
theorem Kept.cells {W W':World} (h:Kept W W') {a:Addr} {n:Nat} {cs:List Value} (hc:W.cells? 0 a n=some cs):W'.cells? 0 a n=some cs:=by
 unfold World.cells? at hc ⊢
 rw [if_pos (Nat.zero_le _)] at hc ⊢
 exact Wi (fun i _ x hx=>h.cell hx) hc
variable {H:Type} {enc:TypeId×Value→H} {P:Program}
end
section
open Go.ChangeShapes Go.WideShapes Go.ChangeAt
theorem own:ownKnob prog.godebug=none:=by kernel_rfl
theorem i64_in {n:Int} (h:(Lit.int .i64 n).wf=true) : -9223372036854775808≤n∧n<9223372036854775808:=by
 simp [Lit.wf,IntKind.min,IntKind.max,IntKind.bits,IntKind.signed] at h
 omega
theorem Y8 {M:Nat} {k:IntKind} {ks:List SK} {cs:List Value} (h:CellsOK M (.i k::ks) cs):∃z cs',cs = .int k z::cs'∧(Lit.int k z).wf=true∧CellsOK M ks cs':=by
 obtain _|⟨v,cs⟩:=cs
 ·exact h.elim
 ·obtain ⟨⟨z,rfl,hz⟩,h⟩:=h
  exact ⟨z,cs,rfl,hz,h⟩
theorem Wh {M:Nat} {ks:List SK} {cs:List Value} (h:CellsOK M (.s::ks) cs):∃(s:ByteArray) (cs':List Value),cs = .string s::cs'∧s.size≤M∧CellsOK M ks cs':=by
 obtain _|⟨v,cs⟩:=cs
 ·exact h.elim
 ·obtain ⟨⟨z,rfl,hz⟩,h⟩:=h
  exact ⟨z,cs,rfl,hz,h⟩
theorem cells_nil {M:Nat} {cs:List Value} (h:CellsOK M [] cs):cs=[]:=by
 cases cs
 ·rfl
 ·exact h.elim
section
variable {H:Type} {enc:TypeId×Value→H} {W:World} {base:Nat} {v:Value} {d:DataW H} {p:List MemPlace}
theorem aggS {t:TypeId} {fs:Array Field} (hu:prog.underlying t=some (.struct fs)) (hv:Value.okWide prog W .any base t v):∃cs,v = .agg cs:=
 let ⟨cs,h,_⟩:=okWide_struct hu hv
 ⟨cs,h⟩
theorem open_agg {t:TypeId} {ks:List SK} (hpl:plainT prog 5 t=true) (hsk:sks prog 5 t=some ks) (hag:∃cs,v = .agg cs) (h:DataW.Trod enc prog W 0 (fun _=>true) true t v d p) :
  ∃cs:List Value,v = .agg cs.toArray∧CellsOK (Rows.uptoBulk d) ks cs∧p=[]∧∀w' base' sp' hd',DataW.Trod enc prog w' base' sp' hd' t v d []:=by
 obtain ⟨cs,rfl⟩:=hag
 obtain ⟨n,hn⟩:=h
 have hc:=XO n 5 _ W 0 _ _ _ _ _ hpl hsk hn
 obtain ⟨hp,hr⟩:=XM n 5 _ W 0 _ _ _ _ hpl hn
 dsimp only at hp
 subst hp
 exact ⟨cs.toList,rfl,hc,rfl,fun w' base' sp' hd'=>⟨n,hr w' base' sp' hd'⟩⟩
theorem VT {t:TypeId} (hu:prog.underlying t=some .string) (hv:Value.okWide prog W .any base t v) (h:DataW.Trod enc prog W 0 (fun _=>true) true t v d p) :
  ∃s:ByteArray,v = .string s∧s.size≤Rows.uptoBulk d∧p=[]∧∀w' base' sp' hd',DataW.Trod enc prog w' base' sp' hd' t v d []:=by
 obtain ⟨s,rfl⟩:=okWide_string hu hv
 obtain ⟨n,hn⟩:=h
 have hpl:plainT prog 5 t=true:=by unfold plainT;rw [hu]
 have hsk:sks prog 5 t=some [.s]:=by unfold sks;rw [hu]
 have hc:=XO n 5 _ W 0 _ _ _ _ _ hpl hsk hn
 obtain ⟨hp,hr⟩:=XM n 5 _ W 0 _ _ _ _ hpl hn
 dsimp only at hp
 subst hp
 obtain ⟨s',cs',h1,h2,_⟩:=Wh hc
 injection h1 with h3 _
 injection h3 with h4
 exact ⟨s,rfl,by rw [h4];exact h2,rfl,fun w' base' sp' hd'=>⟨n,hr w' base' sp' hd'⟩⟩
theorem open_num {t:TypeId} {k:IntKind} (hu:prog.underlying t=some (.int k)) (hv:Value.okWide prog W .any base t v) (h:DataW.Trod enc prog W 0 (fun _=>true) true t v d p) :
  ∃z:Int,v = .int k z∧(Lit.int k z).wf=true∧p=[]∧∀w' base' sp' hd',DataW.Trod enc prog w' base' sp' hd' t v d []:=by
 obtain ⟨z,rfl⟩:=okWide_int hu hv
 obtain ⟨n,hn⟩:=h
 have hpl:plainT prog 5 t=true:=by unfold plainT;rw [hu]
 have hsk:sks prog 5 t=some [.i k]:=by unfold sks;rw [hu]
 have hc:=XO n 5 _ W 0 _ _ _ _ _ hpl hsk hn
 obtain ⟨hp,hr⟩:=XM n 5 _ W 0 _ _ _ _ hpl hn
 dsimp only at hp
 subst hp
 obtain ⟨z',cs',h1,h2,_⟩:=Y8 hc
 injection h1 with h3 _
 injection h3 with _ h4
 exact ⟨z,rfl,by rw [h4];exact h2,rfl,fun w' base' sp' hd'=>⟨n,hr w' base' sp' hd'⟩⟩
end
end
section
variable {L L':List (Nat×Nat)} {Tl:List Nat} {v:Value}
end
structure It where
 who:UInt8
 nu:UInt8
 tk:UInt8
 ch:UInt8
 tx:ByteArray
def itf (x:It):List Value:=[.int .u8 x.who.toNat,.int .u8 x.nu.toNat,.int .u8 x.tk.toNat,.int .u8 x.ch.toNat,.string x.tx]
def It.v (x:It):Value:=.agg #[.int .u8 x.who.toNat,.int .u8 x.nu.toNat,.int .u8 x.tk.toNat,.int .u8 x.ch.toNat,.string x.tx]
def nm0:ByteArray:=⟨#[49]⟩
def nm1:ByteArray:=⟨#[49,46,50]⟩
def nm2:ByteArray:=⟨#[51]⟩
def who3 (j:Nat):ByteArray:=if j=0 then nm0 else if j=1 then nm1 else nm2
def ito (x:It):Ou:=⟨1+(x.ch.toNat % 4:Nat),⟨#[116]⟩,x.tx.extract 0 (min x.tx.size 20),5⟩
def itn (x:It):Nm:=⟨18,who3 (x.who.toNat % 3),(x.nu.toNat % 4:Nat),(x.tk.toNat % 8:Nat),⟨#[]⟩⟩
def itl (x:It) (p:Nat):Lf:=⟨⟨who3 (x.who.toNat % 3),(x.nu.toNat % 4:Nat),(x.tk.toNat % 8:Nat),ito x⟩,(9+p:Nat),(p / 5:Nat)⟩
def stF (es:Al) (l:List It):Al:=l.foldl (fun es x=>insO (itn x) (oencS (ito x)) es) es
def ldF (l:List It):List Lf:=l.mapIdx fun p x=>itl x p
structure B1 (now:List It) where
 i:Nat
 q:Option Addr
 es:Al
 h1:i≤now.length∧i≤20
 h2:es=stF [] (now.take i)
 h3:es.length≤i
structure B2 (left:List It) where
 i:Nat
 h1:i≤left.length∧i≤20
section
open Go.ChangeShapes Go.WideShapes Go.ChangeAt

end
def kx:It:=⟨1,0,0,0,⟨#[120]⟩⟩
def ky:It:=⟨1,0,0,0,⟨#[121]⟩⟩
def kc:Cq:=⟨3,nm1,0,0,ito ky,0,ito kx,0⟩
def sameC (c:Cq) (y:En):Bool:=decide (c.who=y.who) && (decide (c.nu=y.nu) && (decide (c.newAt=y.tk) && decide (c.new=y.o)))
def Cq.v (c:Cq):Value:=.agg #[.int .i64 c.kind,.string c.who,.int .i64 c.nu,.int .i64 c.place,.int .i64 c.old.ch,.string c.old.tg,.string c.old.tx,.int .i64 c.old.us,.int .i64 c.oldAt,.int .i64 c.new.ch,.string c.new.tg,.string c.new.tx,.int .i64 c.new.us,.int .i64 c.newAt]
def eqq (a b:Cq):Bool:=(a.kind == b.kind) && ((a.who.toList == b.who.toList) && ((a.nu == b.nu) && ((a.place == b.place) && (((a.old.ch == b.old.ch) && ((a.old.tg.toList == b.old.tg.toList) && ((a.old.tx.toList == b.old.tx.toList) && ((a.old.us == b.old.us) && true)))) && ((a.oldAt == b.oldAt) && (((a.new.ch == b.new.ch) && ((a.new.tg.toList == b.new.tg.toList) && ((a.new.tx.toList == b.new.tx.toList) && ((a.new.us == b.new.us) && true)))) && ((a.newAt == b.newAt) && true)))))))
def difE (l:List Cq):List Cq:=l.filter fun c=>decide (c.kind≠1)
def cn (j:Int) (l:List Cq):Nat:=l.countP fun c=>decide (c.kind=j)
def cn0 (l:List Cq):Nat:=l.countP fun c=>decide (c.kind<1∨4<c.kind)
def cntC (l:List Cq):List Value:=[.int .i64 (cn0 l:Int),.int .i64 (cn 1 l:Int),.int .i64 (cn 2 l:Int),.int .i64 (cn 3 l:Int),.int .i64 (cn 4 l:Int)]
structure D1 (l:List Cq) where
 i:Nat
 o:Option Addr
 cap:Nat
 hi:i≤l.length
structure D2 (l:List Cq) where
 i:Nat
 hi:i≤l.length

def i8f (x:Int8):List Value:=[.int .i8 x.toInt]
def kq (c:Cq) (k:Int8) (p:Nat):Cq:={c with kind:=k.toInt,place:=p}
def kqs (c:Cq) (ks:List Int8):List Cq:=ks.mapIdx fun p k=>kq c k p
structure N1 (ks:List Int8) where
 i:Nat
 o:Option Addr
 cap:Nat
 o':Option Addr
 cap':Nat
 hi:i≤ks.length
section
open Go.ChangeShapes Go.WideShapes Go.ChangeAt
theorem plC:plainT prog 5 26=true:=by decide +kernel
theorem skC:sks prog 5 26=some [.i .i64,.s,.i .i64,.i .i64,.i .i64,.s,.s,.i .i64,.i .i64,.i .i64,.s,.s,.i .i64,.i .i64]:=by kernel_rfl
end
section
open Go.ChangeShapes Go.WideShapes Go.ChangeAt
def laidR : List (String × DataW Unit) := [("math/bits.deBruijn32tab", Rows.laid_math_bits_deBruijn32tab), ("math/bits.deBruijn64tab", Rows.laid_math_bits_deBruijn64tab), ("internal/strconv.uint64pow10", Rows.laid_internal_strconv_uint64pow10), ("unicode/utf8.acceptRanges", Rows.laid_unicode_utf8_acceptRanges), ("strconv.ErrRange", Rows.laid_strconv_ErrRange), ("strconv.ErrSyntax", Rows.laid_strconv_ErrSyntax), ("unicode/utf8.first", Rows.laid_unicode_utf8_first)]
theorem tP10:(prog.globals[3]?).map (·.type)=some 218:=by kernel_rfl
theorem plP10:plainT prog 5 218=true:=by decide +kernel
theorem rdP10 (w:World):DataW.trod (fun _=>()) prog w 0 (fun _=>true) false 8 218 (Lib.pow10Tab.map fun z=>Value.int .u64 z)=some (Rows.laid_internal_strconv_uint64pow10,[]):=by kernel_rfl
theorem star_err : "*" ++ "errors.errorString" = "*errors.errorString" := by decide
theorem row_err (u : TypeId) (h : prog.typeName? 3 u = some "*errors.errorString") : u = 242 :=
 typeName_ptr_named (nm := "errors.errorString") (by rw [star_err]; kernel_rfl) (by kernel_rfl) (by decide) u (by rw [star_err]; exact h)
theorem var_one {W:World} {g:Nat} {n:String} {v:Value} (hg:prog.globalNamed n=some g) (h:W.var? prog n=some #[v]):∃T fz,W.heap[g]? = some (.cells #[v] T fz):=by
 simp only [World.var?,hg,Option.bind_some] at h
 split at h
 ·rename_i cs t fr hb
  obtain rfl:=Option.some.inj h
  exact ⟨t,fr,hb⟩
 ·cases h
theorem tabsR {W:World} (h:laidMetH prog laidR W):(ErA.p fun b=>W.heap[b]?)∧P10.p fun b=>W.heap[b]?:=by
 rw [MakeChecks.laidMetH_plain _ _ _ (by kernel_rfl)] at h
 have h3:=h.tail.tail
 have h5:=h3.tail.tail
 have h6:=h5.tail
 refine ⟨?_,?_⟩
 ·obtain ⟨a1, s1, hv1, _⟩ := laid_sentinel h5 (show prog.globalNamed "strconv.ErrRange" = some 7 by kernel_rfl) (show (prog.globals[7]?).map (·.type) = some 84 by kernel_rfl) underlying84 row_err underlying242 underlying244 rfl rfl underlying9 (by kernel_rfl) (by kernel_rfl)
  obtain ⟨a2, s2, hv2, _⟩ := laid_sentinel h6 (show prog.globalNamed "strconv.ErrSyntax" = some 6 by kernel_rfl) (show (prog.globals[6]?).map (·.type) = some 84 by kernel_rfl) underlying84 row_err underlying242 underlying244 rfl rfl underlying9 (by kernel_rfl) (by kernel_rfl)
  obtain ⟨T1, f1, e1⟩ := var_one (show prog.globalNamed "strconv.ErrRange" = some 7 by kernel_rfl) hv1
  obtain ⟨T2, f2, e2⟩ := var_one (show prog.globalNamed "strconv.ErrSyntax" = some 6 by kernel_rfl) hv2
  exact ⟨⟨_,T2,f2,.inr ⟨_,_,rfl⟩,e2⟩,⟨_,T1,f1,.inr ⟨_,_,rfl⟩,e1⟩⟩
 ·obtain ⟨ps,⟨g1,t1,cs1,f1,p1,q1,hg1,ht1,hv1,hd1,_⟩,_⟩:=h3
  obtain rfl := Option.some.inj ((show prog.globalNamed "internal/strconv.uint64pow10" = some 3 by kernel_rfl).symm.trans hg1)
  obtain rfl:=Option.some.inj (tP10.symm.trans ht1)
  have hcs:cs1.toList=Lib.pow10Tab.map fun z=>Value.int .u64 z:=trod_inj (enc':=fun _=>()) _ _ _ _ W W _ _ _ _ _ _ _ _ _ _ plP10 hd1 (rdP10 W) rfl
  unfold World.var? at hv1
  rw [hg1] at hv1
  simp only [Option.bind_some] at hv1
  split at hv1
  ·rename_i cs t fr hb
   obtain rfl:=Option.some.inj hv1
   exact ⟨t,fr,by rw [←hcs];simpa using hb⟩
  ·cases hv1
theorem mxlR {W:World} (h:W.ShapedOpen prog):MxL.p fun b=>W.heap[b]?:=by
 obtain ⟨cs,hh,hs,hr⟩:=h.1 0 #[.int .i64 0] 3 (of_decide_eq_true (by kernel_rfl)) (by kernel_rfl)
 obtain ⟨ts,hts,_,hall⟩:=hr (by kernel_rfl)
 rw [show prog.cellTypes prog.depth 3=some [3] by kernel_rfl] at hts
 cases hts
 have hs:cs.size=1:=hs
 have h1:0<cs.size:=by omega
 obtain ⟨u,hu',hok⟩:=hall 0 cs[0] (by simp [h1])
 have:u=3:=by simpa using hu'.symm
 subst this
 have e:cs = #[cs[0]]:=by
  apply Array.ext
  ·simp [hs]
  ·intro i hi hj
   obtain rfl:i=0:=by simp at hj;omega
   rfl
 unfold Cell.ok at hok
 rw [underlying3] at hok
 cases hv:cs[0]<;>rw [hv] at hok<;>simp at hok
 case int k n=>
  rw [hv,hok.1] at e
  exact ⟨n,3,(0,0),by show W.heap[_]? = _;rw [hh,e]⟩
def bits (l:List Int):List Value:=l.map fun z=>Value.int .u8 z
def b32:List Int:=[0,1,28,2,29,14,24,3,30,22,20,15,25,17,4,8,31,27,13,23,21,19,16,7,26,12,18,6,11,5,10,9]
def b64:List Int:=[0,1,56,2,57,49,28,3,61,58,42,50,38,29,17,4,62,47,59,36,45,43,51,22,53,39,33,30,24,18,12,5,63,55,48,27,60,41,37,16,46,35,44,21,52,32,23,11,54,26,40,15,34,20,31,10,25,14,19,9,13,8,7,6]
noncomputable def laidWorldR (os:Os):World:=
 let N:=(World.settled prog os).heap.size
 let w0:=World.holding prog os ⟨#[.cells #[.string ⟨#[118,97,108,117,101,32,111,117,116,32,111,102,32,114,97,110,103,101]⟩] 244,.cells #[.string ⟨#[105,110,118,97,108,105,100,32,115,121,110,116,97,120]⟩] 244],#[],[]⟩
 let put (h:Array Obj) (g:Nat) (cs:Array Value):Array Obj:=h.modify g fun
  | .cells _ t frozen=>.cells cs t frozen
  | o=>o
 let h1:=put w0.heap 4 (bits b32).toArray
 let h2:=put h1 5 (bits b64).toArray
 let h3:=put h2 3 (Lib.pow10Tab.map fun z=>Value.int .u64 z).toArray
 let h4:=put h3 2 ((List.range 16).flatMap fun i=>[Value.int .u8 (Lib.accLo i),Value.int .u8 (Lib.accHi i)]).toArray
 let h5:=put h4 7 #[.iface 242 (.pointer (some ⟨N,0,none⟩))]
 let h6:=put h5 6 #[.iface 242 (.pointer (some ⟨N+1,0,none⟩))]
 let h7:=put h6 1 (Lib.firstTab.map fun z=>Value.int .u8 z).toArray
 {w0 with heap:=h7}
theorem open_cqw {H:Type} {enc:TypeId×Value→H} {W:World} {base:Nat} {v:Value} {d:DataW H} {p:List MemPlace} (hv:Value.okWide prog W .any base 26 v) (h:DataW.Trod enc prog W 0 (fun _=>true) true 26 v d p) :
  ∃c:Cq,v=cqa c∧CqW c∧p=[]∧∀w' base' sp' hd',DataW.Trod enc prog w' base' sp' hd' 26 v d []:=by
 obtain ⟨cs,rfl,h,hp,hr⟩:=open_agg plC skC (aggS underlying26 hv) h
 obtain ⟨z1,cs,rfl,_,h⟩:=Y8 h
 obtain ⟨s2,cs,rfl,_,h⟩:=Wh h
 obtain ⟨z3,cs,rfl,b3,h⟩:=Y8 h
 obtain ⟨z4,cs,rfl,_,h⟩:=Y8 h
 obtain ⟨z5,cs,rfl,_,h⟩:=Y8 h
 obtain ⟨s6,cs,rfl,_,h⟩:=Wh h
 obtain ⟨s7,cs,rfl,_,h⟩:=Wh h
 obtain ⟨z8,cs,rfl,b8,h⟩:=Y8 h
 obtain ⟨z9,cs,rfl,b9,h⟩:=Y8 h
 obtain ⟨z10,cs,rfl,_,h⟩:=Y8 h
 obtain ⟨s11,cs,rfl,_,h⟩:=Wh h
 obtain ⟨s12,cs,rfl,_,h⟩:=Wh h
 obtain ⟨z13,cs,rfl,b13,h⟩:=Y8 h
 obtain ⟨z14,cs,rfl,b14,h⟩:=Y8 h
 obtain rfl:=cells_nil h
 have i3:=i64_in b3;have i8:=i64_in b8;have i9:=i64_in b9;have i13:=i64_in b13;have i14:=i64_in b14
 exact ⟨⟨z1,s2,z3,z4,⟨z5,s6,s7,z8⟩,z9,⟨z10,s11,s12,z13⟩,z14⟩,rfl,⟨show z3≤_ by omega,show z8≤_ by omega,show z9≤_ by omega,show z13≤_ by omega,show z14≤_ by omega⟩,hp,hr⟩
end
end Go.Proofs.YtodkipbnefngkaaGreatDoor
