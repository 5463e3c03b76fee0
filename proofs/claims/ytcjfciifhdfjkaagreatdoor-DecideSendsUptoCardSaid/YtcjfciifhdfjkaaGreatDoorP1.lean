/-
  A region of operations whose order is drawn: a law that reduces every order to one chosen order.
  A small separation logic over worlds: facts that stay, memory that is owned, and what a call leaves.
  Operations that only reckon, evaluated by a function on the frame's known slots; and that this is what the model does.
  What the evaluating function gives is what the model's operation gives.
  The walk through a region that draws its order, in terms of facts and owned memory.
  A region that draws its order, walked once, in terms of facts and owned memory.
  A table of the translation's types: kind, size, bytes, zero value; the kernel holds it against the program.
  The walk over the program's code: rules, one for each form of code and operation.
  More rules of the walk: memory, calls, returns, regions that draw their order.
  Rules for regions that draw their order.
  Rules for slices: rows that are owned, append, conversions, indexes.
  Rules for loops.
  Rules for slices that stay as they are, for texts, for conversions.
  Rules for parts of slices, for texts and for conversions between bytes and texts.
  Rules for calls of function values and for the range over a function.
  Contracts of the small functions of cmp and of the packages lineage, object.
  Conditions: those that each theorem states.
-/
import Derived.WalkKit
import Derived.OrdersIn
import Derived.Below
import Derived.Test.YtcjfciifhdfjkaaGreatDoorProg
import Derived.KernelRfl
import Derived.TacticsIn
import Derived.Sort.LoopGhostIn
import Derived.Shelf.Abstract
import Derived.Laws.BytesString
import Derived.RangeFuncIn
import Derived.RangeFuncRecord
import Derived.RangeFuncLeaves
namespace Go.Proofs.YtcjfciifhdfjkaaGreatDoor
open Go.RowKit Go.Proofs.Tryz
abbrev fz (r:Option Nat):Fence:={Fence.wide with round:=r}
abbrev Ext (w w':World):Prop:=Below w.heap.size w w'
theorem ext_trans {a b c:World} (h:Ext a b) (k:Ext b c):Ext a c:=Below.trans h (Below.mono k h.size)
theorem ext_blk {w w':World} (h:Ext w w') {b:Nat} {o:Obj} (hb:w.heap[b]? = some o):w'.heap[b]? = some o:=
 (h.block b (Array.getElem?_eq_some_iff.1 hb).1).trans hb
theorem Yq (w:World) (o:Obj):Ext w (w.alloc o):=(Below.refl _ w).alloc (Nat.le_refl _) o
theorem Z8 (w:World) (o:Obj):(w.alloc o).heap[w.heap.size]? = some o:=by
 show (w.heap.push o)[w.heap.size]? = _
 simp
def Stab (F:World→Prop):Prop:=∀w w',Ext w w'→F w→F w'
theorem Vh {F G:World→Prop} (hF:Stab F) (hG:Stab G):Stab (fun w=>F w∧G w):=
 fun w w' h hw=>⟨hF w w' h hw.1,hG w w' h hw.2⟩
theorem stab_new (n b:Nat) (o:Obj):Stab (fun w=>n≤b∧w.heap[b]? = some o):=fun _ _ h hw=>⟨hw.1,ext_blk h hw.2⟩
def AllocRun (P:Program) (e:Sem Next) (obj:Obj) (mk:Nat→Value):Prop:=
 ∀w:World,e.run P w = .ok (.value (mk w.heap.size)) (w.alloc obj)
theorem WF {P:Program} {e:Sem Next} {o o':Obj} {mk mk':Nat→Value} (h:AllocRun P e o mk) (h':AllocRun P e o' mk') :
  o=o'∧mk=mk':=by
 have key:∀n:Nat,mk n=mk' n∧o=o':=fun n=>by
  let w:World:={(default:World) with heap:=Array.replicate n default}
  have hs:w.heap.size=n:=by simp [w]
  have h1:=(h w).symm.trans (h' w)
  rw [hs] at h1
  injection h1 with h1 h2
  injection h1 with h1
  refine ⟨h1,?_⟩
  have h3:(w.alloc o).heap[w.heap.size]? = (w.alloc o').heap[w.heap.size]?:=by rw [h2]
  rw [Z8,Z8] at h3
  exact Option.some.inj h3
 exact ⟨(key 0).2,funext fun n=>(key n).1⟩
def OpRes (P:Program) (e:Sem Next) (w:World) (R:Value→World→Prop):Prop:=
 match e.run P w with
 | .ok (.value v) w'=>R v w'
 | .ok .skip w'=>R undef w'
 | .ok (.enter f args) w'=>Calls P f args w' fun
   | .returned v,w''=>R v w''
   | _,_=>False
 | .ok (.round l f tmps assign body) w'=>RoundIn Fence.wide 0 P l f tmps assign body w' fun
   | .returned v,w''=>R v w''
   | _,_=>False
 | _=>False
theorem OpRes.mono {P:Program} {e:Sem Next} {w:World} {R R':Value→World→Prop} (h:OpRes P e w R) (hr:∀v w',R v w'→R' v w'):OpRes P e w R':=by
 unfold OpRes at *
 split at h
 ·exact hr _ _ h
 ·exact hr _ _ h
 ·exact Calls.mono h fun e w' he=>by cases e<;>first|exact hr _ _ he|exact he
 ·exact RoundIn.mono h fun e w' he=>by cases e<;>first|exact hr _ _ he|exact he
 ·exact h.elim
theorem OpRes.ex {P:Program} {e:Sem Next} {w:World} {R:Value→World→Prop} (h:OpRes P e w R):∃v w',R v w':=by
 unfold OpRes at h
 split at h
 ·exact ⟨_,_,h⟩
 ·exact ⟨_,_,h⟩
 ·obtain ⟨e,w',_,hr,_⟩:=h []
  cases e with
  | returned v=>exact ⟨v,w',hr⟩
  | panicked c=>exact hr.elim
  | outgrown=>exact hr.elim
 ·obtain ⟨e,w',hr,_⟩:=h.2 default [] (fun d hd=>by cases hd)
  cases e with
  | returned v=>exact ⟨v,w',hr⟩
  | panicked c=>exact hr.elim
  | outgrown=>exact hr.elim
 ·exact h.elim
theorem Xx {r:Option Nat} {P:Program} {f:FuncId} {args:Array Value} {w:World} {R:Ending→World→Prop} (h:Calls P f args w R):CallsIn (fz r) 0 P f args w R:=
 (callsIn_wide (n:=0)).2 h
theorem Ub {P:Program} {r:Option Nat} {Q:Exit→Act→World→Prop} {o:Oper} {a:Act} {w:World} {R:Value→World→Prop} {K:Act→World→Prop}
  (hd:∀c,o.op≠.defer c) (h:OpRes P (execOp a.eval o) w R) (hk:∀v w',R v w'→K (a.put o.dst v) w'):o.wpIn (fz r) 0 P a w K Q:=by
 refine ⟨fun _ _=>trivial,?_⟩
 rw [Oper.semAt_eq _ _ _ hd]
 unfold OpRes at h
 split at h
 ·rename_i v w' hr;simp only [hr,Oper.uponIn];exact hk _ _ h
 ·rename_i w' hr;simp only [hr,Oper.uponIn];exact hk _ _ h
 ·rename_i f args w' hr
  simp only [hr,Oper.uponIn]
  exact ⟨fun hx=>(by cases hx),Xx (Calls.mono h fun e w'' he=>by cases e<;>first|exact hk _ _ he|exact he.elim)⟩
 ·rename_i l f tmps assign body w' hr
  simp only [hr,Oper.uponIn]
  exact ⟨fun hx=>(by cases hx),(RoundIn.mono h fun e w'' he=>by cases e<;>first|exact hk _ _ he|exact he.elim)⟩
 ·exact h.elim
theorem wpOp_of_res {P:Program} {r:Option Nat} {ops:Array Oper} {Q:Exit→Act→World→Prop} {i:Nat} {o:Oper} {a:Act} {w:World} {R:Value→World→Prop} {K:Act→World→Prop}
  (hi:ops[i]? = some o) (hd:∀c,o.op≠.defer c) (hw:Region.wanted o (yielded ops a.tmps)=true) (h:OpRes P (execOp a.eval o) w R) (hk:∀v w',R v w'→K (a.put o.dst v) w') :
  wpOpIn (fz r) 0 P ops Q i K a w:=by
 unfold wpOpIn
 simp only [hi,hw,if_true]
 exact Ub hd h hk
def WL (P:Program) (ops:Array Oper) (w0:World) (E:(World→Prop)→Act→Prop):List (Nat×Nat)→(World→Prop)→Act→Prop
 | [],F,a=>E F a
 | (i,k)::L,F,a=>∀o,ops[i]? = some o→(∃w,Ext w0 w∧F w)→
  if Region.wanted o (yielded ops a.tmps)=true then
   match k with
   | 0=>∃v,(∀w,Ext w0 w→F w→(execOp a.eval o).run P w = .ok (.value v) w)∧WL P ops w0 E L F (a.put o.dst v)
   | 1=>∃obj mk,AllocRun P (execOp a.eval o) obj mk∧∀b,WL P ops w0 E L (fun w=>F w∧w0.heap.size≤b∧w.heap[b]? = some obj) (a.put o.dst (mk b))
   | _=>∃Φ:Value→World→Prop,(∀v,Stab (Φ v))∧(∀w,Ext w0 w→F w→OpRes P (execOp a.eval o) w fun v w'=>Ext w w'∧Φ v w')∧
     ∀v,WL P ops w0 E L (fun w=>F w∧Φ v w) (a.put o.dst v)
  else WL P ops w0 E L F (a.put o.dst undef)
variable {P:Program} {w0:World}
section
variable {ops:Array Oper} {E:(World→Prop)→Act→Prop}
theorem WL.anti (hE:∀F F' a,(∀w,F' w→F w)→E F a→E F' a):∀(L:List (Nat×Nat)) (F F':World→Prop) (a:Act),(∀w,F' w→F w)→WL P ops w0 E L F a→WL P ops w0 E L F' a
 | [],F,F',a,hF,h=>hE F F' a hF h
 | (i,k)::L,F,F',a,hF,h=>by
  rintro o ho ⟨wx,hwx,hfx⟩
  have h:=h o ho ⟨wx,hwx,hF wx hfx⟩
  split
  ·rename_i hw
   rw [if_pos hw] at h
   match k with
   | 0=>
    obtain ⟨v,h1,h2⟩:=h
    exact ⟨v,fun w hb hf=>h1 w hb (hF w hf),WL.anti hE L F F' _ hF h2⟩
   | 1=>
    obtain ⟨obj,mk,h1,h2⟩:=h
    exact ⟨obj,mk,h1,fun b=>WL.anti hE L _ _ _ (fun w hw=>⟨hF w hw.1,hw.2⟩) (h2 b)⟩
   | k+2=>
    obtain ⟨Φ,hs,h1,h2⟩:=h
    exact ⟨Φ,hs,fun w hb hf=>h1 w hb (hF w hf),fun v=>WL.anti hE L _ _ _ (fun w hw=>⟨hF w hw.1,hw.2⟩) (h2 v)⟩
  ·rename_i hw
   rw [if_neg hw] at h
   exact WL.anti hE L F F' _ hF h
theorem WL.none (hE0:∀F a,(∀w,Ext w0 w→¬F w)→E F a) {F:World→Prop} (hF:∀w,Ext w0 w→¬F w) (L:List (Nat×Nat)) (a:Act):WL P ops w0 E L F a:=by
 cases L with
 | nil=>exact hE0 F a hF
 | cons x L=>exact fun _ _ ⟨w,hx,hf⟩=>(hF w hx hf).elim
def apartOf (ops:Array Oper) (y x:Nat):Bool:=
 match ops[y]?,ops[x]? with
 | some oy,some ox=>oy.apart ops ox
 | _,_=>false
theorem Zk {y x:Nat} {oy ox:Oper} (hy:ops[y]? = some oy) (hx:ops[x]? = some ox) (h:apartOf ops y x=true) :
  (∀d,oy.dst=some d→d ∉ ox.looksAt ops)∧(∀d,oy.dst=some d→ox.dst≠some d)∧(∀d,ox.dst=some d→d ∉ oy.looksAt ops):=by
 simp only [apartOf,hy,hx] at h
 exact Oper.apart_spec h
variable (hsel:Region.noSelect ops=true) (hE:∀F F' a,(∀w,F' w→F w)→E F a→E F' a) (hE0:∀F a,(∀w,Ext w0 w→¬F w)→E F a)
include hsel hE hE0
theorem WL.pull {i:Nat} {oi:Oper} (hi:ops[i]? = some oi) (C:List (Nat×Nat)):∀(A:List (Nat×Nat)) (F:World→Prop) (a:Act),
  (∀y ∈ A,apartOf ops y.1 i=true)→(∀y ∈ A,∃oy,ops[y.1]? = some oy)→Stab F→(∃w,Ext w0 w∧F w)→WL P ops w0 E (A++(i,1)::C) F a→
  if Region.wanted oi (yielded ops a.tmps)=true then
   ∃obj mk,AllocRun P (execOp a.eval oi) obj mk∧∀b,WL P ops w0 E (A++C) (fun w=>F w∧w0.heap.size≤b∧w.heap[b]? = some obj) (a.put oi.dst (mk b))
  else WL P ops w0 E (A++C) F (a.put oi.dst undef)
 | [],F,a,_,_,_,hne,h=>by
  have h:=h oi hi hne
  exact h
 | (y,ky)::A,F,a,hap,hin,hst,hne,h=>by
  obtain ⟨oy,hy⟩:=hin (y,ky) List.mem_cons_self
  obtain ⟨ap1,ap2,ap3⟩:=Zk hy hi (hap (y,ky) List.mem_cons_self)
  have hsi:∀cs b,oi.op≠.select cs b:=fun cs b=>Region.noSelect_spec hsel i oi cs b hi
  have hsy:∀cs b,oy.op≠.select cs b:=fun cs b=>Region.noSelect_spec hsel y oy cs b hy
  have hap':∀z ∈ A,apartOf ops z.1 i=true:=fun z hz=>hap z (List.mem_cons_of_mem _ hz)
  have hin':∀z ∈ A,∃oz,ops[z.1]? = some oz:=fun z hz=>hin z (List.mem_cons_of_mem _ hz)
  obtain ⟨wn,hwn,hfn⟩:=hne
  have h:=h oy hy ⟨wn,hwn,hfn⟩
  have ih:=fun F' v (hst':Stab F') (hne':∃w,Ext w0 w∧F' w) (hh:WL P ops w0 E (A++(i,1)::C) F' (a.put oy.dst v))=>WL.pull hi C A F' (a.put oy.dst v) hap' hin' hst' hne' hh
  have ewi:∀v,Region.wanted oi (yielded ops (a.put oy.dst v).tmps)=Region.wanted oi (yielded ops a.tmps):=fun v=>wanted_put oi a oy.dst v ap1
  have eei:∀v,execOp (a.put oy.dst v).eval oi=execOp a.eval oi:=fun v=>execOp_put oi hsi a oy.dst v ap1
  have ewy:∀v,Region.wanted oy (yielded ops (a.put oi.dst v).tmps)=Region.wanted oy (yielded ops a.tmps):=fun v=>wanted_put oy a oi.dst v ap3
  have eey:∀v,execOp (a.put oi.dst v).eval oy=execOp a.eval oy:=fun v=>execOp_put oy hsy a oi.dst v ap3
  have hcom:∀v u,(a.put oy.dst v).put oi.dst u=(a.put oi.dst u).put oy.dst v:=fun v u=>Act.put_comm a v u ap2
  have only:∀{o':Oper},ops[y]? = some o'→o'=oy:=fun ho=>Option.some.inj (ho.symm.trans hy)
  by_cases hwy:Region.wanted oy (yielded ops a.tmps)=true
  ·rw [if_pos hwy] at h
   match ky with
   | 0=>
    obtain ⟨v,hq,h2⟩:=h
    have h3:=ih F v hst ⟨wn,hwn,hfn⟩ h2
    rw [ewi,eei] at h3
    by_cases hwi:Region.wanted oi (yielded ops a.tmps)=true
    ·rw [if_pos hwi] at h3 ⊢
     obtain ⟨obj,mk,hr,h4⟩:=h3
     refine ⟨obj,mk,hr,fun b o' ho' _=>?_⟩
     rw [only ho',ewy,if_pos hwy]
     refine ⟨v,fun w hb hf=>by rw [eey];exact hq w hb hf.1,?_⟩
     rw [←hcom];exact h4 b
    ·rw [if_neg hwi] at h3 ⊢
     intro o' ho' _
     rw [only ho',ewy,if_pos hwy]
     refine ⟨v,fun w hb hf=>by rw [eey];exact hq w hb hf,?_⟩
     rw [←hcom];exact h3
   | 1=>
    obtain ⟨obj',mk',hr',h2⟩:=h
    have hst2:∀b',Stab (fun w=>F w∧w0.heap.size≤b'∧w.heap[b']? = some obj'):=fun b'=>Vh hst (stab_new _ _ _)
    have h3:=fun b' hne'=>ih _ _ (hst2 b') hne' (h2 b')
    have hne0:∃w,Ext w0 w∧F w∧w0.heap.size≤wn.heap.size∧w.heap[wn.heap.size]? = some obj':=
     ⟨wn.alloc obj',ext_trans hwn (Yq _ _),hst _ _ (Yq _ _) hfn,hwn.size,Z8 _ _⟩
    simp only [ewi,eei] at h3
    by_cases hwi:Region.wanted oi (yielded ops a.tmps)=true
    ·simp only [if_pos hwi] at h3 ⊢
     obtain ⟨obj,mk,hr,_⟩:=h3 wn.heap.size hne0
     refine ⟨obj,mk,hr,fun b o' ho' _=>?_⟩
     rw [only ho',ewy,if_pos hwy]
     refine ⟨obj',mk',by rw [eey];exact hr',fun b'=>?_⟩
     by_cases hx:∃w,Ext w0 w∧F w∧w0.heap.size≤b'∧w.heap[b']? = some obj'
     ·obtain ⟨obj2,mk2,hr2,h4⟩:=h3 b' hx
      obtain ⟨rfl,rfl⟩:=WF hr hr2
      rw [←hcom]
      exact WL.anti hE _ _ _ _ (fun w hw=>⟨⟨hw.1.1,hw.2⟩,hw.1.2⟩) (h4 b)
     ·exact WL.none hE0 (fun w hw hf=>hx ⟨w,hw,hf.1.1,hf.2⟩) _ _
    ·simp only [if_neg hwi] at h3 ⊢
     intro o' ho' _
     rw [only ho',ewy,if_pos hwy]
     refine ⟨obj',mk',by rw [eey];exact hr',fun b'=>?_⟩
     by_cases hx:∃w,Ext w0 w∧F w∧w0.heap.size≤b'∧w.heap[b']? = some obj'
     ·rw [←hcom];exact h3 b' hx
     ·exact WL.none hE0 (fun w hw hf=>hx ⟨w,hw,hf⟩) _ _
   | k+2=>
    obtain ⟨Φ,hs,hq,h2⟩:=h
    have hst2:∀v,Stab (fun w=>F w∧Φ v w):=fun v=>Vh hst (hs v)
    have h3:=fun v hne'=>ih _ _ (hst2 v) hne' (h2 v)
    obtain ⟨v0,w1,hx1,hΦ1⟩:=(hq wn hwn hfn).ex
    have hne0:∃w,Ext w0 w∧F w∧Φ v0 w:=⟨w1,ext_trans hwn hx1,hst _ _ hx1 hfn,hΦ1⟩
    simp only [ewi,eei] at h3
    by_cases hwi:Region.wanted oi (yielded ops a.tmps)=true
    ·simp only [if_pos hwi] at h3 ⊢
     obtain ⟨obj,mk,hr,_⟩:=h3 v0 hne0
     refine ⟨obj,mk,hr,fun b o' ho' _=>?_⟩
     rw [only ho',ewy,if_pos hwy]
     refine ⟨Φ,hs,fun w hb hf=>by rw [eey];exact hq w hb hf.1,fun v=>?_⟩
     by_cases hx:∃w,Ext w0 w∧F w∧Φ v w
     ·obtain ⟨obj2,mk2,hr2,h4⟩:=h3 v hx
      obtain ⟨rfl,rfl⟩:=WF hr hr2
      rw [←hcom]
      exact WL.anti hE _ _ _ _ (fun w hw=>⟨⟨hw.1.1,hw.2⟩,hw.1.2⟩) (h4 b)
     ·exact WL.none hE0 (fun w hw hf=>hx ⟨w,hw,hf.1.1,hf.2⟩) _ _
    ·simp only [if_neg hwi] at h3 ⊢
     intro o' ho' _
     rw [only ho',ewy,if_pos hwy]
     refine ⟨Φ,hs,fun w hb hf=>by rw [eey];exact hq w hb hf,fun v=>?_⟩
     by_cases hx:∃w,Ext w0 w∧F w∧Φ v w
     ·rw [←hcom];exact h3 v hx
     ·exact WL.none hE0 (fun w hw hf=>hx ⟨w,hw,hf⟩) _ _
  ·rw [if_neg hwy] at h
   have h3:=ih F undef hst ⟨wn,hwn,hfn⟩ h
   rw [ewi,eei] at h3
   by_cases hwi:Region.wanted oi (yielded ops a.tmps)=true
   ·rw [if_pos hwi] at h3 ⊢
    obtain ⟨obj,mk,hr,h4⟩:=h3
    refine ⟨obj,mk,hr,fun b o' ho' _=>?_⟩
    rw [only ho',ewy,if_neg hwy,←hcom]
    exact h4 b
   ·rw [if_neg hwi] at h3 ⊢
    intro o' ho' _
    rw [only ho',ewy,if_neg hwy,←hcom]
    exact h3
theorem WL.first {i k:Nat} {oi:Oper} (hi:ops[i]? = some oi) (C:List (Nat×Nat)):∀(A:List (Nat×Nat)) (F:World→Prop) (a:Act),
  (∀y ∈ A,apartOf ops y.1 i=true∧(y.2=0∨k=1))→(∀y ∈ A,∃oy,ops[y.1]? = some oy)→Stab F→(∃w,Ext w0 w∧F w)→WL P ops w0 E (A++(i,k)::C) F a→
  if Region.wanted oi (yielded ops a.tmps)=true then
   ∀w,Ext w0 w→F w→OpRes P (execOp a.eval oi) w fun v w'=>Ext w w'∧∃F':World→Prop,Stab F'∧F' w'∧(∀w,F' w→F w)∧WL P ops w0 E (A++C) F' (a.put oi.dst v)
  else WL P ops w0 E (A++C) F (a.put oi.dst undef):=by
 intro A F a hap hin hst hne h
 by_cases hk:k=1
 ·subst hk
  have h1:=WL.pull hsel hE hE0 hi C A F a (fun y hy=>(hap y hy).1) hin hst hne h
  split
  ·rename_i hw
   rw [if_pos hw] at h1
   obtain ⟨obj,mk,hr,h2⟩:=h1
   intro w hb hf
   unfold OpRes
   rw [hr w]
   exact ⟨Yq w obj,_,Vh hst (stab_new _ _ _),⟨hst _ _ (Yq w obj) hf,hb.size,Z8 w obj⟩,fun w hw=>hw.1,h2 w.heap.size⟩
  ·rename_i hw
   rw [if_neg hw] at h1
   exact h1
 ·induction A generalizing F a with
  | nil=>
   have h:=h oi hi hne
   split
   ·rename_i hw
    rw [if_pos hw] at h
    intro w hb hf
    match k,hk with
    | 0,_=>
     obtain ⟨v,hq,h2⟩:=h
     unfold OpRes
     rw [hq w hb hf]
     exact ⟨Below.refl _ _,F,hst,hf,fun _ h=>h,h2⟩
    | k+2,_=>
     obtain ⟨Φ,hs,hq,h2⟩:=h
     exact (hq w hb hf).mono fun v w' hv=>⟨hv.1,_,Vh hst (hs v),⟨hst _ _ hv.1 hf,hv.2⟩,fun _ h=>h.1,h2 v⟩
   ·rename_i hw
    rw [if_neg hw] at h
    exact h
  | cons yk A ihA=>
   obtain ⟨y,ky⟩:=yk
   obtain ⟨oy,hy⟩:=hin (y,ky) List.mem_cons_self
   obtain ⟨hap0,hky⟩:=hap (y,ky) List.mem_cons_self
   obtain ⟨ap1,ap2,ap3⟩:=Zk hy hi hap0
   obtain rfl:ky=0:=by rcases hky with h|h;exact h;exact absurd h hk
   have hsi:∀cs b,oi.op≠.select cs b:=fun cs b=>Region.noSelect_spec hsel i oi cs b hi
   have hsy:∀cs b,oy.op≠.select cs b:=fun cs b=>Region.noSelect_spec hsel y oy cs b hy
   have hap':=fun z hz=>hap z (List.mem_cons_of_mem _ hz)
   have hin':=fun z hz=>hin z (List.mem_cons_of_mem _ hz)
   have h:=h oy hy hne
   have ih:=fun v (hh:WL P ops w0 E (A++(i,k)::C) F (a.put oy.dst v))=>ihA F (a.put oy.dst v) hap' hin' hst hne hh
   have ewi:∀v,Region.wanted oi (yielded ops (a.put oy.dst v).tmps)=Region.wanted oi (yielded ops a.tmps):=fun v=>wanted_put oi a oy.dst v ap1
   have eei:∀v,execOp (a.put oy.dst v).eval oi=execOp a.eval oi:=fun v=>execOp_put oi hsi a oy.dst v ap1
   have ewy:∀v,Region.wanted oy (yielded ops (a.put oi.dst v).tmps)=Region.wanted oy (yielded ops a.tmps):=fun v=>wanted_put oy a oi.dst v ap3
   have eey:∀v,execOp (a.put oi.dst v).eval oy=execOp a.eval oy:=fun v=>execOp_put oy hsy a oi.dst v ap3
   have hcom:∀v u,(a.put oy.dst v).put oi.dst u=(a.put oi.dst u).put oy.dst v:=fun v u=>Act.put_comm a v u ap2
   have only:∀{o':Oper},ops[y]? = some o'→o'=oy:=fun ho=>Option.some.inj (ho.symm.trans hy)
   by_cases hwy:Region.wanted oy (yielded ops a.tmps)=true
   ·rw [if_pos hwy] at h
    obtain ⟨v,hq,h2⟩:=h
    have h3:=ih v h2
    rw [ewi,eei] at h3
    by_cases hwi:Region.wanted oi (yielded ops a.tmps)=true
    ·rw [if_pos hwi] at h3 ⊢
     intro w hb hf
     refine (h3 w hb hf).mono fun u w' hu=>?_
     obtain ⟨he,F',hs',hf',himp,h4⟩:=hu
     refine ⟨he,F',hs',hf',himp,fun o' ho' _=>?_⟩
     rw [only ho',ewy,if_pos hwy]
     refine ⟨v,fun w hb hf=>by rw [eey];exact hq w hb (himp w hf),?_⟩
     rw [←hcom];exact h4
    ·rw [if_neg hwi] at h3 ⊢
     intro o' ho' _
     rw [only ho',ewy,if_pos hwy]
     refine ⟨v,fun w hb hf=>by rw [eey];exact hq w hb hf,?_⟩
     rw [←hcom];exact h3
   ·rw [if_neg hwy] at h
    have h3:=ih undef h
    rw [ewi,eei] at h3
    by_cases hwi:Region.wanted oi (yielded ops a.tmps)=true
    ·rw [if_pos hwi] at h3 ⊢
     intro w hb hf
     refine (h3 w hb hf).mono fun u w' hu=>?_
     obtain ⟨he,F',hs',hf',himp,h4⟩:=hu
     refine ⟨he,F',hs',hf',himp,fun o' ho' _=>?_⟩
     rw [only ho',ewy,if_neg hwy,←hcom]
     exact h4
    ·rw [if_neg hwi] at h3 ⊢
     intro o' ho' _
     rw [only ho',ewy,if_neg hwy,←hcom]
     exact h3
end
section
variable {r:Option Nat} {ops:Array Oper} {M:Array Nat}
def earlier (M:Array Nat) (y x:Nat):Bool:=(M.getD x 0).testBit y
def dirDep (ops:Array Oper) (x y:Nat):Bool:=(ops[x]?).any fun o=>o.after.any fun e=>Region.binds .any e && e.on == y
def pairsAll {α:Type} (f:α→α→Bool):List α→Bool
 | []=>true
 | x::l=>l.all (f x) && pairsAll f l
theorem YS {α:Type} {f:α→α→Bool}:∀{l:List α},pairsAll f l=true→l.Pairwise fun x y=>f x y=true
 | [],_=>List.Pairwise.nil
 | x::l,h=>by
  simp only [pairsAll,Bool.and_eq_true,List.all_eq_true] at h
  exact List.Pairwise.cons h.1 (YS h.2)
def okPair (ops:Array Oper) (M:Array Nat) (y x:Nat×Nat):Bool:=earlier M y.1 x.1 || (apartOf ops y.1 x.1 && (y.2 == 0 || x.2 == 1 || x.2 == 2 || (x.2 == 0 && y.2 != 2) || (x.2 == 3 && y.2 == 3) || (x.2 == 5 && y.2 == 3)))
def okEdges (ops:Array Oper) (M:Array Nat):Bool:=
 (List.range ops.size).all fun x=>match ops[x]? with
  | none=>true
  | some o=>(o.after.all fun e=>!Region.binds .any e || (e.on != x && decide (e.on<ops.size))) &&
    (List.range ops.size).all fun y=>!earlier M y x || o.after.any fun e=>Region.binds .any e && (e.on == y || earlier M y e.on)
def noDefer (ops:Array Oper):Bool:=ops.all fun o=>match o.op with | .defer _=>false|_=>true
theorem noDefer_spec {ops:Array Oper} (h:noDefer ops=true) {j:Nat} {o:Oper} (ho:ops[j]? = some o) (c:Call):o.op≠.defer c:=by
 intro heq
 have:=Array.all_eq_true_iff_forall_mem.1 h o (Array.mem_of_getElem? ho)
 simp [heq] at this
def okW (ops:Array Oper) (M:Array Nat) (L:List (Nat×Nat)) (T:List Nat):Bool:=
 let R:=L.map (·.1)++T
 noDefer ops && Region.noSelect ops && decide (M.size≤ops.size) && (M.all fun m=>decide (m<2 ^ ops.size)) && okEdges ops M && (R.all fun i=>decide (i<ops.size)) && (List.range ops.size).all (R.contains ·) &&
 pairsAll (fun y x=>y != x && !dirDep ops y x) R && pairsAll (okPair ops M) L && (L.all fun y=>T.all fun t=>earlier M y.1 t) && pairsAll (fun y t=>earlier M y t) T
structure RInv (ops:Array Oper) (M:Array Nat) (listed:Array Bool) (L:List (Nat×Nat)) (T:List Nat):Prop where
 size:listed.size=ops.size
 mem:∀i,listed.getD i true=false↔i ∈ L.map (·.1)++T
 blk:∀y ∈ L.map (·.1)++T,∀x,earlier M y x=true→x ∈ L.map (·.1)++T
 topo:(L.map (·.1)++T).Pairwise fun y x=>(y != x && !dirDep ops y x)=true
 pl:L.Pairwise fun y x=>okPair ops M y x=true
 plt:∀y ∈ L,∀t ∈ T,earlier M y.1 t=true
 pt:T.Pairwise fun y t=>earlier M y t=true
structure RFix (ops:Array Oper) (M:Array Nat):Prop where
 def_:noDefer ops=true
 sel:Region.noSelect ops=true
 cl:∀x y,earlier M y x=true→∃o,ops[x]? = some o∧∃e ∈ o.after,Region.binds .any e=true∧(e.on=y∨earlier M y e.on=true)
 ed:∀(x:Nat) (o:Oper),ops[x]? = some o→∀e ∈ o.after,Region.binds .any e=true→e.on≠x∧e.on<ops.size
theorem rfix_of (hdf:noDefer ops=true) (h:okEdges ops M=true) (hsel:Region.noSelect ops=true) (hM:M.size≤ops.size) (hb:∀m ∈ M,m<2 ^ ops.size):RFix ops M:=by
 have h0:∀x,x<ops.size→_:=List.all_eq_true.1 h |> fun h x hx=>h x (List.mem_range.2 hx)
 refine ⟨hdf,hsel,fun x y hxy=>?_,fun x o ho e he hbd=>?_⟩
 ·have hx:x<M.size:=by
   rcases Nat.lt_or_ge x M.size with hx|hx
   ·exact hx
   ·simp [earlier,Array.getElem?_eq_none hx] at hxy
  have hx':x<ops.size:=Nat.lt_of_lt_of_le hx hM
  have h1:=h0 x hx'
  have ho:ops[x]? = some ops[x]:=by simp [hx']
  rw [ho] at h1
  simp only [Bool.and_eq_true,List.all_eq_true] at h1
  have hy:y<ops.size:=by
   rcases Nat.lt_or_ge y ops.size with hy|hy
   ·exact hy
   ·have hm:=hb M[x] (by simp)
    have:M[x].testBit y=false:=Nat.testBit_lt_two_pow (Nat.lt_of_lt_of_le hm (Nat.pow_le_pow_right (by omega) hy))
    simp [earlier,hx,this] at hxy
  have h2:=h1.2 y (List.mem_range.2 hy)
  simp only [hxy,Bool.not_true,Bool.false_or] at h2
  obtain ⟨e,he,hbe⟩:=Array.any_eq_true'.1 h2
  simp only [Bool.and_eq_true,Bool.or_eq_true,beq_iff_eq] at hbe
  exact ⟨_,ho,e,he,hbe.1,hbe.2⟩
 ·have hx':x<ops.size:=(Array.getElem?_eq_some_iff.1 ho).1
  have h1:=h0 x hx'
  rw [ho] at h1
  simp only [Bool.and_eq_true] at h1
  have h2:=Array.all_eq_true_iff_forall_mem.1 h1.1 e he
  simp only [hbd,Bool.not_true,Bool.false_or,Bool.and_eq_true,bne_iff_ne,ne_eq,decide_eq_true_eq] at h2
  exact h2
theorem listed_true {listed:Array Bool} {i:Nat} (hs:i<listed.size) (h:¬listed.getD i true=false):listed.getD i false=true:=by
 simp [hs] at h ⊢;exact h
theorem RInv.notB {listed:Array Bool} {L:List (Nat×Nat)} {T:List Nat} (fx:RFix ops M) (inv:RInv ops M listed L T) {i:Nat} (hi:i ∈ Region.ready .any ops listed) {y:Nat}
  (hy:y ∈ L.map (·.1)++T):earlier M y i=false:=by
 cases hB:earlier M y i with
 | false=>rfl
 | true=>
  exfalso
  obtain ⟨_,o,ho,hall⟩:=mem_ready.1 hi
  obtain ⟨o',ho',e,he,hbd,hor⟩:=fx.cl i y hB
  obtain rfl:o'=o:=Option.some.inj (ho'.symm.trans ho)
  have h1:=hall e he hbd
  have hmem:e.on ∈ L.map (·.1)++T:=by
   rcases hor with h|h
   ·rw [h];exact hy
   ·exact inv.blk y hy _ h
  have h2:=(inv.mem e.on).2 hmem
  rcases Nat.lt_or_ge e.on listed.size with h'|h'
  ·simp [h'] at h1 h2;rw [h2] at h1;cases h1
  ·simp [Array.getElem?_eq_none h'] at h1
theorem RInv.headReady {listed:Array Bool} {L:List (Nat×Nat)} {T:List Nat} (fx:RFix ops M) (inv:RInv ops M listed L T) {x:Nat} {R:List Nat} (hR:L.map (·.1)++T=x::R) (hx:x<ops.size) :
  x ∈ Region.ready .any ops listed:=by
 have ho:ops[x]? = some ops[x]:=by simp [hx]
 refine mem_ready.2 ⟨(inv.mem x).2 (by rw [hR];exact List.mem_cons_self),_,ho,fun e he hbd=>?_⟩
 obtain ⟨hne,hlt⟩:=fx.ed x _ ho e he hbd
 refine listed_true (by rw [inv.size];exact hlt) fun hun=>?_
 have hm:=(inv.mem e.on).1 hun
 have ht:=inv.topo
 rw [hR] at hm ht
 rcases List.mem_cons.1 hm with h|h
 ·exact hne h
 ·have:=(List.pairwise_cons.1 ht).1 _ h
  have hd:dirDep ops x e.on=true:=by
   simp only [dirDep,ho,Option.any_some]
   exact Array.any_eq_true'.2 ⟨e,he,by simp [hbd]⟩
  simp [hd] at this
theorem RInv.step {listed:Array Bool} {L L':List (Nat×Nat)} {T T':List Nat} (fx:RFix ops M) (inv:RInv ops M listed L T) {i:Nat} (hi:i ∈ Region.ready .any ops listed)
  (hsubL:L'.Sublist L) (hsubT:T'.Sublist T) (hmem:∀j,j ∈ L'.map (·.1)++T'↔j ∈ L.map (·.1)++T∧j≠i):RInv ops M (listed.setIfInBounds i true) L' T':=by
 have hlt:i<listed.size:=by
  obtain ⟨_,o,ho,_⟩:=mem_ready.1 hi
  rw [inv.size];exact (Array.getElem?_eq_some_iff.1 ho).1
 refine ⟨by simp [inv.size],fun j=>?_,fun y hy x hB=>?_,inv.topo.sublist ((hsubL.map _).append hsubT),inv.pl.sublist hsubL,fun y hy t ht=>inv.plt y (hsubL.subset hy) t (hsubT.subset ht),inv.pt.sublist hsubT⟩
 ·rw [hmem]
  by_cases hji:j=i
  ·subst hji;simp [hlt]
  ·rw [getD_set_ne true (Ne.symm hji),inv.mem];simp [hji]
 ·rw [hmem] at hy ⊢
  refine ⟨inv.blk y hy.1 x hB,fun hxi=>?_⟩
  subst hxi
  rw [inv.notB fx hi hy.1] at hB
  cases hB
theorem wpAny_tail {Q:Exit→Act→World→Prop} (fx:RFix ops M):∀(T:List Nat) (a:Act) (w:World) (listed:Array Bool),RInv ops M listed [] T→(∀t ∈ T,t<ops.size)→wpOpsIn (fz r) 0 P ops Q T a w→wpAnyIn (fz r) 0 P .any ops Q T.length listed a w
 | [],a,w,listed,inv,_,h=>by
  have hr:Region.ready .any ops listed=[]:=by
   refine List.eq_nil_iff_forall_not_mem.2 fun i hi=>?_
   have:=(inv.mem i).1 (mem_ready.1 hi).1
   simp at this
  exact ⟨hr,h⟩
 | t::T,a,w,listed,inv,hlt,h=>by
  have htr:=inv.headReady fx (x:=t) (R:=T) (by simp) (hlt t List.mem_cons_self)
  refine ⟨fun h0=>(by rw [h0] at htr;cases htr),fun i hi=>?_⟩
  have him:=(inv.mem i).1 (mem_ready.1 hi).1
  simp only [List.map_nil,List.nil_append] at him
  have hit:i=t:=by
   rcases List.mem_cons.1 him with h|h
   ·exact h
   ·have h1:=(List.pairwise_cons.1 inv.pt).1 i h
    rw [inv.notB fx hi (y:=t) (by simp)] at h1
    cases h1
  subst hit
  rw [wpOpsIn_cons] at h
  have hnd:∀j ∈ T,j≠i:=fun j hj e=>by
   have h1:=(List.pairwise_cons.1 inv.topo).1 j hj
   simp [e] at h1
  refine wpOpIn_mono (fun a' w' h'=>wpAny_tail fx T a' w' _ (inv.step fx hi (List.Sublist.refl _) (List.sublist_cons_self _ _) fun j=>?_) (fun t ht=>hlt t (List.mem_cons_of_mem _ ht)) h') h
  simp only [List.map_nil,List.nil_append,List.mem_cons]
  exact ⟨fun hj=>⟨.inr hj,hnd j hj⟩,fun hj=>hj.1.resolve_left hj.2⟩
end
abbrev H:=Nat→Option Obj
abbrev HP:=H→Prop
def Sub (h k:H):Prop:=∀b o,h b=some o→k b=some o
def Dj (h k:H):Prop:=∀b,h b=none∨k b=none
def un (h k:H):H:=fun b=>match h b with|some o=>some o|none=>k b
def In (h:H) (w:World):Prop:=∀b o,h b=some o→w.heap[b]? = some o
def one (b:Nat) (o:Obj):H:=fun c=>if c=b then some o else none
def emp:H:=fun _=>none
theorem Sub.refl (h:H):Sub h h:=fun _ _ e=>e
theorem Sub.trans {a b c:H} (h:Sub a b) (k:Sub b c):Sub a c:=fun x o e=>k x o (h x o e)
theorem Dj.symm {h k:H} (d:Dj h k):Dj k h:=fun b=>(d b).symm
theorem Dj.sub {h k h':H} (d:Dj h k) (s:Sub h' h):Dj h' k:=fun b=>by
 rcases d b with e|e
 ·left;cases hb:h' b with
  | none=>rfl
  | some o=>rw [s b o hb] at e;cases e
 ·exact .inr e
theorem Dj.sub2 {h k h' k':H} (d:Dj h k) (s:Sub h' h) (t:Sub k' k):Dj h' k':=(d.sub s).symm.sub t |>.symm
theorem ZL (h k:H):Sub h (un h k):=fun b o e=>by simp [un,e]
theorem ZN {h k:H} (d:Dj h k):Sub k (un h k):=fun b o e=>by
 rcases d b with h1|h1
 ·simp [un,h1,e]
 ·rw [h1] at e;cases e
theorem un_or {h k:H} {b:Nat} {o:Obj} (e:un h k b=some o):h b=some o∨k b=some o:=by
 unfold un at e
 split at e
 ·rename_i x hx;exact .inl (by rw [hx];exact e)
 ·exact .inr e
theorem un_none {h k:H} {b:Nat}:un h k b=none↔h b=none∧k b=none:=by
 unfold un;split<;>simp_all
theorem Zh {h k l:H}:Dj (un h k) l↔Dj h l∧Dj k l:=by
 constructor
 ·intro d
  refine ⟨fun b=>?_,fun b=>?_⟩
  ·rcases d b with e|e
   ·exact .inl (un_none.1 e).1
   ·exact .inr e
  ·rcases d b with e|e
   ·exact .inl (un_none.1 e).2
   ·exact .inr e
 ·rintro ⟨d,e⟩ b
  rcases d b with h1|h1
  ·rcases e b with h2|h2
   ·exact .inl (un_none.2 ⟨h1,h2⟩)
   ·exact .inr h2
  ·exact .inr h1
theorem sub_un {h k l:H} (a:Sub h l) (b:Sub k l):Sub (un h k) l:=fun x o e=>(un_or e).elim (a x o) (b x o)
theorem In.sub {h k:H} {w:World} (i:In h w) (s:Sub k h):In k w:=fun b o e=>i b o (s b o e)
theorem In.un {h k:H} {w:World} (i:In h w) (j:In k w):In (un h k) w:=fun b o e=>(un_or e).elim (i b o) (j b o)
theorem In.ext {h:H} {w w':World} (i:In h w) (x:Ext w w'):In h w':=fun b o e=>ext_blk x (i b o e)
theorem In.lt {h:H} {w:World} (i:In h w) {b:Nat} {o:Obj} (e:h b=some o):b<w.heap.size:=(Array.getElem?_eq_some_iff.1 (i b o e)).1
theorem one_same (b:Nat) (o:Obj):one b o b=some o:=by simp [one]
theorem one_some {b c:Nat} {o p:Obj} (e:one b o c=some p):c=b∧p=o:=by
 unfold one at e
 split at e
 ·rename_i h;exact ⟨h,(Option.some.inj e).symm⟩
 ·cases e
theorem WV {b:Nat} {o:Obj} {h:H} (e:h b=none):Dj (one b o) h:=fun c=>by
 by_cases hc:c=b
 ·subst hc;exact .inr e
 ·left;simp [one,hc]
structure Pf where
 p:HP
 m:∀h k,Sub h k→p h→p k
def Blk (b:Nat) (o:Obj):Pf:=⟨fun h=>h b=some o,fun _ _ s e=>s b o e⟩
def Pt (b:Nat) (o:Obj):HP:=fun h=>h b=some o
def Sep:List HP→H→Prop
 | [],_=>True
 | r::R,h=>∃h1 h2,Dj h1 h2∧Sub h1 h∧Sub h2 h∧r h1∧Sep R h2
theorem Sep.sub:∀{R:List HP} {h k:H},Sep R h→Sub h k→Sep R k
 | [],_,_,_,_=>trivial
 | _::_,_,_,⟨h1,h2,d,s1,s2,hr,hs⟩,s=>⟨h1,h2,d,s1.trans s,s2.trans s,hr,hs⟩
inductive Sel {α:Type} (x:α):List α→List α→Prop
 | here {R:List α}:Sel x (x::R) R
 | there {y:α} {R R':List α}:Sel x R R'→Sel x (y::R) (y::R')
theorem Sel.sep {x:HP} {R R':List HP} (s:Sel x R R'):∀{h:H},Sep R h→Sep (x::R') h:=by
 induction s with
 | here=>exact fun h=>h
 | there _ ih=>
  rintro h ⟨h1,h2,d,s1,s2,hy,hs⟩
  obtain ⟨k1,k2,d',t1,t2,hx,hs'⟩:=ih hs
  exact ⟨k1,un h1 k2,(Zh.2 ⟨d.sub2 (Sub.refl _) t1,d'.symm⟩).symm,t1.trans s2,sub_un s1 (t2.trans s2),hx,
   h1,k2,d.sub2 (Sub.refl _) t2,ZL _ _,ZN (d.sub2 (Sub.refl _) t2),hy,hs'⟩
theorem Sel.mem {α:Type} {x:α} {R R':List α} (s:Sel x R R'):x ∈ R:=by
 induction s with
 | here=>exact List.mem_cons_self
 | there _ ih=>exact List.mem_cons_of_mem _ ih
inductive Sels {α:Type}:List α→List α→List α→Prop
 | nil {R:List α}:Sels [] R R
 | cons {x:α} {A R R1 R':List α}:Sel x R R1→Sels A R1 R'→Sels (x::A) R R'
theorem YV:∀{A R:List HP} {h:H},Sep (A++R) h→∃h1 h2,Dj h1 h2∧Sub h1 h∧Sub h2 h∧Sep A h1∧Sep R h2
 | [],R,h,hs=>⟨emp,h,fun _=>.inl rfl,fun _ _ e=>(by cases e),Sub.refl _,trivial,hs⟩
 | x::A,R,h,⟨h1,h2,d,s1,s2,hx,hs⟩=>by
  obtain ⟨k1,k2,d',t1,t2,ha,hr⟩:=YV (A:=A) hs
  exact ⟨un h1 k1,k2,Zh.2 ⟨d.sub2 (Sub.refl _) t2,d'⟩,sub_un s1 (t1.trans s2),t2.trans s2,
   ⟨h1,k1,d.sub2 (Sub.refl _) t1,ZL _ _,ZN (d.sub2 (Sub.refl _) t1),hx,ha⟩,hr⟩
theorem YI:∀{A R:List HP} {h h1 h2:H},Dj h1 h2→Sub h1 h→Sub h2 h→Sep A h1→Sep R h2→Sep (A++R) h
 | [],_,_,_,_,_,_,s2,_,hr=>hr.sub s2
 | _::_,_,_,_,h2,d,s1,s2,⟨k1,k2,d',t1,t2,hx,ha⟩,hr=>
  ⟨k1,un k2 h2,(Zh.2 ⟨d'.symm,(d.sub t1).symm⟩).symm,t1.trans s1,sub_un (t2.trans s1) s2,hx,YI (d.sub t2) (ZL _ _) (ZN (d.sub t2)) ha hr⟩
theorem Sels.sep {A R R':List HP} (s:Sels A R R'):∀{h:H},Sep R h→Sep (A++R') h:=by
 induction s with
 | nil=>exact fun h=>h
 | cons s1 _ ih=>
  intro h hs
  obtain ⟨h1,h2,d,t1,t2,hx,hr⟩:=s1.sep hs
  exact ⟨h1,h2,d,t1,t2,hx,ih hr⟩
structure Same (w w':World):Prop where
 os:w'.os=w.os
 tape:w'.tape=w.tape
 output:w'.output=w.output
 size:w.heap.size≤w'.heap.size
theorem Same.refl (w:World):Same w w:=⟨rfl,rfl,rfl,Nat.le_refl _⟩
theorem Same.trans {a b c:World} (h:Same a b) (k:Same b c):Same a c:=⟨k.os.trans h.os,k.tape.trans h.tape,k.output.trans h.output,Nat.le_trans h.size k.size⟩
theorem Same.of_ext {a b:World} (h:Ext a b):Same a b:=⟨h.os,h.tape,h.output,h.size⟩
structure SatAt (G:H) (w0:World) (hp0:H) (F:List Pf) (R:List HP) (w:World) (hp hr:H):Prop where
 inp:In hp w
 inr:In hr w
 ing:In G w
 d1:Dj hp hr
 d2:Dj hp G
 d3:Dj hr G
 sub:Sub hp0 hp
 f:∀x ∈ F,x.p hp
 r:Sep R hr
 same:Same w0 w
def Sat (G:H) (w0:World) (hp0:H) (F:List Pf) (R:List HP) (w:World):Prop:=∃hp hr,SatAt G w0 hp0 F R w hp hr
variable {F F':List Pf} {R R':List HP}
section
variable {G:H} {hp0:H} {w w':World}
theorem Sat.ext (h:Sat G w0 hp0 F R w) (x:Ext w w'):Sat G w0 hp0 F R w':=
 let ⟨hp,hr,s⟩:=h
 ⟨hp,hr,s.inp.ext x,s.inr.ext x,s.ing.ext x,s.d1,s.d2,s.d3,s.sub,s.f,s.r,s.same.trans (.of_ext x)⟩
theorem Sat.sels {A:List HP} (h:Sat G w0 hp0 F R w) (s:Sels A R R'):Sat G w0 hp0 F (A++R') w:=
 let ⟨hp,hr,t⟩:=h
 ⟨hp,hr,t.inp,t.inr,t.ing,t.d1,t.d2,t.d3,t.sub,t.f,s.sep t.r,t.same⟩
theorem Sat.sel {x:HP} (h:Sat G w0 hp0 F R w) (s:Sel x R R'):Sat G w0 hp0 F (x::R') w:=
 h.sels (.cons s .nil)
theorem Sat.facts (h:Sat G w0 hp0 F R w) (hF:∀hp,(∀x ∈ F,x.p hp)→∀x ∈ F',x.p hp):Sat G w0 hp0 F' R w:=
 let ⟨hp,hr,t⟩:=h
 ⟨hp,hr,t.inp,t.inr,t.ing,t.d1,t.d2,t.d3,t.sub,hF hp t.f,t.r,t.same⟩
theorem Sat.res (h:Sat G w0 hp0 F R w) (hR:∀k,Sep R k→Sep R' k):Sat G w0 hp0 F R' w:=
 let ⟨hp,hr,t⟩:=h
 ⟨hp,hr,t.inp,t.inr,t.ing,t.d1,t.d2,t.d3,t.sub,t.f,hR hr t.r,t.same⟩
theorem Sat.open' {X:Type} {x:HP} {L:X→List HP} (h:Sat G w0 hp0 F (x::R) w) (hx:∀k,x k→∃y,Sep (L y) k):∃y,Sat G w0 hp0 F (L y++R) w:=by
 obtain ⟨hp,hr,t⟩:=h
 obtain ⟨h1,h2,d,s1,s2,hx1,hR⟩:=t.r
 obtain ⟨y,hy⟩:=hx h1 hx1
 exact ⟨y,hp,hr,t.inp,t.inr,t.ing,t.d1,t.d2,t.d3,t.sub,t.f,YI d s1 s2 hy hR,t.same⟩
theorem Sat.shut {x:HP} {L:List HP} (h:Sat G w0 hp0 F (L++R) w) (hx:∀k,Sep L k→x k):Sat G w0 hp0 F (x::R) w:=by
 obtain ⟨hp,hr,t⟩:=h
 obtain ⟨h1,h2,d,s1,s2,hL,hR⟩:=YV t.r
 exact ⟨hp,hr,t.inp,t.inr,t.ing,t.d1,t.d2,t.d3,t.sub,t.f,⟨h1,h2,d,s1,s2,hx h1 hL,hR⟩,t.same⟩
theorem Sat.pt {b:Nat} {o:Obj} (h:Sat G w0 hp0 F R w) (s:Sel (Pt b o) R R'):w.heap[b]? = some o:=by
 obtain ⟨hp,hr,t⟩:=h.sel s
 obtain ⟨h1,h2,_,s1,_,hx,_⟩:=t.r
 exact t.inr b o (s1 b o hx)
theorem Sat.blk {b:Nat} {o:Obj} (h:Sat G w0 hp0 F R w) (s:Sel (Blk b o) F F'):w.heap[b]? = some o:=by
 obtain ⟨hp,hr,t⟩:=h
 exact t.inp b o (t.f _ s.mem)
theorem Sat.alloc (h:Sat G w0 hp0 F R w) (o:Obj):Sat G w0 hp0 F (Pt w.heap.size o::R) (w.alloc o):=by
 obtain ⟨hp,hr,t⟩:=h
 have hx:=Yq w o
 have nn:∀{k:H},In k w→k w.heap.size=none:=fun {k} i=>by
  cases e:k w.heap.size with
  | none=>rfl
  | some x=>exact absurd (i.lt e) (Nat.lt_irrefl _)
 have d0:Dj (one w.heap.size o) hr:=WV (nn t.inr)
 refine ⟨hp,un (one w.heap.size o) hr,t.inp.ext hx,In.un (fun b x e=>?_) (t.inr.ext hx),t.ing.ext hx,(Zh.2 ⟨WV (nn t.inp),t.d1.symm⟩).symm,t.d2,
  Zh.2 ⟨WV (nn t.ing),t.d3⟩,t.sub,t.f,⟨one w.heap.size o,hr,d0,ZL _ _,ZN d0,one_same _ _,t.r⟩,t.same.trans (.of_ext hx)⟩
 obtain ⟨rfl,rfl⟩:=one_some e
 exact Z8 w x
theorem Sat.write {b:Nat} {o o':Obj} (h:Sat G w0 hp0 F (Pt b o::R) w) (hs:Same w w') (hb:w'.heap[b]? = some o') (hk:∀c,c≠b→c<w.heap.size→w'.heap[c]? = w.heap[c]?) :
  Sat G w0 hp0 F (Pt b o'::R) w':=by
 obtain ⟨hp,hr,t⟩:=h
 obtain ⟨h1,h2,d,s1,s2,hx,hR⟩:=t.r
 have hrb:hr b=some o:=s1 b o hx
 have h2b:h2 b=none:=by
  rcases d b with e|e
  ·rw [show h1 b=some o from hx] at e;cases e
  ·exact e
 have keep:∀{k:H},In k w→k b=none→In k w':=fun {k} i e c x hc=>by
  have hne:c≠b:=fun e'=>by rw [e',e] at hc;cases hc
  rw [hk c hne (i.lt hc)];exact i c x hc
 have hpb:hp b=none:=by
  rcases t.d1 b with e|e
  ·exact e
  ·rw [hrb] at e;cases e
 have hgb:G b=none:=by
  rcases t.d3 b with e|e
  ·rw [hrb] at e;cases e
  ·exact e
 have d0:Dj (one b o') h2:=WV h2b
 refine ⟨hp,un (one b o') h2,keep t.inp hpb,In.un (fun c x e=>?_) (keep (t.inr.sub s2) h2b),keep t.ing hgb,(Zh.2 ⟨WV hpb,(t.d1.symm.sub s2)⟩).symm,t.d2,
  Zh.2 ⟨WV hgb,t.d3.sub s2⟩,t.sub,t.f,⟨one b o',h2,d0,ZL _ _,ZN d0,one_same _ _,hR⟩,t.same.trans hs⟩
 obtain ⟨rfl,rfl⟩:=one_some e
 exact hb
theorem Sat.freeze {b:Nat} {o:Obj} (h:Sat G w0 hp0 F (Pt b o::R) w):Sat G w0 hp0 (Blk b o::F) R w:=by
 obtain ⟨hp,hr,t⟩:=h
 obtain ⟨h1,h2,d,s1,s2,hx,hR⟩:=t.r
 have hrb:hr b=some o:=s1 b o hx
 have so:Sub (one b o) hr:=fun c p e=>by obtain ⟨rfl,rfl⟩:=one_some e;exact hrb
 have h2b:h2 b=none:=by
  rcases d b with e|e
  ·rw [show h1 b=some o from hx] at e;cases e
  ·exact e
 have hpb:hp b=none:=by
  rcases t.d1 b with e|e
  ·exact e
  ·rw [hrb] at e;cases e
 have s3:Sub hp (un hp (one b o)):=ZL _ _
 refine ⟨un hp (one b o),h2,In.un t.inp (t.inr.sub so),t.inr.sub s2,t.ing,Zh.2 ⟨(t.d1.symm.sub s2).symm,WV h2b⟩,Zh.2 ⟨t.d2,t.d3.sub so⟩,t.d3.sub s2,t.sub.trans s3,
  fun x hx=>?_,hR,t.same⟩
 rcases List.mem_cons.1 hx with e|e
 ·subst e;exact ZN (WV hpb).symm b o (one_same b o)
 ·exact x.m _ _ s3 (t.f x e)
end
structure Post where
 X:Type
 val:X→Value
 pure:X→Prop
 F:X→List Pf
 R:X→List HP
def Post.holds (post:Post) (G:H) (w0:World) (hp0:H) (e:Ending) (w':World):Prop:=
 ∃x,e = .returned (post.val x)∧post.pure x∧Sat G w0 hp0 (post.F x) (post.R x) w'
def Spec (P:Program) (f:FuncId) (args:Array Value) (F:List Pf) (R:List HP) (post:Post):Prop:=
 ∀G w hp,Sat G w hp F R w→Calls P f args w (post.holds G w hp)
theorem W1 {F1 F:List Pf} {A R R':List HP} {G:H} {w0 w:World} {hp0:H} (hs:Sat G w0 hp0 F R w) (sel:Sels A R R') (hF:∀hp,(∀x ∈ F,x.p hp)→∀x ∈ F1,x.p hp) :
  ∃G' hp,Sat G' w hp F1 A w∧∀(F2:List Pf) (R2:List HP) (w':World),Sat G' w hp F2 R2 w'→Sat G w0 hp0 (F2++F) (R2++R') w':=by
 obtain ⟨hp,hr,t⟩:=hs.sels sel
 obtain ⟨h1,h2,d,s1,s2,hA,hR⟩:=YV t.r
 refine ⟨un G h2,hp,⟨hp,h1,t.inp,t.inr.sub s1,In.un t.ing (t.inr.sub s2),(t.d1.symm.sub s1).symm,(Zh.2 ⟨t.d2.symm,(t.d1.symm.sub s2)⟩).symm,
  (Zh.2 ⟨(t.d3.sub s1).symm,d.symm⟩).symm,Sub.refl _,hF hp t.f,hA,Same.refl _⟩,?_⟩
 rintro F2 R2 w' ⟨hp',hr',t'⟩
 obtain ⟨dg,dr⟩:=Zh.1 t'.d3.symm
 obtain ⟨dpg,dpr⟩:=Zh.1 t'.d2.symm
 have dhr:Dj hr' h2:=dr.symm
 refine ⟨hp',un hr' h2,t'.inp,In.un t'.inr (t'.ing.sub (ZN (t.d3.sub s2).symm)),t'.ing.sub (ZL _ _),(Zh.2 ⟨t'.d1.symm,dpr⟩).symm,dpg.symm,
  Zh.2 ⟨dg.symm,t.d3.sub s2⟩,t.sub.trans t'.sub,fun y hy=>?_,YI dhr (ZL _ _) (ZN dhr) t'.r hR,t.same.trans t'.same⟩
 rcases List.mem_append.1 hy with e|e
 ·exact t'.f y e
 ·exact y.m _ _ t'.sub (t.f y e)
theorem YU {P:Program} {f:FuncId} {args:Array Value} {F1 F:List Pf} {A R R':List HP} {post:Post} {G:H} {w0 w:World} {hp0:H} (h:Spec P f args F1 A post)
  (hs:Sat G w0 hp0 F R w) (sel:Sels A R R') (hF:∀hp,(∀x ∈ F,x.p hp)→∀x ∈ F1,x.p hp) {K:Ending→World→Prop}
  (k:∀x w',post.pure x→Sat G w0 hp0 (post.F x++F) (post.R x++R') w'→K (.returned (post.val x)) w'):Calls P f args w K:=by
 obtain ⟨hp,hr,t⟩:=hs.sels sel
 obtain ⟨h1,h2,d,s1,s2,hA,hR⟩:=YV t.r
 have pre:Sat (un G h2) w hp F1 A w:=⟨hp,h1,t.inp,t.inr.sub s1,In.un t.ing (t.inr.sub s2),(t.d1.symm.sub s1).symm,(Zh.2 ⟨t.d2.symm,(t.d1.symm.sub s2)⟩).symm,
  (Zh.2 ⟨(t.d3.sub s1).symm,d.symm⟩).symm,Sub.refl _,hF hp t.f,hA,Same.refl _⟩
 refine (h _ w hp pre).mono ?_
 rintro e w' ⟨x,rfl,hx,hp',hr',t'⟩
 obtain ⟨dg,dr⟩:=Zh.1 t'.d3.symm
 obtain ⟨dpg,dpr⟩:=Zh.1 t'.d2.symm
 have dhr:Dj hr' h2:=dr.symm
 refine k x w' hx ⟨hp',un hr' h2,t'.inp,In.un t'.inr (t'.ing.sub (ZN (t.d3.sub s2).symm)),t'.ing.sub (ZL _ _),(Zh.2 ⟨t'.d1.symm,dpr⟩).symm,dpg.symm,
  Zh.2 ⟨dg.symm,t.d3.sub s2⟩,t.sub.trans t'.sub,fun y hy=>?_,YI dhr (ZL _ _) (ZN dhr) t'.r hR,t.same.trans t'.same⟩
 rcases List.mem_append.1 hy with e|e
 ·exact t'.f y e
 ·exact y.m _ _ t'.sub (t.f y e)
inductive TK where
 | bool|int (k:IntKind)|str|ptr (e:Nat)|slice (e:Nat)|arr (n e:Nat)|map (k e:Nat)|struct (fs:List (Nat×Nat×Nat))|other|one
structure TRow where
 k:TK
 size:Nat
 bytes:Nat
 zero:List Value
def TK.isAgg:TK→Bool
 | .struct _ | .arr _ _=>true
 | _=>false
abbrev Tab:=List (Nat×TRow)
def lookT:Tab→Nat→Option TRow
 | [],_=>none
 | (s,r)::T,t=>match Nat.beq s t with
  | true=>some r
  | false=>lookT T t
def zeq:Value→Value→Bool
 | .bool a,.bool b=>a == b
 | .int k a,.int l b=>k == l && a == b
 | .string a,.string b=>a.data.toList == b.data.toList
 | .pointer none,.pointer none=>true
 | .slice none m n,.slice none k l=>m == k && n == l
 | .map none,.map none=>true
 | .nilFunc,.nilFunc=>true
 | .nilIface,.nilIface=>true
 | _,_=>false
def zeqs:List Value→List Value→Bool
 | [],[]=>true
 | a::l,b::m=>zeq a b && zeqs l m
 | _,_=>false
theorem zeq_eq:∀{a b:Value},zeq a b=true→a=b:=by
 intro a b h
 unfold zeq at h
 split at h<;>simp_all
 rename_i a b
 obtain ⟨⟨a⟩⟩:=a
 obtain ⟨⟨b⟩⟩:=b
 simp_all
theorem zeqs_eq:∀{a b:List Value},zeqs a b=true→a=b
 | [],[],_=>rfl
 | [],_::_,h=>by simp [zeqs] at h
 | _::_,[],h=>by simp [zeqs] at h
 | a::l,b::m,h=>by
  simp only [zeqs,Bool.and_eq_true] at h
  rw [zeq_eq h.1,zeqs_eq h.2]
def chkKind (P:Program) (k:TK) (d:TypeDesc):Bool:=
 match k,d with
 | .bool,.bool=>true
 | .int a,.int b=>a == b
 | .str,.string=>true
 | .ptr a,.pointer b=>a == b
 | .slice a,.slice b=>a == b
 | .arr n a,.array m b=>n == m && a == b
 | .map a b,.map c e=>a == c && b == e
 | .struct fs,.struct fields=>fields.toList.map (fun f=>(f.offset,f.type,((P.info? f.type).map (·.size)).getD 0)) == fs && fs.all fun f=>decide (0<f.2.2)
 | .other,_=>true
 | .one,.func _ _ _=>true
 | .one,.interface _=>true
 | _,_=>false
def chkRow (P:Program) (t:Nat) (r:TRow):Bool:=
 match P.info? t,P.underlying t with
 | some i,some d=>r.zero.length == r.size && i.size == r.size && i.bytes == r.bytes && chkKind P r.k d && (match i.zero with
   | some z=>zeqs z.cells.toList r.zero && (match z with | .agg _=>r.k.isAgg|_=>!r.k.isAgg)
   | none=>false)
 | _,_=>false
def TabOK (P:Program) (T:Tab):Prop:=(T.all fun x=>chkRow P x.1 x.2)=true
theorem lookT_mem {T:Tab} {t:Nat} {r:TRow} (h:lookT T t=some r):(t,r) ∈ T:=by
 induction T with
 | nil=>cases h
 | cons x T ih=>
  obtain ⟨s,q⟩:=x
  unfold lookT at h
  split at h
  ·rename_i hb
   obtain rfl:=Nat.eq_of_beq_eq_true hb
   obtain rfl:=Option.some.inj h
   exact List.mem_cons_self
  ·exact List.mem_cons_of_mem _ (ih h)
theorem TabOK.row {P:Program} {T:Tab} (h:TabOK P T) {t:Nat} {r:TRow} (hr:lookT T t=some r) :
  ∃i d z,P.info? t=some i∧P.underlying t=some d∧i.size=r.size∧i.bytes=r.bytes∧chkKind P r.k d=true∧i.zero=some z∧z.cells.toList=r.zero∧r.zero.length=r.size:=by
 have h1:=List.all_eq_true.1 h _ (lookT_mem hr)
 simp only [chkRow] at h1
 split at h1
 ·rename_i i d hi hd
  simp only [Bool.and_eq_true,beq_iff_eq] at h1
  obtain ⟨⟨⟨⟨h0,h2⟩,h3⟩,h4⟩,h5⟩:=h1
  split at h5
  ·rename_i z hz
   simp only [Bool.and_eq_true] at h5
   exact ⟨i,d,z,hi,hd,h2,h3,h4,hz,zeqs_eq h5.1,h0⟩
  ·cases h5
 ·cases h1
variable {T:Tab}
section
variable (hT:TabOK P T) {t:Nat} {r:TRow}
include hT
theorem TabOK.sizeOf (hr:lookT T t=some r) (w:World):(Go.sizeOf t).run P w = .ok r.size w:=by
 obtain ⟨i,d,z,hi,hd,h1,h2,h3,h4,h5,h6⟩:=hT.row hr
 simp [Go.sizeOf,typeInfo,hi,h1,go_sem]
theorem TabOK.isAgg (hr:lookT T t=some r) (hk:r.k≠.other:=by simp) (w:World):(Go.isAgg t).run P w = .ok r.k.isAgg w:=by
 obtain ⟨i,d,z,hi,hd,h1,h2,h3,h4,h5,h6⟩:=hT.row hr
 cases r with|mk k size bytes zero=>
 cases k<;>cases d<;>simp_all [chkKind,Go.isAgg,go_sem,TK.isAgg,underlying]
theorem TabOK.und (hr:lookT T t=some r):∃d,P.underlying t=some d∧chkKind P r.k d=true:=
 let ⟨_,d,_,_,hd,_,_,h3,_,_,_⟩:=hT.row hr
 ⟨d,hd,h3⟩
end
def look:List (Nat×Value)→Nat→Option Value
 | [],_=>none
 | (s,v)::E,t=>match Nat.beq s t with
  | true=>some v
  | false=>look E t
def ev (E:List (Nat×Value)):Operand→Option Value
 | .tmp t=>look E t
 | .const v=>some v
 | .global g=>some (.pointer (some ⟨g,0,none⟩))
 | .func f=>some (.func (.func f) #[] #[])
def ikEq:IntKind→IntKind→Bool
 | .i8,.i8 | .i16,.i16 | .i32,.i32 | .i64,.i64 | .u8,.u8 | .u16,.u16 | .u32,.u32 | .u64,.u64=>true
 | _,_=>false
theorem ikEq_eq {a b:IntKind} (h:ikEq a b=true):a=b:=by cases a<;>cases b<;>first|rfl|cases h
def iop (op:BinOp) (k:IntKind) (a b:Int):Option Value:=
 match op with
 | .add=>some (.int k (k.wrap (a+b)))
 | .sub=>some (.int k (k.wrap (a - b)))
 | .mul=>some (.int k (k.wrap (a * b)))
 | .quo=>if b=0 then none else some (.int k (k.wrap (a.tdiv b)))
 | .rem=>if b=0 then none else some (.int k (a.tmod b))
 | .and=>some (.int k (k.wrap (BitVec.ofInt k.bits a &&& BitVec.ofInt k.bits b).toNat))
 | .or=>some (.int k (k.wrap (BitVec.ofInt k.bits a ||| BitVec.ofInt k.bits b).toNat))
 | .xor=>some (.int k (k.wrap (BitVec.ofInt k.bits a ^^^ BitVec.ofInt k.bits b).toNat))
 | .andNot=>some (.int k (k.wrap (BitVec.ofInt k.bits a &&& ~~~ BitVec.ofInt k.bits b).toNat))
 | .eql=>some (.bool (a == b))
 | .neq=>some (.bool (a != b))
 | .lss=>some (.bool (decide (a<b)))
 | .leq=>some (.bool (decide (a≤b)))
 | .gtr=>some (.bool (decide (b<a)))
 | .geq=>some (.bool (decide (b≤a)))
 | _=>none
def shop (op:BinOp) (k:IntKind) (a b:Int):Option Value:=
 match op with
 | .shl=>if b<0 then none else some (.int k (k.wrap (a * 2 ^ (min b.toNat k.bits))))
 | .shr=>if b<0 then none else some (.int k (a.fdiv (2 ^ (min b.toNat k.bits))))
 | _=>none
def sop (op:BinOp) (a b:ByteArray):Option Value:=
 match op with
 | .eql=>some (.bool (a.toList == b.toList))
 | .neq=>some (.bool !(a.toList == b.toList))
 | .lss=>some (.bool (Op.bytesLess a.toList b.toList))
 | .gtr=>some (.bool !(Op.bytesLess a.toList b.toList || a.toList == b.toList))
 | .leq=>some (.bool (Op.bytesLess a.toList b.toList || a.toList == b.toList))
 | .geq=>some (.bool !Op.bytesLess a.toList b.toList)
 | _=>none
def eqop (T:Tab) (t:Nat) (x y:Value):Option Bool:=
 match lookT T t,x,y with
 | some ⟨.bool,_,_,_⟩,.bool a,.bool b=>some (a == b)
 | some ⟨.ptr _,_,_,_⟩,.pointer a,.pointer b=>match a,b with
  | some _,none=>some false
  | none,some _=>some false
  | none,none=>some true
  | _,_=>none
 | some ⟨.slice _,_,_,_⟩,.slice a _ _,.slice b _ _=>match a,b with
  | some _,none=>some false
  | none,some _=>some false
  | none,none=>some true
  | _,_=>none
 | _,_,_=>none
def eop (T:Tab) (op:BinOp) (t:Nat) (x y:Value):Option Value:=
 match op with
 | .eql=>match eqop T t x y with
  | some b=>some (.bool b)
  | none=>none
 | .neq=>match eqop T t x y with
  | some b=>some (.bool (!b))
  | none=>none
 | _=>none
def nth {α:Type}:List α→Nat→Option α
 | [],_=>none
 | x::_,0=>some x
 | _::l,n+1=>nth l n
theorem YW {α:Type}:∀(l:List α) (n:Nat),nth l n=l[n]?
 | [],_=>rfl
 | _::_,0=>rfl
 | _::l,n+1=>by simp only [nth];simpa using YW l n
def addOff (a:Addr) (n:Nat):Option Addr:=
 match a with
 | ⟨b,o,none⟩=>match n with
  | 0=>some ⟨b,o,none⟩
  | n+1=>some ⟨b,o+(n+1),none⟩
 | _=>none
theorem addOff_eq {a c:Addr} {n:Nat} (h:addOff a n=some c):a.add n=c:=by
 obtain ⟨b,o,s⟩:=a
 cases s<;>cases n<;>simp_all [addOff,Addr.add]
def cutF {β:Type}:List Value→Nat→Nat→(List Value→Option β)→Option β
 | _,_,0,k=>k []
 | [],_,_+1,_=>none
 | x::l,0,n+1,k=>cutF l 0 n fun r=>k (x::r)
 | _::l,o+1,n+1,k=>cutF l o (n+1) k
theorem Vy {β:Type}:∀(l:List Value) (o n:Nat) (k:List Value→Option β) (v:β),cutF l o n k=some v→k ((l.drop o).take n)=some v∧o+n≤max (o+n) l.length∧(n≠0→o+n≤l.length)
 | l,o,0,k,v,h=>by
  unfold cutF at h
  refine ⟨by simpa using h,by omega,by omega⟩
 | [],o,n+1,k,v,h=>by simp [cutF] at h
 | x::l,0,n+1,k,v,h=>by
  simp only [cutF] at h
  obtain ⟨h1,_,h3⟩:=Vy l 0 n _ v h
  refine ⟨by simpa using h1,by omega,fun _=>?_⟩
  by_cases hn:n=0
  ·subst hn;simp
  ·have:=h3 hn;simp at this ⊢;omega
 | x::l,o+1,n+1,k,v,h=>by
  simp only [cutF] at h
  obtain ⟨h1,_,h3⟩:=Vy l o (n+1) k v h
  refine ⟨by simpa using h1,by omega,fun _=>?_⟩
  have:=h3 (by omega)
  simp;omega
def evs {β:Type} (e:Operand→Option Value):List Operand→(List Value→Option β)→Option β
 | [],k=>k []
 | x::l,k=>match e x with
  | some v=>evs e l fun r=>k (v::r)
  | none=>none
theorem X3 {β:Type} {e:Operand→Option Value}:∀(l:List Operand) (k:List Value→Option β) (v:β),evs e l k=some v→
  ∃vs,vs.length=l.length∧k vs=some v∧∀ρ:Operand→Value,(∀x ∈ l,∀u,e x=some u→ρ x=u)→l.map ρ=vs
 | [],k,v,h=>⟨[],rfl,h,fun _ _=>rfl⟩
 | x::l,k,v,h=>by
  unfold evs at h
  split at h
  ·rename_i u hu
   obtain ⟨vs,h1,h2,h3⟩:=X3 l _ v h
   refine ⟨u::vs,by simp [h1],h2,fun ρ hρ=>?_⟩
   simp only [List.map_cons]
   rw [hρ x List.mem_cons_self u hu,h3 ρ fun y hy=>hρ y (List.mem_cons_of_mem _ hy)]
  ·cases h
def putF {β:Type}:List Value→Nat→List Value→(List Value→Option β)→Option β
 | c,_,[],k=>k c
 | [],_,_::_,_=>none
 | _::c,0,v::vs,k=>putF c 0 vs fun r=>k (v::r)
 | x::c,o+1,v::vs,k=>putF c o (v::vs) fun r=>k (x::r)
def vcells:Value→Option (List Value)
 | .agg cs=>some cs.toList
 | .bool b=>some [.bool b]
 | .int k n=>some [.int k n]
 | .string s=>some [.string s]
 | .pointer a=>some [.pointer a]
 | .slice a m n=>some [.slice a m n]
 | .map r=>some [.map r]
 | .func f a b=>some [.func f a b]
 | .nilFunc=>some [.nilFunc]
 | .iface t v=>some [.iface t v]
 | .nilIface=>some [.nilIface]
 | _=>none
theorem Ws {v:Value} {l:List Value} (h:vcells v=some l):v.cells=l.toArray:=by
 unfold vcells at h
 split at h<;>simp_all [Value.cells]
 ·subst h;simp
 all_goals subst h;rfl
def setsAt (c:List Value) (o:Nat) (vs:List Value):List Value:=(vs.zipIdx.foldl (fun cs (x:Value×Nat)=>cs.setIfInBounds (o+x.2) x.1) c.toArray).toList
theorem W8 {β:Type}:∀(vs c:List Value) (o:Nat) (k:List Value→Option β) (v:β),putF c o vs k=some v→
  (vs≠[]→o+vs.length≤c.length)∧k (c.take o++vs++c.drop (o+vs.length))=some v
 | [],c,o,k,v,h=>by
  have h:k c=some v:=by cases c<;>simpa [putF] using h
  exact ⟨fun h=>absurd rfl h,by simpa using h⟩
 | v::vs,[],o,k,u,h=>by simp [putF] at h
 | v::vs,x::c,0,k,u,h=>by
  simp only [putF] at h
  obtain ⟨h1,h2⟩:=W8 vs c 0 _ u h
  refine ⟨fun _=>?_,by simpa using h2⟩
  by_cases hv:vs=[]
  ·subst hv;simp
  ·have:=h1 hv;simp at this ⊢;omega
 | v::vs,x::c,o+1,k,u,h=>by
  simp only [putF] at h
  obtain ⟨h1,h2⟩:=W8 (v::vs) c o _ u h
  refine ⟨fun _=>?_,?_⟩
  ·have:=h1 (by simp);simp at this ⊢;omega
  ·rw [Nat.add_right_comm];simpa using h2
 termination_by vs c=>(vs.length,c.length)
theorem foldl_sets:∀(vs:List Value) (c:Array Value) (o k:Nat),o+k+vs.length≤c.size→
  ((vs.zipIdx k).foldl (fun cs (x:Value×Nat)=>cs.setIfInBounds (o+x.2) x.1) c).toList=c.toList.take (o+k)++vs++c.toList.drop (o+k+vs.length)
 | [],c,o,k,_=>by simp
 | v::vs,c,o,k,h=>by
  simp only [List.length_cons] at h
  simp only [List.zipIdx_cons,List.foldl_cons]
  rw [foldl_sets vs _ o (k+1) (by simp;omega)]
  obtain ⟨c⟩:=c
  simp only [List.setIfInBounds_toArray]
  simp at h
  have e1:o+(k+1)=o+k+1:=by omega
  have e2:o+(k+1)+vs.length=o+k+(v::vs).length:=by simp;omega
  rw [e2,e1]
  have e3:(c.set (o+k) v).take (o+k+1)=c.take (o+k)++[v]:=by
   rw [List.take_succ_eq_append_getElem (by simp;omega)]
   simp [List.take_set_of_le]
  have e4:(c.set (o+k) v).drop (o+k+(v::vs).length)=c.drop (o+k+(v::vs).length):=by
   rw [List.drop_set_of_lt (by simp)]
  rw [e3,e4]
  simp
def parts (e:Operand→Option Value) (place:Nat→Option (Nat×Nat)):List Value→List (Nat×Operand)→Option Value
 | cells,[]=>some (.agg cells.toArray)
 | cells,(i,x)::ps=>match place i,e x with
  | some (off,n),some v=>match vcells v with
   | some vs=>bif Nat.beq vs.length n then putF cells off vs fun cells'=>parts e place cells' ps else none
   | none=>none
  | _,_=>none
theorem Vl {e:Operand→Option Value} {place:Nat→Option (Nat×Nat)} (hn:∀i o n,place i=some (o,n)→0<n):∀(ps:List (Nat×Operand)) (cells:List Value) (v:Value),parts e place cells ps=some v→
  ∀ρ:Operand→Value,(∀x ∈ ps,∀u,e x.2=some u→ρ x.2=u)→∃c,Instr.fill place cells.toArray (ps.map fun x=>(x.1,ρ x.2))=some c∧v = .agg c
 | [],cells,v,h,ρ,_=>⟨cells.toArray,rfl,(Option.some.inj h).symm⟩
 | (i,x)::ps,cells,v,h,ρ,hρ=>by
  unfold parts at h
  split at h
  ·rename_i off n u hpl hu
   split at h
   ·rename_i vs hvs
    cases hb:Nat.beq vs.length n with
    | false=>simp [hb] at h
    | true=>
     simp only [hb,cond_true] at h
     have hlen:=Nat.eq_of_beq_eq_true hb
     obtain ⟨h1,h2⟩:=W8 vs cells off _ v h
     have hpos:=hn i off n hpl
     have hne:vs≠[]:=fun e=>by rw [e] at hlen;simp at hlen;omega
     have hle:=h1 hne
     obtain ⟨c,hc,hv⟩:=Vl hn ps _ v h2 ρ fun y hy=>hρ y (List.mem_cons_of_mem _ hy)
     refine ⟨c,?_,hv⟩
     have hx:=hρ (i,x) List.mem_cons_self u hu
     simp only at hx
     simp only [List.map_cons,Instr.fill,hpl,hx,Ws hvs]
     rw [if_neg (by simp;omega)]
     rw [←hc]
     congr 1
     have:=foldl_sets vs cells.toArray off 0 (by simp;omega)
     simp only [Nat.add_zero] at this
     rw [←Array.toList_inj,←Array.foldl_toList]
     simpa using this
   ·cases h
  ·cases h
def qv (T:Tab) (e:Operand→Option Value):Op→Option Value
 | .move x=>e x
 | .assign x=>e x
 | .pick c a b=>match e c,e a,e b with
  | some (.bool c),some (.bool x),some (.bool y)=>some (.bool (cond c x y))
  | some (.bool c),some x,some y=>match c with
   | true=>some x
   | false=>some y
  | _,_,_=>none
 | .binOp op t x y _=>match e x,e y with
  | some (.int k a),some (.int l b)=>match op with
   | .shl=>shop .shl k a b
   | .shr=>shop .shr k a b
   | op=>bif ikEq k l then iop op k a b else none
  | some (.string a),some (.string b)=>sop op a b
  | some (.bool a),some (.bool b)=>eop T op t (.bool a) (.bool b)
  | some (.pointer a),some (.pointer b)=>eop T op t (.pointer a) (.pointer b)
  | some (.slice a m n),some (.slice b m' n')=>eop T op t (.slice a m n) (.slice b m' n')
  | _,_=>none
 | .unOp op _ x=>match op,e x with
  | .not,some (.bool b)=>some (.bool !b)
  | .neg,some (.int k n)=>some (.int k (k.wrap (0 - n)))
  | _,_=>none
 | .convert s d x=>match lookT T s,lookT T d,e x with
  | some _,some ⟨.int k,_,_,_⟩,some (.int _ n)=>some (.int k (k.wrap n))
  | some ⟨.str,_,_,_⟩,some ⟨.str,_,_,_⟩,some (.string s)=>some (.string s)
  | _,_,_=>none
 | .nilCheck x=>match e x with
  | some (.pointer (some a))=>some (.pointer (some a))
  | some (.func (.func f) a b)=>some (.func (.func f) a b)
  | some (.func (.yield f) a b)=>some (.func (.yield f) a b)
  | _=>none
 | .fieldAddr s x f=>match lookT T s,e x with
  | some ⟨.struct fs,_,_,_⟩,some (.pointer (some a))=>match nth fs f with
   | some (o,_,_)=>match addOff a o with
    | some c=>some (.pointer (some c))
    | none=>none
   | none=>none
  | _,_=>none
 | .field s x f=>match lookT T s,e x with
  | some ⟨.struct fs,_,_,_⟩,some (.agg cs)=>match nth fs f with
   | some (o,t,n)=>match lookT T t with
    | some ⟨.struct _,_,_,_⟩=>cutF cs.toList o n fun l=>some (.agg l.toArray)
    | some ⟨.arr _ _,_,_,_⟩=>cutF cs.toList o n fun l=>some (.agg l.toArray)
    | some ⟨.other,_,_,_⟩=>none
    | some _=>nth cs.toList o
    | none=>none
   | none=>none
  | _,_=>none
 | .build t ps=>match lookT T t with
  | some ⟨.struct fs,_,_,zero⟩=>parts e (fun i=>match nth fs i with|some (o,_,n)=>some (o,n)|none=>none) zero ps.toList
  | some ⟨.arr _ el,_,_,zero⟩=>match lookT T el with
   | some r=>bif Nat.beq r.size 0 then none else parts e (fun i=>some (i * r.size,r.size)) zero ps.toList
   | none=>none
  | _=>none
 | .extract x i=>match e x with
  | some (.tuple vs)=>nth vs.toList i
  | _=>none
 | .makeFunc fn first cap=>evs e first.toList fun fs=>evs e cap.toList fun cs=>some (.func fn fs.toArray cs.toArray)
 | .makeInterface t x=>match lookT T t,e x with
  | some ⟨.struct _,_,_,_⟩,some v=>some (.iface t v)
  | _,_=>none
 | .call ⟨.builtin .len,args,tys⟩=>match args.toList,tys.toList with
  | [x],[t]=>match lookT T t,e x with
   | some ⟨.str,_,_,_⟩,some (.string s)=>some (.int .i64 s.size)
   | some ⟨.slice _,_,_,_⟩,some (.slice _ n _)=>some (.int .i64 n)
   | some ⟨.arr n _,_,_,_⟩,some _=>some (.int .i64 n)
   | _,_=>none
  | _,_=>none
 | .call ⟨.builtin .min,args,_⟩=>match args.toList with
  | [x,y]=>match e x,e y with
   | some (.int k a),some (.int _ b)=>some (.int k (if b<a then b else a))
   | _,_=>none
  | _=>none
 | .call ⟨.builtin .max,args,_⟩=>match args.toList with
  | [x,y]=>match e x,e y with
   | some (.int k a),some (.int _ b)=>some (.int k (if a<b then b else a))
   | _,_=>none
  | _=>none
 | _=>none
section
variable (hT:TabOK P T) {e:Operand→Option Value} {ρ:Operand→Value}
theorem iop_ok {op:BinOp} {k:IntKind} {a b:Int} {v:Value} (h:iop op k a b=some v) (hop:op≠.shl∧op≠.shr) (t:TypeId) (w:World) :
  (binOp op t (.int k a) (.int k b)).run P w = .ok v w:=by
 cases op<;>simp_all [iop,binOp,Op.intArith,Op.intDiv,Op.intBits,Op.intCmp,go_sem]<;>(try (obtain ⟨h1,h2⟩:=h;simp_all))<;>(try rfl)
theorem shop_ok {op:BinOp} {k l:IntKind} {a b:Int} {v:Value} (h:shop op k a b=some v) (t:TypeId) (w:World) :
  (binOp op t (.int k a) (.int l b)).run P w = .ok v w:=by
 cases op<;>simp_all [shop,binOp,Op.shift,go_sem]<;>(obtain ⟨h1,h2⟩:=h;simp_all [Int.not_lt.2 h1])<;>omega
theorem sop_ok {op:BinOp} {a b:ByteArray} {v:Value} (h:sop op a b=some v) (t:TypeId) (w:World):(binOp op t (.string a) (.string b)).run P w = .ok v w:=by
 cases op<;>simp_all [sop,binOp,Op.stringOp,go_sem]
include hT in
theorem eqop_ok {t:TypeId} {x y:Value} {b:Bool} (h:eqop T t x y=some b) (w:World):(Op.equal t x y).run P w = .ok b w:=by
 suffices hd:∀d,(Op.equalIn (d+1) t x y).run P w = .ok b w from hd 9999
 intro n
 unfold eqop at h
 split at h
 ·rename_i hr
  obtain ⟨d,hd,hk⟩:=hT.und hr
  cases d<;>simp [chkKind] at hk
  simp at h;subst h
  simp [Op.equalIn,underlying,hd,go_sem]
 ·rename_i hr
  obtain ⟨d,hd,hk⟩:=hT.und hr
  cases d<;>simp [chkKind] at hk
  split at h<;>simp at h<;>subst h<;>simp [Op.equalIn,underlying,hd,go_sem]
 ·rename_i hr
  obtain ⟨d,hd,hk⟩:=hT.und hr
  cases d<;>simp [chkKind] at hk
  split at h<;>simp at h<;>subst h<;>simp [Op.equalIn,underlying,hd,go_sem]
 ·cases h
include hT in
theorem eop_ok {op:BinOp} {t:TypeId} {x y v:Value} (hxy:(∃a b,x = .bool a∧y = .bool b)∨(∃a b,x = .pointer a∧y = .pointer b)∨(∃a m n b m' n',x = .slice a m n∧y = .slice b m' n')) (h:eop T op t x y=some v) (w:World) :
  (binOp op t x y).run P w = .ok v w:=by
 cases op<;>simp only [eop] at h<;>try (cases h;done)
 all_goals
  split at h
  ·rename_i b hb
   simp at h;subst h
   have:=eqop_ok hT hb w
   rcases hxy with ⟨a,c,rfl,rfl⟩|⟨a,c,rfl,rfl⟩|⟨a,m,n,c,m',n',rfl,rfl⟩<;>simp [binOp,this,go_sem]
  ·cases h
theorem mapM_sizes (P:Program) (w:World) (fields:Array Field) (h:∀f ∈ fields,∃i,P.info? f.type=some i) :
  (fields.mapM fun f=>do pure (f.offset,←Go.sizeOf f.type):Sem (Array (Nat×Nat))).run P w = .ok ((fields.toList.map fun f=>(f.offset,((P.info? f.type).map (·.size)).getD 0)).toArray) w:=by
 obtain ⟨l⟩:=fields
 simp only [List.mapM_toArray]
 suffices hl:(l.mapM fun f=>do pure (f.offset,←Go.sizeOf f.type):Sem (List (Nat×Nat))).run P w = .ok (l.map fun f=>(f.offset,((P.info? f.type).map (·.size)).getD 0)) w by
  show Sem.run P (Sem.bind _ _) w=_
  rw [Sem.run_bind',hl];rfl
 induction l with
 | nil=>rfl
 | cons f l ih=>
  obtain ⟨i,hi⟩:=h f (by simp)
  have ih:=ih fun g hg=>h g (by simp at hg ⊢;exact .inr hg)
  simp [List.mapM_cons,Go.sizeOf,typeInfo,hi,go_sem] at ih ⊢
  simp [ih]
include hT in
theorem qv_call_ok {c:Call} {v:Value} {dst:Option Tmp} {ty:TypeId} {pos:String} {after:Array Edge} {guard:Option (Nat×Bool)} (h:qv T e (.call c)=some v) (hev:∀x ∈ (Op.call c).operands,∀u,e x=some u→ρ x=u) (w:World) :
  (execOp ρ ⟨dst,.call c,ty,pos,after,guard⟩).run P w = .ok (.value v) w:=by
 obtain ⟨callee,args,tys⟩:=c
 cases callee with
 | value f=>simp only [qv] at h;cases h
 | invoke r m=>simp only [qv] at h;cases h
 | builtin b=>
  cases b<;>simp only [qv] at h<;>try (cases h;done)
  case len=>
   split at h
   ·rename_i x t ha ht
    have ha':args = #[x]:=by rw [←Array.toList_inj];simpa using ha
    have ht':tys = #[t]:=by rw [←Array.toList_inj];simpa using ht
    subst ha' ht'
    have hx:=hev x (by simp [Op.operands,Call.operands])
    split at h
    ·rename_i hr he
     obtain ⟨d,hd,hk⟩:=hT.und hr
     cases d<;>simp [chkKind] at hk
     simp at h;subst h
     simp [Builtin.len_,hx _ he,underlying,hd,go_sem,goInt]
    ·rename_i hr he
     obtain ⟨d,hd,hk⟩:=hT.und hr
     cases d<;>simp [chkKind] at hk
     simp at h;subst h
     simp [Builtin.len_,hx _ he,underlying,hd,go_sem,goInt]
    ·rename_i hr he
     obtain ⟨d,hd,hk⟩:=hT.und hr
     cases d<;>simp [chkKind] at hk
     obtain ⟨rfl,rfl⟩:=hk
     simp at h;subst h
     simp [Builtin.len_,underlying,hd,go_sem,goInt]
    ·cases h
   ·cases h
  case min=>
   split at h
   ·rename_i x y ha
    have ha':args = #[x,y]:=by rw [←Array.toList_inj];simpa using ha
    subst ha'
    split at h
    ·rename_i k a l b hx hy
     have h1:=hev x (by simp [Op.operands,Call.operands]) _ hx
     have h2:=hev y (by simp [Op.operands,Call.operands]) _ hy
     simp at h;subst h
     simp [Builtin.min_,Builtin.min2,h1,h2,go_sem]
    ·cases h
   ·cases h
  case max=>
   split at h
   ·rename_i x y ha
    have ha':args = #[x,y]:=by rw [←Array.toList_inj];simpa using ha
    subst ha'
    split at h
    ·rename_i k a l b hx hy
     have h1:=hev x (by simp [Op.operands,Call.operands]) _ hx
     have h2:=hev y (by simp [Op.operands,Call.operands]) _ hy
     simp at h;subst h
     simp [Builtin.max_,Builtin.max2,h1,h2,go_sem]
    ·cases h
   ·cases h
include hT in
theorem qv_ok {o:Oper} {v:Value} (h:qv T e o.op=some v) (hev:∀x ∈ o.op.operands,∀u,e x=some u→ρ x=u) (w:World):(execOp ρ o).run P w = .ok (.value v) w:=by
 obtain ⟨dst,op,ty,pos,after,guard⟩:=o
 simp only at h hev
 cases op
 case call c=>exact qv_call_ok hT h hev w
 all_goals simp only [qv] at h
 all_goals try (cases h;done)
 case move x=>
  have:=hev x (by simp [Op.operands]) v h
  simp [execOp,this,go_sem]
 case assign x=>
  have:=hev x (by simp [Op.operands]) v h
  simp [execOp,this,go_sem]
 case pick c a b=>
  split at h
  ·rename_i c' x y hc ha hb
   have h1:=hev c (by simp [Op.operands]) _ hc
   have h2:=hev a (by simp [Op.operands]) _ ha
   have h3:=hev b (by simp [Op.operands]) _ hb
   simp at h;subst h
   cases c'<;>simp [execOp,h1,h2,h3,go_sem,asBool]
  ·rename_i c' x y _ hc ha hb
   have h1:=hev c (by simp [Op.operands]) _ hc
   have h2:=hev a (by simp [Op.operands]) _ ha
   have h3:=hev b (by simp [Op.operands]) _ hb
   cases c'<;>simp at h<;>subst h<;>simp [execOp,h1,h2,h3,go_sem,asBool]
  ·cases h
 case binOp op t x y yt=>
  split at h
  ·rename_i k a l b hx hy
   have h1:=hev x (by simp [Op.operands]) _ hx
   have h2:=hev y (by simp [Op.operands]) _ hy
   have hr:(binOp op t (.int k a) (.int l b)).run P w = .ok v w:=by
    split at h
    ·exact shop_ok h t w
    ·exact shop_ok h t w
    ·rename_i hn1 hn2
     cases hk:ikEq k l with
     | false=>simp [hk] at h
     | true=>
      obtain rfl:=ikEq_eq hk
      simp only [hk,cond_true] at h
      exact iop_ok h ⟨hn1,hn2⟩ t w
   simp [execOp,h1,h2,hr,go_sem]
  ·rename_i a b hx hy
   have h1:=hev x (by simp [Op.operands]) _ hx
   have h2:=hev y (by simp [Op.operands]) _ hy
   have hr:=sop_ok (P:=P) h t w
   simp [execOp,h1,h2,hr,go_sem]
  ·rename_i a b hx hy
   have h1:=hev x (by simp [Op.operands]) _ hx
   have h2:=hev y (by simp [Op.operands]) _ hy
   have hr:=eop_ok hT (.inl ⟨_,_,rfl,rfl⟩) h w
   simp [execOp,h1,h2,hr,go_sem]
  ·rename_i a b hx hy
   have h1:=hev x (by simp [Op.operands]) _ hx
   have h2:=hev y (by simp [Op.operands]) _ hy
   have hr:=eop_ok hT (.inr (.inl ⟨_,_,rfl,rfl⟩)) h w
   simp [execOp,h1,h2,hr,go_sem]
  ·rename_i a m n b m' n' hx hy
   have h1:=hev x (by simp [Op.operands]) _ hx
   have h2:=hev y (by simp [Op.operands]) _ hy
   have hr:=eop_ok hT (.inr (.inr ⟨_,_,_,_,_,_,rfl,rfl⟩)) h w
   simp [execOp,h1,h2,hr,go_sem]
  ·cases h
 case unOp op t x=>
  split at h
  ·rename_i b hx
   have h1:=hev x (by simp [Op.operands]) _ hx
   simp at h;subst h
   simp [execOp,h1,Op.unary,go_sem]
  ·rename_i k n hx
   have h1:=hev x (by simp [Op.operands]) _ hx
   simp at h;subst h
   simp [execOp,h1,Op.unary,Op.intArith,go_sem]
  ·cases h
 case convert s d x=>
  split at h
  ·rename_i rs k hsz hb hz k' n hs hd hx
   have h1:=hev x (by simp [Op.operands]) _ hx
   obtain ⟨ds,hds,_⟩:=hT.und hs
   obtain ⟨dd,hdd,hk⟩:=hT.und hd
   cases dd<;>simp [chkKind] at hk
   subst hk
   simp at h;subst h
   simp [execOp,h1,convert,underlying,hds,hdd,Conv.intToInt,go_sem]
  ·rename_i hs hd hx
   have h1:=hev x (by simp [Op.operands]) _ hx
   obtain ⟨ds,hds,hks⟩:=hT.und hs
   obtain ⟨dd,hdd,hk⟩:=hT.und hd
   cases dd<;>simp [chkKind] at hk
   cases ds<;>simp [chkKind] at hks
   simp at h;subst h
   simp [execOp,h1,convert,underlying,hds,hdd,go_sem]
  ·cases h
 case nilCheck x=>
  split at h
  all_goals first|(cases h;done)|skip
  all_goals
   rename_i hx
   have h1:=hev x (by simp [Op.operands]) _ hx
   simp at h;subst h
   simp [execOp,h1,go_sem]
 case fieldAddr s x f=>
  split at h
  ·rename_i fs _ _ _ a hs hx
   have h1:=hev x (by simp [Op.operands]) _ hx
   obtain ⟨d,hd,hk⟩:=hT.und hs
   cases d<;>simp [chkKind] at hk
   rename_i fields
   split at h
   ·rename_i o t n hn
    split at h
    ·rename_i c hc
     simp at h;subst h
     rw [YW,←hk.1] at hn
     simp only [List.getElem?_map,Option.map_eq_some_iff,Array.getElem?_toList,Prod.mk.injEq] at hn
     obtain ⟨fl,hfl,rfl,rfl,rfl⟩:=hn
     have hpos:=hk.2 fl.offset fl.type (((P.info? fl.type).map (·.size)).getD 0) (by rw [←hk.1];exact List.mem_map.2 ⟨fl,by simpa using Array.mem_of_getElem? hfl,rfl⟩)
     cases hi:P.info? fl.type with
     | none=>simp [hi] at hpos
     | some i=>
      have hsz:i.size≠0:=by simp [hi] at hpos;omega
      simp [execOp,h1,Instr.fieldAt,Instr.sureAddr,underlying,hd,hfl,fieldPlace,Go.sizeOf,typeInfo,hi,hsz,addOff_eq hc,go_sem]
    ·cases h
   ·cases h
  ·cases h
 case field s x f=>
  split at h
  ·rename_i fs _ _ _ cs hs hx
   have h1:=hev x (by simp [Op.operands]) _ hx
   obtain ⟨d,hd,hk⟩:=hT.und hs
   cases d<;>simp [chkKind] at hk
   rename_i fields
   split at h
   ·rename_i o t n hn
    rw [YW,←hk.1] at hn
    simp only [List.getElem?_map,Option.map_eq_some_iff,Array.getElem?_toList,Prod.mk.injEq] at hn
    obtain ⟨fl,hfl,rfl,rfl,rfl⟩:=hn
    have hag:∀r,lookT T fl.type=some r→r.k.isAgg=true→r.k≠.other→cutF cs.toList fl.offset (((P.info? fl.type).map (·.size)).getD 0) (fun l=>some (Value.agg l.toArray))=some v→
      (execOp ρ ⟨dst,.field s x f,ty,pos,after,guard⟩).run P w = .ok (.value v) w:=fun r hr ha ho hc=>by
     obtain ⟨h2,_,h3⟩:=Vy _ _ _ _ _ hc
     obtain ⟨i,d',z,hi,hd',hsz,_,hk',_,_,_⟩:=hT.row hr
     have hia:=hT.isAgg hr ho
     rw [ha] at hia
     simp [hi] at h2 h3
     simp [execOp,h1,Instr.field,underlying,hd,hfl,part,hia,Go.sizeOf,typeInfo,hi,go_sem,asAgg]
     rw [←h2]
     congr 1
     rw [←Array.toList_inj]
     simp [List.extract_eq_take_drop]
    have hno:∀r,lookT T fl.type=some r→r.k.isAgg=false→r.k≠.other→nth cs.toList fl.offset=some v→
      (execOp ρ ⟨dst,.field s x f,ty,pos,after,guard⟩).run P w = .ok (.value v) w:=fun r hr ha ho hc=>by
     have hia:=hT.isAgg hr ho
     rw [ha] at hia
     rw [YW] at hc
     simp at hc
     simp [execOp,h1,Instr.field,underlying,hd,hfl,part,hia,go_sem,asAgg,hc]
    split at h
    ·rename_i hr;exact hag _ hr rfl (by simp) h
    ·rename_i hr;exact hag _ hr rfl (by simp) h
    ·cases h
    ·rename_i r hn1 hn2 hn3 hr
     refine hno _ hr ?_ ?_ h
     ·cases hk2:r.k<;>simp [TK.isAgg]<;>(obtain ⟨k,s1,b1,z1⟩:=r;simp at hk2;subst hk2;first|exact hn1 _ _ _ _ rfl|exact hn2 _ _ _ _ _ rfl)
     ·intro hk2;obtain ⟨k,s1,b1,z1⟩:=r;simp at hk2;subst hk2;exact hn3 _ _ _ rfl
    ·cases h
   ·cases h
  ·cases h
 case build t ps=>
  have hops:∀x ∈ ps.toList,∀u,e x.2=some u→ρ x.2=u:=fun x hx=>hev x.2 (by simp only [Op.operands,List.mem_toArray,List.mem_map];exact ⟨x,hx,rfl⟩)
  have hmap:(ps.map fun (x:Nat×Operand)=>(x.1,ρ x.2)).toList=ps.toList.map fun x=>(x.1,ρ x.2):=by simp
  split at h
  ·rename_i fs _ _ zero hs
   obtain ⟨i,d,z,hi,hd,_,_,hk,hz,hzc,_⟩:=hT.row hs
   cases d<;>simp [chkKind] at hk
   rename_i fields
   have hpl:∀k:Nat,(fields.toList.map fun f=>(f.offset,((P.info? f.type).map (·.size)).getD 0))[k]? = (match nth fs k with|some (o,_,n)=>some (o,n)|none=>none):=fun k=>by
    rw [YW,←hk.1]
    simp only [List.getElem?_map]
    cases fields.toList[k]?<;>rfl
   obtain ⟨c,hc,rfl⟩:=Vl (fun k o n hkn=>by
    rw [YW] at hkn
    split at hkn
    ·rename_i o' t' n' hn
     simp at hkn
     have:=hk.2 _ _ _ (List.mem_of_getElem? hn)
     omega
    ·cases hkn) _ _ _ h ρ hops
   have hplaces:(fields.mapM fun f=>do pure (f.offset,←Go.sizeOf f.type):Sem (Array (Nat×Nat))).run P w = .ok ((fields.toList.map fun f=>(f.offset,((P.info? f.type).map (·.size)).getD 0)).toArray) w:=by
    refine mapM_sizes P w fields fun f hf=>?_
    have:=hk.2 f.offset f.type (((P.info? f.type).map (·.size)).getD 0) (by rw [←hk.1];exact List.mem_map.2 ⟨f,by simpa using hf,rfl⟩)
    cases hfi:P.info? f.type with
    | none=>simp [hfi] at this
    | some i=>exact ⟨i,rfl⟩
   have hz1:(zeroValue t).run P w = .ok z w:=by simp [zeroValue,typeInfo,hi,hz,go_sem]
   have hu:(underlying t).run P w = .ok (.struct fields) w:=by simp [underlying,hd,go_sem]
   have hfill:Instr.fill (fun k=>(fields.toList.map fun f=>(f.offset,((P.info? f.type).map (·.size)).getD 0)).toArray[k]?) z.cells (ps.map fun (x:Nat×Operand)=>(x.1,ρ x.2)).toList=some c:=by
    rw [hmap,←hc]
    congr 1
    ·funext k;rw [List.getElem?_toArray];exact hpl k
    ·rw [←Array.toList_inj];exact hzc
   have hb:(Instr.build t (ps.map fun (x:Nat×Operand)=>(x.1,ρ x.2))).run P w = .ok (.agg c) w:=by
    unfold Instr.build
    simp only [Sem.run_bind,hz1,Result.andThen,hu,hplaces,hfill]
    rfl
   simp only [execOp,Sem.run_bind,hb,Result.andThen];rfl
  ·rename_i nn el _ _ zero hs
   obtain ⟨i,d,z,hi,hd,_,_,hk,hz,hzc,_⟩:=hT.row hs
   cases d<;>simp [chkKind] at hk
   obtain ⟨rfl,rfl⟩:=hk
   split at h
   ·rename_i r hr
    cases hb0:Nat.beq r.size 0 with
    | true=>simp [hb0] at h
    | false=>
     simp only [hb0,cond_false] at h
     have hpos:0<r.size:=by have:=Nat.ne_of_beq_eq_false hb0;omega
     obtain ⟨c,hc,rfl⟩:=Vl (fun k o n hkn=>by simp at hkn;omega) _ _ _ h ρ hops
     have hz1:(zeroValue t).run P w = .ok z w:=by simp [zeroValue,typeInfo,hi,hz,go_sem]
     have hu:(underlying t).run P w = .ok (.array nn el) w:=by simp [underlying,hd,go_sem]
     have hsz:=hT.sizeOf hr w
     have hfill:Instr.fill (fun i=>some (i * r.size,r.size)) z.cells (ps.map fun (x:Nat×Operand)=>(x.1,ρ x.2)).toList=some c:=by
      rw [hmap,←hc]
      congr 1
      rw [←Array.toList_inj];exact hzc
     have hb:(Instr.build t (ps.map fun (x:Nat×Operand)=>(x.1,ρ x.2))).run P w = .ok (.agg c) w:=by
      unfold Instr.build
      simp only [Sem.run_bind,hz1,Result.andThen,hu,hsz,hfill]
      rfl
     simp only [execOp,Sem.run_bind,hb,Result.andThen];rfl
   ·cases h
  ·cases h
 case extract x i=>
  split at h
  ·rename_i vs hx
   have h1:=hev x (by simp [Op.operands]) _ hx
   rw [YW] at h
   simp at h
   simp [execOp,h1,Instr.extract,h,go_sem]
  ·cases h
 case makeFunc fn first cap=>
  obtain ⟨fs,_,h2,h3⟩:=X3 _ _ _ h
  obtain ⟨cs,_,h4,h5⟩:=X3 _ _ _ h2
  have e1:=h3 ρ fun x hx=>hev x (by simp [Op.operands];exact .inl (by simpa using hx))
  have e2:=h5 ρ fun x hx=>hev x (by simp [Op.operands];exact .inr (by simpa using hx))
  simp at h4;subst h4
  have e3:first.map ρ=fs.toArray:=by rw [←Array.toList_inj];simpa using e1
  have e4:cap.map ρ=cs.toArray:=by rw [←Array.toList_inj];simpa using e2
  simp [execOp,Instr.makeFunc,e3,e4,go_sem]
 case makeInterface t x=>
  split at h
  ·rename_i fs _ _ zero v hs hx
   have h1:=hev x (by simp [Op.operands]) _ hx
   obtain ⟨i,d,z,hi,hd,_,_,hk,hz,hzc,_⟩:=hT.row hs
   cases d<;>simp [chkKind] at hk
   rename_i fields
   have hu:(underlying t).run P w = .ok (.struct fields) w:=by simp [underlying,hd,go_sem]
   obtain rfl:=Option.some.inj h
   simp [execOp,Instr.makeInterface,h1,hu,go_sem]
  ·cases h
end
abbrev Env:=Nat→Option Value
def upd (e:Env) (d:Option Nat) (v:Value):Env:=
 match d with
 | none=>e
 | some d=>fun t=>match Nat.beq d t with
  | true=>some v
  | false=>e t
structure Agree (n:Nat) (ds:List Deferred) (e:Env) (a:Act):Prop where
 size:a.tmps.size=n
 defers:a.defers=ds
 slots:∀t v,e t=some v→a.tmps[t]? = some v
theorem XQ (e:Env) (d:Nat) (v:Value):upd e (some d) v d=some v:=by simp [upd]
theorem Y1 (e:Env) {d t:Nat} (v:Value) (h:d≠t):upd e (some d) v t=e t:=by
 have:Nat.beq d t=false:=by
  cases hb:Nat.beq d t with
  | false=>rfl
  | true=>exact absurd (Nat.eq_of_beq_eq_true hb) h
 simp [upd,this]
theorem Xs (e:Env) (x y:Option Nat) (v u:Value) (h:∀d,x=some d→y≠some d):upd (upd e x v) y u=upd (upd e y u) x v:=by
 cases x with
 | none=>rfl
 | some d=>
  cases y with
  | none=>rfl
  | some c=>
   have hne:d≠c:=fun hdc=>h d rfl (by rw [hdc])
   funext t
   by_cases h1:d=t
   ·subst h1;rw [Y1 _ _ (Ne.symm hne),XQ,XQ]
   ·by_cases h2:c=t
    ·subst h2;rw [XQ,Y1 _ _ h1,XQ]
    ·rw [Y1 _ _ h2,Y1 _ _ h1,Y1 _ _ h1,Y1 _ _ h2]
theorem Agree.put {n:Nat} {ds:List Deferred} {e:Env} {a:Act} (h:Agree n ds e a) {d:Option Nat} (hd:∀t,d=some t→t<n) (v:Value):Agree n ds (upd e d v) (a.put d v):=by
 cases d with
 | none=>exact h
 | some d=>
  have hlt:=hd d rfl
  refine ⟨by simp [Act.put,h.size],by simp [Act.put,h.defers],fun t u ht=>?_⟩
  by_cases hdt:d=t
  ·subst hdt
   rw [XQ] at ht
   have:d<a.tmps.size:=by rw [h.size];exact hlt
   simp [Act.put,this,Option.some.inj ht]
  ·rw [Y1 _ _ hdt] at ht
   simp only [Act.put]
   rw [Array.getElem?_setIfInBounds_ne hdt]
   exact h.slots t u ht
def evf (e:Env):Operand→Option Value
 | .tmp t=>e t
 | .const v=>some v
 | .global g=>some (.pointer (some ⟨g,0,none⟩))
 | .func f=>some (.func (.func f) #[] #[])
theorem Agree.ev {n:Nat} {ds:List Deferred} {e:Env} {a:Act} (h:Agree n ds e a) {x:Operand} {v:Value} (hx:evf e x=some v):a.eval x=v:=by
 cases x with
 | tmp t=>simp [Act.eval,h.slots t v hx]
 | const u=>exact Option.some.inj hx
 | global g=>exact Option.some.inj hx
 | func f=>exact Option.some.inj hx
def wantF (ops:Array Oper) (e:Env) (o:Oper):Option Bool:=
 match o.guard with
 | none=>some true
 | some (j,want)=>match (ops[j]?).bind (·.dst) with
  | none=>none
  | some d=>match e d with
   | some (.bool b)=>some (b == want)
   | some (.tuple _)=>some false
   | _=>none
theorem Vj {n:Nat} {ds:List Deferred} {e:Env} {a:Act} (h:Agree n ds e a) {ops:Array Oper} {o:Oper} {b:Bool} (hw:wantF ops e o=some b):Region.wanted o (yielded ops a.tmps)=b:=by
 unfold wantF at hw
 unfold Region.wanted
 cases hg:o.guard with
 | none=>simpa [hg] using hw
 | some g=>
  obtain ⟨j,want⟩:=g
  simp only [hg] at hw
  cases hd:(ops[j]?).bind (·.dst) with
  | none=>simp [hd] at hw
  | some d=>
   simp only [hd] at hw
   split at hw
   ·rename_i c hc
    have:=h.slots _ _ hc
    simp only [yielded,hd,Option.bind_some,this]
    have:=Option.some.inj hw
    subst this
    cases c<;>cases want<;>rfl
   ·rename_i vs hc
    have:=h.slots _ _ hc
    simp only [yielded,hd,Option.bind_some,this]
    exact Option.some.inj hw
   ·cases hw
theorem Zd {ops:Array Oper} {e:Env} {o:Oper} {d:Option Nat} {v:Value} (h:∀t,d=some t→t ∉ o.looksAt ops):wantF ops (upd e d v) o=wantF ops e o:=by
 cases d with
 | none=>rfl
 | some d=>
  unfold wantF
  cases hg:o.guard with
  | none=>rfl
  | some g=>
   obtain ⟨j,want⟩:=g
   simp only
   cases hd:(ops[j]?).bind (·.dst) with
   | none=>rfl
   | some c=>
    have:d≠c:=fun e=>h d rfl (by subst e;simp [Oper.looksAt,hg,hd])
    simp only [Y1 e v this]
theorem evf_upd {e:Env} {d:Option Nat} {v:Value} {x:Operand} (h:∀t,d=some t→x≠.tmp t):evf (upd e d v) x=evf e x:=by
 cases d with
 | none=>rfl
 | some d=>
  cases x with
  | tmp t=>exact Y1 e v fun hdt=>h d rfl (by rw [hdt])
  | _=>rfl
def forceL {α β:Type}:List α→(List α→β)→β
 | [],k=>k []
 | x::l,k=>forceL l fun r=>k (x::r)
theorem forceL_eq {α β:Type}:∀(l:List α) (k:List α→β),forceL l k=k l
 | [],_=>rfl
 | x::l,k=>by simp only [forceL];exact forceL_eq l _
def allocOf (T:Tab) (e:Env):Op→Option (Obj×(Nat→Value))
 | .alloc t=>match lookT T t with
  | some ⟨_,_,_,zero⟩=>some (.cells zero.toArray t,fun b=>.pointer (some ⟨b,0,none⟩))
  | none=>none
 | .box t x=>match evf e x with
  | some v=>match vcells v with
   | some l=>some (.cells l.toArray t,fun b=>.pointer (some ⟨b,0,none⟩))
   | none=>none
  | none=>none
 | .buildSlice t n ps=>match lookT T t with
  | some ⟨.slice el,_,_,_⟩=>match lookT T el with
   | some r=>bif Nat.beq r.size 0 || !Nat.ble (n * r.size) 16777216 then none else forceL (List.replicate n r.zero).flatten fun cells=>
    match parts (evf e) (fun i=>some (i * r.size,r.size)) cells ps.toList with
    | some (.agg c)=>some (.cells c el,fun b=>.slice (some ⟨b,0,none⟩) n n)
    | _=>none
   | none=>none
  | _=>none
 | _=>none
theorem evf_ops {e e':Env} {ps:List (Nat×Operand)} (h:∀x ∈ ps,evf e x.2=evf e' x.2) {place:Nat→Option (Nat×Nat)}:∀c,parts (evf e) place c ps=parts (evf e') place c ps:=by
 induction ps with
 | nil=>intro c;rfl
 | cons x ps ih=>
  intro c
  obtain ⟨i,x⟩:=x
  have h1:=h (i,x) List.mem_cons_self
  have h2:=ih fun y hy=>h y (List.mem_cons_of_mem _ hy)
  simp only at h1
  simp only [parts,h1,h2]
theorem Zv {T:Tab} {ops:Array Oper} {e:Env} {o:Oper} {d:Option Nat} {v:Value} (h:∀t,d=some t→t ∉ o.looksAt ops):allocOf T (upd e d v) o.op=allocOf T e o.op:=by
 have hx:∀x ∈ o.op.operands,evf (upd e d v) x=evf e x:=fun x hx=>evf_upd fun t ht hxt=>h t ht (by
  subst hxt
  exact List.mem_append_left _ (List.mem_filterMap.2 ⟨.tmp t,by simpa using hx,rfl⟩))
 obtain ⟨dst,op,ty,pos,after,guard⟩:=o
 cases op<;>try rfl
 case box t x=>simp only [allocOf];rw [hx x (by simp [Op.operands])]
 case buildSlice t n ps=>
  simp only [allocOf]
  have hp:∀x ∈ ps.toList,evf (upd e d v) x.2=evf e x.2:=fun x hxp=>hx x.2 (by simp only [Op.operands,List.mem_toArray,List.mem_map];exact ⟨x,hxp,rfl⟩)
  simp only [evf_ops hp]
theorem fill_zero (T:TRow) (n:Nat) (z:Array Value) (hz:z.toList=T.zero) (hs:T.zero.length=T.size):(Array.range (n * T.size)).map (fun i=>z[i % z.size]!)=(List.replicate n T.zero).flatten.toArray:=by
 have hzs:z.size=T.size:=by rw [←hs,←hz];simp
 rw [←Array.toList_inj]
 simp only [Array.toList_map,Array.toList_range]
 rw [hzs]
 induction n with
 | zero=>simp
 | succ n ih=>
  rw [Nat.succ_mul,List.range_add,List.map_append,ih,List.replicate_succ',List.flatten_append]
  congr 1
  simp only [List.map_map,List.flatten_cons,List.flatten_nil,List.append_nil]
  rw [←hz]
  refine List.ext_getElem (by simp [hzs]) fun i h1 h2=>?_
  simp at h1 h2
  simp [Nat.mod_eq_of_lt h1,h2]
theorem run_newVar {P:Program} (t:TypeId) (v:Value) (w:World):(newVar t v).run P w = .ok ⟨w.heap.size,0,none⟩ (w.alloc (.cells v.cells t)):=rfl
theorem run_newRow {P:Program} (t:TypeId) (c:Array Value) (w:World):(newRow t c).run P w = .ok ⟨w.heap.size,0,none⟩ (w.alloc (.cells c t)):=rfl
theorem X1 {P:Program} {T:Tab} (hT:TabOK P T) {n:Nat} {ds:List Deferred} {e:Env} {a:Act} (h:Agree n ds e a) {o:Oper} {obj:Obj} {mk:Nat→Value} (ha:allocOf T e o.op=some (obj,mk)):AllocRun P (execOp a.eval o) obj mk:=by
 intro w
 obtain ⟨dst,op,ty,pos,after,guard⟩:=o
 simp only at ha
 cases op<;>simp only [allocOf] at ha<;>try (cases ha;done)
 case alloc t=>
  split at ha
  ·rename_i zero hr
   obtain ⟨i,d,z,hi,hd,_,_,_,hz,hzc,_⟩:=hT.row hr
   simp at ha
   obtain ⟨rfl,rfl⟩:=ha
   have hz':z.cells=zero.toArray:=by rw [←Array.toList_inj];exact hzc
   have hz1:(zeroValue t).run P w = .ok z w:=by simp [zeroValue,typeInfo,hi,hz,go_sem]
   simp only [execOp,Instr.alloc,Sem.run_bind,hz1,Result.andThen,run_newVar,hz']
   rfl
  ·cases ha
 case box t x=>
  split at ha
  ·rename_i v hv
   split at ha
   ·rename_i l hl
    simp at ha
    obtain ⟨rfl,rfl⟩:=ha
    simp only [execOp,Instr.box,h.ev hv,Sem.run_bind,Result.andThen,run_newVar,Ws hl]
    rfl
   ·cases ha
  ·cases ha
 case buildSlice t m ps=>
  split at ha
  ·rename_i el _ _ _ ht
   obtain ⟨d,hd,hk⟩:=hT.und ht
   cases d<;>simp [chkKind] at hk
   subst hk
   split at ha
   ·rename_i r hr
    cases hc:(Nat.beq r.size 0 || !Nat.ble (m * r.size) 16777216) with
    | true=>simp [hc] at ha
    | false=>
     simp only [hc,cond_false,forceL_eq] at ha
     simp only [Bool.or_eq_false_iff] at hc
     have hpos:0<r.size:=by have:=Nat.ne_of_beq_eq_false hc.1;omega
     have hle:m * r.size≤16777216:=Nat.le_of_ble_eq_true (by simpa using hc.2)
     split at ha
     ·rename_i c hpt
      simp at ha
      obtain ⟨rfl,rfl⟩:=ha
      obtain ⟨i,d',z,hi,hd',hsz,_,_,hz,hzc,hzl⟩:=hT.row hr
      obtain ⟨c',hc',hcc⟩:=Vl (fun k o n hkn=>by simp at hkn;omega) _ _ _ hpt a.eval (fun x _ u hu=>h.ev hu)
      simp at hcc;subst hcc
      have hcells:=fill_zero r m z.cells hzc hzl
      have hsz1:=hT.sizeOf hr w
      have hu:(underlying t).run P w = .ok (.slice el) w:=by simp [underlying,hd,go_sem]
      have hz1:(zeroValue el).run P w = .ok z w:=by simp [zeroValue,typeInfo,hi,hz,go_sem]
      have hmap:(ps.map fun (x:Nat×Operand)=>(x.1,a.eval x.2)).toList=ps.toList.map fun x=>(x.1,a.eval x.2):=by simp
      have hne:¬m * r.size > 2 ^ 24:=by omega
      have hb:(Instr.buildSlice t m (ps.map fun (x:Nat×Operand)=>(x.1,a.eval x.2))).run P w = .ok (.slice (some ⟨w.heap.size,0,none⟩) m m) (w.alloc (.cells c el)):=by
       unfold Instr.buildSlice
       simp only [Sem.run_bind,hu,Result.andThen,hsz1,if_neg hne]
       by_cases h0:m * r.size=0
       ·rw [if_pos h0]
        have e0:(List.replicate m r.zero).flatten.toArray=(Array.range (m * r.size)).map fun i=>(#[]:Array Value)[i % (#[]:Array Value).size]!:=by rw [←hcells];simp [h0]
        rw [e0] at hc'
        simp only [Sem.run_bind,Sem.run_pure,Result.andThen,hmap,hc']
        rfl
       ·rw [if_neg h0]
        rw [←hcells] at hc'
        simp only [Sem.run_bind,hz1,Sem.run_pure,Result.andThen,hmap,hc']
        rfl
      simp only [execOp,Sem.run_bind,hb,Result.andThen]
      rfl
     ·cases ha
   ·cases ha
  ·cases ha
theorem Sep.perm {R R':List HP} (p:R.Perm R'):∀{h:H},Sep R h→Sep R' h:=by
 induction p with
 | nil=>exact fun h=>h
 | cons x _ ih=>rintro h ⟨h1,h2,d,s1,s2,hx,hs⟩;exact ⟨h1,h2,d,s1,s2,hx,ih hs⟩
 | swap x y l=>exact fun hs=>(Sel.there (y:=y) (Sel.here (x:=x) (R:=l))).sep hs
 | trans _ _ ih1 ih2=>exact fun h=>ih2 (ih1 h)
section
variable {G:H} {hp0:H} {w w':World}
theorem Sat.perm (h:Sat G w0 hp0 F R w) (p:R.Perm R'):Sat G w0 hp0 F R' w:=h.res fun _ hk=>hk.perm p
theorem Sat.rebase (h:Sat G w0 hp0 F R w):∃hp,Sub hp0 hp∧Same w0 w∧Sat G w hp F R w:=
 let ⟨hp,hr,t⟩:=h
 ⟨hp,t.sub,t.same,hp,hr,t.inp,t.inr,t.ing,t.d1,t.d2,t.d3,Sub.refl _,t.f,t.r,Same.refl _⟩
theorem Sat.back {hp:H} (s:Sub hp0 hp) (m:Same w0 w) (h:Sat G w hp F R w'):Sat G w0 hp0 F R w':=
 let ⟨hp',hr,t⟩:=h
 ⟨hp',hr,t.inp,t.inr,t.ing,t.d1,t.d2,t.d3,s.trans t.sub,t.f,t.r,m.trans t.same⟩
theorem Sat.aside {r:HP} (h:Sat G w0 hp0 F (r::R) w):∃h1,r h1∧Dj G h1∧Sat (un G h1) w0 hp0 F R w:=by
 obtain ⟨hp,hr,t⟩:=h
 obtain ⟨h1,h2,d,s1,s2,hx,hR⟩:=t.r
 exact ⟨h1,hx,(t.d3.sub s1).symm,hp,h2,t.inp,t.inr.sub s2,In.un t.ing (t.inr.sub s1),(t.d1.symm.sub s2).symm,(Zh.2 ⟨t.d2.symm,t.d1.symm.sub s1⟩).symm,
  (Zh.2 ⟨(t.d3.sub s2).symm,d⟩).symm,t.sub,t.f,hR,t.same⟩
theorem Sat.taken {r:HP} {h1:H} (hr:r h1) (hd:Dj G h1) (h:Sat (un G h1) w0 hp0 F R w):Sat G w0 hp0 F (r::R) w:=by
 obtain ⟨hp,h2,t⟩:=h
 obtain ⟨d1,d2⟩:=Zh.1 t.d3.symm
 obtain ⟨d3,d4⟩:=Zh.1 t.d2.symm
 exact ⟨hp,un h1 h2,t.inp,In.un (t.ing.sub (ZN hd)) t.inr,t.ing.sub (ZL _ _),(Zh.2 ⟨d4,t.d1.symm⟩).symm,d3.symm,Zh.2 ⟨hd.symm,d1.symm⟩,t.sub,t.f,
  ⟨h1,h2,d2,ZL _ _,ZN d2,hr,t.r⟩,t.same⟩
theorem Sat.subG {G':H} (h:Sat G' w0 hp0 F R w) (s:Sub G G'):Sat G w0 hp0 F R w:=
 let ⟨hp,hr,t⟩:=h
 ⟨hp,hr,t.inp,t.inr,t.ing.sub s,t.d1,(t.d2.symm.sub s).symm,(t.d3.symm.sub s).symm,t.sub,t.f,t.r,t.same⟩
theorem Sat.stat {hs:H} (h:Sat G w hp0 F R w') (s:Sub hs (un G hp0)):In hs w':=
 let ⟨_,_,t⟩:=h
 (In.un t.ing (t.inp.sub t.sub)).sub s
end
theorem YC {hs G hp hp':H} (s:Sub hs (un G hp)) (t:Sub hp hp'):Sub hs (un G hp'):=fun b o e=>by
 have h:=s b o e
 unfold un at h ⊢
 split at h
 ·exact h
 ·exact t b o h
theorem Agree.undo {n:Nat} {ds:List Deferred} {e:Env} {a:Act} {d:Option Nat} {v:Value} (hd:∀t,d=some t→t<n) (h:Agree n ds (upd e d v) a):∃u,Agree n ds e (a.put d u):=by
 cases d with
 | none=>exact ⟨v,h⟩
 | some d=>
  refine ⟨(e d).getD undef,by simp [Act.put,h.size],by simp [Act.put,h.defers],fun t u ht=>?_⟩
  by_cases hdt:d=t
  ·subst hdt
   have:d<a.tmps.size:=by rw [h.size];exact hd d rfl
   simp [Act.put,this,ht]
  ·simp only [Act.put]
   rw [Array.getElem?_setIfInBounds_ne hdt]
   exact h.slots t u (by rw [Y1 _ _ hdt];exact ht)
def WS (P:Program) (T:Tab) (n:Nat) (ds:List Deferred) (ops:Array Oper) (hs:H) (End:Env→List Pf→List HP→Prop):List (Nat×Nat)→Env→List Pf→List HP→Prop
 | [],e,F,N=>End e F N
 | (i,k)::L,e,F,N=>∀o,ops[i]? = some o→match wantF ops e o with
  | none=>False
  | some false=>WS P T n ds ops hs End L (upd e o.dst undef) F N
  | some true=>match k with
   | 0=>∃v,(∀a w,Agree n ds e a→In hs w→(execOp a.eval o).run P w = .ok (.value v) w)∧WS P T n ds ops hs End L (upd e o.dst v) F N
   | 1=>∃obj mk,allocOf T e o.op=some (obj,mk)∧∀b,WS P T n ds ops hs End L (upd e o.dst (mk b)) F (Pt b obj::N)
   | 2=>∃obj mk,allocOf T e o.op=some (obj,mk)∧∀b,hs b=none→WS P T n ds ops (un (one b obj) hs) End L (upd e o.dst (mk b)) F N
   | 3=>∃v,(∀a G w hp,Agree n ds e a→Sub hs (un G hp)→Sat G w hp F N w→(execOp a.eval o).run P w = .ok (.value v) w)∧WS P T n ds ops hs End L (upd e o.dst v) F N
   | 4=>∃post:Post,(∀a G w hp,Agree n ds e a→Sub hs (un G hp)→Sat G w hp F N w→OpRes P (execOp a.eval o) w fun v w'=>∃x,v=post.val x∧post.pure x∧Sat G w hp (post.F x) (post.R x) w')∧
     ∀x,post.pure x→WS P T n ds ops hs End L (upd e o.dst (post.val x)) (post.F x) (post.R x)
   | 5=>∃post:Post,(∀a G w hp,Agree n ds e a→Sub hs (un G hp)→Sat G w hp F N w→OpRes P (execOp a.eval o) w fun v w'=>∃x,v=post.val x∧post.pure x∧Sat G w hp (post.F x) (post.R x) w')∧
     (∀x,post.pure x→WS P T n ds ops hs End L (upd e o.dst (post.val x)) (post.F x) (post.R x))∧
     ∀x,post.pure x→(∀hp,(∀f ∈ post.F x,f.p hp)→∀f ∈ F,f.p hp)∧(post.R x).Perm N
   | _=>False
variable {n:Nat}
section
variable {ds:List Deferred} {ops:Array Oper} {hs:H} {End:Env→List Pf→List HP→Prop}
theorem un_r {k hs hs':H} (s:Sub hs hs'):Sub (un k hs) (un k hs'):=fun b o e=>by
 unfold un at e ⊢
 split at e
 ·exact e
 ·exact s b o e
theorem none_of_sub {hs hs':H} (s:Sub hs hs') {b:Nat} (h:hs' b=none):hs b=none:=by
 cases e:hs b with
 | none=>rfl
 | some o=>rw [s b o e] at h;cases h
theorem V6 {hs:H} {b:Nat} {o:Obj} (h:hs b=none):Sub hs (un (one b o) hs):=fun c x e=>by
 unfold un one
 by_cases hc:c=b
 ·subst hc;rw [h] at e;cases e
 ·simp [hc,e]
theorem sub_swap {hs:H} {b c:Nat} {o x:Obj} (h:b≠c):Sub (un (one b o) (un (one c x) hs)) (un (one c x) (un (one b o) hs)):=fun d y e=>by
 unfold un one at e ⊢
 by_cases h1:d=b
 ·subst h1;simp [h] at e ⊢;exact e
 ·by_cases h2:d=c
  ·subst h2;simp [h1] at e ⊢;exact e
  ·simp [h1,h2] at e ⊢;exact e
theorem un_noneS {b c:Nat} {o:Obj} {hs:H} (h:un (one b o) hs c=none):c≠b∧hs c=none:=by
 unfold un one at h
 by_cases hc:c=b
 ·subst hc;simp at h
 ·simp [hc] at h;exact ⟨hc,h⟩
theorem un_noneS' {b c:Nat} {o:Obj} {hs:H} (hc:c≠b) (h:hs c=none):un (one b o) hs c=none:=by
 unfold un one;simp [hc,h]
theorem WS.mono {End':Env→List Pf→List HP→Prop} (hE:∀e F N,End e F N→End' e F N):∀(L:List (Nat×Nat)) (hs hs':H) (e:Env) (F:List Pf) (N:List HP),Sub hs hs'→WS P T n ds ops hs End L e F N→WS P T n ds ops hs' End' L e F N
 | [],_,_,e,F,N,_,h=>hE e F N h
 | (i,k)::L,hs,hs',e,F,N,s,h=>by
  intro o ho
  have h:=h o ho
  cases hw:wantF ops e o with
  | none=>simp only [hw] at h
  | some b=>
   cases b with
   | false=>simp only [hw] at h ⊢;exact WS.mono hE L hs hs' _ F N s h
   | true=>
    simp only [hw] at h ⊢
    match k with
    | 0=>obtain ⟨v,h1,h2⟩:=h;exact ⟨v,fun a w ha hin=>h1 a w ha (hin.sub s),WS.mono hE L hs hs' _ F N s h2⟩
    | 1=>obtain ⟨obj,mk,h1,h2⟩:=h;exact ⟨obj,mk,h1,fun b=>WS.mono hE L hs hs' _ F _ s (h2 b)⟩
    | 2=>obtain ⟨obj,mk,h1,h2⟩:=h;exact ⟨obj,mk,h1,fun b hb=>WS.mono hE L _ _ _ F _ (un_r s) (h2 b (none_of_sub s hb))⟩
    | 3=>obtain ⟨v,h1,h2⟩:=h;exact ⟨v,fun a G w hp ha hsub hsat=>h1 a G w hp ha (s.trans hsub) hsat,WS.mono hE L hs hs' _ F N s h2⟩
    | 4=>obtain ⟨post,h1,h2⟩:=h;exact ⟨post,fun a G w hp ha hsub hsat=>h1 a G w hp ha (s.trans hsub) hsat,fun x hx=>WS.mono hE L hs hs' _ _ _ s (h2 x hx)⟩
    | 5=>obtain ⟨post,h1,h2,h5⟩:=h;exact ⟨post,fun a G w hp ha hsub hsat=>h1 a G w hp ha (s.trans hsub) hsat,fun x hx=>WS.mono hE L hs hs' _ _ _ s (h2 x hx),h5⟩
    | k+6=>exact h.elim
theorem WS.perm (hEnd:∀e F N N',List.Perm N N'→End e F N→End e F N'):∀(L:List (Nat×Nat)) (hs:H) (e:Env) (F:List Pf) (N N':List HP),N.Perm N'→WS P T n ds ops hs End L e F N→WS P T n ds ops hs End L e F N'
 | [],_,e,F,N,N',p,h=>hEnd e F N N' p h
 | (i,k)::L,hs,e,F,N,N',p,h=>by
  intro o ho
  have h:=h o ho
  cases hw:wantF ops e o with
  | none=>simp only [hw] at h
  | some b=>
   cases b with
   | false=>simp only [hw] at h ⊢;exact WS.perm hEnd L _ _ F N N' p h
   | true=>
    simp only [hw] at h ⊢
    match k with
    | 0=>obtain ⟨v,h1,h2⟩:=h;exact ⟨v,h1,WS.perm hEnd L _ _ F N N' p h2⟩
    | 1=>obtain ⟨obj,mk,h1,h2⟩:=h;exact ⟨obj,mk,h1,fun b=>WS.perm hEnd L _ _ F _ _ (p.cons _) (h2 b)⟩
    | 2=>obtain ⟨obj,mk,h1,h2⟩:=h;exact ⟨obj,mk,h1,fun b hb=>WS.perm hEnd L _ _ F _ _ p (h2 b hb)⟩
    | 3=>obtain ⟨v,h1,h2⟩:=h;exact ⟨v,fun a G w hp ha hsub hsat=>h1 a G w hp ha hsub (hsat.perm p.symm),WS.perm hEnd L _ _ F N N' p h2⟩
    | 4=>obtain ⟨post,h1,h2⟩:=h;exact ⟨post,fun a G w hp ha hsub hsat=>h1 a G w hp ha hsub (hsat.perm p.symm),h2⟩
    | 5=>obtain ⟨post,h1,h2,h5⟩:=h;exact ⟨post,fun a G w hp ha hsub hsat=>h1 a G w hp ha hsub (hsat.perm p.symm),h2,fun x hx=>⟨(h5 x hx).1,(h5 x hx).2.trans p⟩⟩
    | k+6=>exact h.elim
variable (hsel:Region.noSelect ops=true) (hdst:∀(i:Nat) (o:Oper),ops[i]? = some o→∀t,o.dst=some t→t<n)
include hsel hdst
theorem WS.pull (hEnd:∀e F N N',List.Perm N N'→End e F N→End e F N') {i:Nat} {oi:Oper} (hi:ops[i]? = some oi) {obj:Obj} {mk:Nat→Value} (C:List (Nat×Nat)):∀(A:List (Nat×Nat)) (hs:H) (e:Env) (F:List Pf) (N:List HP),
  (∀y ∈ A,apartOf ops y.1 i=true)→(∀y ∈ A,∃oy,ops[y.1]? = some oy)→WS P T n ds ops hs End (A++(i,1)::C) e F N→wantF ops e oi=some true→allocOf T e oi.op=some (obj,mk)→
  ∀b,WS P T n ds ops hs End (A++C) (upd e oi.dst (mk b)) F (Pt b obj::N)
 | [],hs,e,F,N,_,_,h,hw,ha,b=>by
  have h:=h oi hi
  simp only [hw] at h
  obtain ⟨obj',mk',ha',h⟩:=h
  rw [ha] at ha'
  obtain ⟨rfl,rfl⟩:=Prod.mk.inj (Option.some.inj ha')
  exact h b
 | (y,ky)::A,hs,e,F,N,hap,hin,h,hw,ha,b=>by
  obtain ⟨oy,hy⟩:=hin (y,ky) List.mem_cons_self
  obtain ⟨ap1,ap2,ap3⟩:=Zk hy hi (hap (y,ky) List.mem_cons_self)
  have hsy:∀cs b,oy.op≠.select cs b:=fun cs b=>Region.noSelect_spec hsel y oy cs b hy
  have hap':∀z ∈ A,apartOf ops z.1 i=true:=fun z hz=>hap z (List.mem_cons_of_mem _ hz)
  have hin':∀z ∈ A,∃oz,ops[z.1]? = some oz:=fun z hz=>hin z (List.mem_cons_of_mem _ hz)
  have ih:=fun (hs:H) v F' N' (hh:WS P T n ds ops hs End (A++(i,1)::C) (upd e oy.dst v) F' N')=>WS.pull hEnd hi (obj:=obj) (mk:=mk) C A hs (upd e oy.dst v) F' N' hap' hin' hh (by rw [Zd ap1];exact hw) (by rw [Zv ap1];exact ha) b
  have hcom:∀v u,upd (upd e oy.dst v) oi.dst u=upd (upd e oi.dst u) oy.dst v:=fun v u=>Xs e _ _ v u ap2
  have h:=h oy hy
  intro o' ho'
  obtain rfl:o'=oy:=Option.some.inj (ho'.symm.trans hy)
  rw [Zd ap3]
  have und:∀(a:Act) (u:Value),Agree n ds (upd e oi.dst u) a→∃a',Agree n ds e a'∧execOp a'.eval o'=execOp a.eval o':=fun a u hag=>by
   obtain ⟨z,hz⟩:=hag.undo (hdst i oi hi)
   exact ⟨_,hz,execOp_put o' hsy a oi.dst z ap3⟩
  cases hwy:wantF ops e o' with
  | none=>simp only [hwy] at h
  | some wb=>
   cases wb with
   | false=>
    simp only [hwy] at h ⊢
    rw [←hcom];exact ih _ _ _ _ h
   | true=>
    simp only [hwy] at h ⊢
    match ky with
    | 0=>
     obtain ⟨v,hq,h2⟩:=h
     refine ⟨v,fun a w hag hin=>?_,by rw [←hcom];exact ih _ _ _ _ h2⟩
     obtain ⟨a',h1,h3⟩:=und a _ hag
     rw [←h3];exact hq a' w h1 hin
    | 1=>
     obtain ⟨obj',mk',ha',h2⟩:=h
     refine ⟨obj',mk',by rw [Zv ap3];exact ha',fun b'=>?_⟩
     rw [←hcom]
     exact WS.perm hEnd _ _ _ _ _ _ (List.Perm.swap _ _ _) (ih _ _ _ _ (h2 b'))
    | 2=>
     obtain ⟨obj',mk',ha',h2⟩:=h
     refine ⟨obj',mk',by rw [Zv ap3];exact ha',fun b' hb'=>?_⟩
     rw [←hcom]
     exact ih _ _ _ _ (h2 b' hb')
    | 3=>
     obtain ⟨v,hq,h2⟩:=h
     refine ⟨v,fun a G w hp hag hsub hsat=>?_,by rw [←hcom];exact ih _ _ _ _ h2⟩
     obtain ⟨a',h1,h3⟩:=und a _ hag
     rw [←h3]
     obtain ⟨k1,hk1,hdk,hs1⟩:=hsat.aside
     refine hq a' (un G k1) w hp h1 (fun c o e=>?_) hs1
     have:=hsub c o e
     obtain ⟨hp',hr',t⟩:=hs1
     rcases un_or this with e1|e1
     ·exact ZL _ _ c o (ZL _ _ c o e1)
     ·exact ZN (t.d2.sub t.sub).symm c o e1
    | 4=>
     obtain ⟨post,hq,h2⟩:=h
     refine ⟨{post with R:=fun x=>Pt b obj::post.R x},fun a G w hp hag hsub hsat=>?_,fun x hx=>by rw [←hcom];exact ih _ _ _ _ (h2 x hx)⟩
     obtain ⟨a',h1,h3⟩:=und a _ hag
     rw [←h3]
     obtain ⟨k1,hk1,hdk,hs1⟩:=hsat.aside
     have hsub':Sub hs (un (un G k1) hp):=fun c o e=>by
      have:=hsub c o e
      obtain ⟨hp',hr',t⟩:=hs1
      rcases un_or this with e1|e1
      ·exact ZL _ _ c o (ZL _ _ c o e1)
      ·exact ZN (t.d2.sub t.sub).symm c o e1
     refine (hq a' (un G k1) w hp h1 hsub' hs1).mono fun v w' hv=>?_
     obtain ⟨x,hv,hx,hsx⟩:=hv
     exact ⟨x,hv,hx,hsx.taken hk1 hdk⟩
    | 5=>
     obtain ⟨post,hq,h2,h5⟩:=h
     refine ⟨{post with R:=fun x=>Pt b obj::post.R x},fun a G w hp hag hsub hsat=>?_,fun x hx=>by rw [←hcom];exact ih _ _ _ _ (h2 x hx),fun x hx=>⟨(h5 x hx).1,(h5 x hx).2.cons _⟩⟩
     obtain ⟨a',h1,h3⟩:=und a _ hag
     rw [←h3]
     obtain ⟨k1,hk1,hdk,hs1⟩:=hsat.aside
     have hsub':Sub hs (un (un G k1) hp):=fun c o e=>by
      have:=hsub c o e
      obtain ⟨hp',hr',t⟩:=hs1
      rcases un_or this with e1|e1
      ·exact ZL _ _ c o (ZL _ _ c o e1)
      ·exact ZN (t.d2.sub t.sub).symm c o e1
     refine (hq a' (un G k1) w hp h1 hsub' hs1).mono fun v w' hv=>?_
     obtain ⟨x,hv,hx,hsx⟩:=hv
     exact ⟨x,hv,hx,hsx.taken hk1 hdk⟩
    | k+6=>exact h.elim
theorem WS.pullS {i:Nat} {oi:Oper} (hi:ops[i]? = some oi) {obj:Obj} {mk:Nat→Value} (C:List (Nat×Nat)):∀(A:List (Nat×Nat)) (hs:H) (e:Env) (F:List Pf) (N:List HP),
  (∀y ∈ A,apartOf ops y.1 i=true)→(∀y ∈ A,∃oy,ops[y.1]? = some oy)→WS P T n ds ops hs End (A++(i,2)::C) e F N→wantF ops e oi=some true→allocOf T e oi.op=some (obj,mk)→
  ∀b,hs b=none→WS P T n ds ops (un (one b obj) hs) End (A++C) (upd e oi.dst (mk b)) F N
 | [],hs,e,F,N,_,_,h,hw,ha,b,hb=>by
  have h:=h oi hi
  simp only [hw] at h
  obtain ⟨obj',mk',ha',h⟩:=h
  rw [ha] at ha'
  obtain ⟨rfl,rfl⟩:=Prod.mk.inj (Option.some.inj ha')
  exact h b hb
 | (y,ky)::A,hs,e,F,N,hap,hin,h,hw,ha,b,hb=>by
  obtain ⟨oy,hy⟩:=hin (y,ky) List.mem_cons_self
  obtain ⟨ap1,ap2,ap3⟩:=Zk hy hi (hap (y,ky) List.mem_cons_self)
  have hsy:∀cs b,oy.op≠.select cs b:=fun cs b=>Region.noSelect_spec hsel y oy cs b hy
  have hap':∀z ∈ A,apartOf ops z.1 i=true:=fun z hz=>hap z (List.mem_cons_of_mem _ hz)
  have hin':∀z ∈ A,∃oz,ops[z.1]? = some oz:=fun z hz=>hin z (List.mem_cons_of_mem _ hz)
  have ih:=fun (hs:H) v F' N' (hh:WS P T n ds ops hs End (A++(i,2)::C) (upd e oy.dst v) F' N') (hb:hs b=none)=>WS.pullS hi (obj:=obj) (mk:=mk) C A hs (upd e oy.dst v) F' N' hap' hin' hh (by rw [Zd ap1];exact hw) (by rw [Zv ap1];exact ha) b hb
  have hcom:∀v u,upd (upd e oy.dst v) oi.dst u=upd (upd e oi.dst u) oy.dst v:=fun v u=>Xs e _ _ v u ap2
  have h:=h oy hy
  intro o' ho'
  obtain rfl:o'=oy:=Option.some.inj (ho'.symm.trans hy)
  rw [Zd ap3]
  have und:∀(a:Act) (u:Value),Agree n ds (upd e oi.dst u) a→∃a',Agree n ds e a'∧execOp a'.eval o'=execOp a.eval o':=fun a u hag=>by
   obtain ⟨z,hz⟩:=hag.undo (hdst i oi hi)
   exact ⟨_,hz,execOp_put o' hsy a oi.dst z ap3⟩
  cases hwy:wantF ops e o' with
  | none=>simp only [hwy] at h
  | some wb=>
   cases wb with
   | false=>
    simp only [hwy] at h ⊢
    rw [←hcom];exact ih _ _ _ _ h hb
   | true=>
    simp only [hwy] at h ⊢
    match ky with
    | 0=>
     obtain ⟨v,hq,h2⟩:=h
     refine ⟨v,fun a w hag hin=>?_,by rw [←hcom];exact ih _ _ _ _ h2 hb⟩
     obtain ⟨a',h1,h3⟩:=und a _ hag
     rw [←h3];exact hq a' w h1 (hin.sub (V6 hb))
    | 1=>
     obtain ⟨obj',mk',ha',h2⟩:=h
     refine ⟨obj',mk',by rw [Zv ap3];exact ha',fun b'=>?_⟩
     rw [←hcom]
     exact ih _ _ _ _ (h2 b') hb
    | 2=>
     obtain ⟨obj',mk',ha',h2⟩:=h
     refine ⟨obj',mk',by rw [Zv ap3];exact ha',fun b' hb'=>?_⟩
     rw [←hcom]
     obtain ⟨n1,n2⟩:=un_noneS hb'
     exact WS.mono (fun _ _ _ h=>h) _ _ _ _ _ _ (sub_swap (fun e=>n1 e.symm)) (ih _ _ _ _ (h2 b' n2) (un_noneS' (fun e=>n1 e.symm) hb))
    | 3=>
     obtain ⟨v,hq,h2⟩:=h
     refine ⟨v,fun a G w hp hag hsub hsat=>?_,by rw [←hcom];exact ih _ _ _ _ h2 hb⟩
     obtain ⟨a',h1,h3⟩:=und a _ hag
     rw [←h3]
     exact hq a' G w hp h1 ((V6 hb).trans hsub) hsat
    | 4=>
     obtain ⟨post,hq,h2⟩:=h
     refine ⟨post,fun a G w hp hag hsub hsat=>?_,fun x hx=>by rw [←hcom];exact ih _ _ _ _ (h2 x hx) hb⟩
     obtain ⟨a',h1,h3⟩:=und a _ hag
     rw [←h3]
     exact hq a' G w hp h1 ((V6 hb).trans hsub) hsat
    | 5=>
     obtain ⟨post,hq,h2,h5⟩:=h
     refine ⟨post,fun a G w hp hag hsub hsat=>?_,fun x hx=>by rw [←hcom];exact ih _ _ _ _ (h2 x hx) hb,h5⟩
     obtain ⟨a',h1,h3⟩:=und a _ hag
     rw [←h3]
     exact hq a' G w hp h1 ((V6 hb).trans hsub) hsat
    | k+6=>exact h.elim
theorem WS.skip {i k:Nat} {oi:Oper} (hi:ops[i]? = some oi) (C:List (Nat×Nat)):∀(A:List (Nat×Nat)) (hs:H) (e:Env) (F:List Pf) (N:List HP),
  (∀y ∈ A,apartOf ops y.1 i=true)→(∀y ∈ A,∃oy,ops[y.1]? = some oy)→WS P T n ds ops hs End (A++(i,k)::C) e F N→wantF ops e oi=some false→
  WS P T n ds ops hs End (A++C) (upd e oi.dst undef) F N
 | [],hs,e,F,N,_,_,h,hw=>by
  have h:=h oi hi
  simp only [hw] at h
  exact h
 | (y,ky)::A,hs,e,F,N,hap,hin,h,hw=>by
  obtain ⟨oy,hy⟩:=hin (y,ky) List.mem_cons_self
  obtain ⟨ap1,ap2,ap3⟩:=Zk hy hi (hap (y,ky) List.mem_cons_self)
  have hsy:∀cs b,oy.op≠.select cs b:=fun cs b=>Region.noSelect_spec hsel y oy cs b hy
  have hap':∀z ∈ A,apartOf ops z.1 i=true:=fun z hz=>hap z (List.mem_cons_of_mem _ hz)
  have hin':∀z ∈ A,∃oz,ops[z.1]? = some oz:=fun z hz=>hin z (List.mem_cons_of_mem _ hz)
  have ih:=fun (hs:H) v F' N' (hh:WS P T n ds ops hs End (A++(i,k)::C) (upd e oy.dst v) F' N')=>WS.skip hi C A hs (upd e oy.dst v) F' N' hap' hin' hh (by rw [Zd ap1];exact hw)
  have hcom:∀v u,upd (upd e oy.dst v) oi.dst u=upd (upd e oi.dst u) oy.dst v:=fun v u=>Xs e _ _ v u ap2
  have h:=h oy hy
  intro o' ho'
  obtain rfl:o'=oy:=Option.some.inj (ho'.symm.trans hy)
  rw [Zd ap3]
  have und:∀(a:Act) (u:Value),Agree n ds (upd e oi.dst u) a→∃a',Agree n ds e a'∧execOp a'.eval o'=execOp a.eval o':=fun a u hag=>by
   obtain ⟨z,hz⟩:=hag.undo (hdst i oi hi)
   exact ⟨_,hz,execOp_put o' hsy a oi.dst z ap3⟩
  cases hwy:wantF ops e o' with
  | none=>simp only [hwy] at h
  | some wb=>
   cases wb with
   | false=>
    simp only [hwy] at h ⊢
    rw [←hcom];exact ih _ _ _ _ h
   | true=>
    simp only [hwy] at h ⊢
    match ky with
    | 0=>
     obtain ⟨v,hq,h2⟩:=h
     refine ⟨v,fun a w hag hin=>?_,by rw [←hcom];exact ih _ _ _ _ h2⟩
     obtain ⟨a',h1,h3⟩:=und a _ hag
     rw [←h3];exact hq a' w h1 hin
    | 1=>
     obtain ⟨obj',mk',ha',h2⟩:=h
     refine ⟨obj',mk',by rw [Zv ap3];exact ha',fun b'=>?_⟩
     rw [←hcom]
     exact ih _ _ _ _ (h2 b')
    | 2=>
     obtain ⟨obj',mk',ha',h2⟩:=h
     refine ⟨obj',mk',by rw [Zv ap3];exact ha',fun b' hb'=>?_⟩
     rw [←hcom]
     exact ih _ _ _ _ (h2 b' hb')
    | 3=>
     obtain ⟨v,hq,h2⟩:=h
     refine ⟨v,fun a G w hp hag hsub hsat=>?_,by rw [←hcom];exact ih _ _ _ _ h2⟩
     obtain ⟨a',h1,h3⟩:=und a _ hag
     rw [←h3]
     exact hq a' G w hp h1 hsub hsat
    | 4=>
     obtain ⟨post,hq,h2⟩:=h
     refine ⟨post,fun a G w hp hag hsub hsat=>?_,fun x hx=>by rw [←hcom];exact ih _ _ _ _ (h2 x hx)⟩
     obtain ⟨a',h1,h3⟩:=und a _ hag
     rw [←h3]
     exact hq a' G w hp h1 hsub hsat
    | 5=>
     obtain ⟨post,hq,h2,h5⟩:=h
     refine ⟨post,fun a G w hp hag hsub hsat=>?_,fun x hx=>by rw [←hcom];exact ih _ _ _ _ (h2 x hx),h5⟩
     obtain ⟨a',h1,h3⟩:=und a _ hag
     rw [←h3]
     exact hq a' G w hp h1 hsub hsat
    | kk+6=>exact h.elim
omit hsel hdst in
theorem Sat.stalloc {G:H} {w:World} {hp:H} {F:List Pf} {N:List HP} {hs:H} (hsat:Sat G w hp F N w) (hsub:Sub hs (un G hp)) (obj:Obj) :
  hs w.heap.size=none∧∃G',Sub G G'∧(∀hp1,Sub hp1 hp→Sub hs (un G hp1)→Sub (un (one w.heap.size obj) hs) (un G' hp1))∧Sat G' w hp F N (w.alloc obj):=by
 have hb:hs w.heap.size=none:=by
  cases e:hs w.heap.size with
  | none=>rfl
  | some o=>have:=hsat.stat hsub _ _ e;simp at this
 refine ⟨hb,?_⟩
 obtain ⟨h1,hx,hdj,hs1⟩:=(hsat.alloc obj).aside
 refine ⟨un G h1,ZL _ _,fun hp1 s1 hsub1 c o e=>?_,hs1⟩
 obtain ⟨hp',hr',t⟩:=hs1
 by_cases hc:c=w.heap.size
 ·subst hc
  have e':some obj=some o:=by simpa [un,one] using e
  cases e'
  exact ZL _ _ _ _ (ZN hdj _ _ hx)
 ·have e':hs c=some o:=by simpa [un,one,hc] using e
  rcases un_or (hsub1 c o e') with e1|e1
  ·exact ZL _ _ c o (ZL _ _ c o e1)
  ·exact ZN ((t.d2.sub (s1.trans t.sub)).symm) c o e1
omit hsel in
theorem WS.reach (hT:TabOK P T) {i k:Nat} {oi:Oper} (hi:ops[i]? = some oi) (C:List (Nat×Nat)):∀(A:List (Nat×Nat)) (hs:H) (e:Env) (F:List Pf) (N:List HP),
  (∀y ∈ A,apartOf ops y.1 i=true)→(∀y ∈ A,∃oy,ops[y.1]? = some oy)→WS P T n ds ops hs End (A++(i,k)::C) e F N→(∃a G w hp,Agree n ds e a∧Sub hs (un G hp)∧Sat G w hp F N w)→
  ∃wb,wantF ops e oi=some wb∧(wb=true→k=1∨k=2→∃obj mk,allocOf T e oi.op=some (obj,mk))
 | [],hs,e,F,N,_,_,h,_=>by
  have h:=h oi hi
  cases hw:wantF ops e oi with
  | none=>simp only [hw] at h
  | some wb=>
   refine ⟨wb,rfl,fun hb hk=>?_⟩
   subst hb
   rcases hk with rfl|rfl
   ·simp only [hw] at h
    obtain ⟨obj,mk,ha,_⟩:=h
    exact ⟨obj,mk,ha⟩
   ·simp only [hw] at h
    obtain ⟨obj,mk,ha,_⟩:=h
    exact ⟨obj,mk,ha⟩
 | (y,ky)::A,hs,e,F,N,hap,hin,h,⟨a,G,w,hp,hag,hsub,hsat⟩=>by
  obtain ⟨oy,hy⟩:=hin (y,ky) List.mem_cons_self
  obtain ⟨ap1,ap2,ap3⟩:=Zk hy hi (hap (y,ky) List.mem_cons_self)
  have hap':∀z ∈ A,apartOf ops z.1 i=true:=fun z hz=>hap z (List.mem_cons_of_mem _ hz)
  have hin':∀z ∈ A,∃oz,ops[z.1]? = some oz:=fun z hz=>hin z (List.mem_cons_of_mem _ hz)
  have ih:=fun (hs:H) v F' N' (hh:WS P T n ds ops hs End (A++(i,k)::C) (upd e oy.dst v) F' N') hne=>WS.reach hT hi C A hs (upd e oy.dst v) F' N' hap' hin' hh hne
  simp only [Zd ap1,Zv ap1] at ih
  have hput:=fun v=>hag.put (hdst y oy hy) v
  have h:=h oy hy
  cases hwy:wantF ops e oy with
  | none=>simp only [hwy] at h
  | some wb=>
   cases wb with
   | false=>simp only [hwy] at h;exact ih _ _ _ _ h ⟨_,G,w,hp,hput _,hsub,hsat⟩
   | true=>
    simp only [hwy] at h
    match ky with
    | 0=>obtain ⟨v,hq,h2⟩:=h;exact ih _ _ _ _ h2 ⟨_,G,w,hp,hput _,hsub,hsat⟩
    | 1=>
     obtain ⟨obj',mk',ha',h2⟩:=h
     obtain ⟨hpc,s1,m1,hs1⟩:=(hsat.alloc obj').rebase
     exact ih _ _ _ _ (h2 w.heap.size) ⟨_,G,w.alloc obj',hpc,hput _,YC hsub s1,hs1⟩
    | 2=>
     obtain ⟨obj',mk',ha',h2⟩:=h
     obtain ⟨hb,G',_,s2,hs1⟩:=hsat.stalloc hsub obj'
     obtain ⟨hpc,s1,m1,hs2⟩:=hs1.rebase
     exact ih _ _ _ _ (h2 _ hb) ⟨_,G',w.alloc obj',hpc,hput _,YC (s2 hp (Sub.refl _) hsub) s1,hs2⟩
    | 3=>obtain ⟨v,hq,h2⟩:=h;exact ih _ _ _ _ h2 ⟨_,G,w,hp,hput _,hsub,hsat⟩
    | 4=>
     obtain ⟨post,hq,h2⟩:=h
     obtain ⟨v,w',x,_,hx,hsx⟩:=(hq a G w hp hag hsub hsat).ex
     obtain ⟨hpc,s1,m1,hs1⟩:=hsx.rebase
     exact ih _ _ _ _ (h2 x hx) ⟨_,G,w',hpc,hput _,YC hsub s1,hs1⟩
    | 5=>
     obtain ⟨post,hq,h2,_⟩:=h
     obtain ⟨v,w',x,_,hx,hsx⟩:=(hq a G w hp hag hsub hsat).ex
     obtain ⟨hpc,s1,m1,hs1⟩:=hsx.rebase
     exact ih _ _ _ _ (h2 x hx) ⟨_,G,w',hpc,hput _,YC hsub s1,hs1⟩
    | kk+6=>exact h.elim
omit hsel hdst in
theorem eval_put {y i:Nat} {oy oi:Oper} (hsel:Region.noSelect ops=true) (hi:ops[i]? = some oi) (hy:ops[y]? = some oy) (hap:apartOf ops y i=true) (a:Act) (v:Value):execOp (a.put oy.dst v).eval oi=execOp a.eval oi:=
 execOp_put oi (fun cs b=>Region.noSelect_spec hsel i oi cs b hi) a oy.dst v (Zk hy hi hap).1
theorem WS.val0 {i:Nat} {oi:Oper} (hi:ops[i]? = some oi) (C:List (Nat×Nat)):∀(A:List (Nat×Nat)) (e:Env) (F:List Pf) (N:List HP),
  (∀y ∈ A,apartOf ops y.1 i=true∧y.2≠2)→(∀y ∈ A,∃oy,ops[y.1]? = some oy)→WS P T n ds ops hs End (A++(i,0)::C) e F N→(∃a G w hp,Agree n ds e a∧Sub hs (un G hp)∧Sat G w hp F N w)→wantF ops e oi=some true→
  ∀a w,Agree n ds e a→In hs w→∃v,(execOp a.eval oi).run P w = .ok (.value v) w
 | [],e,F,N,_,_,h,_,hw,a,w,hag,hin=>by
  have h:=h oi hi
  simp only [hw] at h
  obtain ⟨v,hq,_⟩:=h
  exact ⟨v,hq a w hag hin⟩
 | (y,ky)::A,e,F,N,hap,hin,h,⟨a2,G,w2,hp,hag2,hsub,hsat⟩,hw,a,w,hag,hinw=>by
  obtain ⟨oy,hy⟩:=hin (y,ky) List.mem_cons_self
  obtain ⟨hap0,hk2⟩:=hap (y,ky) List.mem_cons_self
  obtain ⟨ap1,ap2,ap3⟩:=Zk hy hi hap0
  have hap':∀z ∈ A,apartOf ops z.1 i=true∧z.2≠2:=fun z hz=>hap z (List.mem_cons_of_mem _ hz)
  have hin':∀z ∈ A,∃oz,ops[z.1]? = some oz:=fun z hz=>hin z (List.mem_cons_of_mem _ hz)
  have ih:=fun v F' N' (hh:WS P T n ds ops hs End (A++(i,0)::C) (upd e oy.dst v) F' N') hne=>WS.val0 hi C A (upd e oy.dst v) F' N' hap' hin' hh hne (by rw [Zd ap1];exact hw) (a.put oy.dst v) w (hag.put (hdst y oy hy) v) hinw
  simp only [eval_put hsel hi hy hap0] at ih
  have hput:=fun v=>hag2.put (hdst y oy hy) v
  have h:=h oy hy
  cases hwy:wantF ops e oy with
  | none=>simp only [hwy] at h
  | some wb=>
   cases wb with
   | false=>simp only [hwy] at h;exact ih _ _ _ h ⟨_,G,w2,hp,hput _,hsub,hsat⟩
   | true=>
    simp only [hwy] at h
    match ky,hk2 with
    | 0,_=>obtain ⟨v,hq,h2⟩:=h;exact ih _ _ _ h2 ⟨_,G,w2,hp,hput _,hsub,hsat⟩
    | 1,_=>
     obtain ⟨obj',mk',ha',h2⟩:=h
     obtain ⟨hpc,s1,m1,hs1⟩:=(hsat.alloc obj').rebase
     exact ih _ _ _ (h2 w2.heap.size) ⟨_,G,w2.alloc obj',hpc,hput _,YC hsub s1,hs1⟩
    | 2,hne=>exact absurd rfl hne
    | 3,_=>obtain ⟨v,hq,h2⟩:=h;exact ih _ _ _ h2 ⟨_,G,w2,hp,hput _,hsub,hsat⟩
    | 4,_=>
     obtain ⟨post,hq,h2⟩:=h
     obtain ⟨v,w',x,_,hx,hsx⟩:=(hq a2 G w2 hp hag2 hsub hsat).ex
     obtain ⟨hpc,s1,m1,hs1⟩:=hsx.rebase
     exact ih _ _ _ (h2 x hx) ⟨_,G,w',hpc,hput _,YC hsub s1,hs1⟩
    | 5,_=>
     obtain ⟨post,hq,h2,_⟩:=h
     obtain ⟨v,w',x,_,hx,hsx⟩:=(hq a2 G w2 hp hag2 hsub hsat).ex
     obtain ⟨hpc,s1,m1,hs1⟩:=hsx.rebase
     exact ih _ _ _ (h2 x hx) ⟨_,G,w',hpc,hput _,YC hsub s1,hs1⟩
    | kk+6,_=>exact h.elim
theorem WS.uniq0 {i:Nat} {oi:Oper} (hi:ops[i]? = some oi) (C:List (Nat×Nat)) {w:World} {v0:Value} (hinw:In hs w):∀(A:List (Nat×Nat)) (e:Env) (F:List Pf) (N:List HP) (a:Act),
  (∀y ∈ A,apartOf ops y.1 i=true∧y.2≠2)→(∀y ∈ A,∃oy,ops[y.1]? = some oy)→WS P T n ds ops hs End (A++(i,0)::C) e F N→wantF ops e oi=some true→Agree n ds e a→
  (execOp a.eval oi).run P w = .ok (.value v0) w→WS P T n ds ops hs End (A++C) (upd e oi.dst v0) F N
 | [],e,F,N,a,_,_,h,hw,hag,hr=>by
  have h:=h oi hi
  simp only [hw] at h
  obtain ⟨v,hq,h2⟩:=h
  have:=(hq a w hag hinw).symm.trans hr
  simp only [Result.ok.injEq,Next.value.injEq,and_true] at this
  rw [←this]
  exact h2
 | (y,ky)::A,e,F,N,a,hap,hin,h,hw,hag,hr=>by
  obtain ⟨oy,hy⟩:=hin (y,ky) List.mem_cons_self
  obtain ⟨hap0,hk2⟩:=hap (y,ky) List.mem_cons_self
  obtain ⟨ap1,ap2,ap3⟩:=Zk hy hi hap0
  have hsy:∀cs b,oy.op≠.select cs b:=fun cs b=>Region.noSelect_spec hsel y oy cs b hy
  have hap':∀z ∈ A,apartOf ops z.1 i=true∧z.2≠2:=fun z hz=>hap z (List.mem_cons_of_mem _ hz)
  have hin':∀z ∈ A,∃oz,ops[z.1]? = some oz:=fun z hz=>hin z (List.mem_cons_of_mem _ hz)
  have ih:=fun v F' N' (hh:WS P T n ds ops hs End (A++(i,0)::C) (upd e oy.dst v) F' N')=>WS.uniq0 hi C hinw A (upd e oy.dst v) F' N' (a.put oy.dst v) hap' hin' hh (by rw [Zd ap1];exact hw) (hag.put (hdst y oy hy) v) (by rw [eval_put hsel hi hy hap0];exact hr)
  have hcom:∀v u,upd (upd e oy.dst v) oi.dst u=upd (upd e oi.dst u) oy.dst v:=fun v u=>Xs e _ _ v u ap2
  have h:=h oy hy
  intro o' ho'
  obtain rfl:o'=oy:=Option.some.inj (ho'.symm.trans hy)
  rw [Zd ap3]
  have und:∀(a:Act) (u:Value),Agree n ds (upd e oi.dst u) a→∃a',Agree n ds e a'∧execOp a'.eval o'=execOp a.eval o':=fun a u hag=>by
   obtain ⟨z,hz⟩:=hag.undo (hdst i oi hi)
   exact ⟨_,hz,execOp_put o' hsy a oi.dst z ap3⟩
  cases hwy:wantF ops e o' with
  | none=>simp only [hwy] at h
  | some wb=>
   cases wb with
   | false=>
    simp only [hwy] at h ⊢
    rw [←hcom];exact ih _ _ _ h
   | true=>
    simp only [hwy] at h ⊢
    match ky,hk2 with
    | 0,_=>
     obtain ⟨v,hq,h2⟩:=h
     refine ⟨v,fun a w hag hin=>?_,by rw [←hcom];exact ih _ _ _ h2⟩
     obtain ⟨a',h1,h3⟩:=und a _ hag
     rw [←h3];exact hq a' w h1 hin
    | 1,_=>
     obtain ⟨obj',mk',ha',h2⟩:=h
     refine ⟨obj',mk',by rw [Zv ap3];exact ha',fun b'=>?_⟩
     rw [←hcom]
     exact ih _ _ _ (h2 b')
    | 2,hne=>exact absurd rfl hne
    | 3,_=>
     obtain ⟨v,hq,h2⟩:=h
     refine ⟨v,fun a G w hp hag hsub hsat=>?_,by rw [←hcom];exact ih _ _ _ h2⟩
     obtain ⟨a',h1,h3⟩:=und a _ hag
     rw [←h3]
     exact hq a' G w hp h1 hsub hsat
    | 4,_=>
     obtain ⟨post,hq,h2⟩:=h
     refine ⟨post,fun a G w hp hag hsub hsat=>?_,fun x hx=>by rw [←hcom];exact ih _ _ _ (h2 x hx)⟩
     obtain ⟨a',h1,h3⟩:=und a _ hag
     rw [←h3]
     exact hq a' G w hp h1 hsub hsat
    | 5,_=>
     obtain ⟨post,hq,h2,h5⟩:=h
     refine ⟨post,fun a G w hp hag hsub hsat=>?_,fun x hx=>by rw [←hcom];exact ih _ _ _ (h2 x hx),h5⟩
     obtain ⟨a',h1,h3⟩:=und a _ hag
     rw [←h3]
     exact hq a' G w hp h1 hsub hsat
    | kk+6,_=>exact h.elim
theorem WS.val3 {i:Nat} {oi:Oper} (hi:ops[i]? = some oi) (C:List (Nat×Nat)) {G:H} {w:World} {hp:H} {F:List Pf} {N:List HP} (hsub:Sub hs (un G hp)) (hsat:Sat G w hp F N w):∀(A:List (Nat×Nat)) (e:Env) (a:Act),
  (∀y ∈ A,apartOf ops y.1 i=true∧(y.2=0∨y.2=3))→(∀y ∈ A,∃oy,ops[y.1]? = some oy)→WS P T n ds ops hs End (A++(i,3)::C) e F N→wantF ops e oi=some true→Agree n ds e a→
  ∃v,(execOp a.eval oi).run P w = .ok (.value v) w∧WS P T n ds ops hs End (A++C) (upd e oi.dst v) F N
 | [],e,a,_,_,h,hw,hag=>by
  have h:=h oi hi
  simp only [hw] at h
  obtain ⟨v,hq,h2⟩:=h
  exact ⟨v,hq a G w hp hag hsub hsat,h2⟩
 | (y,ky)::A,e,a,hap,hin,h,hw,hag=>by
  obtain ⟨oy,hy⟩:=hin (y,ky) List.mem_cons_self
  obtain ⟨hap0,hk2⟩:=hap (y,ky) List.mem_cons_self
  obtain ⟨ap1,ap2,ap3⟩:=Zk hy hi hap0
  have hsy:∀cs b,oy.op≠.select cs b:=fun cs b=>Region.noSelect_spec hsel y oy cs b hy
  have hap':∀z ∈ A,apartOf ops z.1 i=true∧(z.2=0∨z.2=3):=fun z hz=>hap z (List.mem_cons_of_mem _ hz)
  have hin':∀z ∈ A,∃oz,ops[z.1]? = some oz:=fun z hz=>hin z (List.mem_cons_of_mem _ hz)
  have ih:=fun v (hh:WS P T n ds ops hs End (A++(i,3)::C) (upd e oy.dst v) F N)=>WS.val3 hi C hsub hsat A (upd e oy.dst v) (a.put oy.dst v) hap' hin' hh (by rw [Zd ap1];exact hw) (hag.put (hdst y oy hy) v)
  simp only [eval_put hsel hi hy hap0] at ih
  have hcom:∀v u,upd (upd e oy.dst v) oi.dst u=upd (upd e oi.dst u) oy.dst v:=fun v u=>Xs e _ _ v u ap2
  have h:=h oy hy
  have und:∀(a:Act) (u:Value),Agree n ds (upd e oi.dst u) a→∃a',Agree n ds e a'∧execOp a'.eval oy=execOp a.eval oy:=fun a u hag=>by
   obtain ⟨z,hz⟩:=hag.undo (hdst i oi hi)
   exact ⟨_,hz,execOp_put oy hsy a oi.dst z ap3⟩
  cases hwy:wantF ops e oy with
  | none=>simp only [hwy] at h
  | some wb=>
   cases wb with
   | false=>
    simp only [hwy] at h
    obtain ⟨v,h1,h2⟩:=ih _ h
    refine ⟨v,h1,fun o' ho'=>?_⟩
    obtain rfl:o'=oy:=Option.some.inj (ho'.symm.trans hy)
    rw [Zd ap3]
    simp only [hwy]
    rw [←hcom];exact h2
   | true=>
    simp only [hwy] at h
    rcases hk2 with hk2|hk2<;>simp only at hk2<;>subst hk2
    ·obtain ⟨v0,hq,h2⟩:=h
     obtain ⟨v,h3,h4⟩:=ih _ h2
     refine ⟨v,h3,fun o' ho'=>?_⟩
     obtain rfl:o'=oy:=Option.some.inj (ho'.symm.trans hy)
     rw [Zd ap3]
     simp only [hwy]
     refine ⟨v0,fun a w hag hin=>?_,by rw [←hcom];exact h4⟩
     obtain ⟨a',h5,h6⟩:=und a _ hag
     rw [←h6];exact hq a' w h5 hin
    ·obtain ⟨v0,hq,h2⟩:=h
     obtain ⟨v,h3,h4⟩:=ih _ h2
     refine ⟨v,h3,fun o' ho'=>?_⟩
     obtain rfl:o'=oy:=Option.some.inj (ho'.symm.trans hy)
     rw [Zd ap3]
     simp only [hwy]
     refine ⟨v0,fun a G w hp hag hsub hsat=>?_,by rw [←hcom];exact h4⟩
     obtain ⟨a',h5,h6⟩:=und a _ hag
     rw [←h6];exact hq a' G w hp h5 hsub hsat
theorem WS.first (hT:TabOK P T) (hEnd:∀e F N N',List.Perm N N'→End e F N→End e F N') {i k:Nat} {oi:Oper} (hi:ops[i]? = some oi) (C:List (Nat×Nat)) (A:List (Nat×Nat)) (e:Env) (F:List Pf) (N:List HP)
  (hap:∀y ∈ A,apartOf ops y.1 i=true∧(y.2=0∨k=1∨k=2∨(k=0∧y.2≠2)∨(k=3∧y.2=3)∨(k=5∧y.2=3))) (hin:∀y ∈ A,∃oy,ops[y.1]? = some oy) (h:WS P T n ds ops hs End (A++(i,k)::C) e F N)
  {a:Act} {G:H} {w:World} {hp:H} (hag:Agree n ds e a) (hsub:Sub hs (un G hp)) (hsat:Sat G w hp F N w) :
  (wantF ops e oi=some false∧WS P T n ds ops hs End (A++C) (upd e oi.dst undef) F N)∨
  (wantF ops e oi=some true∧OpRes P (execOp a.eval oi) w fun v w'=>∃G' hs' F' N',Sub G G'∧(∀hp1,Sub hp1 hp→Sub hs (un G hp1)→Sub hs' (un G' hp1))∧Sat G' w hp F' N' w'∧WS P T n ds ops hs' End (A++C) (upd e oi.dst v) F' N'):=by
 by_cases hk:k=1
 ·subst hk
  obtain ⟨wb,hwb,hal⟩:=WS.reach hdst hT hi C A _ e F N (fun y hy=>(hap y hy).1) hin h ⟨a,G,w,hp,hag,hsub,hsat⟩
  cases wb with
  | true=>
   obtain ⟨obj,mk,ha⟩:=hal rfl (.inl rfl)
   refine .inr ⟨hwb,?_⟩
   have hp2:=WS.pull hsel hdst hEnd hi C A _ e F N (fun y hy=>(hap y hy).1) hin h hwb ha
   unfold OpRes
   rw [X1 hT hag ha w]
   exact ⟨G,hs,F,_,Sub.refl _,fun _ _ h=>h,hsat.alloc obj,hp2 _⟩
  | false=>
   refine .inl ⟨hwb,?_⟩
   exact WS.skip hsel hdst hi C A _ e F N (fun y hy=>(hap y hy).1) hin h hwb
 by_cases hk2:k=2
 ·subst hk2
  obtain ⟨wb,hwb,hal⟩:=WS.reach hdst hT hi C A _ e F N (fun y hy=>(hap y hy).1) hin h ⟨a,G,w,hp,hag,hsub,hsat⟩
  cases wb with
  | true=>
   obtain ⟨obj,mk,ha⟩:=hal rfl (.inr rfl)
   refine .inr ⟨hwb,?_⟩
   obtain ⟨hb,G',sG,s2,hs1⟩:=hsat.stalloc hsub obj
   have hp2:=WS.pullS hsel hdst hi C A _ e F N (fun y hy=>(hap y hy).1) hin h hwb ha _ hb
   unfold OpRes
   rw [X1 hT hag ha w]
   exact ⟨G',_,F,N,sG,s2,hs1,hp2⟩
  | false=>
   refine .inl ⟨hwb,?_⟩
   exact WS.skip hsel hdst hi C A _ e F N (fun y hy=>(hap y hy).1) hin h hwb
 by_cases hk0:k=0
 ·subst hk0
  have hap0:(∀y ∈ A,apartOf ops y.1 i=true∧y.2≠2):=fun y hy=>⟨(hap y hy).1,by
   rcases (hap y hy).2 with h|h|h|h|h|h
   ·rw [h];decide
   ·cases h
   ·cases h
   ·exact h.2
   ·cases h.1
   ·cases h.1⟩
  obtain ⟨wb,hwb,_⟩:=WS.reach hdst hT hi C A _ e F N (fun y hy=>(hap y hy).1) hin h ⟨a,G,w,hp,hag,hsub,hsat⟩
  cases wb with
  | true=>
   refine .inr ⟨hwb,?_⟩
   obtain ⟨v,hv⟩:=WS.val0 hsel hdst hi C A e F N hap0 hin h ⟨a,G,w,hp,hag,hsub,hsat⟩ hwb a w hag (hsat.stat hsub)
   unfold OpRes
   rw [hv]
   exact ⟨G,hs,F,N,Sub.refl _,fun _ _ h=>h,hsat,WS.uniq0 hsel hdst hi C (hsat.stat hsub) A e F N a hap0 hin h hwb hag hv⟩
  | false=>
   refine .inl ⟨hwb,?_⟩
   exact WS.skip hsel hdst hi C A _ e F N (fun y hy=>(hap y hy).1) hin h hwb
 by_cases hk3:k=3
 ·subst hk3
  have hap0:(∀y ∈ A,apartOf ops y.1 i=true∧(y.2=0∨y.2=3)):=fun y hy=>⟨(hap y hy).1,by
   rcases (hap y hy).2 with h|h|h|h|h|h
   ·exact .inl h
   ·cases h
   ·cases h
   ·cases h.1
   ·exact .inr h.2
   ·cases h.1⟩
  obtain ⟨wb,hwb,_⟩:=WS.reach hdst hT hi C A _ e F N (fun y hy=>(hap y hy).1) hin h ⟨a,G,w,hp,hag,hsub,hsat⟩
  cases wb with
  | true=>
   refine .inr ⟨hwb,?_⟩
   obtain ⟨v,hv,h2⟩:=WS.val3 hsel hdst hi C hsub hsat A e a hap0 hin h hwb hag
   unfold OpRes
   rw [hv]
   exact ⟨G,hs,F,N,Sub.refl _,fun _ _ h=>h,hsat,h2⟩
  | false=>
   refine .inl ⟨hwb,?_⟩
   exact WS.skip hsel hdst hi C A _ e F N (fun y hy=>(hap y hy).1) hin h hwb
 have hap2:∀y ∈ A,apartOf ops y.1 i=true∧(y.2=0∨(k=5∧y.2=3)):=fun y hy=>⟨(hap y hy).1,by
  rcases (hap y hy).2 with h|h|h|h|h|h
  ·exact .inl h
  ·exact absurd h hk
  ·exact absurd h hk2
  ·exact absurd h.1 hk0
  ·exact absurd h.1 hk3
  ·exact .inr h⟩
 clear hap
 suffices hsuf:(wantF ops e oi=some false∧WS P T n ds ops hs End (A++C) (upd e oi.dst undef) F N)∨
   (wantF ops e oi=some true∧OpRes P (execOp a.eval oi) w fun v w'=>∃F' N',Sat G w hp F' N' w'∧WS P T n ds ops hs End (A++C) (upd e oi.dst v) F' N'∧(k=5→(∀hp,(∀f ∈ F',f.p hp)→∀f ∈ F,f.p hp)∧N'.Perm N)) by
  rcases hsuf with h|⟨h1,h2⟩
  ·exact .inl h
  ·exact .inr ⟨h1,h2.mono fun v w' ⟨F',N',h3,h4,_⟩=>⟨G,hs,F',N',Sub.refl _,fun _ _ h=>h,h3,h4⟩⟩
 ·induction A generalizing e a with
  | nil=>
   have h:=h oi hi
   cases hw:wantF ops e oi with
   | none=>simp only [hw] at h
   | some wb=>
    cases wb with
    | false=>simp only [hw] at h;exact .inl ⟨rfl,h⟩
    | true=>
     simp only [hw] at h
     refine .inr ⟨rfl,?_⟩
     match k,hk,hk2,hk0,hk3,h with
     | 0,_,_,h0,_,_=>exact absurd rfl h0
     | 1,h1,_,_,_,_=>exact absurd rfl h1
     | 2,_,h2,_,_,_=>exact absurd rfl h2
     | 3,_,_,_,h3,_=>exact absurd rfl h3
     | 4,_,_,_,_,h=>
      obtain ⟨post,hq,h2⟩:=h
      refine (hq a G w hp hag hsub hsat).mono fun v w' hv=>?_
      obtain ⟨x,rfl,hx,hsx⟩:=hv
      exact ⟨_,_,hsx,h2 x hx,fun h=>absurd h (by decide)⟩
     | 5,_,_,_,_,h=>
      obtain ⟨post,hq,h2,h5⟩:=h
      refine (hq a G w hp hag hsub hsat).mono fun v w' hv=>?_
      obtain ⟨x,rfl,hx,hsx⟩:=hv
      exact ⟨_,_,hsx,h2 x hx,fun _=>h5 x hx⟩
     | k+6,_,_,_,_,h=>exact h.elim
  | cons yk A ihA=>
   obtain ⟨y,ky⟩:=yk
   obtain ⟨oy,hy⟩:=hin (y,ky) List.mem_cons_self
   obtain ⟨hap0,hky⟩:=hap2 (y,ky) List.mem_cons_self
   obtain ⟨ap1,ap2,ap3⟩:=Zk hy hi hap0
   have hsi:∀cs b,oi.op≠.select cs b:=fun cs b=>Region.noSelect_spec hsel i oi cs b hi
   have hsy:∀cs b,oy.op≠.select cs b:=fun cs b=>Region.noSelect_spec hsel y oy cs b hy
   have hap':=fun z hz=>hap2 z (List.mem_cons_of_mem (y,ky) hz)
   have hin':=fun z hz=>hin z (List.mem_cons_of_mem (y,ky) hz)
   have hput:=fun v=>hag.put (hdst y oy hy) v
   have hcom:∀v u,upd (upd e oy.dst v) oi.dst u=upd (upd e oi.dst u) oy.dst v:=fun v u=>Xs e _ _ v u ap2
   have eei:∀v,execOp (a.put oy.dst v).eval oi=execOp a.eval oi:=fun v=>execOp_put oi hsi a oy.dst v ap1
   have h:=h oy hy
   have ih:=fun v (hh:WS P T n ds ops hs End (A++(i,k)::C) (upd e oy.dst v) F N)=>ihA (upd e oy.dst v) hin' hh (hput v) hap'
   simp only [Zd ap1,eei] at ih
   have und:∀(a:Act) (u:Value),Agree n ds (upd e oi.dst u) a→∃a',Agree n ds e a'∧execOp a'.eval oy=execOp a.eval oy:=fun a u hag=>by
    obtain ⟨z,hz⟩:=hag.undo (hdst i oi hi)
    exact ⟨_,hz,execOp_put oy hsy a oi.dst z ap3⟩
   cases hwy:wantF ops e oy with
   | none=>simp only [hwy] at h
   | some wb=>
    cases wb with
    | false=>
     simp only [hwy] at h
     have re:∀u F' N',WS P T n ds ops hs End (A++C) (upd (upd e oy.dst undef) oi.dst u) F' N'→WS P T n ds ops hs End ((y,ky)::A++C) (upd e oi.dst u) F' N':=fun u F' N' hh o' ho'=>by
      obtain rfl:o'=oy:=Option.some.inj (ho'.symm.trans hy)
      rw [Zd ap3]
      simp only [hwy]
      rw [←hcom];exact hh
     rcases ih _ h with ⟨h1,h2⟩|⟨h1,h2⟩
     ·exact .inl ⟨h1,re _ _ _ h2⟩
     ·exact .inr ⟨h1,h2.mono fun v w' ⟨F',N',h3,h4,h5⟩=>⟨F',N',h3,re _ _ _ h4,h5⟩⟩
    | true=>
     simp only [hwy] at h
     rcases hky with hky|⟨hk5,hky⟩<;>simp only at hky<;>subst hky
     ·obtain ⟨v0,hq,h2⟩:=h
      have re:∀u F' N',WS P T n ds ops hs End (A++C) (upd (upd e oy.dst v0) oi.dst u) F' N'→WS P T n ds ops hs End ((y,0)::A++C) (upd e oi.dst u) F' N':=fun u F' N' hh o' ho'=>by
       obtain rfl:o'=oy:=Option.some.inj (ho'.symm.trans hy)
       rw [Zd ap3]
       simp only [hwy]
       refine ⟨v0,fun a w hag hin=>?_,by rw [←hcom];exact hh⟩
       obtain ⟨a',h5,h6⟩:=und a _ hag
       rw [←h6];exact hq a' w h5 hin
      rcases ih _ h2 with ⟨h1,h2⟩|⟨h1,h2⟩
      ·exact .inl ⟨h1,re _ _ _ h2⟩
      ·exact .inr ⟨h1,h2.mono fun v w' ⟨F',N',h3,h4,h5⟩=>⟨F',N',h3,re _ _ _ h4,h5⟩⟩
     ·obtain ⟨v0,hq,h2⟩:=h
      have skp:WS P T n ds ops hs End (A++C) (upd (upd e oy.dst v0) oi.dst undef) F N→WS P T n ds ops hs End ((y,3)::A++C) (upd e oi.dst undef) F N:=fun hh o' ho'=>by
       obtain rfl:o'=oy:=Option.some.inj (ho'.symm.trans hy)
       rw [Zd ap3]
       simp only [hwy]
       refine ⟨v0,fun a G w hp hag hsub hsat=>?_,by rw [←hcom];exact hh⟩
       obtain ⟨a',h5,h6⟩:=und a _ hag
       rw [←h6];exact hq a' G w hp h5 hsub hsat
      have re:∀u F' N',((∀hp,(∀f ∈ F',f.p hp)→∀f ∈ F,f.p hp)∧N'.Perm N)→WS P T n ds ops hs End (A++C) (upd (upd e oy.dst v0) oi.dst u) F' N'→WS P T n ds ops hs End ((y,3)::A++C) (upd e oi.dst u) F' N':=fun u F' N' hk5 hh o' ho'=>by
       obtain rfl:o'=oy:=Option.some.inj (ho'.symm.trans hy)
       rw [Zd ap3]
       simp only [hwy]
       refine ⟨v0,fun a G w hp hag hsub hsat=>?_,by rw [←hcom];exact hh⟩
       obtain ⟨a',h5,h6⟩:=und a _ hag
       rw [←h6];exact hq a' G w hp h5 hsub ((hsat.facts hk5.1).perm hk5.2)
      rcases ih _ h2 with ⟨h1,h2⟩|⟨h1,h2⟩
      ·exact .inl ⟨h1,skp h2⟩
      ·exact .inr ⟨h1,h2.mono fun v w' ⟨F',N',h3,h4,h5⟩=>⟨F',N',h3,re _ _ _ (h5 hk5) h4,h5⟩⟩
end
def WSEnd (P:Program) (r:Option Nat) (n:Nat) (ds:List Deferred) (ops:Array Oper) (G:H) (w0:World) (hp0:H) (Q:Exit→Act→World→Prop) (Tl:List Nat) (e:Env) (F:List Pf) (N:List HP):Prop:=
 ∀a w,Agree n ds e a→Sat G w0 hp0 F N w→wpOpsIn (fz r) 0 P ops Q Tl a w
section
variable {r:Option Nat} {ds:List Deferred} {ops:Array Oper} {hs:H} {M:Array Nat} {G:H} {hp0:H}
theorem wpAny_of_WS {Q:Exit→Act→World→Prop} (hT:TabOK P T) (hdst:∀(i:Nat) (o:Oper),ops[i]? = some o→∀t,o.dst=some t→t<n) (fx:RFix ops M) (Tl:List Nat) (hTl:∀t ∈ Tl,t<ops.size) :
  ∀(m:Nat) (G:H) (hs:H) (_:Sub hs (un G hp0)) (L:List (Nat×Nat)) (e:Env) (F:List Pf) (N:List HP) (a:Act) (w:World) (listed:Array Bool),
  L.length=m→RInv ops M listed L Tl→(∀y ∈ L,y.1<ops.size)→Agree n ds e a→Sat G w0 hp0 F N w→
  WS P T n ds ops hs (WSEnd P r n ds ops G w0 hp0 Q Tl) L e F N→wpAnyIn (fz r) 0 P .any ops Q (L.length+Tl.length) listed a w:=by
 intro m
 induction m with
 | zero=>
  intro G hs hsub L e F N a w listed hn inv hL hag hsat h
  obtain rfl:=List.length_eq_zero_iff.1 hn
  rw [List.length_nil,Nat.zero_add]
  exact wpAny_tail fx Tl a w listed inv hTl (h a w hag hsat)
 | succ m ih=>
  intro G hs hsub L e F N a w listed hn inv hL hag hsat h
  match L,hn with
  | (x,kx)::L0,hn=>
   have hxr:=inv.headReady fx (x:=x) (R:=L0.map (·.1)++Tl) (by simp) (hL _ List.mem_cons_self)
   rw [List.length_cons,Nat.add_right_comm]
   refine ⟨fun h0=>(by rw [h0] at hxr;cases hxr),fun i hi=>?_⟩
   have him:=(inv.mem i).1 (mem_ready.1 hi).1
   rcases List.mem_append.1 him with hm|hm
   ·obtain ⟨⟨i',k⟩,hik,rfl⟩:=List.mem_map.1 hm
    obtain ⟨A,C,hAC⟩:=List.append_of_mem hik
    have hpl:=inv.pl
    rw [hAC] at hpl h
    have hcond:∀y ∈ A,apartOf ops y.1 i'=true∧(y.2=0∨k=1∨k=2∨(k=0∧y.2≠2)∨(k=3∧y.2=3)∨(k=5∧y.2=3)):=fun y hy=>by
     have h1:=(List.pairwise_append.1 hpl).2.2 y hy (i',k) List.mem_cons_self
     have h2:=inv.notB fx hi (y:=y.1) (List.mem_append_left _ (List.mem_map.2 ⟨y,by rw [hAC];exact List.mem_append_left _ hy,rfl⟩))
     simpa [okPair,h2,or_assoc] using h1
    have hin:∀y ∈ A,∃oy,ops[y.1]? = some oy:=fun y hy=>by
     have:=hL y (by rw [hAC];exact List.mem_append_left _ hy)
     exact ⟨ops[y.1],by simp [this]⟩
    obtain ⟨_,oi,hoi,_⟩:=mem_ready.1 hi
    have hsubl:(A++C).Sublist ((x,kx)::L0):=by rw [hAC];exact (List.Sublist.refl A).append (List.sublist_cons_self _ _)
    have hlen:(A++C).length=m:=by
     have:=congrArg List.length hAC
     simp at this hn ⊢;omega
    have hnd:=inv.topo
    have inv':RInv ops M (listed.setIfInBounds i' true) (A++C) Tl:=by
     refine inv.step fx hi hsubl (List.Sublist.refl _) fun j=>?_
     rw [hAC] at hnd ⊢
     simp only [List.map_append,List.map_cons,List.append_assoc,List.cons_append] at hnd ⊢
     obtain ⟨_,h2,h3⟩:=List.pairwise_append.1 hnd
     obtain ⟨h4,_⟩:=List.pairwise_cons.1 h2
     have e1:∀j ∈ A.map (·.1),j≠i':=fun j hj e=>by have:=h3 j hj i' List.mem_cons_self;simp [e] at this
     have e2:∀j ∈ C.map (·.1)++Tl,j≠i':=fun j hj e=>by have:=h4 j hj;simp [e] at this
     simp only [List.mem_append,List.mem_cons]
     constructor
     ·rintro (hj|hj|hj)
      ·exact ⟨.inl hj,e1 j hj⟩
      ·exact ⟨.inr (.inr (.inl hj)),e2 j (List.mem_append_left _ hj)⟩
      ·exact ⟨.inr (.inr (.inr hj)),e2 j (List.mem_append_right _ hj)⟩
     ·rintro ⟨hj|hj|hj|hj,hne⟩
      ·exact .inl hj
      ·exact absurd hj hne
      ·exact .inr (.inl hj)
      ·exact .inr (.inr hj)
    have hL':∀y ∈ A++C,y.1<ops.size:=fun y hy=>hL y (hsubl.subset hy)
    have hEnd:∀(e:Env) (F:List Pf) (N N':List HP),List.Perm N N'→WSEnd P r n ds ops G w0 hp0 Q Tl e F N→WSEnd P r n ds ops G w0 hp0 Q Tl e F N':=
     fun e F N N' p h a w hag hs=>h a w hag (hs.perm p.symm)
    obtain ⟨hpc,s1,m1,hs1⟩:=hsat.rebase
    have h1:=WS.first (P:=P) fx.sel hdst hT hEnd hoi C A e F N hcond hin h hag (YC hsub s1) hs1
    have hl0:L0.length=(A++C).length:=by simp at hn;omega
    rw [hl0]
    rcases h1 with ⟨hw,h2⟩|⟨hw,h2⟩
    ·have h3:=ih G hs hsub (A++C) _ F N _ w _ hlen inv' hL' (hag.put (hdst i' oi hoi) undef) hsat h2
     unfold wpOpIn
     simp only [hoi]
     rw [if_neg (by rw [Vj hag hw];simp)]
     exact ⟨fun _ _=>trivial,h3⟩
    ·refine wpOp_of_res hoi (fun c=>noDefer_spec fx.def_ hoi c) (Vj hag hw) h2 fun v w' hv=>?_
     obtain ⟨G',hs',F',N',sG,s2,h3,h4⟩:=hv
     exact ih G' hs' (s2 hp0 s1 hsub) (A++C) _ F' N' _ w' _ hlen inv' hL' (hag.put (hdst i' oi hoi) v) (h3.back s1 m1) (WS.mono (fun e F N hh a w hag hsat=>hh a w hag (hsat.subG sG)) _ _ _ _ _ _ (Sub.refl _) h4)
   ·have h1:=inv.plt (x,kx) List.mem_cons_self i hm
    rw [inv.notB fx hi (y:=x) (by simp)] at h1
    cases h1
def dstsOK (n:Nat) (ops:Array Oper):Bool:=ops.all fun o=>match o.dst with|some t=>decide (t<n)|none=>true
theorem dstsOK_spec {n:Nat} {ops:Array Oper} (h:dstsOK n ops=true) (i:Nat) (o:Oper) (ho:ops[i]? = some o) (t:Nat) (ht:o.dst=some t):t<n:=by
 have:=Array.all_eq_true_iff_forall_mem.1 h o (Array.mem_of_getElem? ho)
 simpa [ht] using this
theorem wp_region_S {id:Nat} {Q:Exit→Act→World→Prop} {a:Act} {e:Env} {F:List Pf} {N:List HP} {w:World} (L:List (Nat×Nat)) (Tl:List Nat) (hT:TabOK P T) (hm:P.follows .mixedOrders=true) (hok:(okW ops (Region.before ops) L Tl && dstsOK n ops)=true)
  (hsub:Sub hs (un G hp0)) (hag:Agree n ds e a) (hsat:Sat G w0 hp0 F N w) (h:WS P T n ds ops hs (WSEnd P r n ds ops G w0 hp0 Q Tl) L e F N):(Code.region id ops true).wpIn (fz r) 0 P Q a w:=by
 rw [Bool.and_eq_true] at hok
 obtain ⟨hok,hds⟩:=hok
 simp only [okW,Bool.and_eq_true,decide_eq_true_eq,List.all_eq_true] at hok
 obtain ⟨⟨⟨⟨⟨⟨⟨⟨⟨⟨h0,h1⟩,h2⟩,h3⟩,h4⟩,h5⟩,h6⟩,h7⟩,h8⟩,h9⟩,h10⟩:=hok
 have h3':∀m ∈ Region.before ops,m<2 ^ ops.size:=fun m hm=>by simpa using Array.all_eq_true_iff_forall_mem.1 h3 m hm
 have fx:=rfix_of h0 h4 h1 h2 h3'
 have hmem:∀i,i ∈ L.map (·.1)++Tl↔i<ops.size:=fun i=>⟨fun hi=>h5 i hi,fun hi=>by simpa using h6 i (List.mem_range.2 hi)⟩
 have inv:RInv ops (Region.before ops) (Array.replicate ops.size false) L Tl:=by
  refine ⟨by simp,fun i=>?_,fun y _ x hB=>?_,YS h7,YS h8,fun y hy t ht=>h9 y hy t ht,YS h10⟩
  ·rw [hmem]
   rcases Nat.lt_or_ge i ops.size with hi|hi
   ·simp [hi]
   ·simp [hi]
  ·rw [hmem]
   obtain ⟨o,ho,_⟩:=fx.cl x y hB
   exact (Array.getElem?_eq_some_iff.1 ho).1
 have hlen:L.length+Tl.length=ops.size:=by
  have hnd:(L.map (·.1)++Tl).Nodup:=(YS h7).imp fun h=>by simp at h;exact h.1
  have hp:(L.map (·.1)++Tl).Perm (List.range ops.size):=(List.perm_ext_iff_of_nodup hnd List.nodup_range).2 fun i=>by rw [hmem,List.mem_range]
  simpa using hp.length_eq
 refine wpIn_region_any hm ?_
 have hd:Ext w {w with drawn:=w.drawn+1}:=(Below.refl _ w).drew
 have h:=wpAny_of_WS (P:=P) (r:=r) hT (dstsOK_spec hds) fx Tl (fun t ht=>h5 t (List.mem_append_right _ ht)) L.length G hs hsub L e F N a _ _ rfl inv (fun y hy=>h5 _ (List.mem_append_left _ (List.mem_map_of_mem hy))) hag (hsat.ext hd) h
 rw [hlen] at h
 exact h
end
def tab:Tab:=[
 (1,⟨.one,1,8,[.nilFunc]⟩),
 (2,⟨.int .i64,1,8,[.int .i64 0]⟩),
 (3,⟨.int .i64,1,8,[.int .i64 0]⟩),
 (4,⟨.bool,1,1,[.bool false]⟩),
 (5,⟨.int .u8,1,1,[.int .u8 0]⟩),
 (6,⟨.int .u8,1,1,[.int .u8 0]⟩),
 (7,⟨.struct [(0,2,1),(1,3,1),(2,4,1),(3,6,1)],4,24,[.int .i64 0,.int .i64 0,.bool false,.int .u8 0]⟩),
 (8,⟨.struct [(0,2,1),(1,3,1),(2,4,1),(3,6,1)],4,24,[.int .i64 0,.int .i64 0,.bool false,.int .u8 0]⟩),
 (9,⟨.str,1,16,[.string ⟨#[]⟩]⟩),
 (10,⟨.str,1,16,[.string ⟨#[]⟩]⟩),
 (11,⟨.str,1,16,[.string ⟨#[]⟩]⟩),
 (12,⟨.int .u64,1,8,[.int .u64 0]⟩),
 (13,⟨.struct [(0,9,1),(1,12,1)],2,24,[.string ⟨#[]⟩,.int .u64 0]⟩),
 (14,⟨.struct [(0,9,1),(1,12,1)],2,24,[.string ⟨#[]⟩,.int .u64 0]⟩),
 (15,⟨.ptr 344,1,8,[.pointer none]⟩),
 (16,⟨.ptr 347,1,8,[.pointer none]⟩),
 (17,⟨.ptr 354,1,8,[.pointer none]⟩),
 (18,⟨.struct [(0,17,1)],1,8,[.pointer none]⟩),
 (19,⟨.struct [(0,17,1)],1,8,[.pointer none]⟩),
 (20,⟨.one,1,16,[.nilIface]⟩),
 (21,⟨.int .i32,1,4,[.int .i32 0]⟩),
 (22,⟨.slice 114,1,24,[.slice none 0 0]⟩),
 (23,⟨.slice 66,1,24,[.slice none 0 0]⟩),
 (24,⟨.one,1,8,[.nilFunc]⟩),
 (25,⟨.ptr 34,1,8,[.pointer none]⟩),
 (27,⟨.one,1,8,[.nilFunc]⟩),
 (28,⟨.slice 44,1,24,[.slice none 0 0]⟩),
 (29,⟨.ptr 83,1,8,[.pointer none]⟩),
 (30,⟨.ptr 106,1,8,[.pointer none]⟩),
 (31,⟨.ptr 94,1,8,[.pointer none]⟩),
 (32,⟨.ptr 126,1,8,[.pointer none]⟩),
 (33,⟨.struct [(0,29,1),(1,30,1),(2,31,1),(3,32,1)],4,32,[.pointer none,.pointer none,.pointer none,.pointer none]⟩),
 (34,⟨.struct [(0,29,1),(1,30,1),(2,31,1),(3,32,1)],4,32,[.pointer none,.pointer none,.pointer none,.pointer none]⟩),
 (35,⟨.one,1,8,[.nilFunc]⟩),
 (36,⟨.str,1,16,[.string ⟨#[]⟩]⟩),
 (37,⟨.struct [(0,3,1),(1,9,1),(2,9,1),(3,3,1)],4,48,[.int .i64 0,.string ⟨#[]⟩,.string ⟨#[]⟩,.int .i64 0]⟩),
 (38,⟨.struct [(0,3,1),(1,9,1),(2,9,1),(3,3,1)],4,48,[.int .i64 0,.string ⟨#[]⟩,.string ⟨#[]⟩,.int .i64 0]⟩),
 (39,⟨.struct [(0,3,1),(1,36,1),(2,3,1),(3,3,1),(4,38,4),(8,3,1),(9,38,4),(13,3,1)],14,152,[.int .i64 0,.string ⟨#[]⟩,.int .i64 0,.int .i64 0,.int .i64 0,.string ⟨#[]⟩,.string ⟨#[]⟩,.int .i64 0,.int .i64 0,.int .i64 0,.string ⟨#[]⟩,.string ⟨#[]⟩,.int .i64 0,.int .i64 0]⟩),
 (40,⟨.struct [(0,3,1),(1,36,1),(2,3,1),(3,3,1),(4,38,4),(8,3,1),(9,38,4),(13,3,1)],14,152,[.int .i64 0,.string ⟨#[]⟩,.int .i64 0,.int .i64 0,.int .i64 0,.string ⟨#[]⟩,.string ⟨#[]⟩,.int .i64 0,.int .i64 0,.int .i64 0,.string ⟨#[]⟩,.string ⟨#[]⟩,.int .i64 0,.int .i64 0]⟩),
 (41,⟨.struct [(0,3,1),(1,9,1)],2,24,[.int .i64 0,.string ⟨#[]⟩]⟩),
 (42,⟨.struct [(0,3,1),(1,9,1)],2,24,[.int .i64 0,.string ⟨#[]⟩]⟩),
 (43,⟨.struct [(0,3,1),(1,3,1),(2,40,14),(16,42,2),(18,3,1)],19,200,[.int .i64 0,.int .i64 0,.int .i64 0,.string ⟨#[]⟩,.int .i64 0,.int .i64 0,.int .i64 0,.string ⟨#[]⟩,.string ⟨#[]⟩,.int .i64 0,.int .i64 0,.int .i64 0,.string ⟨#[]⟩,.string ⟨#[]⟩,.int .i64 0,.int .i64 0,.int .i64 0,.string ⟨#[]⟩,.int .i64 0]⟩),
 (44,⟨.struct [(0,3,1),(1,3,1),(2,40,14),(16,42,2),(18,3,1)],19,200,[.int .i64 0,.int .i64 0,.int .i64 0,.string ⟨#[]⟩,.int .i64 0,.int .i64 0,.int .i64 0,.string ⟨#[]⟩,.string ⟨#[]⟩,.int .i64 0,.int .i64 0,.int .i64 0,.string ⟨#[]⟩,.string ⟨#[]⟩,.int .i64 0,.int .i64 0,.int .i64 0,.string ⟨#[]⟩,.int .i64 0]⟩),
 (46,⟨.one,1,8,[.nilFunc]⟩),
 (47,⟨.one,1,8,[.nilFunc]⟩),
 (48,⟨.one,1,8,[.nilFunc]⟩),
 (49,⟨.struct [(0,36,1),(1,3,1),(2,3,1),(3,38,4)],7,80,[.string ⟨#[]⟩,.int .i64 0,.int .i64 0,.int .i64 0,.string ⟨#[]⟩,.string ⟨#[]⟩,.int .i64 0]⟩),
 (50,⟨.struct [(0,36,1),(1,3,1),(2,3,1),(3,38,4)],7,80,[.string ⟨#[]⟩,.int .i64 0,.int .i64 0,.int .i64 0,.string ⟨#[]⟩,.string ⟨#[]⟩,.int .i64 0]⟩),
 (51,⟨.struct [(0,50,7),(7,3,1),(8,3,1)],9,96,[.string ⟨#[]⟩,.int .i64 0,.int .i64 0,.int .i64 0,.string ⟨#[]⟩,.string ⟨#[]⟩,.int .i64 0,.int .i64 0,.int .i64 0]⟩),
 (52,⟨.struct [(0,50,7),(7,3,1),(8,3,1)],9,96,[.string ⟨#[]⟩,.int .i64 0,.int .i64 0,.int .i64 0,.string ⟨#[]⟩,.string ⟨#[]⟩,.int .i64 0,.int .i64 0,.int .i64 0]⟩),
 (53,⟨.int .i64,1,8,[.int .i64 0]⟩),
 (55,⟨.one,1,8,[.nilFunc]⟩),
 (56,⟨.one,1,8,[.nilFunc]⟩),
 (57,⟨.slice 50,1,24,[.slice none 0 0]⟩),
 (59,⟨.one,1,8,[.nilFunc]⟩),
 (61,⟨.one,1,8,[.nilFunc]⟩),
 (62,⟨.one,1,8,[.nilFunc]⟩),
 (63,⟨.one,1,8,[.nilFunc]⟩),
 (64,⟨.slice 5,1,24,[.slice none 0 0]⟩),
 (65,⟨.struct [(0,5,1),(1,22,1),(2,64,1),(3,3,1),(4,3,1),(5,42,2)],7,96,[.int .u8 0,.slice none 0 0,.slice none 0 0,.int .i64 0,.int .i64 0,.int .i64 0,.string ⟨#[]⟩]⟩),
 (66,⟨.struct [(0,5,1),(1,22,1),(2,64,1),(3,3,1),(4,3,1),(5,42,2)],7,96,[.int .u8 0,.slice none 0 0,.slice none 0 0,.int .i64 0,.int .i64 0,.int .i64 0,.string ⟨#[]⟩]⟩),
 (67,⟨.one,1,8,[.nilFunc]⟩),
 (68,⟨.one,1,8,[.nilFunc]⟩),
 (69,⟨.one,1,8,[.nilFunc]⟩),
 (70,⟨.one,1,8,[.nilFunc]⟩),
 (71,⟨.one,1,8,[.nilFunc]⟩),
 (72,⟨.one,1,8,[.nilFunc]⟩),
 (73,⟨.slice 40,1,24,[.slice none 0 0]⟩),
 (75,⟨.one,1,8,[.nilFunc]⟩),
 (77,⟨.one,1,8,[.nilFunc]⟩),
 (78,⟨.one,1,8,[.nilFunc]⟩),
 (80,⟨.one,1,8,[.nilFunc]⟩),
 (81,⟨.one,1,8,[.nilFunc]⟩),
 (82,⟨.struct [(0,3,1),(1,3,1),(2,28,1),(3,73,1)],4,64,[.int .i64 0,.int .i64 0,.slice none 0 0,.slice none 0 0]⟩),
 (83,⟨.struct [(0,3,1),(1,3,1),(2,28,1),(3,73,1)],4,64,[.int .i64 0,.int .i64 0,.slice none 0 0,.slice none 0 0]⟩),
 (84,⟨.one,1,8,[.nilFunc]⟩),
 (85,⟨.one,1,8,[.nilFunc]⟩),
 (86,⟨.struct [(0,3,1),(1,50,7)],8,88,[.int .i64 0,.string ⟨#[]⟩,.int .i64 0,.int .i64 0,.int .i64 0,.string ⟨#[]⟩,.string ⟨#[]⟩,.int .i64 0]⟩),
 (87,⟨.struct [(0,3,1),(1,50,7)],8,88,[.int .i64 0,.string ⟨#[]⟩,.int .i64 0,.int .i64 0,.int .i64 0,.string ⟨#[]⟩,.string ⟨#[]⟩,.int .i64 0]⟩),
 (88,⟨.one,1,8,[.nilFunc]⟩),
 (89,⟨.one,1,8,[.nilFunc]⟩),
 (90,⟨.one,1,8,[.nilFunc]⟩),
 (91,⟨.slice 52,1,24,[.slice none 0 0]⟩),
 (92,⟨.one,1,8,[.nilFunc]⟩),
 (93,⟨.struct [(0,91,1)],1,24,[.slice none 0 0]⟩),
 (94,⟨.struct [(0,91,1)],1,24,[.slice none 0 0]⟩),
 (95,⟨.map 50 4,1,8,[.map none]⟩),
 (96,⟨.one,1,8,[.nilFunc]⟩),
 (97,⟨.one,1,8,[.nilFunc]⟩),
 (98,⟨.one,1,8,[.nilFunc]⟩),
 (99,⟨.one,1,8,[.nilFunc]⟩),
 (100,⟨.one,1,8,[.nilFunc]⟩),
 (101,⟨.one,1,8,[.nilFunc]⟩),
 (103,⟨.one,1,8,[.nilFunc]⟩),
 (104,⟨.one,1,8,[.nilFunc]⟩),
 (105,⟨.struct [(0,3,1),(1,3,1),(2,28,1),(3,73,1)],4,64,[.int .i64 0,.int .i64 0,.slice none 0 0,.slice none 0 0]⟩),
 (106,⟨.struct [(0,3,1),(1,3,1),(2,28,1),(3,73,1)],4,64,[.int .i64 0,.int .i64 0,.slice none 0 0,.slice none 0 0]⟩),
 (107,⟨.one,1,8,[.nilFunc]⟩),
 (108,⟨.one,1,8,[.nilFunc]⟩),
 (109,⟨.ptr 173,1,8,[.pointer none]⟩),
 (110,⟨.one,1,8,[.nilFunc]⟩),
 (111,⟨.one,1,8,[.nilFunc]⟩),
 (112,⟨.one,1,8,[.nilFunc]⟩),
 (113,⟨.struct [(0,5,1),(1,5,1),(2,5,1),(3,5,1),(4,5,1),(5,5,1)],6,6,[.int .u8 0,.int .u8 0,.int .u8 0,.int .u8 0,.int .u8 0,.int .u8 0]⟩),
 (114,⟨.struct [(0,5,1),(1,5,1),(2,5,1),(3,5,1),(4,5,1),(5,5,1)],6,6,[.int .u8 0,.int .u8 0,.int .u8 0,.int .u8 0,.int .u8 0,.int .u8 0]⟩),
 (116,⟨.one,1,8,[.nilFunc]⟩),
 (118,⟨.one,1,8,[.nilFunc]⟩),
 (119,⟨.struct [(0,3,1),(1,36,1),(2,3,1),(3,3,1),(4,9,1)],5,56,[.int .i64 0,.string ⟨#[]⟩,.int .i64 0,.int .i64 0,.string ⟨#[]⟩]⟩),
 (120,⟨.struct [(0,3,1),(1,36,1),(2,3,1),(3,3,1),(4,9,1)],5,56,[.int .i64 0,.string ⟨#[]⟩,.int .i64 0,.int .i64 0,.string ⟨#[]⟩]⟩),
 (121,⟨.one,1,8,[.nilFunc]⟩),
 (122,⟨.one,1,8,[.nilFunc]⟩),
 (123,⟨.one,1,8,[.nilFunc]⟩),
 (124,⟨.ptr 166,1,8,[.pointer none]⟩),
 (125,⟨.struct [(0,124,1)],1,8,[.pointer none]⟩),
 (126,⟨.struct [(0,124,1)],1,8,[.pointer none]⟩),
 (127,⟨.map 129 50,1,8,[.map none]⟩),
 (128,⟨.struct [(0,36,1),(1,3,1)],2,24,[.string ⟨#[]⟩,.int .i64 0]⟩),
 (129,⟨.struct [(0,36,1),(1,3,1)],2,24,[.string ⟨#[]⟩,.int .i64 0]⟩),
 (131,⟨.map 87 4,1,8,[.map none]⟩),
 (132,⟨.one,1,8,[.nilFunc]⟩),
 (134,⟨.one,1,8,[.nilFunc]⟩),
 (135,⟨.one,1,8,[.nilFunc]⟩),
 (136,⟨.one,1,8,[.nilFunc]⟩),
 (137,⟨.one,1,8,[.nilFunc]⟩),
 (138,⟨.one,1,8,[.nilFunc]⟩),
 (139,⟨.one,1,8,[.nilFunc]⟩),
 (140,⟨.slice 120,1,24,[.slice none 0 0]⟩),
 (141,⟨.one,1,8,[.nilFunc]⟩),
 (143,⟨.one,1,8,[.nilFunc]⟩),
 (145,⟨.one,1,8,[.nilFunc]⟩),
 (146,⟨.one,1,8,[.nilFunc]⟩),
 (147,⟨.one,1,8,[.nilFunc]⟩),
 (148,⟨.one,1,8,[.nilFunc]⟩),
 (149,⟨.one,1,8,[.nilFunc]⟩),
 (150,⟨.struct [(0,36,1),(1,3,1),(2,3,1)],3,32,[.string ⟨#[]⟩,.int .i64 0,.int .i64 0]⟩),
 (151,⟨.struct [(0,36,1),(1,3,1),(2,3,1)],3,32,[.string ⟨#[]⟩,.int .i64 0,.int .i64 0]⟩),
 (152,⟨.one,1,8,[.nilFunc]⟩),
 (153,⟨.slice 9,1,24,[.slice none 0 0]⟩),
 (155,⟨.one,1,8,[.nilFunc]⟩),
 (156,⟨.one,1,8,[.nilFunc]⟩),
 (157,⟨.slice 36,1,24,[.slice none 0 0]⟩),
 (158,⟨.ptr 191,1,8,[.pointer none]⟩),
 (159,⟨.one,1,8,[.nilFunc]⟩),
 (160,⟨.one,1,8,[.nilFunc]⟩),
 (162,⟨.one,1,8,[.nilFunc]⟩),
 (163,⟨.one,1,8,[.nilFunc]⟩),
 (164,⟨.one,1,8,[.nilFunc]⟩),
 (165,⟨.struct [(0,124,1),(1,124,1),(2,120,5),(7,9,1),(8,3,1),(9,3,1),(10,3,1)],11,112,[.pointer none,.pointer none,.int .i64 0,.string ⟨#[]⟩,.int .i64 0,.int .i64 0,.string ⟨#[]⟩,.string ⟨#[]⟩,.int .i64 0,.int .i64 0,.int .i64 0]⟩),
 (166,⟨.struct [(0,124,1),(1,124,1),(2,120,5),(7,9,1),(8,3,1),(9,3,1),(10,3,1)],11,112,[.pointer none,.pointer none,.int .i64 0,.string ⟨#[]⟩,.int .i64 0,.int .i64 0,.string ⟨#[]⟩,.string ⟨#[]⟩,.int .i64 0,.int .i64 0,.int .i64 0]⟩),
 (167,⟨.one,1,16,[.nilIface]⟩),
 (168,⟨.one,1,16,[.nilIface]⟩),
 (169,⟨.struct [(0,168,1),(1,42,2)],3,40,[.nilIface,.int .i64 0,.string ⟨#[]⟩]⟩),
 (170,⟨.struct [(0,168,1),(1,42,2)],3,40,[.nilIface,.int .i64 0,.string ⟨#[]⟩]⟩),
 (171,⟨.slice 170,1,24,[.slice none 0 0]⟩),
 (172,⟨.struct [(0,171,1)],1,24,[.slice none 0 0]⟩),
 (173,⟨.struct [(0,171,1)],1,24,[.slice none 0 0]⟩),
 (174,⟨.one,1,8,[.nilFunc]⟩),
 (175,⟨.one,1,8,[.nilFunc]⟩),
 (177,⟨.one,1,8,[.nilFunc]⟩),
 (178,⟨.one,1,8,[.nilFunc]⟩),
 (179,⟨.one,1,8,[.nilFunc]⟩),
 (180,⟨.ptr 218,1,8,[.pointer none]⟩),
 (181,⟨.one,1,8,[.nilFunc]⟩),
 (182,⟨.one,1,8,[.nilFunc]⟩),
 (183,⟨.one,1,8,[.nilFunc]⟩),
 (184,⟨.one,1,8,[.nilFunc]⟩),
 (185,⟨.one,1,8,[.nilFunc]⟩),
 (186,⟨.one,1,8,[.nilFunc]⟩),
 (187,⟨.one,1,8,[.nilFunc]⟩),
 (188,⟨.one,1,8,[.nilFunc]⟩),
 (189,⟨.one,1,8,[.nilFunc]⟩),
 (190,⟨.struct [(0,64,1),(1,53,1)],2,32,[.slice none 0 0,.int .i64 0]⟩),
 (191,⟨.struct [(0,64,1),(1,53,1)],2,32,[.slice none 0 0,.int .i64 0]⟩),
 (192,⟨.one,1,8,[.nilFunc]⟩),
 (193,⟨.one,1,8,[.nilFunc]⟩),
 (194,⟨.one,1,8,[.nilFunc]⟩),
 (195,⟨.struct [(0,9,1),(1,4,1),(2,4,1),(3,4,1),(4,4,1),(5,3,1)],6,32,[.string ⟨#[]⟩,.bool false,.bool false,.bool false,.bool false,.int .i64 0]⟩),
 (196,⟨.struct [(0,9,1),(1,4,1),(2,4,1),(3,4,1),(4,4,1),(5,3,1)],6,32,[.string ⟨#[]⟩,.bool false,.bool false,.bool false,.bool false,.int .i64 0]⟩),
 (197,⟨.arr 21 196,126,672,[.string ⟨#[]⟩,.bool false,.bool false,.bool false,.bool false,.int .i64 0,.string ⟨#[]⟩,.bool false,.bool false,.bool false,.bool false,.int .i64 0,.string ⟨#[]⟩,.bool false,.bool false,.bool false,.bool false,.int .i64 0,.string ⟨#[]⟩,.bool false,.bool false,.bool false,.bool false,.int .i64 0,.string ⟨#[]⟩,.bool false,.bool false,.bool false,.bool false,.int .i64 0,.string ⟨#[]⟩,.bool false,.bool false,.bool false,.bool false,.int .i64 0,.string ⟨#[]⟩,.bool false,.bool false,.bool false,.bool false,.int .i64 0,.string ⟨#[]⟩,.bool false,.bool false,.bool false,.bool false,.int .i64 0,.string ⟨#[]⟩,.bool false,.bool false,.bool false,.bool false,.int .i64 0,.string ⟨#[]⟩,.bool false,.bool false,.bool false,.bool false,.int .i64 0,.string ⟨#[]⟩,.bool false,.bool false,.bool false,.bool false,.int .i64 0,.string ⟨#[]⟩,.bool false,.bool false,.bool false,.bool false,.int .i64 0,.string ⟨#[]⟩,.bool false,.bool false,.bool false,.bool false,.int .i64 0,.string ⟨#[]⟩,.bool false,.bool false,.bool false,.bool false,.int .i64 0,.string ⟨#[]⟩,.bool false,.bool false,.bool false,.bool false,.int .i64 0,.string ⟨#[]⟩,.bool false,.bool false,.bool false,.bool false,.int .i64 0,.string ⟨#[]⟩,.bool false,.bool false,.bool false,.bool false,.int .i64 0,.string ⟨#[]⟩,.bool false,.bool false,.bool false,.bool false,.int .i64 0,.string ⟨#[]⟩,.bool false,.bool false,.bool false,.bool false,.int .i64 0,.string ⟨#[]⟩,.bool false,.bool false,.bool false,.bool false,.int .i64 0,.string ⟨#[]⟩,.bool false,.bool false,.bool false,.bool false,.int .i64 0]⟩),
 (198,⟨.one,1,8,[.nilFunc]⟩),
 (199,⟨.one,1,8,[.nilFunc]⟩),
 (200,⟨.one,1,8,[.nilFunc]⟩),
 (201,⟨.one,1,8,[.nilFunc]⟩),
 (202,⟨.one,1,8,[.nilFunc]⟩),
 (203,⟨.ptr 205,1,8,[.pointer none]⟩),
 (204,⟨.struct [(0,203,1),(1,64,1)],2,32,[.pointer none,.slice none 0 0]⟩),
 (205,⟨.struct [(0,203,1),(1,64,1)],2,32,[.pointer none,.slice none 0 0]⟩),
 (206,⟨.one,1,16,[.nilIface]⟩),
 (207,⟨.one,1,16,[.nilIface]⟩),
 (209,⟨.one,1,8,[.nilFunc]⟩),
 (210,⟨.one,1,8,[.nilFunc]⟩),
 (211,⟨.one,1,8,[.nilFunc]⟩),
 (212,⟨.one,1,8,[.nilFunc]⟩),
 (213,⟨.struct [(0,3,1),(1,3,1),(2,53,1)],3,24,[.int .i64 0,.int .i64 0,.int .i64 0]⟩),
 (214,⟨.struct [(0,3,1),(1,3,1),(2,53,1)],3,24,[.int .i64 0,.int .i64 0,.int .i64 0]⟩),
 (215,⟨.one,1,8,[.nilFunc]⟩),
 (216,⟨.one,1,8,[.nilFunc]⟩),
 (217,⟨.struct [(0,64,1),(1,3,1),(2,53,1)],3,40,[.slice none 0 0,.int .i64 0,.int .i64 0]⟩),
 (218,⟨.struct [(0,64,1),(1,3,1),(2,53,1)],3,40,[.slice none 0 0,.int .i64 0,.int .i64 0]⟩),
 (219,⟨.one,1,8,[.nilFunc]⟩),
 (220,⟨.one,1,8,[.nilFunc]⟩),
 (221,⟨.int .u64,1,8,[.int .u64 0]⟩),
 (222,⟨.one,1,8,[.nilFunc]⟩),
 (223,⟨.slice 227,1,24,[.slice none 0 0]⟩),
 (225,⟨.one,1,8,[.nilFunc]⟩),
 (226,⟨.struct [(0,3,1),(1,9,1),(2,3,1)],3,32,[.int .i64 0,.string ⟨#[]⟩,.int .i64 0]⟩),
 (227,⟨.struct [(0,3,1),(1,9,1),(2,3,1)],3,32,[.int .i64 0,.string ⟨#[]⟩,.int .i64 0]⟩),
 (228,⟨.ptr 232,1,8,[.pointer none]⟩),
 (229,⟨.map 9 259,1,8,[.map none]⟩),
 (230,⟨.one,1,8,[.nilFunc]⟩),
 (231,⟨.struct [(0,223,1),(1,3,1),(2,3,1),(3,229,1),(4,3,1),(5,53,1)],6,64,[.slice none 0 0,.int .i64 0,.int .i64 0,.map none,.int .i64 0,.int .i64 0]⟩),
 (232,⟨.struct [(0,223,1),(1,3,1),(2,3,1),(3,229,1),(4,3,1),(5,53,1)],6,64,[.slice none 0 0,.int .i64 0,.int .i64 0,.map none,.int .i64 0,.int .i64 0]⟩),
 (233,⟨.one,1,8,[.nilFunc]⟩),
 (234,⟨.one,1,8,[.nilFunc]⟩),
 (235,⟨.int .u64,1,8,[.int .u64 0]⟩),
 (236,⟨.one,1,8,[.nilFunc]⟩),
 (237,⟨.one,1,8,[.nilFunc]⟩),
 (238,⟨.one,1,8,[.nilFunc]⟩),
 (240,⟨.one,1,8,[.nilFunc]⟩),
 (242,⟨.one,1,8,[.nilFunc]⟩),
 (243,⟨.ptr 5,1,8,[.pointer none]⟩),
 (244,⟨.one,1,8,[.nilFunc]⟩),
 (246,⟨.one,1,8,[.nilFunc]⟩),
 (247,⟨.one,1,8,[.nilFunc]⟩),
 (249,⟨.one,1,8,[.nilFunc]⟩),
 (250,⟨.one,1,8,[.nilFunc]⟩),
 (251,⟨.one,1,8,[.nilFunc]⟩),
 (253,⟨.one,1,8,[.nilFunc]⟩),
 (254,⟨.one,1,8,[.nilFunc]⟩),
 (255,⟨.one,1,8,[.nilFunc]⟩),
 (257,⟨.one,1,8,[.nilFunc]⟩),
 (258,⟨.one,1,8,[.nilFunc]⟩),
 (259,⟨.one,1,8,[.nilFunc]⟩),
 (260,⟨.one,1,8,[.nilFunc]⟩),
 (261,⟨.one,1,8,[.nilFunc]⟩),
 (262,⟨.one,1,8,[.nilFunc]⟩),
 (263,⟨.one,1,8,[.nilFunc]⟩),
 (264,⟨.one,1,8,[.nilFunc]⟩),
 (265,⟨.one,1,8,[.nilFunc]⟩),
 (266,⟨.one,1,8,[.nilFunc]⟩),
 (267,⟨.slice 3,1,24,[.slice none 0 0]⟩),
 (268,⟨.one,1,8,[.nilFunc]⟩),
 (269,⟨.one,1,8,[.nilFunc]⟩),
 (273,⟨.one,1,8,[.nilFunc]⟩),
 (275,⟨.one,1,8,[.nilFunc]⟩),
 (277,⟨.one,1,8,[.nilFunc]⟩),
 (279,⟨.one,1,8,[.nilFunc]⟩),
 (280,⟨.map 9 3,1,8,[.map none]⟩),
 (281,⟨.struct [(0,9,1),(1,85,1)],2,24,[.string ⟨#[]⟩,.nilFunc]⟩),
 (282,⟨.struct [(0,9,1),(1,85,1)],2,24,[.string ⟨#[]⟩,.nilFunc]⟩),
 (283,⟨.one,1,8,[.nilFunc]⟩),
 (284,⟨.one,1,8,[.nilFunc]⟩),
 (285,⟨.map 9 284,1,8,[.map none]⟩),
 (286,⟨.one,1,8,[.nilFunc]⟩),
 (287,⟨.map 9 286,1,8,[.map none]⟩),
 (289,⟨.one,1,8,[.nilFunc]⟩),
 (290,⟨.one,1,8,[.nilFunc]⟩),
 (291,⟨.map 9 290,1,8,[.map none]⟩),
 (292,⟨.map 9 156,1,8,[.map none]⟩),
 (294,⟨.one,1,8,[.nilFunc]⟩),
 (295,⟨.slice 168,1,24,[.slice none 0 0]⟩),
 (296,⟨.one,1,8,[.nilFunc]⟩),
 (297,⟨.one,1,8,[.nilFunc]⟩),
 (298,⟨.ptr 271,1,8,[.pointer none]⟩),
 (299,⟨.one,1,8,[.nilFunc]⟩),
 (301,⟨.struct [(0,5,1),(1,5,1)],2,2,[.int .u8 0,.int .u8 0]⟩),
 (302,⟨.struct [(0,5,1),(1,5,1)],2,2,[.int .u8 0,.int .u8 0]⟩),
 (303,⟨.arr 16 302,32,32,[.int .u8 0,.int .u8 0,.int .u8 0,.int .u8 0,.int .u8 0,.int .u8 0,.int .u8 0,.int .u8 0,.int .u8 0,.int .u8 0,.int .u8 0,.int .u8 0,.int .u8 0,.int .u8 0,.int .u8 0,.int .u8 0,.int .u8 0,.int .u8 0,.int .u8 0,.int .u8 0,.int .u8 0,.int .u8 0,.int .u8 0,.int .u8 0,.int .u8 0,.int .u8 0,.int .u8 0,.int .u8 0,.int .u8 0,.int .u8 0,.int .u8 0,.int .u8 0]⟩),
 (304,⟨.struct [(0,295,1)],1,24,[.slice none 0 0]⟩),
 (305,⟨.struct [(0,295,1)],1,24,[.slice none 0 0]⟩),
 (307,⟨.arr 24 5,24,24,[.int .u8 0,.int .u8 0,.int .u8 0,.int .u8 0,.int .u8 0,.int .u8 0,.int .u8 0,.int .u8 0,.int .u8 0,.int .u8 0,.int .u8 0,.int .u8 0,.int .u8 0,.int .u8 0,.int .u8 0,.int .u8 0,.int .u8 0,.int .u8 0,.int .u8 0,.int .u8 0,.int .u8 0,.int .u8 0,.int .u8 0,.int .u8 0]⟩),
 (308,⟨.one,1,8,[.nilFunc]⟩),
 (309,⟨.one,1,8,[.nilFunc]⟩),
 (311,⟨.one,1,8,[.nilFunc]⟩),
 (312,⟨.int .u32,1,4,[.int .u32 0]⟩),
 (314,⟨.one,1,8,[.nilFunc]⟩),
 (315,⟨.one,1,8,[.nilFunc]⟩),
 (316,⟨.struct [(0,168,1)],1,16,[.nilIface]⟩),
 (317,⟨.struct [(0,168,1)],1,16,[.nilIface]⟩),
 (319,⟨.struct [(0,295,1)],1,24,[.slice none 0 0]⟩),
 (321,⟨.one,1,8,[.nilFunc]⟩),
 (322,⟨.arr 20 235,20,160,[.int .u64 0,.int .u64 0,.int .u64 0,.int .u64 0,.int .u64 0,.int .u64 0,.int .u64 0,.int .u64 0,.int .u64 0,.int .u64 0,.int .u64 0,.int .u64 0,.int .u64 0,.int .u64 0,.int .u64 0,.int .u64 0,.int .u64 0,.int .u64 0,.int .u64 0,.int .u64 0]⟩),
 (323,⟨.arr 65 5,65,65,[.int .u8 0,.int .u8 0,.int .u8 0,.int .u8 0,.int .u8 0,.int .u8 0,.int .u8 0,.int .u8 0,.int .u8 0,.int .u8 0,.int .u8 0,.int .u8 0,.int .u8 0,.int .u8 0,.int .u8 0,.int .u8 0,.int .u8 0,.int .u8 0,.int .u8 0,.int .u8 0,.int .u8 0,.int .u8 0,.int .u8 0,.int .u8 0,.int .u8 0,.int .u8 0,.int .u8 0,.int .u8 0,.int .u8 0,.int .u8 0,.int .u8 0,.int .u8 0,.int .u8 0,.int .u8 0,.int .u8 0,.int .u8 0,.int .u8 0,.int .u8 0,.int .u8 0,.int .u8 0,.int .u8 0,.int .u8 0,.int .u8 0,.int .u8 0,.int .u8 0,.int .u8 0,.int .u8 0,.int .u8 0,.int .u8 0,.int .u8 0,.int .u8 0,.int .u8 0,.int .u8 0,.int .u8 0,.int .u8 0,.int .u8 0,.int .u8 0,.int .u8 0,.int .u8 0,.int .u8 0,.int .u8 0,.int .u8 0,.int .u8 0,.int .u8 0,.int .u8 0]⟩),
 (324,⟨.one,1,8,[.nilFunc]⟩),
 (325,⟨.int .i64,1,8,[.int .i64 0]⟩),
 (327,⟨.one,1,8,[.nilFunc]⟩),
 (328,⟨.ptr 335,1,8,[.pointer none]⟩),
 (329,⟨.one,1,8,[.nilFunc]⟩),
 (330,⟨.one,1,8,[.nilFunc]⟩),
 (331,⟨.one,1,8,[.nilFunc]⟩),
 (333,⟨.one,1,8,[.nilFunc]⟩),
 (334,⟨.struct [(0,9,1),(1,9,1),(2,207,1)],3,48,[.string ⟨#[]⟩,.string ⟨#[]⟩,.nilIface]⟩),
 (335,⟨.struct [(0,9,1),(1,9,1),(2,207,1)],3,48,[.string ⟨#[]⟩,.string ⟨#[]⟩,.nilIface]⟩),
 (336,⟨.one,1,8,[.nilFunc]⟩),
 (337,⟨.arr 32 5,32,32,[.int .u8 0,.int .u8 0,.int .u8 0,.int .u8 0,.int .u8 0,.int .u8 0,.int .u8 0,.int .u8 0,.int .u8 0,.int .u8 0,.int .u8 0,.int .u8 0,.int .u8 0,.int .u8 0,.int .u8 0,.int .u8 0,.int .u8 0,.int .u8 0,.int .u8 0,.int .u8 0,.int .u8 0,.int .u8 0,.int .u8 0,.int .u8 0,.int .u8 0,.int .u8 0,.int .u8 0,.int .u8 0,.int .u8 0,.int .u8 0,.int .u8 0,.int .u8 0]⟩),
 (338,⟨.arr 64 5,64,64,[.int .u8 0,.int .u8 0,.int .u8 0,.int .u8 0,.int .u8 0,.int .u8 0,.int .u8 0,.int .u8 0,.int .u8 0,.int .u8 0,.int .u8 0,.int .u8 0,.int .u8 0,.int .u8 0,.int .u8 0,.int .u8 0,.int .u8 0,.int .u8 0,.int .u8 0,.int .u8 0,.int .u8 0,.int .u8 0,.int .u8 0,.int .u8 0,.int .u8 0,.int .u8 0,.int .u8 0,.int .u8 0,.int .u8 0,.int .u8 0,.int .u8 0,.int .u8 0,.int .u8 0,.int .u8 0,.int .u8 0,.int .u8 0,.int .u8 0,.int .u8 0,.int .u8 0,.int .u8 0,.int .u8 0,.int .u8 0,.int .u8 0,.int .u8 0,.int .u8 0,.int .u8 0,.int .u8 0,.int .u8 0,.int .u8 0,.int .u8 0,.int .u8 0,.int .u8 0,.int .u8 0,.int .u8 0,.int .u8 0,.int .u8 0,.int .u8 0,.int .u8 0,.int .u8 0,.int .u8 0,.int .u8 0,.int .u8 0,.int .u8 0,.int .u8 0]⟩),
 (339,⟨.one,1,8,[.nilFunc]⟩),
 (340,⟨.ptr 342,1,8,[.pointer none]⟩),
 (341,⟨.struct [(0,9,1)],1,16,[.string ⟨#[]⟩]⟩),
 (342,⟨.struct [(0,9,1)],1,16,[.string ⟨#[]⟩]⟩),
 (343,⟨.struct [(0,17,1),(1,17,1),(2,17,1),(3,9,1)],4,40,[.pointer none,.pointer none,.pointer none,.string ⟨#[]⟩]⟩),
 (344,⟨.struct [(0,17,1),(1,17,1),(2,17,1),(3,9,1)],4,40,[.pointer none,.pointer none,.pointer none,.string ⟨#[]⟩]⟩),
 (348,⟨.int .u8,1,1,[.int .u8 0]⟩),
 (349,⟨.int .u8,1,1,[.int .u8 0]⟩),
 (350,⟨.one,1,8,[.nilFunc]⟩),
 (351,⟨.int .i32,1,4,[.int .i32 0]⟩),
 (352,⟨.int .i32,1,4,[.int .i32 0]⟩),
 (353,⟨.struct [(0,12,1),(1,12,1),(2,312,1),(3,348,1),(4,5,1),(5,5,1),(6,349,1),(7,350,1),(8,243,1),(9,351,1),(10,352,1)],11,48,[.int .u64 0,.int .u64 0,.int .u32 0,.int .u8 0,.int .u8 0,.int .u8 0,.int .u8 0,.nilFunc,.pointer none,.int .i32 0,.int .i32 0]⟩),
 (354,⟨.struct [(0,12,1),(1,12,1),(2,312,1),(3,348,1),(4,5,1),(5,5,1),(6,349,1),(7,350,1),(8,243,1),(9,351,1),(10,352,1)],11,48,[.int .u64 0,.int .u64 0,.int .u32 0,.int .u8 0,.int .u8 0,.int .u8 0,.int .u8 0,.nilFunc,.pointer none,.int .i32 0,.int .i32 0]⟩),
 (355,⟨.one,1,8,[.nilFunc]⟩),
 (356,⟨.one,1,8,[.nilFunc]⟩)]
set_option maxRecDepth 100000 in
theorem ZR:TabOK prog tab:=by unfold TabOK;kernel_rfl
theorem mixed_ok:prog.follows .mixedOrders=true:=by kernel_rfl
variable {Q:Exit→Act→World→Prop} {E E':List (Nat×Value)}
section
structure Cx where
 r:Option Nat
 G:H
 w0:World
 hp0:H
 ds:List Deferred
inductive Fr where
 | c (c:Code)
 | b (id:Nat)
 | r (l:Nat)
def after (r:Option Nat):List Fr→(Exit→Act→World→Prop)→Exit→Act→World→Prop
 | [],Q,e,a,w=>Q e a w
 | .c c::k,Q,e,a,w=>match e with
  | .normal=>c.wpIn (fz r) 0 prog (after r k Q) a w
  | e=>after r k Q e a w
 | .b id::k,Q,e,a,w=>match e with
  | .exit id'=>if id'=id then after r k Q .normal a w else after r k Q (.exit id') a w
  | e=>after r k Q e a w
 | .r l::k,Q,e,a,w=>match e with
  | .normal=>∃w',(Instr.beginRound l).run prog w = .ok () w'∧after r k Q .normal a w'
  | _=>False
def pop (id:Nat):List Fr→Option (List Fr)
 | []=>none
 | .c _::k=>pop id k
 | .r _::_=>none
 | .b j::k=>match Nat.beq id j with
  | true=>some k
  | false=>pop id k
theorem pop_ok {r:Option Nat} {Q:Exit→Act→World→Prop} {id:Nat} {a:Act} {w:World}:∀{k k':List Fr},pop id k=some k'→after r k' Q .normal a w→after r k Q (.exit id) a w
 | [],_,h,_=>by cases h
 | .c _::k,k',h,h'=>pop_ok (k:=k) h h'
 | .r _::_,_,h,_=>by cases h
 | .b j::k,k',h,h'=>by
  unfold pop at h
  split at h
  ·rename_i hb
   obtain rfl:=Nat.eq_of_beq_eq_true hb
   obtain rfl:=Option.some.inj h
   simp only [after,if_true]
   exact h'
  ·rename_i hb
   have hne:id≠j:=Nat.ne_of_beq_eq_false hb
   simp only [after,if_neg hne]
   exact pop_ok h h'
def nf:Nat→List Fr→List Fr
 | 0,k=>k
 | m+1,k=>match k with
  | .c (.seq x y)::k=>nf m (.c x::.c y::k)
  | .c (.block id x)::k=>nf m (.c x::.b id::k)
  | .c .skip::k=>nf m k
  | .b _::k=>nf m k
  | .c (.exit id)::k=>match pop id k with
   | some k'=>nf m k'
   | none=>.c (.exit id)::k
  | k=>k
theorem then_after {r:Option Nat} {c:Code} {k:List Fr} {Q:Exit→Act→World→Prop}:Exit.then (c.wpIn (fz r) 0 prog (after r k Q)) (after r k Q)=after r (.c c::k) Q:=by
 funext e a w;cases e<;>rfl
theorem block_after {r:Option Nat} {id:Nat} {k:List Fr} {Q:Exit→Act→World→Prop}:Exit.inBlock id (after r k Q)=after r (.b id::k) Q:=by
 funext e a w;cases e<;>rfl
theorem YQ {r:Option Nat} {Q:Exit→Act→World→Prop} {a:Act} {w:World}:∀(m:Nat) (k:List Fr),after r (nf m k) Q .normal a w→after r k Q .normal a w
 | 0,_,h=>h
 | m+1,k,h=>by
  unfold nf at h
  split at h
  ·refine wpIn_seq ?_
   rw [then_after]
   exact YQ m _ h
  ·refine wpIn_block ?_
   rw [block_after]
   exact YQ m _ h
  ·exact wpIn_skip (YQ m _ h)
  ·rename_i kk
   exact (show after r kk Q .normal a w from YQ m kk h)
  ·split at h
   ·rename_i k' hk
    exact wpIn_exit (pop_ok hk (YQ m _ h))
   ·exact h
  ·exact h
variable {C:Cx} {k k':List Fr}
def Wk (n:Nat) (C:Cx) (k:List Fr) (Q:Exit→Act→World→Prop) (E:List (Nat×Value)) (F:List Pf) (R:List HP):Prop:=
 ∀a w,Agree n C.ds (look E) a→Sat C.G C.w0 C.hp0 F R w→after C.r k Q .normal a w
def Wl (n:Nat) (C:Cx) (ops:Array Oper) (k:List Fr) (Q:Exit→Act→World→Prop) (l:List Oper) (E:List (Nat×Value)) (F:List Pf) (R:List HP):Prop:=
 ∀a w,Agree n C.ds (look E) a→Sat C.G C.w0 C.hp0 F R w→wpListIn (fz C.r) 0 prog ops (after C.r k Q) l a w
theorem Yn (d:Nat) (v:Value) (E:List (Nat×Value)):look ((d,v)::E)=upd (look E) (some d) v:=rfl
theorem ZF (E:List (Nat×Value)):evf (look E)=ev E:=by funext x;cases x<;>rfl
theorem k_reg {id:Nat} {l:List Oper} (t:Wl n C l.toArray k' Q l E F R) (h:nf 1000 k = .c (.region id l.toArray false)::k':=by rfl):Wk n C k Q E F R:=
 fun a w ha hs=>YQ 1000 k (by rw [h];exact wpIn_region_lit (t a w ha hs))
theorem ZB {c:Operand} {x y:Code} {b:Bool} (ht:b=true→Wk n C (.c x::k') Q E F R) (hf:b=false→Wk n C (.c y::k') Q E F R) (h:nf 1000 k = .c (.cond c x y)::k':=by rfl) (hc:ev E c=some (.bool b):=by rfl):Wk n C k Q E F R:=
 fun a w ha hs=>YQ 1000 k (by
  rw [h]
  exact wpIn_cond_split (ha.ev (by rw [ZF];exact hc)) (fun e=>ht e a w ha hs) (fun e=>hf e a w ha hs))
theorem k_condT {c:Operand} {x y:Code} (ht:Wk n C (.c x::k') Q E F R) (h:nf 1000 k = .c (.cond c x y)::k':=by rfl) (hc:ev E c=some (.bool true):=by rfl):Wk n C k Q E F R:=
 ZB (fun _=>ht) (fun e=>by cases e) h hc
theorem k_condF {c:Operand} {x y:Code} (hf:Wk n C (.c y::k') Q E F R) (h:nf 1000 k = .c (.cond c x y)::k':=by rfl) (hc:ev E c=some (.bool false):=by rfl):Wk n C k Q E F R:=
 ZB (fun e=>by cases e) (fun _=>hf) h hc
def EntE (E:List (Nat×Value)):List (Nat×Value)→Prop
 | []=>True
 | (t,v)::E'=>look E t=some v∧EntE E E'
def EntF (F:List Pf):List Pf→Prop
 | []=>True
 | f::F'=>(∃F0,Sel f F F0)∧EntF F F'
theorem EntF.cons {F F' F0:List Pf} {f:Pf} (s:Sel f F F0) (h:EntF F F'):EntF F (f::F'):=⟨⟨F0,s⟩,h⟩
theorem EntE.look:∀{E E':List (Nat×Value)},EntE E E'→∀t v,look E' t=some v→look E t=some v
 | _,[],_,_,_,h=>by cases h
 | E,(s,u)::E',⟨h1,h2⟩,t,v,h=>by
  unfold Go.Proofs.YtcjfciifhdfjkaaGreatDoor.look at h
  split at h
  ·rename_i hb
   obtain rfl:=Nat.eq_of_beq_eq_true hb
   rw [h1];exact h
  ·exact h2.look t v h
theorem EntF.all:∀{F F':List Pf},EntF F F'→∀hp,(∀x ∈ F,x.p hp)→∀x ∈ F',x.p hp
 | _,[],_,_,_,x,hx=>by cases hx
 | F,f::F',⟨⟨F0,s⟩,h2⟩,hp,h,x,hx=>by
  rcases List.mem_cons.1 hx with rfl|hx
  ·exact h _ s.mem
  ·exact h2.all hp h x hx
theorem Agree.weaken {n:Nat} {ds:List Deferred} {a:Act} (h:Agree n ds (look E) a) (he:EntE E E'):Agree n ds (look E') a:=⟨h.size,h.defers,fun t v hv=>h.slots t v (he.look t v hv)⟩
theorem YL:∀{A R:List HP} {h:H},Sep (A++R) h→Sep A h
 | [],_,_,_=>trivial
 | _::_,_,_,⟨h1,h2,d,s1,s2,hx,hs⟩=>⟨h1,h2,d,s1,s2,hx,YL hs⟩
theorem k_drop {R0:List HP} (he:EntE E E') (hf:EntF F F') (hr:Sels R' R R0) (t:Wk n C k Q E' F' R'):Wk n C k Q E F R:=
 fun a w ha hs=>t a w (ha.weaken he) (((hs.sels hr).facts (F':=F') (hf.all)).res fun _ h=>YL h)
def LQ {X:Type} (n:Nat) (C:Cx) (k':List Fr) (Q:Exit→Act→World→Prop) (iE:X→List (Nat×Value)) (iF:X→List Pf) (iR:X→List HP) (μ:X→Nat) (x:X) (e:Exit) (a:Act) (w:World):Prop:=
 match e with
 | .normal=>∃y,μ y<μ x∧Agree n C.ds (look (iE y)) a∧Sat C.G C.w0 C.hp0 (iF y) (iR y) w
 | e=>after C.r k' Q e a w
theorem k_loop {X:Type} {c:Code} (iE:X→List (Nat×Value)) (iF:X→List Pf) (iR:X→List HP) (μ:X→Nat) (x0:X) {R0:List HP} (h:nf 1000 k = .c (.loop c)::k')
  (he:EntE E (iE x0)) (hf:EntF F (iF x0)) (hr:Sels (iR x0) R R0)
  (t:∀x,Wk n C [.c c] (LQ n C k' Q iE iF iR μ x) (iE x) (iF x) (iR x)):Wk n C k Q E F R:=fun a w ha hs=>YQ 1000 k (by
  rw [h]
  refine wpIn_loop_ghost (fun m a w=>∃x,μ x=m∧Agree n C.ds (look (iE x)) a∧Sat C.G C.w0 C.hp0 (iF x) (iR x) w) (μ x0) ⟨x0,rfl,ha.weaken he,((hs.sels hr).facts (F':=iF x0) hf.all).res fun _ h=>YL h⟩ ?_
  rintro m a w ⟨x,rfl,ha,hs⟩
  refine wpIn_mono (t x a w ha hs) fun e a' w' he=>?_
  cases e with
  | normal=>
   obtain ⟨y,hy,ha',hs'⟩:=he
   exact ⟨μ y,hy,y,rfl,ha',hs'⟩
  | _=>exact he)
def wantL (ops:List Oper) (E:List (Nat×Value)) (o:Oper):Option Bool:=
 match o.guard with
 | none=>some true
 | some (j,want)=>match nth ops j with
  | some oj=>match oj.dst with
   | some d=>match look E d with
    | some (.bool b)=>some (b == want)
    | some (.tuple _)=>some false
    | _=>none
   | none=>none
  | none=>none
theorem ZW {ops:List Oper} {o:Oper} {b:Bool} (h:wantL ops E o=some b):wantF ops.toArray (look E) o=some b:=by
 unfold wantL at h
 unfold wantF
 cases hg:o.guard with
 | none=>simpa [hg] using h
 | some g=>
  obtain ⟨j,want⟩:=g
  simp only [hg] at h ⊢
  split at h
  ·rename_i oj hj
   rw [YW] at hj
   split at h
   ·rename_i d hd
    simp only [List.getElem?_toArray,hj,Option.bind_some,hd]
    exact h
   ·cases h
  ·cases h
def qstep (n:Nat) (ops:List Oper) (E:List (Nat×Value)) (o:Oper):Option (List (Nat×Value)):=
 match o.dst with
 | none=>none
 | some d=>match Nat.blt d n,wantL ops E o with
  | true,some false=>some ((d,undef)::E)
  | true,some true=>match qv tab (ev E) o.op with
   | some v=>some ((d,v)::E)
   | none=>none
  | _,_=>none
inductive QR (α:Type) where
 | mk (E:List (Nat×Value)) (l:α)
 | no
def qsu (n:Nat) (ops:List Oper) (E:List (Nat×Value)) (o:Oper):Option (List (Nat×Value)):=
 match o.guard with
 | none=>qstep n ops E o
 | some _=>none
theorem qsu_ok {n:Nat} {ops:List Oper} {E E':List (Nat×Value)} {o:Oper} (h:qsu n ops E o=some E'):qstep n ops E o=some E':=by
 unfold qsu at h
 split at h
 ·exact h
 ·cases h
def qgo (n:Nat) (ops:List Oper):List Oper→List (Nat×Value)→QR (List Oper)
 | [],E=>.mk E []
 | o::l,E=>match qsu n ops E o with
  | some E'=>qgo n ops l E'
  | none=>.mk E (o::l)
def qrun (n:Nat) (ops:List Oper) (l:List Oper) (E:List (Nat×Value)):QR (List Oper):=
 match l with
 | []=>.no
 | o::l=>match qsu n ops E o with
  | some E'=>qgo n ops l E'
  | none=>.no
theorem noDefer_of_qv {T:Tab} {e:Operand→Option Value} {op:Op} {v:Value} (h:qv T e op=some v) (c:Call):op≠.defer c:=by
 rintro rfl;cases h
theorem wl_skip {ops:List Oper} {o:Oper} {l:List Oper} {d:Nat} (hd:o.dst=some d) (hn:d<n) (hw:wantL ops E o=some false) (t:Wl n C ops.toArray k Q l ((d,undef)::E) F R):Wl n C ops.toArray k Q (o::l) E F R:=by
 intro a w ha hs
 have hw':=Vj ha (ZW hw)
 unfold wpListIn
 rw [if_neg (by rw [hw'];simp)]
 refine ⟨fun _ _=>trivial,?_⟩
 rw [hd]
 exact t _ w (by rw [Yn];exact ha.put (fun t ht=>by cases ht;exact hn) undef) hs
theorem Zn {ops:List Oper} {o:Oper} {l:List Oper} (hd:∀t,o.dst=some t→t<n) (hdf:∀c,o.op≠.defer c) (hw:wantL ops E o=some true)
  (t:∀a w,Agree n C.ds (look E) a→Sat C.G C.w0 C.hp0 F R w→OpRes prog (execOp a.eval o) w fun v w'=>∀a',Agree n C.ds (upd (look E) o.dst v) a'→wpListIn (fz C.r) 0 prog ops.toArray (after C.r k Q) l a' w'):Wl n C ops.toArray k Q (o::l) E F R:=by
 intro a w ha hs
 have hw':=Vj ha (ZW hw)
 unfold wpListIn
 rw [if_pos hw']
 exact Ub hdf (t a w ha hs) fun v w' hv=>hv _ (ha.put hd v)
theorem qstep_ok {ops:List Oper} {o:Oper} {l:List Oper} (h:qstep n ops E o=some E') (t:Wl n C ops.toArray k Q l E' F R):Wl n C ops.toArray k Q (o::l) E F R:=by
 unfold qstep at h
 split at h
 ·cases h
 ·rename_i d hd
  split at h
  ·rename_i hn hw
   obtain rfl:=Option.some.inj h
   exact wl_skip hd (Nat.le_of_ble_eq_true hn) hw t
  ·rename_i hn hw
   split at h
   ·rename_i v hv
    obtain rfl:=Option.some.inj h
    refine Zn (fun t ht=>by rw [hd] at ht;cases ht;exact Nat.le_of_ble_eq_true hn) (noDefer_of_qv hv) hw fun a w ha hs=>?_
    have hr:=qv_ok ZR hv (ρ:=a.eval) (fun x _ u hu=>ha.ev (by rw [ZF];exact hu)) w
    unfold OpRes
    rw [hr]
    intro a' ha'
    rw [hd] at ha'
    exact t a' w ha' hs
   ·cases h
  ·cases h
theorem qgo_ok {ops:List Oper}:∀(l:List Oper) (E E':List (Nat×Value)) (l':List Oper),qgo n ops l E = .mk E' l'→Wl n C ops.toArray k Q l' E' F R→Wl n C ops.toArray k Q l E F R
 | [],_,_,_,h,t=>by injection h with h1 h2;subst h1 h2;exact t
 | o::l,E,E',l',h,t=>by
  unfold qgo at h
  split at h
  ·rename_i E1 hE
   exact qstep_ok (qsu_ok hE) (qgo_ok l E1 E' l' h t)
  ·injection h with h1 h2;subst h1 h2;exact t
theorem l_run {ops l l':List Oper} (t:Wl n C ops.toArray k Q l' E' F R) (h:qrun n ops l E = .mk E' l':=by rfl):Wl n C ops.toArray k Q l E F R:=by
 unfold qrun at h
 split at h
 ·cases h
 ·split at h
  ·rename_i E1 hE
   exact qstep_ok (qsu_ok hE) (qgo_ok _ _ _ _ h t)
  ·cases h
theorem l_one {ops l:List Oper} {o:Oper} (t:Wl n C ops.toArray k Q l E' F R) (h:qstep n ops E o=some E':=by rfl):Wl n C ops.toArray k Q (o::l) E F R:=qstep_ok h t
def guardOf (ops:List Oper) (o:Oper):Option Nat:=
 match o.guard with
 | none=>none
 | some (j,_)=>match nth ops j with
  | some oj=>oj.dst
  | none=>none
theorem Agree.split {n:Nat} {ds:List Deferred} {a:Act} {d:Nat} {b:Bool} (ha:Agree n ds (look E) a) (hb:look E d=some (.bool b)):Agree n ds (look ((d,.bool b)::E)) a:=
 ⟨ha.size,ha.defers,fun t v hv=>by
  rw [Yn] at hv
  by_cases hdt:d=t
  ·subst hdt;rw [XQ] at hv;exact ha.slots d v (by rw [hb];exact hv)
  ·rw [Y1 _ _ hdt] at hv;exact ha.slots t v hv⟩
inductive Opn:Bool→Prop
 | mk (b:Bool):Opn b
theorem opn_t:Opn true:=.mk _
theorem opn_f:Opn false:=.mk _
theorem ZG {ops l:List Oper} {o:Oper} {d:Nat} {b:Bool} (ht:b=true→Wl n C ops.toArray k Q (o::l) ((d,.bool true)::E) F R) (hf:b=false→Wl n C ops.toArray k Q (o::l) ((d,.bool false)::E) F R)
  (_hg:guardOf ops o=some d:=by rfl) (hb:look E d=some (.bool b):=by rfl) (_ho:Opn b:=by (fail_if_success exact opn_t);(fail_if_success exact opn_f);exact Opn.mk _):Wl n C ops.toArray k Q (o::l) E F R:=fun a w ha hs=>by
 have ha':=ha.split hb
 cases b with
 | true=>exact ht rfl a w ha' hs
 | false=>exact hf rfl a w ha' hs
theorem l_nil {ops:List Oper} (t:Wk n C k Q E F R):Wl n C ops.toArray k Q [] E F R:=t
def ldv (t:Nat) (cs:List Value) (off:Nat):Option Value:=
 match lookT tab t with
 | some ⟨.struct _,n,_,_⟩=>cutF cs off n fun l=>some (.agg l.toArray)
 | some ⟨.arr _ _,n,_,_⟩=>cutF cs off n fun l=>some (.agg l.toArray)
 | some ⟨.other,_,_,_⟩=>none
 | some _=>nth cs off
 | none=>none
theorem run_loadCells {P:Program} {w:World} {b:Nat} {cs:Array Value} {ty:TypeId} {fzn:Nat×Nat} (h:w.heap[b]? = some (.cells cs ty fzn)) (off:Nat):∀(m i:Nat) (acc:Array Value),off+i+m≤cs.size→
  (loadCellsFrom ⟨b,off,none⟩ i m acc).run P w = .ok (acc++((cs.toList.drop (off+i)).take m).toArray) w
 | 0,i,acc,_=>by simp [loadCellsFrom]
 | m+1,i,acc,hle=>by
  have hlt:off+i<cs.toList.length:=by simp;omega
  have hc:w.cell? (Addr.add ⟨b,off,none⟩ i)=some cs.toList[off+i]:=by
   unfold World.cell?
   have h0:(Addr.add ⟨b,off,none⟩ i)=⟨b,off+i,none⟩:=by
    unfold Addr.add
    split
    ·rename_i h0;subst h0;rfl
    ·rfl
   rw [h0,h]
   simp
  unfold loadCellsFrom
  simp only [Sem.run_bind,load,Sem.run,hc,Result.andThen]
  rw [run_loadCells h off m (i+1) _ (by omega)]
  congr 1
  rw [←Array.toList_inj]
  rw [List.drop_eq_getElem_cons hlt,show off+(i+1)=off+i+1 by omega]
  simp
theorem Yp {w:World} {b:Nat} {cs:Array Value} {ty t:TypeId} {fzn:Nat×Nat} {off:Nat} {v:Value} (h:w.heap[b]? = some (.cells cs ty fzn)) (hv:ldv t cs.toList off=some v):(loadVar t ⟨b,off,none⟩).run prog w = .ok v w:=by
 unfold ldv at hv
 have hcell:∀u,cs[off]? = some u→w.cell? ⟨b,off,none⟩=some u:=fun u hu=>by unfold World.cell?;rw [h];simpa using hu
 have hag:∀r:TRow,lookT tab t=some r→r.k.isAgg=true→r.k≠.other→cutF cs.toList off r.size (fun l=>some (Value.agg l.toArray))=some v→(loadVar t ⟨b,off,none⟩).run prog w = .ok v w:=fun r hr ha ho hc=>by
  obtain ⟨h2,_,h3⟩:=Vy _ _ _ _ _ hc
  have hia:=ZR.isAgg hr ho w
  rw [ha] at hia
  have hsz:=ZR.sizeOf hr w
  unfold loadVar
  simp only [Sem.run_bind,hia,Result.andThen,if_true,hsz,loadCells]
  rw [←Option.some.inj h2]
  by_cases h0:r.size=0
  ·rw [h0];simp [loadCellsFrom]
  ·have hle:=h3 h0
   rw [run_loadCells h off r.size 0 #[] (by simp at hle ⊢;omega)]
   simp
 have hno:∀r:TRow,lookT tab t=some r→r.k.isAgg=false→r.k≠.other→nth cs.toList off=some v→(loadVar t ⟨b,off,none⟩).run prog w = .ok v w:=fun r hr ha ho hc=>by
  have hia:=ZR.isAgg hr ho w
  rw [ha] at hia
  rw [YW] at hc
  simp at hc
  unfold loadVar
  simp only [Sem.run_bind,hia,Result.andThen,Bool.false_eq_true,if_false,load,Sem.run,hcell v hc]
 split at hv
 ·rename_i hr;exact hag _ hr rfl (by simp) hv
 ·rename_i hr;exact hag _ hr rfl (by simp) hv
 ·cases hv
 ·rename_i r hn1 hn2 hn3 hr
  refine hno _ hr ?_ ?_ hv
  ·cases hk2:r.k<;>simp [TK.isAgg]<;>(obtain ⟨k,s1,b1,z1⟩:=r;simp at hk2;subst hk2;first|exact hn1 _ _ _ _ rfl|exact hn2 _ _ _ _ _ rfl)
  ·intro hk2;obtain ⟨k,s1,b1,z1⟩:=r;simp at hk2;subst hk2;exact hn3 _ _ _ rfl
 ·cases hv
end
variable {C:Cx} {F1:List Pf} {R0 A:List HP} {k k':List Fr} {ops l:List Oper} {d:Nat} {t ty0:TypeId} {x y:Operand} {pos:String} {aft:Array Edge} {gd:Option (Nat×Bool)} {b off:Nat} {cs:Array Value} {ty:TypeId} {fzn:Nat×Nat}
section
variable {v:Value}
theorem l_ld (nx:Wl n C ops.toArray k Q l ((d,v)::E) F R) (hw:wantL ops E ⟨some d,.load t x,ty0,pos,aft,gd⟩=some true:=by rfl) (hn:Nat.blt d n=true:=by rfl)
  (hx:ev E x=some (.pointer (some ⟨b,off,none⟩)):=by rfl) (hs:Sel (Pt b (.cells cs ty fzn)) R R0:=by (repeat (first|exact Sel.here|apply Sel.there));first|done|fail) (hv:ldv t cs.toList off=some v:=by rfl) :
  Wl n C ops.toArray k Q (⟨some d,.load t x,ty0,pos,aft,gd⟩::l) E F R:=
 Zn (fun t ht=>by cases ht;exact Nat.le_of_ble_eq_true hn) (fun c hc=>by cases hc) hw fun a w ha hsat=>by
  have hr:=Yp (hsat.pt hs) hv
  unfold OpRes
  simp only [execOp,Instr.loadAt,ha.ev (by rw [ZF];exact hx),Instr.sureAddr,Sem.run_bind,Sem.run_pure,Result.andThen,hr]
  exact fun a' ha'=>nx a' w ha' hsat
theorem l_ldF {F0:List Pf} (nx:Wl n C ops.toArray k Q l ((d,v)::E) F R) (hw:wantL ops E ⟨some d,.load t x,ty0,pos,aft,gd⟩=some true:=by rfl) (hn:Nat.blt d n=true:=by rfl)
  (hx:ev E x=some (.pointer (some ⟨b,off,none⟩)):=by rfl) (hs:Sel (Blk b (.cells cs ty fzn)) F F0:=by (repeat (first|exact Sel.here|apply Sel.there));first|done|fail) (hv:ldv t cs.toList off=some v:=by rfl) :
  Wl n C ops.toArray k Q (⟨some d,.load t x,ty0,pos,aft,gd⟩::l) E F R:=
 Zn (fun t ht=>by cases ht;exact Nat.le_of_ble_eq_true hn) (fun c hc=>by cases hc) hw fun a w ha hsat=>by
  have hr:=Yp (hsat.blk hs) hv
  unfold OpRes
  simp only [execOp,Instr.loadAt,ha.ev (by rw [ZF];exact hx),Instr.sureAddr,Sem.run_bind,Sem.run_pure,Result.andThen,hr]
  exact fun a' ha'=>nx a' w ha' hsat
theorem l_al {op:Op} {obj:Obj} (nx:∀b,Wl n C ops.toArray k Q l ((d,.pointer (some ⟨b,0,none⟩))::E) F (Pt b obj::R)) (hw:wantL ops E ⟨some d,op,ty0,pos,aft,gd⟩=some true:=by rfl) (hn:Nat.blt d n=true:=by rfl)
  (ha:allocOf tab (look E) op=some (obj,fun b=>.pointer (some ⟨b,0,none⟩)):=by rfl):Wl n C ops.toArray k Q (⟨some d,op,ty0,pos,aft,gd⟩::l) E F R:=
 Zn (fun t ht=>by cases ht;exact Nat.le_of_ble_eq_true hn) (fun c hc=>by rw [show op=_ from hc] at ha;cases ha) hw fun a w hag hsat=>by
  have hr:=X1 ZR hag (o:=⟨some d,op,ty0,pos,aft,gd⟩) ha w
  unfold OpRes
  rw [hr]
  exact fun a' ha'=>nx _ a' _ ha' (hsat.alloc obj)
theorem l_bs {op:Op} {obj:Obj} {m:Nat} (nx:∀b,Wl n C ops.toArray k Q l ((d,.slice (some ⟨b,0,none⟩) m m)::E) F (Pt b obj::R)) (hw:wantL ops E ⟨some d,op,ty0,pos,aft,gd⟩=some true:=by rfl) (hn:Nat.blt d n=true:=by rfl)
  (ha:allocOf tab (look E) op=some (obj,fun b=>.slice (some ⟨b,0,none⟩) m m):=by rfl):Wl n C ops.toArray k Q (⟨some d,op,ty0,pos,aft,gd⟩::l) E F R:=
 Zn (fun t ht=>by cases ht;exact Nat.le_of_ble_eq_true hn) (fun c hc=>by rw [show op=_ from hc] at ha;cases ha) hw fun a w hag hsat=>by
  have hr:=X1 ZR hag (o:=⟨some d,op,ty0,pos,aft,gd⟩) ha w
  unfold OpRes
  rw [hr]
  exact fun a' ha'=>nx _ a' _ ha' (hsat.alloc obj)
def YR:Value→Bool
 | .agg _=>false
 | .tuple _=>false
 | _=>true
def stv (t:Nat) (cs:List Value) (off:Nat) (v:Value):Option (List Value):=
 match lookT tab t,vcells v with
 | some r,some vs=>bif Nat.beq vs.length r.size && vs.all YR then putF cs off vs some else none
 | _,_=>none
theorem Wc {P:Program} {b:Nat} {ty:TypeId} (off:Nat):∀(vs:List Value) (i:Nat) (w:World) (cs:List Value),w.heap[b]? = some (.cells cs.toArray ty (0,0))→vs.all YR=true→off+i+vs.length≤cs.length→
  ∃w',(storeCells ⟨b,off,none⟩ vs i).run P w = .ok () w'∧w'.heap[b]? = some (.cells (cs.take (off+i)++vs++cs.drop (off+i+vs.length)).toArray ty (0,0))∧Same w w'∧∀c,c≠b→w'.heap[c]? = w.heap[c]?
 | [],i,w,cs,h,_,_=>⟨w,rfl,by simpa using h,Same.refl _,fun _ _=>rfl⟩
 | v::vs,i,w,cs,h,hv,hle=>by
  simp only [List.all_cons,Bool.and_eq_true] at hv
  simp only [List.length_cons] at hle
  have h0:(Addr.add ⟨b,off,none⟩ i)=⟨b,off+i,none⟩:=by
   unfold Addr.add
   split
   ·rename_i h0;subst h0;rfl
   ·rfl
  have hcell:w.cell? ⟨b,off+i,none⟩=some (cs[off+i]'(by omega)):=by
   unfold World.cell?
   rw [h];simp
  have hfz:w.frozen? ⟨b,off+i,none⟩=false:=by unfold World.frozen?;rw [h];simp
  have hst:(store (Addr.add ⟨b,off,none⟩ i) v).run P w = .ok () (w.setCell ⟨b,off+i,none⟩ v):=by
   rw [h0]
   unfold store
   cases v<;>first|(simp [YR] at hv;done)|(simp only [Sem.run,hcell,hfz];rfl)
  have hb':(w.setCell ⟨b,off+i,none⟩ v).heap[b]? = some (.cells (cs.set (off+i) v).toArray ty (0,0)):=by
   simp only [World.setCell,Array.getElem?_modify,if_true,h]
   simp
  have hne:∀c,c≠b→(w.setCell ⟨b,off+i,none⟩ v).heap[c]? = w.heap[c]?:=fun c hc=>Below.heap_setCell w _ v c hc
  obtain ⟨w',h1,h2,h3,h4⟩:=Wc (P:=P) off vs (i+1) _ (cs.set (off+i) v) hb' hv.2 (by simp;omega)
  refine ⟨w',?_,?_,(⟨rfl,rfl,rfl,by simp [World.setCell]⟩:Same w (w.setCell _ v)).trans h3,fun c hc=>(h4 c hc).trans (hne c hc)⟩
  ·unfold storeCells
   simp only [Sem.run_bind,hst,Result.andThen]
   exact h1
  ·rw [h2]
   congr 3
   have e1:(cs.set (off+i) v).take (off+(i+1))=cs.take (off+i)++[v]:=by
    rw [show off+(i+1)=off+i+1 by omega,List.take_succ_eq_append_getElem (by simp;omega)]
    simp [List.take_set_of_le]
   have e2:(cs.set (off+i) v).drop (off+(i+1)+vs.length)=cs.drop (off+i+(v::vs).length):=by
    rw [List.drop_set_of_lt (by omega)]
    congr 1;simp;omega
   rw [e1,e2]
   simp
theorem stv_ok {w:World} {cs':List Value} (h:w.heap[b]? = some (.cells cs ty (0,0))) (hv:stv t cs.toList off v=some cs') :
  ∃w',(storeVar t ⟨b,off,none⟩ v).run prog w = .ok () w'∧w'.heap[b]? = some (.cells cs'.toArray ty (0,0))∧Same w w'∧∀c,c≠b→w'.heap[c]? = w.heap[c]?:=by
 unfold stv at hv
 split at hv
 ·rename_i r vs hr hvs
  cases hc:(Nat.beq vs.length r.size && vs.all YR) with
  | false=>simp [hc] at hv
  | true=>
   simp only [hc,cond_true] at hv
   rw [Bool.and_eq_true] at hc
   have hlen:=Nat.eq_of_beq_eq_true hc.1
   obtain ⟨h1,h2⟩:=W8 _ _ _ _ _ hv
   have hcl:=Ws hvs
   have hsz:=ZR.sizeOf hr w
   have hle:vs≠[]→off+0+vs.length≤cs.toList.length:=fun hne=>by simpa using h1 hne
   have hst:∃w',(storeCells ⟨b,off,none⟩ vs 0).run prog w = .ok () w'∧w'.heap[b]? = some (.cells cs'.toArray ty (0,0))∧Same w w'∧∀c,c≠b→w'.heap[c]? = w.heap[c]?:=by
    by_cases hne:vs=[]
    ·subst hne
     refine ⟨w,rfl,?_,Same.refl _,fun _ _=>rfl⟩
     simp at h2;subst h2;simpa using h
    ·obtain ⟨w',g1,g2,g3,g4⟩:=Wc (P:=prog) off vs 0 w cs.toList (by simpa using h) hc.2 (hle hne)
     refine ⟨w',g1,?_,g3,g4⟩
     rw [g2]
     simp at h2;simp [h2]
   obtain ⟨w',g1,g2⟩:=hst
   refine ⟨w',?_,g2⟩
   unfold storeVar
   simp only [Sem.run_bind,hsz,Result.andThen,hcl]
   rw [if_neg (by simp [hlen])]
   exact g1
 ·cases hv
theorem l_st {cs':List Value} (nx:Wl n C ops.toArray k Q l E F (Pt b (.cells cs'.toArray ty (0,0))::R0)) (hw:wantL ops E ⟨none,.store t x y,ty0,pos,aft,gd⟩=some true:=by rfl)
  (hx:ev E x=some (.pointer (some ⟨b,off,none⟩)):=by rfl) (hy:ev E y=some v:=by rfl) (hs:Sel (Pt b (.cells cs ty (0,0))) R R0:=by (repeat (first|exact Sel.here|apply Sel.there));first|done|fail) (hv:stv t cs.toList off v=some cs':=by rfl) :
  Wl n C ops.toArray k Q (⟨none,.store t x y,ty0,pos,aft,gd⟩::l) E F R:=
 Zn (fun t ht=>by cases ht) (fun c hc=>by cases hc) hw fun a w ha hsat=>by
  obtain ⟨w',g1,g2,g3,g4⟩:=stv_ok (hsat.pt hs) hv
  unfold OpRes
  simp only [execOp,Instr.storeAt,ha.ev (x:=x) (by rw [ZF];exact hx),ha.ev (x:=y) (by rw [ZF];exact hy),Instr.sureAddr,Sem.run_bind,Sem.run_pure,Result.andThen,g1]
  exact fun a' ha'=>nx a' w' ha' ((hsat.sel hs).write g3 g2 fun c hc _=>g4 c hc)
abbrev Enters (f:FuncId):Prop:=∀args w,(callFunc f args).run prog w = .ok (.enter f args) w
theorem V3 {f:FuncId} (hf:Enters f) {args:Array Operand} {tys:Array TypeId} {vs:List Value} (hargs:evs (ev E) args.toList some=some vs) {a:Act} {ds:List Deferred} (ha:Agree n ds (look E) a) (w:World) (dst:Option Tmp) :
  (execOp a.eval ⟨dst,.call ⟨.value (.func f),args,tys⟩,ty0,pos,aft,gd⟩).run prog w = .ok (.enter f vs.toArray) w:=by
 obtain ⟨us,_,h2,h3⟩:=X3 _ _ _ hargs
 obtain rfl:=Option.some.inj h2
 have e1:=h3 a.eval fun x _ u hu=>ha.ev (by rw [ZF];exact hu)
 have e3:args.map a.eval=us.toArray:=by rw [←Array.toList_inj];simpa using e1
 simp only [execOp,resolve,Deferred.ofValue,Act.eval,Sem.run_bind,Sem.run_pure,Result.andThen,invoke]
 have e4:(args.map fun x=>a.eval x)=us.toArray:=e3
 simp only [Act.eval] at e4
 rw [show (#[]:Array Value)++Array.map _ args++#[]=us.toArray by rw [←e3];simp]
 exact hf _ w
theorem ZA {f:FuncId} {args:Array Operand} {tys:Array TypeId} {vs:List Value} {post:Post} (spec:Enters f∧Spec prog f vs.toArray F1 A post)
  (nx:∀x,post.pure x→Wl n C ops.toArray k Q l ((d,post.val x)::E) (post.F x++F) (post.R x++R')) (hw:wantL ops E ⟨some d,.call ⟨.value (.func f),args,tys⟩,ty0,pos,aft,gd⟩=some true:=by rfl) (hn:Nat.blt d n=true:=by rfl)
  (hargs:evs (ev E) args.toList some=some vs:=by rfl) (sel:Sels A R R':=by (repeat (first|exact Sels.nil|exact Sel.here|apply Sel.there|apply Sels.cons));first|done|fail)
  (hF:EntF F F1:=by (repeat (first|exact trivial|exact Sel.here|apply Sel.there|apply EntF.cons));first|done|fail) :
  Wl n C ops.toArray k Q (⟨some d,.call ⟨.value (.func f),args,tys⟩,ty0,pos,aft,gd⟩::l) E F R:=
 Zn (fun t ht=>by cases ht;exact Nat.le_of_ble_eq_true hn) (fun c hc=>by cases hc) hw fun a w ha hsat=>by
  unfold OpRes
  rw [V3 spec.1 hargs ha w]
  refine YU spec.2 hsat sel hF.all fun x w' hx hs'=>?_
  exact fun a' ha'=>nx x hx a' w' ha' hs'
theorem ZP {f:FuncId} {args:Array Operand} {tys:Array TypeId} {vs:List Value} {post:Post} (spec:Enters f∧Spec prog f vs.toArray F1 A post)
  (nx:∀x,post.pure x→Wl n C ops.toArray k Q l E (post.F x++F) (post.R x++R')) (hw:wantL ops E ⟨none,.call ⟨.value (.func f),args,tys⟩,ty0,pos,aft,gd⟩=some true:=by rfl)
  (hargs:evs (ev E) args.toList some=some vs:=by rfl) (sel:Sels A R R':=by (repeat (first|exact Sels.nil|exact Sel.here|apply Sel.there|apply Sels.cons));first|done|fail)
  (hF:EntF F F1:=by (repeat (first|exact trivial|exact Sel.here|apply Sel.there|apply EntF.cons));first|done|fail) :
  Wl n C ops.toArray k Q (⟨none,.call ⟨.value (.func f),args,tys⟩,ty0,pos,aft,gd⟩::l) E F R:=
 Zn (fun t ht=>by cases ht) (fun c hc=>by cases hc) hw fun a w ha hsat=>by
  unfold OpRes
  rw [V3 spec.1 hargs ha w]
  refine YU spec.2 hsat sel hF.all fun x w' hx hs'=>?_
  exact fun a' ha'=>nx x hx a' w' ha' hs'
def argsE:Nat→List Value→List (Nat×Value)
 | _,[]=>[]
 | i,v::vs=>(i,v)::argsE (i+1) vs
theorem VG:∀(vs:List Value) (i t:Nat) (v:Value),look (argsE i vs) t=some v→i≤t∧vs[t - i]? = some v
 | [],_,_,_,h=>by cases h
 | u::vs,i,t,v,h=>by
  unfold argsE look at h
  split at h
  ·rename_i hb
   obtain rfl:=Nat.eq_of_beq_eq_true hb
   exact ⟨Nat.le_refl _,by simpa using h⟩
  ·obtain ⟨h1,h2⟩:=VG vs (i+1) t v h
   refine ⟨by omega,?_⟩
   rw [show t - i=(t - (i+1))+1 by omega]
   simpa using h2
theorem spec_of {f:FuncId} {fn:Func} {c:Code} {vs:List Value} {post:Post} {nt:Nat} (hf:prog.funcs[f]? = some fn) (hb:fn.body=some c) (hnt:fn.ntmps=nt) (hle:Nat.ble vs.length nt=true)
  (t:∀G w hp,Wk nt ⟨none,G,w,hp,[]⟩ [.c c] (bodyPost prog fn (post.holds G w hp)) (argsE 0 vs) F R):Spec prog f vs.toArray F R post:=by
 intro G w hp hsat
 refine (callsIn_wide (n:=0)).1 (callsIn_of_wp hf hb trivial ?_)
 refine t G w hp _ w ⟨?_,rfl,fun i v hv=>?_⟩ hsat
 ·have:=Nat.le_of_ble_eq_true hle
  simp [hnt];omega
 ·obtain ⟨_,h2⟩:=VG vs 0 i v hv
  simp only [Nat.sub_zero] at h2
  have hlt:i<vs.length:=(List.getElem?_eq_some_iff.1 h2).1
  simp only
  rw [Array.getElem?_append_left (by simpa using hlt)]
  simpa using h2
inductive ResOK (E:List (Nat×Value)) (R:List HP):List ResultVar→List Value→Prop
 | nil:ResOK E R [] []
 | tmp {t:Nat} {v:Value} {rs:List ResultVar} {vs:List Value} (h:look E t=some v) (n:ResOK E R rs vs):ResOK E R (.tmp t::rs) (v::vs)
 | cell {a t:Nat} {v:Value} {rs:List ResultVar} {vs:List Value} {b off:Nat} {cs:Array Value} {ty:TypeId} {fzn:Nat×Nat} {R0:List HP} (h:look E a=some (.pointer (some ⟨b,off,none⟩))) (s:Sel (Pt b (.cells cs ty fzn)) R R0) (hv:ldv t cs.toList off=some v)
   (n:ResOK E R rs vs):ResOK E R (.cell a t::rs) (v::vs)
def resV:List Value→Value
 | [v]=>v
 | vs=>.tuple vs.toArray
theorem resOK_ok {C:Cx} {a:Act} {w:World} (ha:Agree n C.ds (look E) a) (hs:Sat C.G C.w0 C.hp0 F R w) {rs:List ResultVar} {vs:List Value} (h:ResOK E R rs vs) :
  (rs.mapM (fun | .tmp t=>pure (a.tmps.getD t undef) | .cell a' t=>do loadVar t (←asAddr (a.tmps.getD a' undef))):Sem (List Value)).run prog w = .ok vs w:=by
 induction h with
 | nil=>rfl
 | @tmp t v rs vs h n ih=>
  have:=ha.slots t v h
  simp only [List.mapM_cons,Sem.run_bind,Sem.run_pure,Result.andThen,ih]
  simp [this]
 | @cell a' t v rs vs b off cs ty fzn R0 h s hv n ih=>
  have h1:=ha.slots a' _ h
  have h2:=Yp (hs.pt s) hv
  have h3:a.tmps.getD a' undef = .pointer (some ⟨b,off,none⟩):=by simp [h1]
  have h4:(do loadVar t (←asAddr (a.tmps.getD a' undef)):Sem Value).run prog w = .ok v w:=by
   rw [h3];simp only [Sem.run_bind,asAddr,Sem.run_pure,Result.andThen,h2]
  simp only [List.mapM_cons]
  rw [Sem.run_bind]
  change Result.andThen (Sem.run prog (do loadVar t (←asAddr (a.tmps.getD a' undef)):Sem Value) w) _=_
  rw [h4]
  simp only [Result.andThen]
  rw [Sem.run_bind,ih]
  rfl
theorem results_ok {C:Cx} {fn:Func} {a:Act} {w:World} {vs:List Value} (ha:Agree n C.ds (look E) a) (hs:Sat C.G C.w0 C.hp0 F R w) (hr:ResOK E R fn.results.toList vs):(results fn a.tmps).run prog w = .ok (resV vs) w:=by
 have h2:=resOK_ok ha hs hr
 unfold results
 have h3:(fn.results.mapM (fun | .tmp t=>pure (a.tmps.getD t undef) | .cell a' t=>do loadVar t (←asAddr (a.tmps.getD a' undef))):Sem (Array Value)).run prog w = .ok vs.toArray w:=by
  rw [←Array.toArray_toList (xs:=fn.results),List.mapM_toArray]
  show Sem.run _ (Sem.bind _ _) w=_
  rw [Sem.run_bind',h2];rfl
 rw [Sem.run_bind]
 change Result.andThen (Sem.run prog (fn.results.mapM (fun | .tmp t=>pure (a.tmps.getD t undef) | .cell a' t=>do loadVar t (←asAddr (a.tmps.getD a' undef)))) w) _=_
 rw [h3]
 simp only [Result.andThen,Sem.run_pure]
 congr 1
 match vs with
 | []=>simp [resV]
 | [x]=>simp [resV]
 | x::y::l=>simp [resV]
def noR:List Fr→Bool
 | []=>true
 | .c _::k=>noR k
 | .b _::k=>noR k
 | .r _::_=>false
theorem Yl {r:Option Nat} {a:Act} {w:World}:∀{k:List Fr},noR k=true→after r k Q .ret a w=Q .ret a w
 | [],_=>rfl
 | .c _::k,h=>Yl (k:=k) h
 | .b _::k,h=>Yl (k:=k) h
def Wret (n:Nat) (C:Cx) (Q:Exit→Act→World→Prop) (E:List (Nat×Value)) (F:List Pf) (R:List HP):Prop:=
 ∀a w,Agree n C.ds (look E) a→Sat C.G C.w0 C.hp0 F R w→Q .ret a w
theorem Zz (t:Wret n C Q E F R) (h:nf 1000 k = .c .ret::k':=by rfl) (hn:noR k'=true:=by rfl):Wk n C k Q E F R:=fun a w ha hs=>YQ 1000 k (by
 rw [h]
 refine wpIn_ret ?_
 rw [Yl hn]
 exact t a w ha hs)
theorem Z5 {X:Type} {iE:X→List (Nat×Value)} {iF:X→List Pf} {iR:X→List HP} {μ:X→Nat} {x:X} (t:Wret n C Q E F R) (hn:noR k'=true:=by rfl):Wret n C (LQ n C k' Q iE iF iR μ x) E F R:=fun a w ha hs=>by
 show after C.r k' Q .ret a w
 rw [Yl hn]
 exact t a w ha hs
theorem Zg {fn:Func} {post:Post} {G:H} {w0:World} {hp0:H} {r:Option Nat} (xx:post.X) {vs:List Value} (hv:resV vs=post.val xx) (hp:post.pure xx)
  (hr:ResOK E R fn.results.toList vs:=by (repeat (first|exact ResOK.nil|exact Sel.here|apply Sel.there|exact rfl|apply ResOK.tmp|apply ResOK.cell));first|done|fail)
  (hF:EntF F (post.F xx):=by (repeat (first|exact trivial|exact Sel.here|apply Sel.there|apply EntF.cons));first|done|fail)
  (hR:Sels (post.R xx) R R0:=by (repeat (first|exact Sels.nil|exact Sel.here|apply Sel.there|apply Sels.cons));first|done|fail) :
  Wret n ⟨r,G,w0,hp0,[]⟩ (bodyPost prog fn (post.holds G w0 hp0)) E F R:=fun a w ha hs=>by
  have h2:=resOK_ok ha hs hr
  refine ⟨ha.defers,resV vs,?_,xx,by rw [hv],hp,((hs.sels hR).facts (F':=post.F xx) hF.all).res fun _ h=>YL h⟩
  unfold results
  have h3:(fn.results.mapM (fun | .tmp t=>pure (a.tmps.getD t undef) | .cell a' t=>do loadVar t (←asAddr (a.tmps.getD a' undef))):Sem (Array Value)).run prog w = .ok vs.toArray w:=by
   rw [←Array.toArray_toList (xs:=fn.results),List.mapM_toArray]
   show Sem.run _ (Sem.bind _ _) w=_
   rw [Sem.run_bind',h2];rfl
  rw [Sem.run_bind]
  change Result.andThen (Sem.run prog (fn.results.mapM (fun | .tmp t=>pure (a.tmps.getD t undef) | .cell a' t=>do loadVar t (←asAddr (a.tmps.getD a' undef)))) w) _=_
  rw [h3]
  simp only [Result.andThen,Sem.run_pure]
  congr 1
  match vs with
  | []=>simp [resV]
  | [x]=>simp [resV]
  | x::y::l=>simp [resV]
theorem ZD {fn:Func} {post:Post} {G:H} {w0:World} {hp0:H} {r:Option Nat} (xx:post.X) {vs:List Value} (hv:resV vs=post.val xx) (hp:post.pure xx)
  (hr:ResOK E R fn.results.toList vs:=by (repeat (first|exact ResOK.nil|exact Sel.here|apply Sel.there|exact rfl|apply ResOK.tmp|apply ResOK.cell));first|done|fail)
  (hF:EntF F (post.F xx):=by (repeat (first|exact trivial|exact Sel.here|apply Sel.there|apply EntF.cons));first|done|fail)
  (hR:Sels (post.R xx) R R0:=by (repeat (first|exact Sels.nil|exact Sel.here|apply Sel.there|apply Sels.cons));first|done|fail)
  (h:nf 1000 k = .c .ret::k':=by rfl) (hn:noR k'=true:=by rfl):Wk n ⟨r,G,w0,hp0,[]⟩ k (bodyPost prog fn (post.holds G w0 hp0)) E F R:=Zz (Zg xx hv hp hr hF hR) h hn
theorem Zw {fn:Func} {post:Post} {G:H} {w0:World} {hp0:H} {r:Option Nat} (xx:post.X) (hv:.tuple #[]=post.val xx) (hp:post.pure xx) (hres:fn.results = #[]:=by rfl)
  (hF:EntF F (post.F xx):=by (repeat (first|exact trivial|exact Sel.here|apply Sel.there|apply EntF.cons));first|done|fail)
  (hR:Sels (post.R xx) R R0:=by (repeat (first|exact Sels.nil|exact Sel.here|apply Sel.there|apply Sels.cons));first|done|fail)
  (h:nf 1000 k=[]:=by rfl):Wk n ⟨r,G,w0,hp0,[]⟩ k (bodyPost prog fn (post.holds G w0 hp0)) E F R:=fun a w ha hs=>YQ 1000 k (by
  rw [h]
  refine ⟨ha.defers,.tuple #[],?_,xx,by rw [hv],hp,((hs.sels hR).facts (F':=post.F xx) hF.all).res fun _ h=>YL h⟩
  exact results_none hres a.tmps _ w)
theorem ZE {f:FuncId} {fn:Func} {c:Code} (vs:List Value) {post:Post} {nt:Nat} {F:List Pf} {R:List HP} (hf:prog.funcs[f]? = some fn) (hnt:fn.ntmps=nt)
  (t : ∀ G w hp, Wk nt ⟨none, G, w, hp, []⟩ [.c c] (bodyPost prog fn (post.holds G w hp)) (argsE 0 vs) F R) (hq : (fn.name == "runtime.NumGoroutine") = false := by kernel_rfl) (hb : fn.body = some c := by rfl) (hle : Nat.ble vs.length nt = true := by rfl) : Enters f ∧ Spec prog f vs.toArray F R post :=
 ⟨enters_of hf hq hb,spec_of (vs:=vs) hf hb hnt hle t⟩
end
variable {Fs:List Pf} {Rs N N':List HP} {L L':List (Nat×Nat)} {Tl:List Nat} {i:Nat}
section
variable {v:Value}
def Wr (n:Nat) (C:Cx) (ops:List Oper) (k:List Fr) (Q:Exit→Act→World→Prop) (Tl:List Nat) (Fs:List Pf) (R:List HP) (L:List (Nat×Nat)) (E:List (Nat×Value)) (F:List Pf) (N:List HP):Prop:=
 ∀hp hr w,SatAt C.G C.w0 C.hp0 Fs R w hp hr→∀hz,Sub (un hr hp) hz→WS prog tab n C.ds ops.toArray hz (WSEnd prog C.r n C.ds ops.toArray (un C.G hr) C.w0 hp (after C.r k Q) Tl) L (look E) F N
theorem ZI {l:List Oper} (id:Nat) (Rm:List HP) (L:List (Nat×Nat)) (Tl:List Nat) (t:Wr n C l k' Q Tl F Rs L E F Rm) (hsel:Sels Rm R Rs:=by (repeat (first|exact Sels.nil|exact Sel.here|apply Sel.there|apply Sels.cons));first|done|fail)
  (h:nf 1000 k = .c (.region id l.toArray true)::k':=by rfl) (hok:(okW l.toArray (Region.before l.toArray) L Tl && dstsOK n l.toArray)=true:=by decide +kernel):Wk n C k Q E F R:=
 fun a w ha hs=>YQ 1000 k (by
  rw [h]
  obtain ⟨hp,hr,st⟩:=hs.sels hsel
  obtain ⟨h1,h2,d12,s1,s2,hA,hR⟩:=YV st.r
  have st2:SatAt C.G C.w0 C.hp0 F Rs w hp h2:=⟨st.inp,st.inr.sub s2,st.ing,(st.d1.symm.sub s2).symm,st.d2,st.d3.sub s2,st.sub,st.f,hR,st.same⟩
  have sat0:Sat (un C.G h2) C.w0 hp F Rm w:=⟨hp,h1,st.inp,st.inr.sub s1,In.un st.ing (st.inr.sub s2),(st.d1.symm.sub s1).symm,(Zh.2 ⟨st.d2.symm,st.d1.symm.sub s2⟩).symm,
   (Zh.2 ⟨(st.d3.sub s1).symm,d12.symm⟩).symm,Sub.refl _,st.f,hA,st.same⟩
  have hsub:Sub (un h2 hp) (un (un C.G h2) hp):=fun c o e=>by
   rcases un_or e with e|e
   ·exact ZL _ _ c o (ZN (st.d3.sub s2).symm c o e)
   ·exact ZN (Zh.2 ⟨st.d2.symm,st.d1.symm.sub s2⟩) c o e
  exact wp_region_S L Tl ZR mixed_ok hok hsub ha sat0 (t hp h2 w st2 _ (Sub.refl _)))
theorem Z6 {o:Oper} {kd:Nat} (ho:nth ops i=some o) (t:∀hp hr w,SatAt C.G C.w0 C.hp0 Fs R w hp hr→∀hz,Sub (un hr hp) hz→match wantF ops.toArray (look E) o with
  | none=>False
  | some false=>WS prog tab n C.ds ops.toArray hz (WSEnd prog C.r n C.ds ops.toArray (un C.G hr) C.w0 hp (after C.r k Q) Tl) L (upd (look E) o.dst undef) F N
  | some true=>match kd with
   | 0=>∃v,(∀a w,Agree n C.ds (look E) a→In hz w→(execOp a.eval o).run prog w = .ok (.value v) w)∧WS prog tab n C.ds ops.toArray hz (WSEnd prog C.r n C.ds ops.toArray (un C.G hr) C.w0 hp (after C.r k Q) Tl) L (upd (look E) o.dst v) F N
   | 1=>∃obj mk,allocOf tab (look E) o.op=some (obj,mk)∧∀b,WS prog tab n C.ds ops.toArray hz (WSEnd prog C.r n C.ds ops.toArray (un C.G hr) C.w0 hp (after C.r k Q) Tl) L (upd (look E) o.dst (mk b)) F (Pt b obj::N)
   | 2=>∃obj mk,allocOf tab (look E) o.op=some (obj,mk)∧∀b,hz b=none→WS prog tab n C.ds ops.toArray (un (one b obj) hz) (WSEnd prog C.r n C.ds ops.toArray (un C.G hr) C.w0 hp (after C.r k Q) Tl) L (upd (look E) o.dst (mk b)) F N
   | 3=>∃v,(∀a G w hp',Agree n C.ds (look E) a→Sub hz (un G hp')→Sat G w hp' F N w→(execOp a.eval o).run prog w = .ok (.value v) w)∧WS prog tab n C.ds ops.toArray hz (WSEnd prog C.r n C.ds ops.toArray (un C.G hr) C.w0 hp (after C.r k Q) Tl) L (upd (look E) o.dst v) F N
   | 4=>∃post:Post,(∀a G w hp',Agree n C.ds (look E) a→Sub hz (un G hp')→Sat G w hp' F N w→OpRes prog (execOp a.eval o) w fun v w'=>∃x,v=post.val x∧post.pure x∧Sat G w hp' (post.F x) (post.R x) w')∧
     ∀x,post.pure x→WS prog tab n C.ds ops.toArray hz (WSEnd prog C.r n C.ds ops.toArray (un C.G hr) C.w0 hp (after C.r k Q) Tl) L (upd (look E) o.dst (post.val x)) (post.F x) (post.R x)
   | 5=>∃post:Post,(∀a G w hp',Agree n C.ds (look E) a→Sub hz (un G hp')→Sat G w hp' F N w→OpRes prog (execOp a.eval o) w fun v w'=>∃x,v=post.val x∧post.pure x∧Sat G w hp' (post.F x) (post.R x) w')∧
     (∀x,post.pure x→WS prog tab n C.ds ops.toArray hz (WSEnd prog C.r n C.ds ops.toArray (un C.G hr) C.w0 hp (after C.r k Q) Tl) L (upd (look E) o.dst (post.val x)) (post.F x) (post.R x))∧
     ∀x,post.pure x→(∀hp,(∀f ∈ post.F x,f.p hp)→∀f ∈ F,f.p hp)∧(post.R x).Perm N
   | _=>False) :
  Wr n C ops k Q Tl Fs R ((i,kd)::L) E F N:=by
 intro hp hr w st hz sb o' ho'
 rw [YW] at ho
 simp only [List.getElem?_toArray] at ho'
 obtain rfl:o'=o:=Option.some.inj (ho'.symm.trans ho)
 exact t hp hr w st hz sb
def rst (ops:List Oper) (i kd:Nat) (E:List (Nat×Value)):Option (List (Nat×Value)):=
 match nth ops i with
 | none=>none
 | some o=>match o.dst,wantL ops E o with
  | some d,some false=>some ((d,undef)::E)
  | some d,some true=>match kd with
   | 0=>match qv tab (ev E) o.op with
    | some v=>some ((d,v)::E)
    | none=>none
   | _=>none
  | _,_=>none
def rsu (ops:List Oper) (i kd:Nat) (E:List (Nat×Value)):Option (List (Nat×Value)):=
 match nth ops i with
 | none=>none
 | some o=>match o.guard with
  | none=>rst ops i kd E
  | some _=>none
theorem rsu_ok {ops:List Oper} {i kd:Nat} {E E':List (Nat×Value)} (h:rsu ops i kd E=some E'):rst ops i kd E=some E':=by
 unfold rsu at h
 split at h
 ·cases h
 ·split at h
  ·exact h
  ·cases h
def rgo (ops:List Oper):List (Nat×Nat)→List (Nat×Value)→QR (List (Nat×Nat))
 | [],E=>.mk E []
 | (i,kd)::L,E=>match rsu ops i kd E with
  | some E'=>rgo ops L E'
  | none=>.mk E ((i,kd)::L)
def rrun (ops:List Oper) (L:List (Nat×Nat)) (E:List (Nat×Value)):QR (List (Nat×Nat)):=
 match L with
 | []=>.no
 | (i,kd)::L=>match rsu ops i kd E with
  | some E'=>rgo ops L E'
  | none=>.no
theorem rst_ok {kd:Nat} (h:rst ops i kd E=some E') (t:Wr n C ops k Q Tl Fs R L E' F N):Wr n C ops k Q Tl Fs R ((i,kd)::L) E F N:=by
 unfold rst at h
 split at h
 ·cases h
 ·rename_i o ho
  split at h
  ·rename_i d hd hw
   obtain rfl:=Option.some.inj h
   refine Z6 ho fun hp hr w st hz sb=>?_
   simp only [ZW hw]
   rw [hd]
   exact t hp hr w st hz sb
  ·rename_i d hd hw
   split at h
   ·split at h
    ·rename_i v hv
     obtain rfl:=Option.some.inj h
     refine Z6 ho fun hp hr w st hz sb=>?_
     simp only [ZW hw]
     refine ⟨v,fun a w ha _=>qv_ok ZR hv (ρ:=a.eval) (fun x _ u hu=>ha.ev (by rw [ZF];exact hu)) w,?_⟩
     rw [hd]
     exact t hp hr w st hz sb
    ·cases h
   ·cases h
  ·cases h
theorem rgo_ok:∀(L:List (Nat×Nat)) (E E':List (Nat×Value)) (L':List (Nat×Nat)),rgo ops L E = .mk E' L'→Wr n C ops k Q Tl Fs R L' E' F N→Wr n C ops k Q Tl Fs R L E F N
 | [],_,_,_,h,t=>by injection h with h1 h2;subst h1 h2;exact t
 | (i,kd)::L,E,E',L',h,t=>by
  unfold rgo at h
  split at h
  ·rename_i E1 hE
   exact rst_ok (rsu_ok hE) (rgo_ok L E1 E' L' h t)
  ·injection h with h1 h2;subst h1 h2;exact t
theorem r_run (t:Wr n C ops k Q Tl Fs R L' E' F N) (h:rrun ops L E = .mk E' L':=by rfl):Wr n C ops k Q Tl Fs R L E F N:=by
 unfold rrun at h
 split at h
 ·cases h
 ·split at h
  ·rename_i E1 hE
   exact rst_ok (rsu_ok hE) (rgo_ok _ _ _ _ h t)
  ·cases h
theorem r_one {kd:Nat} (t:Wr n C ops k Q Tl Fs R L E' F N) (h:rst ops i kd E=some E':=by rfl):Wr n C ops k Q Tl Fs R ((i,kd)::L) E F N:=rst_ok h t
theorem ZS {d kd:Nat} {b:Bool} {o:Oper} (ht:b=true→Wr n C ops k Q Tl Fs R ((i,kd)::L) ((d,.bool true)::E) F N) (hf:b=false→Wr n C ops k Q Tl Fs R ((i,kd)::L) ((d,.bool false)::E) F N)
  (_ho:nth ops i=some o:=by rfl) (_hg:guardOf ops o=some d:=by rfl) (hb:look E d=some (.bool b):=by rfl) (_hop:Opn b:=by (fail_if_success exact opn_t);(fail_if_success exact opn_f);exact Opn.mk _):Wr n C ops k Q Tl Fs R ((i,kd)::L) E F N:=fun hp hr w st hz sb=>by
 have e:look ((d,.bool b)::E)=look E:=by
  funext t
  rw [Yn]
  by_cases hdt:d=t
  ·subst hdt;rw [XQ,hb]
  ·rw [Y1 _ _ hdt]
 cases b with
 | true=>have:=ht rfl hp hr w st hz sb;rw [e] at this;exact this
 | false=>have:=hf rfl hp hr w st hz sb;rw [e] at this;exact this
theorem stat_pt {hp hr:H} {w:World} (st:SatAt C.G C.w0 C.hp0 Fs R w hp hr) {o:Obj} (s:Sel (Pt b o) R R0):un hr hp b=some o:=by
 obtain ⟨h1,h2,_,s1,_,hx,_⟩:=s.sep st.r
 exact ZL _ _ b o (s1 b o hx)
theorem stat_blk {hp hr:H} {w:World} {F0:List Pf} (st:SatAt C.G C.w0 C.hp0 Fs R w hp hr) {o:Obj} (s:Sel (Blk b o) Fs F0):un hr hp b=some o:=
 ZN st.d1.symm b o (st.f _ s.mem)
theorem r_ld (nx:Wr n C ops k Q Tl Fs R L ((d,v)::E) F N) (ho:nth ops i=some ⟨some d,.load t x,ty0,pos,aft,gd⟩:=by rfl) (hw:wantL ops E ⟨some d,.load t x,ty0,pos,aft,gd⟩=some true:=by rfl)
  (hx:ev E x=some (.pointer (some ⟨b,off,none⟩)):=by rfl) (hs:Sel (Pt b (.cells cs ty fzn)) R R0:=by (repeat (first|exact Sel.here|apply Sel.there));first|done|fail) (hv:ldv t cs.toList off=some v:=by rfl) :
  Wr n C ops k Q Tl Fs R ((i,0)::L) E F N:=
 Z6 ho fun hp hr w st hz sb=>by
  simp only [ZW hw]
  refine ⟨v,fun a w ha hin=>?_,nx hp hr w st hz sb⟩
  have hr:=Yp (hin _ _ (sb _ _ (stat_pt st hs))) hv
  simp only [execOp,Instr.loadAt,ha.ev (by rw [ZF];exact hx),Instr.sureAddr,Sem.run_bind,Sem.run_pure,Result.andThen,hr]
theorem r_ldF {F0:List Pf} (nx:Wr n C ops k Q Tl Fs R L ((d,v)::E) F N) (ho:nth ops i=some ⟨some d,.load t x,ty0,pos,aft,gd⟩:=by rfl) (hw:wantL ops E ⟨some d,.load t x,ty0,pos,aft,gd⟩=some true:=by rfl)
  (hx:ev E x=some (.pointer (some ⟨b,off,none⟩)):=by rfl) (hs:Sel (Blk b (.cells cs ty fzn)) Fs F0:=by (repeat (first|exact Sel.here|apply Sel.there));first|done|fail) (hv:ldv t cs.toList off=some v:=by rfl) :
  Wr n C ops k Q Tl Fs R ((i,0)::L) E F N:=
 Z6 ho fun hp hr w st hz sb=>by
  simp only [ZW hw]
  refine ⟨v,fun a w ha hin=>?_,nx hp hr w st hz sb⟩
  have hr:=Yp (hin _ _ (sb _ _ (stat_blk st hs))) hv
  simp only [execOp,Instr.loadAt,ha.ev (by rw [ZF];exact hx),Instr.sureAddr,Sem.run_bind,Sem.run_pure,Result.andThen,hr]
theorem r_ldN (nx:Wr n C ops k Q Tl Fs R L ((d,v)::E) F N) (ho:nth ops i=some ⟨some d,.load t x,ty0,pos,aft,gd⟩:=by rfl) (hw:wantL ops E ⟨some d,.load t x,ty0,pos,aft,gd⟩=some true:=by rfl)
  (hx:ev E x=some (.pointer (some ⟨b,off,none⟩)):=by rfl) (hs:Sel (Pt b (.cells cs ty fzn)) N N':=by (repeat (first|exact Sel.here|apply Sel.there));first|done|fail) (hv:ldv t cs.toList off=some v:=by rfl) :
  Wr n C ops k Q Tl Fs R ((i,3)::L) E F N:=
 Z6 ho fun hp hr w st hz sb=>by
  simp only [ZW hw]
  refine ⟨v,fun a G w hp' ha hsub hsat=>?_,nx hp hr w st hz sb⟩
  have hr:=Yp (hsat.pt hs) hv
  simp only [execOp,Instr.loadAt,ha.ev (by rw [ZF];exact hx),Instr.sureAddr,Sem.run_bind,Sem.run_pure,Result.andThen,hr]
theorem r_up (t:Wr n C ops k Q Tl Fs R ((i,0)::L) E F N):Wr n C ops k Q Tl Fs R ((i,3)::L) E F N:=fun hp hr w st hz sb o ho=>by
 have h:=t hp hr w st hz sb o ho
 cases hw:wantF ops.toArray (look E) o with
 | none=>simp only [hw] at h
 | some b=>
  cases b with
  | false=>simp only [hw] at h ⊢;exact h
  | true=>
   simp only [hw] at h ⊢
   obtain ⟨v,h1,h2⟩:=h
   exact ⟨v,fun a G w hp' ha hsub hsat=>h1 a w ha (hsat.stat hsub),h2⟩
theorem r_q {op:Op} (hq:∀a w,Agree n C.ds (look E) a→(execOp a.eval ⟨some d,op,ty0,pos,aft,gd⟩).run prog w = .ok (.value v) w) (nx:Wr n C ops k Q Tl Fs R L ((d,v)::E) F N)
  (ho:nth ops i=some ⟨some d,op,ty0,pos,aft,gd⟩:=by rfl) (hw:wantL ops E ⟨some d,op,ty0,pos,aft,gd⟩=some true:=by rfl):Wr n C ops k Q Tl Fs R ((i,0)::L) E F N:=
 Z6 ho fun hp hr w st hz sb=>by
  simp only [ZW hw]
  exact ⟨v,fun a w ha _=>hq a w ha,nx hp hr w st hz sb⟩
theorem r_al {op:Op} {obj:Obj} (nx:∀b,Wr n C ops k Q Tl Fs R L ((d,.pointer (some ⟨b,0,none⟩))::E) F (Pt b obj::N)) (ho:nth ops i=some ⟨some d,op,ty0,pos,aft,gd⟩:=by rfl) (hw:wantL ops E ⟨some d,op,ty0,pos,aft,gd⟩=some true:=by rfl)
  (ha:allocOf tab (look E) op=some (obj,fun b=>.pointer (some ⟨b,0,none⟩)):=by rfl):Wr n C ops k Q Tl Fs R ((i,1)::L) E F N:=
 Z6 ho fun hp hr w st hz sb=>by
  simp only [ZW hw]
  exact ⟨_,_,ha,fun b=>nx b hp hr w st hz sb⟩
theorem r_bs {op:Op} {obj:Obj} {m:Nat} (nx:∀b,Wr n C ops k Q Tl Fs R L ((d,.slice (some ⟨b,0,none⟩) m m)::E) F (Pt b obj::N)) (ho:nth ops i=some ⟨some d,op,ty0,pos,aft,gd⟩:=by rfl) (hw:wantL ops E ⟨some d,op,ty0,pos,aft,gd⟩=some true:=by rfl)
  (ha:allocOf tab (look E) op=some (obj,fun b=>.slice (some ⟨b,0,none⟩) m m):=by rfl):Wr n C ops k Q Tl Fs R ((i,1)::L) E F N:=
 Z6 ho fun hp hr w st hz sb=>by
  simp only [ZW hw]
  exact ⟨_,_,ha,fun b=>nx b hp hr w st hz sb⟩
theorem ZK {f:FuncId} {args:Array Operand} {tys:Array TypeId} {vs:List Value} {post:Post} (spec:Enters f∧Spec prog f vs.toArray F1 A post)
  (nx:∀x,post.pure x→Wr n C ops k Q Tl Fs R L ((d,post.val x)::E) (post.F x++F) (post.R x++N')) (ho:nth ops i=some ⟨some d,.call ⟨.value (.func f),args,tys⟩,ty0,pos,aft,gd⟩:=by rfl)
  (hw:wantL ops E ⟨some d,.call ⟨.value (.func f),args,tys⟩,ty0,pos,aft,gd⟩=some true:=by rfl) (hargs:evs (ev E) args.toList some=some vs:=by rfl)
  (sel:Sels A N N':=by (repeat (first|exact Sels.nil|exact Sel.here|apply Sel.there|apply Sels.cons));first|done|fail)
  (hF:EntF F F1:=by (repeat (first|exact trivial|exact Sel.here|apply Sel.there|apply EntF.cons));first|done|fail):Wr n C ops k Q Tl Fs R ((i,4)::L) E F N:=
 Z6 ho fun hp hr w st hz sb=>by
  simp only [ZW hw]
  refine ⟨⟨post.X,post.val,post.pure,fun x=>post.F x++F,fun x=>post.R x++N'⟩,fun a G w hp' ha hsub hsat=>?_,fun x hx=>nx x hx hp hr w st hz sb⟩
  unfold OpRes
  rw [V3 spec.1 hargs ha w]
  exact YU spec.2 hsat sel hF.all fun x w' hx hs'=>⟨x,rfl,hx,hs'⟩
theorem Vx {f:FuncId} {args:Array Operand} {tys:Array TypeId} {vs:List Value} {post:Post} (spec:Enters f∧Spec prog f vs.toArray F1 [] post)
  (nx:∀x,post.pure x→Wr n C ops k Q Tl Fs R L ((d,post.val x)::E) (post.F x++F) N) (ho:nth ops i=some ⟨some d,.call ⟨.value (.func f),args,tys⟩,ty0,pos,aft,gd⟩:=by rfl)
  (hw:wantL ops E ⟨some d,.call ⟨.value (.func f),args,tys⟩,ty0,pos,aft,gd⟩=some true:=by rfl) (hargs:evs (ev E) args.toList some=some vs:=by rfl) (hR:∀x,post.R x=[]:=by intro;rfl)
  (hF:EntF F F1:=by (repeat (first|exact trivial|exact Sel.here|apply Sel.there|apply EntF.cons));first|done|fail):Wr n C ops k Q Tl Fs R ((i,5)::L) E F N:=
 Z6 ho fun hp hr w st hz sb=>by
  simp only [ZW hw]
  refine ⟨⟨post.X,post.val,post.pure,fun x=>post.F x++F,fun x=>post.R x++N⟩,fun a G w hp' ha hsub hsat=>?_,fun x hx=>?_,fun x _=>⟨fun _ h f hf=>h f (List.mem_append_right _ hf),by show List.Perm (post.R x++N) N;rw [hR x];exact List.Perm.refl _⟩⟩
  ·unfold OpRes
   rw [V3 spec.1 hargs ha w]
   exact YU spec.2 hsat Sels.nil hF.all fun x w' hx hs'=>⟨x,rfl,hx,hs'⟩
  ·show WS _ _ _ _ _ _ _ _ _ _ (post.R x++N)
   rw [hR x]
   exact nx x hx hp hr w st hz sb
theorem r_st {cs':List Value} (nx:Wr n C ops k Q Tl Fs R L E F (Pt b (.cells cs'.toArray ty (0,0))::N')) (ho:nth ops i=some ⟨none,.store t x y,ty0,pos,aft,gd⟩:=by rfl) (hw:wantL ops E ⟨none,.store t x y,ty0,pos,aft,gd⟩=some true:=by rfl)
  (hx:ev E x=some (.pointer (some ⟨b,off,none⟩)):=by rfl) (hy:ev E y=some v:=by rfl) (hs:Sel (Pt b (.cells cs ty (0,0))) N N':=by (repeat (first|exact Sel.here|apply Sel.there));first|done|fail) (hv:stv t cs.toList off v=some cs':=by rfl) :
  Wr n C ops k Q Tl Fs R ((i,4)::L) E F N:=
 Z6 ho fun hp hr w st hz sb=>by
  simp only [ZW hw]
  refine ⟨⟨Unit,fun _=>undef,fun _=>True,fun _=>F,fun _=>Pt b (.cells cs'.toArray ty (0,0))::N'⟩,fun a G w hp' ha hsub hsat=>?_,fun _ _=>nx hp hr w st hz sb⟩
  obtain ⟨w',g1,g2,g3,g4⟩:=stv_ok (hsat.pt hs) hv
  unfold OpRes
  simp only [execOp,Instr.storeAt,ha.ev (x:=x) (by rw [ZF];exact hx),ha.ev (x:=y) (by rw [ZF];exact hy),Instr.sureAddr,Sem.run_bind,Sem.run_pure,Result.andThen,g1]
  exact ⟨(),trivial,trivial,(hsat.sel hs).write g3 g2 fun c hc _=>g4 c hc⟩
def tailF {β:Type} (ops:List Oper):List Nat→(List Oper→Option β)→Option β
 | [],k=>k []
 | i::l,k=>match nth ops i with
  | some o=>tailF ops l fun r=>k (o::r)
  | none=>none
theorem tailF_ok {β:Type} {ops:List Oper}:∀(Tl:List Nat) (k:List Oper→Option β) (v:β),tailF ops Tl k=some v→∃tl,k tl=some v∧∀(r:Option Nat) (Q:Exit→Act→World→Prop) (a:Act) (w:World),wpListIn (fz r) 0 prog ops.toArray Q tl a w→wpOpsIn (fz r) 0 prog ops.toArray Q Tl a w
 | [],k,v,h=>⟨[],h,fun _ _ _ _ h=>h⟩
 | i::Tl,k,v,h=>by
  unfold tailF at h
  split at h
  ·rename_i o ho
   rw [YW] at ho
   obtain ⟨tl,h1,h2⟩:=tailF_ok Tl _ v h
   refine ⟨o::tl,h1,fun r Q a w hw=>?_⟩
   have ho':ops.toArray[i]? = some o:=by simpa using ho
   unfold wpListIn at hw
   simp only [wpOpsIn,ho']
   split
   ·rename_i hwt
    rw [if_pos hwt] at hw
    exact Oper.wpIn_mono (fun a w h=>h2 r Q a w h) hw
   ·rename_i hwt
    rw [if_neg hwt] at hw
    exact ⟨hw.1,h2 _ _ _ _ hw.2⟩
  ·cases h
theorem r_end {tl:List Oper} (t:Wl n C ops.toArray k Q tl E F (N++R)) (h:tailF ops Tl some=some tl:=by rfl):Wr n C ops k Q Tl Fs R [] E F N:=by
 intro hp hr w st hz sb a w' ha hs
 obtain ⟨tl',h1,h2⟩:=tailF_ok Tl _ tl h
 obtain rfl:=Option.some.inj h1
 refine h2 _ _ _ _ (t a w' ha ?_)
 obtain ⟨hp',hn,t'⟩:=hs
 obtain ⟨d1,d2⟩:=Zh.1 t'.d3.symm
 obtain ⟨d3,d4⟩:=Zh.1 t'.d2.symm
 have dd:Dj hn hr:=d2.symm
 exact ⟨hp',un hn hr,t'.inp,In.un t'.inr (t'.ing.sub (ZN st.d3.symm)),t'.ing.sub (ZL _ _),(Zh.2 ⟨t'.d1.symm,d4⟩).symm,d3.symm,Zh.2 ⟨d1.symm,st.d3⟩,st.sub.trans t'.sub,t'.f,
  YI dd (ZL _ _) (ZN dd) t'.r st.r,t'.same⟩
theorem ZC {P Q:Prop} (q:Q) (h:Q→P:=by intro q;(first|refine l_run ?_|refine l_nil ?_|refine l_one ?_|refine k_reg ?_|refine l_ld ?_|refine l_ldF ?_|refine l_st ?_|refine k_condT ?_|refine k_condF ?_|refine r_run ?_|refine r_one ?_|refine r_ld ?_|refine r_ldF ?_|refine r_ldN ?_|refine r_st ?_|refine r_end ?_|fail);exact q):P:=h q
theorem ZH {P:Prop} {Q:Nat→Prop} (q:∀b,Q b) (h:(∀b,Q b)→P:=by intro q;(first|refine l_al ?_|refine l_bs ?_|refine r_al ?_|refine r_bs ?_|fail);exact q):P:=h q
end
variable {F0:List Pf}
section
variable {v:Value}
theorem l_q {op:Op} (hq:∀a w,Agree n C.ds (look E) a→(execOp a.eval ⟨some d,op,ty0,pos,aft,gd⟩).run prog w = .ok (.value v) w) (nx:Wl n C ops.toArray k Q l ((d,v)::E) F R)
  (hdf:∀c,op≠.defer c:=by intro c h;cases h) (hw:wantL ops E ⟨some d,op,ty0,pos,aft,gd⟩=some true:=by rfl) (hn:Nat.blt d n=true:=by rfl):Wl n C ops.toArray k Q (⟨some d,op,ty0,pos,aft,gd⟩::l) E F R:=
 Zn (fun t ht=>by cases ht;exact Nat.le_of_ble_eq_true hn) hdf hw fun a w ha hsat=>by
  unfold OpRes
  rw [hq a w ha]
  exact fun a' ha'=>nx a' w ha' hsat
theorem Zq {X:Type} {r:HP} {Lx:X→List HP} {p:X→Prop} (hs:Sel r R R0) (h:∀hh,r hh→∃x,p x∧Sep (Lx x) hh) (t:∀x,p x→Wk n C k Q E F (Lx x++R0)):Wk n C k Q E F R:=fun a w ha hsat=>by
 obtain ⟨hp,hr,st⟩:=hsat.sel hs
 obtain ⟨h1,h2,dd,s1,s2,hx,hR⟩:=st.r
 obtain ⟨x,hpx,hsx⟩:=h h1 hx
 exact t x hpx a w ha ⟨hp,hr,st.inp,st.inr,st.ing,st.d1,st.d2,st.d3,st.sub,st.f,YI dd s1 s2 hsx hR,st.same⟩
theorem ZO {r:HP} {Lx:List HP} (h:∀hh,Sep Lx hh→r hh) (t:Wk n C k Q E F (r::R0)) (hs:Sels Lx R R0:=by (repeat (first|exact Sels.nil|exact Sel.here|apply Sel.there|apply Sels.cons));first|done|fail):Wk n C k Q E F R:=fun a w ha hsat=>
 t a w ha ((hsat.sels hs).shut h)
theorem l_open {X:Type} {r:HP} {Lx:X→List HP} {p:X→Prop} (hs:Sel r R R0) (h:∀hh,r hh→∃x,p x∧Sep (Lx x) hh) (t:∀x,p x→Wl n C ops.toArray k Q l E F (Lx x++R0)):Wl n C ops.toArray k Q l E F R:=fun a w ha hsat=>by
 obtain ⟨hp,hr,st⟩:=hsat.sel hs
 obtain ⟨h1,h2,dd,s1,s2,hx,hR⟩:=st.r
 obtain ⟨x,hpx,hsx⟩:=h h1 hx
 exact t x hpx a w ha ⟨hp,hr,st.inp,st.inr,st.ing,st.d1,st.d2,st.d3,st.sub,st.f,YI dd s1 s2 hsx hR,st.same⟩
theorem l_shut {r:HP} {Lx:List HP} (h:∀hh,Sep Lx hh→r hh) (t:Wl n C ops.toArray k Q l E F (r::R0)) (hs:Sels Lx R R0:=by (repeat (first|exact Sels.nil|exact Sel.here|apply Sel.there|apply Sels.cons));first|done|fail):Wl n C ops.toArray k Q l E F R:=fun a w ha hsat=>
 t a w ha ((hsat.sels hs).shut h)
theorem Zm {X:Type} {f:Pf} {Fx:X→List Pf} {p:X→Prop} (hs:Sel f F F0) (h:∀hp,f.p hp→∃x,p x∧∀g ∈ Fx x,g.p hp) (t:∀x,p x→Wk n C k Q E (Fx x++F) R):Wk n C k Q E F R:=fun a w ha hsat=>by
 obtain ⟨hp,hr,st⟩:=hsat
 obtain ⟨x,hpx,hfx⟩:=h hp (st.f f hs.mem)
 refine t x hpx a w ha ⟨hp,hr,st.inp,st.inr,st.ing,st.d1,st.d2,st.d3,st.sub,fun g hg=>?_,st.r,st.same⟩
 rcases List.mem_append.1 hg with h|h
 ·exact hfx g h
 ·exact st.f g h
theorem l_fact {X:Type} {f:Pf} {Fx:X→List Pf} {p:X→Prop} (hs:Sel f F F0) (h:∀hp,f.p hp→∃x,p x∧∀g ∈ Fx x,g.p hp) (t:∀x,p x→Wl n C ops.toArray k Q l E (Fx x++F) R):Wl n C ops.toArray k Q l E F R:=fun a w ha hsat=>by
 obtain ⟨hp,hr,st⟩:=hsat
 obtain ⟨x,hpx,hfx⟩:=h hp (st.f f hs.mem)
 refine t x hpx a w ha ⟨hp,hr,st.inp,st.inr,st.ing,st.d1,st.d2,st.d3,st.sub,fun g hg=>?_,st.r,st.same⟩
 rcases List.mem_append.1 hg with h|h
 ·exact hfx g h
 ·exact st.f g h
def Row (T sz:Nat) (o:Option Addr) (m cap:Nat) (xs:List Value):HP:=fun h=>
 (o=none∧m=0∧cap=0∧xs=[])∨
 ∃b rest fz,o=some ⟨b,0,none⟩∧h b=some (.cells (xs++rest).toArray T fz)∧xs.length=m * sz∧(xs++rest).length=cap * sz∧m≤cap∧(fz=(0,0)∨(xs++rest).length≤fz.1)
theorem Zb (T sz:Nat) (h:H):Row T sz none 0 0 [] h:=.inl ⟨rfl,rfl,rfl,rfl⟩
def Src (F:List Pf) (R:List HP) (sz:Nat) (v:Value) (m:Nat) (ys:List Value):Prop:=
 (Builtin.lenOf v=pure m)∧∀G w0 hp0 w,Sat G w0 hp0 F R w→(Builtin.firstCells sz m v).run prog w = .ok ys.toArray w
theorem src_pt {sz m c:Nat} {ys:List Value} (hs:Sel (Pt b (.cells cs ty fzn)) R R0) (hy:(cs.toList.drop off).take (m * sz)=ys) (hle:off+m * sz≤cs.size):Src F R sz (.slice (some ⟨b,off,none⟩) m c) m ys:=
 ⟨rfl,fun G w0 hp0 w hsat=>by
  have h:=hsat.pt hs
  show (loadCells ⟨b,off,none⟩ (m * sz)).run prog w=_
  unfold loadCells
  rw [run_loadCells h off (m * sz) 0 #[] (by omega)]
  simp [←hy]⟩
theorem src_str (s:ByteArray):Src F R 1 (.string s) s.size (s.data.toList.map fun b=>.int .u8 b.toNat):=
 ⟨rfl,fun G w0 hp0 w _=>by
  show (pure _:Sem (Array Value)).run prog w=_
  rw [Sem.run_pure]
  congr 1
  rw [←Array.toList_inj]
  simp⟩
theorem src_row {T sz m cap:Nat} {o:Option Addr} {xs:List Value} (hs:Sel (Row T sz o m cap xs) R R0):Src F R sz (.slice o m cap) m xs:=
 ⟨rfl,fun G w0 hp0 w hsat=>by
  obtain ⟨hp,hr,st⟩:=hsat.sel hs
  obtain ⟨h1,h2,dj,s1,s2,hrow,hR⟩:=st.r
  rcases hrow with ⟨rfl,rfl,rfl,rfl⟩|⟨bb,rest,fz,rfl,hb,hxl,hcl,hmc,hfz⟩
  ·rfl
  ·have h:=st.inr _ _ (s1 _ _ hb)
   show (loadCells ⟨bb,0,none⟩ (m * sz)).run prog w=_
   unfold loadCells
   have hmul:m * sz≤cap * sz:=Nat.mul_le_mul_right _ hmc
   rw [run_loadCells h 0 (m * sz) 0 #[] (by simp at hcl ⊢;omega)]
   simp [←hxl]⟩
theorem row_len {T sz m cap:Nat} {o:Option Addr} {xs:List Value} {G:H} {w0 w:World} {hp0:H} (hs:Sel (Row T sz o m cap xs) R R0) (hsat:Sat G w0 hp0 F R w):xs.length=m * sz:=by
 obtain ⟨hp,hr,st⟩:=hsat.sel hs
 obtain ⟨h1,h2,dj,s1,s2,hrow,hR⟩:=st.r
 rcases hrow with ⟨rfl,rfl,rfl,rfl⟩|⟨bb,rest,fz,rfl,hb,hxl,hcl,hmc,hfz⟩
 ·simp
 ·exact hxl
def byt (l:List UInt8):List Value:=l.map fun b=>.int .u8 b.toNat
theorem VF (a b:List UInt8):byt (a++b)=byt a++byt b:=by simp [byt]
theorem one1_byt (l:List UInt8):(byt l).all YR=true:=by simp [byt,YR]
theorem row_zero {T sz b:Nat} (h:H) (hb:Sep [Pt b (.cells #[] T)] h):Row T sz (some ⟨b,0,none⟩) 0 0 [] h:=by
 obtain ⟨h1,_,_,s1,_,hx,_⟩:=hb
 exact .inr ⟨b,[],(0,0),rfl,s1 _ _ hx,by simp,by simp,Nat.le_refl _,.inl rfl⟩
theorem nextcap_le (need cap:Nat) (h:cap<need):Builtin.nextslicecap need cap≤2 * need+200:=by
 unfold Builtin.nextslicecap
 split
 ·omega
 ·split
  ·omega
  ·have gb:∀r c,c≤2 * need+200→Builtin.growBy need r c≤2 * need+200:=by
    intro r
    induction r with
    | zero=>intro c hc;exact hc
    | succ r ih=>
     intro c hc
     unfold Builtin.growBy
     split
     ·exact hc
     ·rename_i hlt
      exact ih _ (by omega)
   exact gb 4 cap (by omega)
theorem fzOK_frozen {w:World} {cs:List Value} {fz:Nat×Nat} (h:w.heap[b]? = some (.cells cs.toArray ty fz)) (hf:fz=(0,0)∨cs.length≤fz.1) (o:Nat) (ho:o<cs.length):w.frozen? ⟨b,o,none⟩=false:=by
 unfold World.frozen?
 rw [h]
 rcases hf with rfl|hf
 ·simp
 ·obtain ⟨lo,hi⟩:=fz
  simp at hf ⊢;omega
theorem Z0 {P:Program} {b:Nat} {ty:TypeId} {fz:Nat×Nat} (off:Nat):∀(vs:List Value) (i:Nat) (w:World) (cs:List Value),w.heap[b]? = some (.cells cs.toArray ty fz)→(fz=(0,0)∨cs.length≤fz.1)→vs.all YR=true→off+i+vs.length≤cs.length→
  ∃w',(storeCells ⟨b,off,none⟩ vs i).run P w = .ok () w'∧w'.heap[b]? = some (.cells (cs.take (off+i)++vs++cs.drop (off+i+vs.length)).toArray ty fz)∧Same w w'∧∀c,c≠b→w'.heap[c]? = w.heap[c]?
 | [],i,w,cs,h,_,_,_=>⟨w,rfl,by simpa using h,Same.refl _,fun _ _=>rfl⟩
 | v::vs,i,w,cs,h,hf,hv,hle=>by
  simp only [List.all_cons,Bool.and_eq_true] at hv
  simp only [List.length_cons] at hle
  have h0:(Addr.add ⟨b,off,none⟩ i)=⟨b,off+i,none⟩:=by
   unfold Addr.add
   split
   ·rename_i h0;subst h0;rfl
   ·rfl
  have hcell:w.cell? ⟨b,off+i,none⟩=some (cs[off+i]'(by omega)):=by
   unfold World.cell?
   rw [h];simp
  have hfz:=fzOK_frozen h hf (off+i) (by omega)
  have hst:(store (Addr.add ⟨b,off,none⟩ i) v).run P w = .ok () (w.setCell ⟨b,off+i,none⟩ v):=by
   rw [h0]
   unfold store
   cases v<;>first|(simp [YR] at hv;done)|(simp only [Sem.run,hcell,hfz];rfl)
  have hb':(w.setCell ⟨b,off+i,none⟩ v).heap[b]? = some (.cells (cs.set (off+i) v).toArray ty fz):=by
   simp only [World.setCell,Array.getElem?_modify,if_true,h]
   simp
  have hne:∀c,c≠b→(w.setCell ⟨b,off+i,none⟩ v).heap[c]? = w.heap[c]?:=fun c hc=>Below.heap_setCell w _ v c hc
  obtain ⟨w',h1,h2,h3,h4⟩:=Z0 (P:=P) off vs (i+1) _ (cs.set (off+i) v) hb' (by simpa using hf) hv.2 (by simp;omega)
  refine ⟨w',?_,?_,(⟨rfl,rfl,rfl,by simp [World.setCell]⟩:Same w (w.setCell _ v)).trans h3,fun c hc=>(h4 c hc).trans (hne c hc)⟩
  ·unfold storeCells
   simp only [Sem.run_bind,hst,Result.andThen]
   exact h1
  ·rw [h2]
   congr 3
   have e1:(cs.set (off+i) v).take (off+(i+1))=cs.take (off+i)++[v]:=by
    rw [show off+(i+1)=off+i+1 by omega,List.take_succ_eq_append_getElem (by simp;omega)]
    simp [List.take_set_of_le]
   have e2:(cs.set (off+i) v).drop (off+(i+1)+vs.length)=cs.drop (off+i+(v::vs).length):=by
    rw [List.drop_set_of_lt (by omega)]
    congr 1;simp;omega
   rw [e1,e2]
   simp
theorem zeroCells_len (z:Array Value) (m:Nat):(Builtin.zeroCells z m).size=m * z.size:=by simp [Builtin.zeroCells]
theorem append_ok {T sz bytes:Nat} {o:Option Addr} {m cap m2:Nat} {xs ys:List Value} {sv:Value} {ts tx:TypeId} {G:H} {w0 w:World} {hp0:H} {rs tr rx:TRow}
  (hts:lookT tab ts=some rs) (hrs:rs.k = .slice T) (hT:lookT tab T=some tr) (hsz:tr.size=sz) (hby:tr.bytes=bytes) (htx:lookT tab tx=some rx) (hnx:rx.k = .slice T∨rx.k = .str)
  (hsrc:Src F R sz sv m2 ys) (hys:ys.length=m2 * sz) (hone:ys.all YR=true) (hroom:(2 * (m+m2)+200) * bytes≤281474976710656) (hsel:Sel (Row T sz o m cap xs) R R0) (hsat:Sat G w0 hp0 F R w) (hb0:bytes≠0) :
  ∃o' cap' w',(Builtin.append_ #[ts,tx] ty0 #[.slice o m cap,sv]).run prog w = .ok (.slice o' (m+m2) cap') w'∧Sat G w0 hp0 F (Row T sz o' (m+m2) cap' (xs++ys)::R0) w':=by
 obtain ⟨d1,hd1,hk1⟩:=ZR.und hts
 rw [hrs] at hk1
 obtain ⟨dx,hdx,hkx⟩:=ZR.und htx
 have hu1:(underlying ts).run prog w = .ok (.slice T) w:=by
  cases d1<;>simp [chkKind] at hk1
  subst hk1
  simp [underlying,hd1,go_sem]
 have hux:(underlying tx).run prog w = .ok (.slice T) w∨(underlying tx).run prog w = .ok .string w:=by
  rcases hnx with h|h<;>rw [h] at hkx<;>cases dx<;>simp [chkKind] at hkx
  ·subst hkx;left;simp [underlying,hdx,go_sem]
  ·right;simp [underlying,hdx,go_sem]
 have hs1:=ZR.sizeOf hT w
 rw [hsz] at hs1
 obtain ⟨ti,_,tz,hti,_,htsz,htby,_,htz,htzc,htzl⟩:=ZR.row hT
 have htI:(typeInfo T).run prog w = .ok ti w:=by simp [typeInfo,hti,go_sem]
 obtain ⟨hlen,hfirst⟩:=hsrc
 have hf1:=hfirst G w0 hp0 w hsat
 have hsat2:=hsat.sel hsel
 obtain ⟨hp,hr,st⟩:=hsat2
 obtain ⟨h1,h2,dj,s1,s2,hrow,hR⟩:=st.r
 have hcase:∀bb rest fz,o=some ⟨bb,0,none⟩→h1 bb=some (.cells (xs++rest).toArray T fz)→w.heap[bb]? = some (.cells (xs++rest).toArray T fz)∧Sat G w0 hp0 F (Pt bb (.cells (xs++rest).toArray T fz)::R0) w:=fun bb rest fz _ hb=>
  ⟨st.inr _ _ (s1 _ _ hb),hp,hr,st.inp,st.inr,st.ing,st.d1,st.d2,st.d3,st.sub,st.f,⟨h1,h2,dj,s1,s2,hb,hR⟩,st.same⟩
 have hsatR:Sat G w0 hp0 F R0 w:=⟨hp,hr,st.inp,st.inr,st.ing,st.d1,st.d2,st.d3,st.sub,st.f,hR.sub s2,st.same⟩
 unfold Builtin.append_
 rcases hux with hux|hux
 all_goals
  simp only [List.getElem?_toArray,List.getElem?_cons_zero,List.getElem?_cons_succ,Sem.run_bind,hu1,Result.andThen,hs1,hux,hlen,Sem.run_pure,Bool.false_eq_true,if_false,Bool.not_false,if_true]
  by_cases hc:m+m2≤cap
  ·rw [if_pos hc]
   simp only [Sem.run_bind,hf1,Result.andThen]
   rcases hrow with ⟨rfl,rfl,rfl,rfl⟩|⟨bb,rest,fz,rfl,hb,hxl,hcl,hmc,hfz⟩
   ·obtain rfl:m2=0:=by omega
    have:ys=[]:=by simpa using hys
    subst this
    refine ⟨none,0,w,rfl,(hsatR.shut (L:=[]) (x:=Row T sz none (0+0) 0 ([]++[])) fun k _=>Zb T sz k)⟩
   ·obtain ⟨hwb,hsb⟩:=hcase bb rest fz rfl hb
    have hadd:(Addr.add ⟨bb,0,none⟩ (m * sz))=⟨bb,m * sz,none⟩:=by
     unfold Addr.add
     split
     ·rename_i h0;rw [h0]
     ·simp
    have hmul:(m+m2) * sz≤cap * sz:=Nat.mul_le_mul_right _ hc
    rw [Nat.add_mul] at hmul
    obtain ⟨w',g1,g2,g3,g4⟩:=Z0 (P:=prog) (m * sz) ys 0 w (xs++rest) hwb hfz hone (by rw [hcl,hys];omega)
    simp only [hadd,Sem.run_bind,g1,Result.andThen,Sem.run_pure]
    have e1:(xs++rest).take (m * sz+0)=xs:=by rw [Nat.add_zero,←hxl];simp
    have e2:(xs++rest).drop (m * sz+0+ys.length)=rest.drop ys.length:=by rw [Nat.add_zero,←hxl];simp
    rw [e1,e2] at g2
    refine ⟨some ⟨bb,0,none⟩,cap,w',rfl,?_⟩
    have hs3:=hsb.write g3 g2 fun c hc _=>g4 c hc
    refine hs3.shut (L:=[Pt bb _]) fun kk hk=>?_
    obtain ⟨k1,_,_,t1,_,hk1,_⟩:=hk
    have hlr:(rest.drop ys.length).length=rest.length - ys.length:=by simp
    have hrl:xs.length+rest.length=cap * sz:=by simpa using hcl
    refine .inr ⟨bb,rest.drop ys.length,fz,rfl,t1 _ _ hk1,by simp [hxl,hys,Nat.add_mul],?_,hc,?_⟩
    ·simp;omega
    ·rcases hfz with h|h
     ·exact .inl h
     ·right;simp at h ⊢;omega
  ·rw [if_neg hc]
   have hbp:bytes≠0:=hb0
   have hcl:cap<m+m2:=by omega
   have hnc:=nextcap_le (m+m2) cap hcl
   have hbig:¬Builtin.nextslicecap (m+m2) cap * ti.bytes > 2 ^ 48:=by
    rw [htby,hby]
    have:=Nat.mul_le_mul_right bytes hnc
    omega
   simp only [Sem.run_bind,htI,Result.andThen,false_or]
   rw [if_neg (by rw [htby,hby];exact fun h=>hbp h.2)]
   simp only [Sem.run_bind,htI,Result.andThen]
   rw [if_neg hbig]
   obtain ⟨nc,hnc1,hnc2⟩:∃nc,(choose (.appendCap (m+m2) cap T)).run prog w = .ok nc {w with drawn:=w.drawn+1}∧m+m2≤nc:=⟨_,rfl,by simp [Question.cut]⟩
   have hx:Ext w {w with drawn:=w.drawn+1}:=(Below.refl _ w).drew
   have hask:∀q w,(askRoom q).run prog w = .ok () w:=fun q w=>by unfold askRoom;split<;>rfl
   have htI2:∀w,(typeInfo T).run prog w = .ok ti w:=fun w=>by simp [typeInfo,hti,go_sem]
   have hz2:∀w,(zeroValue T).run prog w = .ok tz w:=fun w=>by simp [zeroValue,typeInfo,hti,htz,go_sem]
   have hf2:=hfirst G w0 hp0 _ (hsat.ext hx)
   have hold:(Builtin.firstCells sz m (.slice o m cap)).run prog {w with drawn:=w.drawn+1} = .ok xs.toArray {w with drawn:=w.drawn+1}:=by
    rcases hrow with ⟨rfl,rfl,rfl,rfl⟩|⟨bb,rest,fz,rfl,hb,hxl,hcl,hmc,hfz⟩
    ·rfl
    ·obtain ⟨hwb,_⟩:=hcase bb rest fz rfl hb
     show (loadCells ⟨bb,0,none⟩ (m * sz)).run prog _=_
     unfold loadCells
     have hmul:m * sz≤cap * sz:=Nat.mul_le_mul_right _ hmc
     rw [run_loadCells (ext_blk hx hwb) 0 (m * sz) 0 #[] (by simp at hcl ⊢;omega)]
     simp [←hxl]
   simp only [Sem.run_bind,hnc1,Result.andThen,htI2,hask,hold,hf2,hz2,run_newRow,Sem.run_pure]
   refine ⟨_,_,_,rfl,?_⟩
   have hs3:=((hsatR.ext hx).alloc (.cells (xs.toArray++ys.toArray++Builtin.zeroCells tz.cells (nc - (m+m2))) T))
   refine hs3.shut (L:=[Pt _ _]) fun kk hk=>?_
   obtain ⟨k1,_,_,t1,_,hk1,_⟩:=hk
   have hzl:tz.cells.size=sz:=by rw [←hsz,←htzl,←htzc];simp
   have hxl:xs.length=m * sz:=by
    rcases hrow with ⟨rfl,rfl,rfl,rfl⟩|⟨_,_,_,_,_,h,_⟩
    ·simp
    ·exact h
   refine .inr ⟨_,(Builtin.zeroCells tz.cells (nc - (m+m2))).toList,(0,0),rfl,?_,by simp [hxl,hys,Nat.add_mul],?_,hnc2,.inl rfl⟩
   ·have hk2:=t1 _ _ hk1
    rw [hk2]
    have he:xs.toArray++ys.toArray++Builtin.zeroCells tz.cells (nc - (m+m2))=(xs++ys++(Builtin.zeroCells tz.cells (nc - (m+m2))).toList).toArray:=by
     rw [←Array.toList_inj];simp
    rw [he]
   ·simp only [List.length_append,hxl,hys,Array.length_toList,zeroCells_len,hzl]
    rw [←Nat.add_mul,←Nat.add_mul,show m+m2+(nc - (m+m2))=nc by omega]
theorem Vu {T sz bytes:Nat} {o:Option Addr} {m cap m2:Nat} {xs ys:List Value} {sv:Value} {ts tx:TypeId} {G:H} {w0 w:World} {hp0:H} {rs tr rx:TRow} {dst:Option Nat} {a:Act} {ds:List Deferred}
  (ha:Agree n ds (look E) a) (hx:ev E x=some (.slice o m cap)) (hy:ev E y=some sv)
  (hts:lookT tab ts=some rs) (hrs:rs.k = .slice T) (hT:lookT tab T=some tr) (hsz:tr.size=sz) (hby:tr.bytes=bytes) (htx:lookT tab tx=some rx) (hnx:rx.k = .slice T∨rx.k = .str)
  (hsrc:Src F R sz sv m2 ys) (hys:ys.length=m2 * sz) (hone:ys.all YR=true) (hroom:(2 * (m+m2)+200) * bytes≤281474976710656) (hsel:Sel (Row T sz o m cap xs) R R0) (hsat:Sat G w0 hp0 F R w) (hb0:bytes≠0) :
  OpRes prog (execOp a.eval ⟨dst,.call ⟨.builtin .append,#[x,y],#[ts,tx]⟩,ty0,pos,aft,gd⟩) w fun v w'=>∃o' cap',v = .slice o' (m+m2) cap'∧Sat G w0 hp0 F (Row T sz o' (m+m2) cap' (xs++ys)::R0) w':=by
 obtain ⟨o',cap',w',h1,h2⟩:=append_ok (ty0:=ty0) hts hrs hT hsz hby htx hnx hsrc hys hone hroom hsel hsat hb0
 unfold OpRes
 have e1:=ha.ev (x:=x) (by rw [ZF];exact hx)
 have e2:=ha.ev (x:=y) (by rw [ZF];exact hy)
 simp only [execOp,resolve,Sem.run_bind,Sem.run_pure,Result.andThen,invoke,builtin,List.map_toArray,List.map_cons,List.map_nil,e1,e2,h1]
 exact ⟨o',cap',rfl,h2⟩
theorem Zs {T sz bytes:Nat} {o:Option Addr} {m cap m2 c:Nat} {xs:List Value} {ts tx:TypeId} {rs tr rx:TRow} {R1:List HP}
  (nx:∀o' cap',Wl n C ops.toArray k Q l ((d,.slice o' (m+m2) cap')::E) F (Row T sz o' (m+m2) cap' (xs++cs.toList)::R0))
  (hw:wantL ops E ⟨some d,.call ⟨.builtin .append,#[x,y],#[ts,tx]⟩,ty0,pos,aft,gd⟩=some true:=by rfl) (hn:Nat.blt d n=true:=by rfl) (hx:ev E x=some (.slice o m cap):=by rfl) (hy:ev E y=some (.slice (some ⟨b,0,none⟩) m2 c):=by rfl)
  (hts:lookT tab ts=some rs:=by rfl) (hrs:rs.k = .slice T:=by rfl) (hT:lookT tab T=some tr:=by rfl) (hsz:tr.size=sz:=by rfl) (hby:tr.bytes=bytes:=by rfl) (htx:lookT tab tx=some rx:=by rfl) (hnx:rx.k = .slice T:=by rfl)
  (hs:Sel (Pt b (.cells cs ty fzn)) R R1:=by (repeat (first|exact Sel.here|apply Sel.there));first|done|fail) (hrow:Sel (Row T sz o m cap xs) R R0:=by (repeat (first|exact Sel.here|apply Sel.there));first|done|fail)
  (hys:cs.toList.length=m2 * sz:=by rfl) (hone:cs.toList.all YR=true:=by rfl) (hb0:bytes≠0:=by decide) (hroom:(2 * (m+m2)+200) * bytes≤281474976710656:=by simp<;>omega):Wl n C ops.toArray k Q (⟨some d,.call ⟨.builtin .append,#[x,y],#[ts,tx]⟩,ty0,pos,aft,gd⟩::l) E F R:=
 Zn (fun t ht=>by cases ht;exact Nat.le_of_ble_eq_true hn) (fun c hc=>by cases hc) hw fun a w ha hsat=>
  (Vu ha hx hy hts hrs hT hsz hby htx (.inl hnx) (src_pt (F:=F) hs (by rw [←hys,List.drop_zero,List.take_length]) (by simp at hys;omega)) hys hone hroom hrow hsat hb0).mono fun v w' ⟨o',cap',hv,hs'⟩ a' ha'=>by
   subst hv;exact nx o' cap' a' w' ha' hs'
theorem Xd {T sz bytes:Nat} {o:Option Addr} {m cap m2 c:Nat} {xs:List Value} {ts tx:TypeId} {rs tr rx:TRow} {R1:List HP}
  (nx:∀o' cap',Wr n C ops k Q Tl Fs R L ((d,.slice o' (m+m2) cap')::E) F (Row T sz o' (m+m2) cap' (xs++cs.toList)::N'))
  (ho:nth ops i=some ⟨some d,.call ⟨.builtin .append,#[x,y],#[ts,tx]⟩,ty0,pos,aft,gd⟩:=by rfl) (hw:wantL ops E ⟨some d,.call ⟨.builtin .append,#[x,y],#[ts,tx]⟩,ty0,pos,aft,gd⟩=some true:=by rfl) (hx:ev E x=some (.slice o m cap):=by rfl) (hy:ev E y=some (.slice (some ⟨b,0,none⟩) m2 c):=by rfl)
  (hts:lookT tab ts=some rs:=by rfl) (hrs:rs.k = .slice T:=by rfl) (hT:lookT tab T=some tr:=by rfl) (hsz:tr.size=sz:=by rfl) (hby:tr.bytes=bytes:=by rfl) (htx:lookT tab tx=some rx:=by rfl) (hnx:rx.k = .slice T:=by rfl)
  (hs:Sel (Pt b (.cells cs ty fzn)) N R1:=by (repeat (first|exact Sel.here|apply Sel.there));first|done|fail) (hrow:Sel (Row T sz o m cap xs) N N':=by (repeat (first|exact Sel.here|apply Sel.there));first|done|fail)
  (hys:cs.toList.length=m2 * sz:=by rfl) (hone:cs.toList.all YR=true:=by rfl) (hb0:bytes≠0:=by decide) (hroom:(2 * (m+m2)+200) * bytes≤281474976710656:=by simp<;>omega):Wr n C ops k Q Tl Fs R ((i,4)::L) E F N:=
 Z6 ho fun hp hr w st hz sb=>by
  simp only [ZW hw]
  refine ⟨⟨Option Addr×Nat,fun q=>.slice q.1 (m+m2) q.2,fun _=>True,fun _=>F,fun q=>Row T sz q.1 (m+m2) q.2 (xs++cs.toList)::N'⟩,fun a G w hp' ha hsub hsat=>?_,fun q _=>nx q.1 q.2 hp hr w st hz sb⟩
  exact (Vu ha hx hy hts hrs hT hsz hby htx (.inl hnx) (src_pt (F:=F) hs (by rw [←hys,List.drop_zero,List.take_length]) (by simp at hys;omega)) hys hone hroom hrow hsat hb0).mono fun v w' ⟨o',cap',hv,hs'⟩=>⟨(o',cap'),hv,trivial,hs'⟩
theorem l_appR {T sz bytes:Nat} {o o2:Option Addr} {m cap m2 c:Nat} {xs ys:List Value} {ts tx:TypeId} {rs tr rx:TRow} {R1:List HP}
  (nx:∀o' cap',Wl n C ops.toArray k Q l ((d,.slice o' (m+m2) cap')::E) F (Row T sz o' (m+m2) cap' (xs++ys)::R0))
  (hw:wantL ops E ⟨some d,.call ⟨.builtin .append,#[x,y],#[ts,tx]⟩,ty0,pos,aft,gd⟩=some true:=by rfl) (hn:Nat.blt d n=true:=by rfl) (hx:ev E x=some (.slice o m cap):=by rfl) (hy:ev E y=some (.slice o2 m2 c):=by rfl)
  (hts:lookT tab ts=some rs:=by rfl) (hrs:rs.k = .slice T:=by rfl) (hT:lookT tab T=some tr:=by rfl) (hsz:tr.size=sz:=by rfl) (hby:tr.bytes=bytes:=by rfl) (htx:lookT tab tx=some rx:=by rfl) (hnx:rx.k = .slice T:=by rfl)
  (hs:Sel (Row T sz o2 m2 c ys) R R1:=by (repeat (first|exact Sel.here|apply Sel.there));first|done|fail) (hrow:Sel (Row T sz o m cap xs) R R0:=by (repeat (first|exact Sel.here|apply Sel.there));first|done|fail)
  (hone:ys.all YR=true:=by first|rfl|exact one1_byt _) (hb0:bytes≠0:=by decide) (hroom:(2 * (m+m2)+200) * bytes≤281474976710656:=by simp<;>omega):Wl n C ops.toArray k Q (⟨some d,.call ⟨.builtin .append,#[x,y],#[ts,tx]⟩,ty0,pos,aft,gd⟩::l) E F R:=
 Zn (fun t ht=>by cases ht;exact Nat.le_of_ble_eq_true hn) (fun c hc=>by cases hc) hw fun a w ha hsat=>
  (Vu ha hx hy hts hrs hT hsz hby htx (.inl hnx) (src_row (F:=F) hs) (row_len hs hsat) hone hroom hrow hsat hb0).mono fun v w' ⟨o',cap',hv,hs'⟩ a' ha'=>by
   subst hv;exact nx o' cap' a' w' ha' hs'
theorem l_appS {T bytes:Nat} {o:Option Addr} {m cap:Nat} {s:ByteArray} {xs:List Value} {ts tx:TypeId} {rs tr rx:TRow}
  (nx:∀o' cap',Wl n C ops.toArray k Q l ((d,.slice o' (m+s.size) cap')::E) F (Row T 1 o' (m+s.size) cap' (xs++s.data.toList.map fun b=>.int .u8 b.toNat)::R0))
  (hw:wantL ops E ⟨some d,.call ⟨.builtin .append,#[x,y],#[ts,tx]⟩,ty0,pos,aft,gd⟩=some true:=by rfl) (hn:Nat.blt d n=true:=by rfl) (hx:ev E x=some (.slice o m cap):=by rfl) (hy:ev E y=some (.string s):=by rfl)
  (hts:lookT tab ts=some rs:=by rfl) (hrs:rs.k = .slice T:=by rfl) (hT:lookT tab T=some tr:=by rfl) (hsz:tr.size=1:=by rfl) (hby:tr.bytes=bytes:=by rfl) (htx:lookT tab tx=some rx:=by rfl) (hnx:rx.k = .str:=by rfl)
  (hrow:Sel (Row T 1 o m cap xs) R R0:=by (repeat (first|exact Sel.here|apply Sel.there));first|done|fail) (hb0:bytes≠0:=by decide) (hroom:(2 * (m+s.size)+200) * bytes≤281474976710656:=by simp<;>omega):Wl n C ops.toArray k Q (⟨some d,.call ⟨.builtin .append,#[x,y],#[ts,tx]⟩,ty0,pos,aft,gd⟩::l) E F R:=
 Zn (fun t ht=>by cases ht;exact Nat.le_of_ble_eq_true hn) (fun c hc=>by cases hc) hw fun a w ha hsat=>
  (Vu ha hx hy hts hrs hT hsz hby htx (.inr hnx) (src_str s) (by simp) (by rw [List.all_map];exact List.all_eq_true.2 fun _ _=>rfl) hroom hrow hsat hb0).mono fun v w' ⟨o',cap',hv,hs'⟩ a' ha'=>by
   subst hv;exact nx o' cap' a' w' ha' hs'
end
section
variable {k1 k2:List Fr}
theorem Zj {X:Type} {c:Code} (iE:X→List (Nat×Value)) (iF:X→List Pf) (iR:X→List HP) (μ:X→Nat) (x0:X) (he:EntE E (iE x0))
  (t:∀x,Wk n C [.c c] (LQ n C k' Q iE iF iR μ x) (iE x) (iF x) (iR x)) (h:nf 1000 k = .c (.loop c)::k':=by rfl)
  (hf:EntF F (iF x0):=by (repeat (first|exact trivial|exact Sel.here|apply Sel.there|apply EntF.cons));first|done|fail) (hr:Sels (iR x0) R R0:=by (repeat (first|exact Sels.nil|exact Sel.here|apply Sel.there|apply Sels.cons));first|done|fail):Wk n C k Q E F R:=
 k_loop iE iF iR μ x0 h he hf hr t
variable {X:Type} {iE:X→List (Nat×Value)} {iF:X→List Pf} {iR:X→List HP} {μ:X→Nat} {x:X}
theorem ZJ (y:X) (hμ:μ y<μ x) (he:EntE E (iE y)) (h:nf 1000 k=[]:=by rfl)
  (hf:EntF F (iF y):=by (repeat (first|exact trivial|exact Sel.here|apply Sel.there|apply EntF.cons));first|done|fail) (hr:Sels (iR y) R R0:=by (repeat (first|exact Sels.nil|exact Sel.here|apply Sel.there|apply Sels.cons));first|done|fail) :
  Wk n C k (LQ n C k' Q iE iF iR μ x) E F R:=fun a w ha hs=>YQ 1000 k (by
  rw [h]
  exact ⟨y,hμ,ha.weaken he,((hs.sels hr).facts (F':=iF y) hf.all).res fun _ h=>YL h⟩)
theorem VN {r:Option Nat} {a:Act} {w:World} {id:Nat}:∀{k:List Fr},noR k=true→pop id k=none→Q (.exit id) a w→after r k Q (.exit id) a w
 | [],_,_,h=>h
 | .c _::k,hn,hp,h=>VN (k:=k) hn hp h
 | .b j::k,hn,hp,h=>by
  unfold pop at hp
  split at hp
  ·cases hp
  ·rename_i hb
   have hne:id≠j:=Nat.ne_of_beq_eq_false hb
   simp only [after,if_neg hne]
   exact VN (k:=k) hn hp h
theorem ZM {id:Nat} (t:Wk n C k2 Q E F R) (h:nf 1000 k = .c (.exit id)::k1:=by rfl) (hp:pop id k1=none:=by rfl) (hp2:pop id k'=some k2:=by rfl) (hn:noR k1=true:=by rfl):Wk n C k (LQ n C k' Q iE iF iR μ x) E F R:=fun a w ha hs=>YQ 1000 k (by
  rw [h]
  exact wpIn_exit (VN hn hp (pop_ok hp2 (t a w ha hs))))
theorem YD {X Y:Type} {c:Code} {id:Nat} (iE:X→List (Nat×Value)) (iF:X→List Pf) (iR:X→List HP) (μ:X→Nat) (xE:Y→List (Nat×Value)) (xF:Y→List Pf) (xR:Y→List HP) (x0:X) (he:EntE E (iE x0))
  (t2:∀y,Wk n C k2 Q (xE y) (xF y) (xR y)) (t:(∀y,Wk n C k2 Q (xE y) (xF y) (xR y))→∀x,Wk n C [.c c] (LQ n C (.b id::k2) Q iE iF iR μ x) (iE x) (iF x) (iR x)) (h:nf 1000 k = .c (.loop c)::.b id::k2:=by rfl)
  (hf:EntF F (iF x0):=by (repeat (first|exact trivial|exact Sel.here|apply Sel.there|apply EntF.cons));first|done|fail) (hr:Sels (iR x0) R R0:=by (repeat (first|exact Sels.nil|exact Sel.here|apply Sel.there|apply Sels.cons));first|done|fail):Wk n C k Q E F R:=
 k_loop iE iF iR μ x0 h he hf hr (t t2)
theorem Z2 {Y:Type} {id:Nat} {xE:Y→List (Nat×Value)} {xF:Y→List Pf} {xR:Y→List HP} (hx:∀y,Wk n C k2 Q (xE y) (xF y) (xR y)) (y:Y) (he:EntE E (xE y)) (h:nf 1000 k = .c (.exit id)::k1:=by rfl) (hp:pop id k1=none:=by rfl) (hn:noR k1=true:=by rfl)
  (hf:EntF F (xF y):=by (repeat (first|exact trivial|exact Sel.here|apply Sel.there|apply EntF.cons));first|done|fail) (hr:Sels (xR y) R R0:=by (repeat (first|exact Sels.nil|exact Sel.here|apply Sel.there|apply Sels.cons));first|done|fail) :
  Wk n C k (LQ n C (.b id::k2) Q iE iF iR μ x) E F R:=
 ZM (k_drop he hf hr (hx y)) h hp (by simp [pop]) hn
end
section
variable {v:Value}
def Sl {α:Type} (_T:Nat) (f:α→List Value) (o:Option Addr) (cap:Nat) (es:List α):Pf:=
 ⟨fun h=>es.length≤cap∧(es=[]∨∃(b:Nat) (cs:Array Value) (fz:Nat×Nat×Nat) (pre post:List Value),o=some ⟨b,pre.length,none⟩∧h b=some (.cells cs fz.1 fz.2)∧cs.toList=pre++(es.flatMap f++post)),
  fun _ _ s ⟨hc,h⟩=>⟨hc,h.imp id fun ⟨b,cs,fz,pre,post,h1,h2,h3⟩=>⟨b,cs,fz,pre,post,h1,s _ _ h2,h3⟩⟩⟩
def Cel (_T b off:Nat) (xs:List Value):Pf:=
 ⟨fun h=>∃(cs:Array Value) (fz:Nat×Nat×Nat) (pre post:List Value),h b=some (.cells cs fz.1 fz.2)∧cs.toList=pre++(xs++post)∧off=pre.length,fun _ _ s ⟨cs,fz,pre,post,h1,h2⟩=>⟨cs,fz,pre,post,s _ _ h1,h2⟩⟩
theorem XM {α:Type} {f:α→List Value}:∀{es:List α} {i:Nat} {e:α},es[i]? = some e→es.flatMap f=(es.take i).flatMap f++(f e++(es.drop (i+1)).flatMap f)
 | [],_,_,h=>by simp at h
 | _::es,0,_,h=>by obtain rfl:=Option.some.inj h;simp
 | _::es,i+1,_,h=>by
  have:=XM (f:=f) (es:=es) (i:=i) (by simpa using h)
  simp [this]
theorem Za {α:Type} {f:α→List Value} {sz:Nat} (hf:∀e,(f e).length=sz):∀(es:List α),(es.flatMap f).length=es.length * sz
 | []=>by simp
 | e::es=>by
  have:=Za hf es
  rw [List.flatMap_cons,List.length_append,hf,this,List.length_cons,Nat.add_mul,Nat.one_mul,Nat.add_comm]
theorem XY {β:Type}:∀(l post:List Value) (o m:Nat) (k:List Value→Option β) (v:β),cutF l o m k=some v→cutF (l++post) o m k=some v
 | l,post,o,0,k,v,h=>by unfold cutF at h ⊢;exact h
 | [],post,o,m+1,k,v,h=>by simp [cutF] at h
 | x::l,post,0,m+1,k,v,h=>by
  simp only [cutF,List.cons_append] at h ⊢
  exact XY l post 0 m _ v h
 | x::l,post,o+1,m+1,k,v,h=>by
  simp only [cutF,List.cons_append] at h ⊢
  exact XY l post o (m+1) _ v h
theorem VH {β:Type}:∀(pre l:List Value) (o m:Nat) (k:List Value→Option β),cutF (pre++l) (pre.length+o) m k=cutF l o m k
 | [],l,o,m,k=>by simp
 | x::pre,l,o,0,k=>by unfold cutF;rfl
 | x::pre,l,o,m+1,k=>by
  rw [List.length_cons,show pre.length+1+o=(pre.length+o)+1 by omega]
  simp only [List.cons_append,cutF]
  exact VH pre l o (m+1) k
theorem ldv_in {pre xs post:List Value} {o:Nat} (h:ldv t xs o=some v):ldv t (pre++(xs++post)) (pre.length+o)=some v:=by
 have hn:∀{v},nth xs o=some v→nth (pre++(xs++post)) (pre.length+o)=some v:=fun {v} h=>by
  rw [YW] at h ⊢
  rw [List.getElem?_append_right (by omega),show pre.length+o - pre.length=o by omega]
  rw [List.getElem?_append_left (List.getElem?_eq_some_iff.1 h).1];exact h
 unfold ldv at h ⊢
 split at h
 ·rename_i hr;rw [VH];exact XY _ _ _ _ _ _ h
 ·rename_i hr;rw [VH];exact XY _ _ _ _ _ _ h
 ·cases h
 ·exact hn h
 ·cases h
theorem sl_at {α:Type} {T sz:Nat} {f:α→List Value} {o:Option Addr} {cap i:Nat} {es:List α} {e:α} {h:H} (hs:(Sl T f o cap es).p h) (he:es[i]? = some e) (hsz:∀e,(f e).length=sz) :
  ∃b off,o.map (·.add (i * sz))=some ⟨b,off,none⟩∧(Cel T b off (f e)).p h:=by
 obtain ⟨_,rfl|⟨b,cs,fz,pre,post,rfl,hb,hcs⟩⟩:=hs
 ·simp at he
 ·have hi:=(List.getElem?_eq_some_iff.1 he).1
  refine ⟨b,pre.length+i * sz,?_,cs,fz,pre++(es.take i).flatMap f,(es.drop (i+1)).flatMap f++post,hb,?_,?_⟩
  ·simp only [Option.map_some,Option.some.injEq]
   unfold Addr.add
   split
   ·rename_i h0;rw [h0];rfl
   ·rfl
  ·rw [hcs,XM (f:=f) he];simp
  ·rw [List.length_append,Za hsz,List.length_take,Nat.min_eq_left (by omega)]
theorem XW {T sz:Nat} {o:Option Addr} {m cap i:Nat} {w:World} {rs tr:TRow} (hts:lookT tab t=some rs) (hrs:rs.k = .slice T) (hT:lookT tab T=some tr) (hsz:tr.size=sz) {z:Int} (hz:z=(i:Int)) (hi:i<m) {p:Addr} (ho:o.map (·.add (i * sz))=some p) :
  (Instr.indexAt t (.slice o m cap) (.int .i64 z)).run prog w = .ok (.pointer (some p)) w:=by
 obtain ⟨d1,hd1,hk1⟩:=ZR.und hts
 rw [hrs] at hk1
 have hu1:(underlying t).run prog w = .ok (.slice T) w:=by
  cases d1<;>simp [chkKind] at hk1
  subst hk1
  simp [underlying,hd1,go_sem]
 have hs1:=ZR.sizeOf hT w
 rw [hsz] at hs1
 cases o with
 | none=>cases ho
 | some a=>
  subst hz
  simp only [Option.map_some,Option.some.injEq] at ho
  unfold Instr.indexAt
  simp only [asIntOf,Sem.run_bind,Sem.run_pure,Result.andThen,hu1]
  have hc:(0:Int)≤(i:Int)∧(i:Int)<((m:Nat):Int):=⟨by omega,by omega⟩
  rw [if_pos hc]
  simp only [Sem.run_bind,hs1,Result.andThen,Sem.run_pure,Int.toNat_natCast,ho]
theorem ZU {α:Type} {T sz:Nat} {f:α→List Value} {o:Option Addr} {m cap:Nat} {es:List α} {z:Int} {rs tr:TRow} (i:Nat) (e:α) (he:es[i]? = some e)
  (nx:∀b off,Wl n C ops.toArray k Q l ((d,.pointer (some ⟨b,off,none⟩))::E) (Cel T b off (f e)::F) R)
  (hw:wantL ops E ⟨some d,.indexAddr t x y,ty0,pos,aft,gd⟩=some true:=by rfl) (hn:Nat.blt d n=true:=by rfl) (hx:ev E x=some (.slice o m cap):=by rfl) (hy:ev E y=some (.int .i64 z):=by rfl)
  (hs:Sel (Sl T f o cap es) F F0:=by (repeat (first|exact Sel.here|apply Sel.there));first|done|fail) (hts:lookT tab t=some rs:=by rfl) (hrs:rs.k = .slice T:=by rfl) (hT:lookT tab T=some tr:=by rfl) (hsz:tr.size=sz:=by rfl) (hf:∀e,(f e).length=sz:=by intro;rfl)
  (hm:m=es.length:=by rfl) (hz:z=(i:Int):=by first|rfl|omega):Wl n C ops.toArray k Q (⟨some d,.indexAddr t x y,ty0,pos,aft,gd⟩::l) E F R:=
 Zn (fun t ht=>by cases ht;exact Nat.le_of_ble_eq_true hn) (fun c hc=>by cases hc) hw fun a w ha hsat=>by
  obtain ⟨hp,hr,st⟩:=hsat
  obtain ⟨b,off,h1,h2⟩:=sl_at (st.f _ hs.mem) he hf
  have hi:=(List.getElem?_eq_some_iff.1 he).1
  have hr1:=XW (m:=m) (cap:=cap) (w:=w) hts hrs hT hsz hz (by rw [hm];exact hi) h1
  unfold OpRes
  simp only [execOp,ha.ev (x:=x) (by rw [ZF];exact hx),ha.ev (x:=y) (by rw [ZF];exact hy),Sem.run_bind,Result.andThen,hr1,Sem.run_pure]
  exact fun a' ha'=>nx b off a' w ha' ⟨hp,hr,st.inp,st.inr,st.ing,st.d1,st.d2,st.d3,st.sub,fun g hg=>(List.mem_cons.1 hg).elim (fun h=>h ▸ h2) (st.f g),st.r,st.same⟩
theorem Zo {α:Type} {T sz:Nat} {f:α→List Value} {o:Option Addr} {m cap:Nat} {es:List α} {z:Int} {rs tr:TRow} (j:Nat) (e:α) (he:es[j]? = some e)
  (nx:∀b off,Wr n C ops k Q Tl (Cel T b off (f e)::Fs) R L ((d,.pointer (some ⟨b,off,none⟩))::E) F N)
  (ho:nth ops i=some ⟨some d,.indexAddr t x y,ty0,pos,aft,gd⟩:=by rfl) (hw:wantL ops E ⟨some d,.indexAddr t x y,ty0,pos,aft,gd⟩=some true:=by rfl) (hx:ev E x=some (.slice o m cap):=by rfl) (hy:ev E y=some (.int .i64 z):=by rfl)
  (hs:Sel (Sl T f o cap es) Fs F0:=by (repeat (first|exact Sel.here|apply Sel.there));first|done|fail) (hts:lookT tab t=some rs:=by rfl) (hrs:rs.k = .slice T:=by rfl) (hT:lookT tab T=some tr:=by rfl) (hsz:tr.size=sz:=by rfl) (hf:∀e,(f e).length=sz:=by intro;rfl)
  (hm:m=es.length:=by rfl) (hz:z=(j:Int):=by first|rfl|omega):Wr n C ops k Q Tl Fs R ((i,0)::L) E F N:=fun hp hr w st hz' sb=>by
 obtain ⟨b,off,h1,h2⟩:=sl_at (st.f _ hs.mem) he hf
 have hi:=(List.getElem?_eq_some_iff.1 he).1
 have st':SatAt C.G C.w0 C.hp0 (Cel T b off (f e)::Fs) R w hp hr:=⟨st.inp,st.inr,st.ing,st.d1,st.d2,st.d3,st.sub,fun g hg=>(List.mem_cons.1 hg).elim (fun h=>h ▸ h2) (st.f g),st.r,st.same⟩
 refine Z6 (L:=L) (Fs:=Cel T b off (f e)::Fs) ho (fun hp hr w st hz2 sb=>?_) hp hr w st' hz' sb
 simp only [ZW hw]
 refine ⟨.pointer (some ⟨b,off,none⟩),fun a w ha hin=>?_,nx b off hp hr w st hz2 sb⟩
 have hr1:=XW (m:=m) (cap:=cap) (w:=w) hts hrs hT hsz hz (by rw [hm];exact hi) h1
 simp only [execOp,ha.ev (x:=x) (by rw [ZF];exact hx),ha.ev (x:=y) (by rw [ZF];exact hy),Sem.run_bind,Result.andThen,hr1,Sem.run_pure]
theorem l_ix {α:Type} {T sz:Nat} {f:α→List Value} {o:Option Addr} {m cap:Nat} {z:Int} {rs tr:TRow} (es:List α) (i:Nat) (hlt:i<es.length)
  (nx:∀b off,Wl n C ops.toArray k Q l ((d,.pointer (some ⟨b,off,none⟩))::E) (Cel T b off (f es[i])::F) R)
  (hw:wantL ops E ⟨some d,.indexAddr t x y,ty0,pos,aft,gd⟩=some true:=by rfl) (hn:Nat.blt d n=true:=by rfl) (hx:ev E x=some (.slice o m cap):=by rfl) (hy:ev E y=some (.int .i64 z):=by rfl)
  (hs:Sel (Sl T f o cap es) F F0:=by (repeat (first|exact Sel.here|apply Sel.there));first|done|fail) (hts:lookT tab t=some rs:=by rfl) (hrs:rs.k = .slice T:=by rfl) (hT:lookT tab T=some tr:=by rfl) (hsz:tr.size=sz:=by rfl) (hf:∀e,(f e).length=sz:=by intro;rfl)
  (hm:m=es.length:=by rfl) (hz:z=(i:Int):=by first|rfl|omega):Wl n C ops.toArray k Q (⟨some d,.indexAddr t x y,ty0,pos,aft,gd⟩::l) E F R:=
 ZU i es[i] (List.getElem?_eq_getElem hlt) nx hw hn hx hy hs hts hrs hT hsz hf hm hz
theorem ZQ {T b off off' o:Nat} {xs:List Value} (nx:Wl n C ops.toArray k Q l ((d,v)::E) F R) (hw:wantL ops E ⟨some d,.load t x,ty0,pos,aft,gd⟩=some true:=by rfl) (hn:Nat.blt d n=true:=by rfl)
  (hx:ev E x=some (.pointer (some ⟨b,off',none⟩)):=by rfl) (hs:Sel (Cel T b off xs) F F0:=by (repeat (first|exact Sel.here|apply Sel.there));first|done|fail) (ho:off'=off+o:=by first|exact (Nat.add_zero _).symm|rfl|exact Nat.add_assoc _ _ _) (hv:ldv t xs o=some v:=by rfl) :
  Wl n C ops.toArray k Q (⟨some d,.load t x,ty0,pos,aft,gd⟩::l) E F R:=
 Zn (fun t ht=>by cases ht;exact Nat.le_of_ble_eq_true hn) (fun c hc=>by cases hc) hw fun a w ha hsat=>by
  obtain ⟨hp,hr,st⟩:=hsat
  obtain ⟨cs,fz,pre,post,h1,h2,rfl⟩:=st.f _ hs.mem
  have hv':ldv t cs.toList off'=some v:=by rw [h2,ho];exact ldv_in hv
  have hr1:=Yp (st.inp _ _ h1) hv'
  unfold OpRes
  simp only [execOp,Instr.loadAt,ha.ev (by rw [ZF];exact hx),Instr.sureAddr,Sem.run_bind,Sem.run_pure,Result.andThen,hr1]
  exact fun a' ha'=>nx a' w ha' ⟨hp,hr,st⟩
theorem YE {T b off off' o:Nat} {xs:List Value} (nx:Wr n C ops k Q Tl Fs R L ((d,v)::E) F N) (hop:nth ops i=some ⟨some d,.load t x,ty0,pos,aft,gd⟩:=by rfl) (hw:wantL ops E ⟨some d,.load t x,ty0,pos,aft,gd⟩=some true:=by rfl)
  (hx:ev E x=some (.pointer (some ⟨b,off',none⟩)):=by rfl) (hs:Sel (Cel T b off xs) Fs F0:=by (repeat (first|exact Sel.here|apply Sel.there));first|done|fail) (ho:off'=off+o:=by first|exact (Nat.add_zero _).symm|rfl|exact Nat.add_assoc _ _ _) (hv:ldv t xs o=some v:=by rfl) :
  Wr n C ops k Q Tl Fs R ((i,0)::L) E F N:=
 Z6 hop fun hp hr w st hz sb=>by
  simp only [ZW hw]
  refine ⟨v,fun a w ha hin=>?_,nx hp hr w st hz sb⟩
  obtain ⟨cs,fz,pre,post,h1,h2,rfl⟩:=st.f _ hs.mem
  have hv':ldv t cs.toList off'=some v:=by rw [h2,ho];exact ldv_in hv
  have hr1:=Yp (hin _ _ (sb _ _ (ZN st.d1.symm _ _ h1))) hv'
  simp only [execOp,Instr.loadAt,ha.ev (by rw [ZF];exact hx),Instr.sureAddr,Sem.run_bind,Sem.run_pure,Result.andThen,hr1]
theorem frz_row {α:Type} {T sz:Nat} {f:α→List Value} {o:Option Addr} {m cap:Nat} {xs:List Value} {es:List α} (hx:xs=es.flatMap f) (hm:m=es.length) {G:H} {w0 w:World} {hp0:H} (hs:Sel (Row T sz o m cap xs) R R0) (hsat:Sat G w0 hp0 F R w):Sat G w0 hp0 (Sl T f o cap es::F) R0 w:=by
 subst hx hm
 obtain ⟨hp,hr,st⟩:=hsat.sel hs
 obtain ⟨h1,h2,dj,s1,s2,hrow,hR⟩:=st.r
 rcases hrow with ⟨rfl,h3,rfl,h4⟩|⟨bb,rest,fz,rfl,hb,hxl,hcl,hmc,hfz⟩
 ·refine ⟨hp,hr,st.inp,st.inr,st.ing,st.d1,st.d2,st.d3,st.sub,fun g hg=>(List.mem_cons.1 hg).elim (fun h=>h ▸ ?_) (st.f g),hR.sub s2,st.same⟩
  have h5:es=[]:=List.eq_nil_of_length_eq_zero h3
  exact ⟨by rw [h5];exact Nat.le_refl _,.inl h5⟩
 ·have hsat2:Sat G w0 hp0 F (Pt bb (.cells (es.flatMap f++rest).toArray T fz)::R0) w:=⟨hp,hr,st.inp,st.inr,st.ing,st.d1,st.d2,st.d3,st.sub,st.f,⟨h1,h2,dj,s1,s2,hb,hR⟩,st.same⟩
  refine hsat2.freeze.facts fun hp hF g hg=>?_
  rcases List.mem_cons.1 hg with rfl|hg
  ·exact ⟨hmc,.inr ⟨bb,_,(T,fz),[],rest,rfl,hF _ (List.mem_cons_self ..),by simp⟩⟩
  ·exact hF g (List.mem_cons_of_mem _ hg)
theorem YA {α:Type} {T sz:Nat} {f:α→List Value} {o:Option Addr} {m cap:Nat} {xs:List Value} (es:List α) (t:Wk n C k Q E (Sl T f o cap es::F) R0) (hx:xs=es.flatMap f) (hm:m=es.length) (hs:Sel (Row T sz o m cap xs) R R0:=by (repeat (first|exact Sel.here|apply Sel.there));first|done|fail):Wk n C k Q E F R:=
 fun a w ha hsat=>t a w ha (frz_row hx hm hs hsat)
theorem l_frz {α:Type} {T sz:Nat} {f:α→List Value} {o:Option Addr} {m cap:Nat} {xs:List Value} (es:List α) (t:Wl n C ops.toArray k Q l E (Sl T f o cap es::F) R0) (hx:xs=es.flatMap f) (hm:m=es.length) (hs:Sel (Row T sz o m cap xs) R R0:=by (repeat (first|exact Sel.here|apply Sel.there));first|done|fail):Wl n C ops.toArray k Q l E F R:=
 fun a w ha hsat=>t a w ha (frz_row hx hm hs hsat)
end
set_option maxRecDepth 10000
section
variable {v:Value}
theorem YG {T:Nat} {w:World} {rs:TRow} (hts:lookT tab t=some rs) (hrs:rs.k = .slice T):(underlying t).run prog w = .ok (.slice T) w:=by
 obtain ⟨d1,hd1,hk1⟩:=ZR.und hts
 rw [hrs] at hk1
 cases d1<;>simp [chkKind] at hk1
 subst hk1
 simp [underlying,hd1,go_sem]
theorem XD {w:World} {rs:TRow} (hts:lookT tab t=some rs) (hrs:rs.k = .str):(underlying t).run prog w = .ok .string w:=by
 obtain ⟨d1,hd1,hk1⟩:=ZR.und hts
 rw [hrs] at hk1
 cases d1<;>simp [chkKind] at hk1
 simp [underlying,hd1,go_sem]
theorem run_undI {w:World} {rs:TRow} {ik:IntKind} (hts:lookT tab t=some rs) (hrs:rs.k = .int ik):(underlying t).run prog w = .ok (.int ik) w:=by
 obtain ⟨d1,hd1,hk1⟩:=ZR.und hts
 rw [hrs] at hk1
 cases d1<;>simp [chkKind] at hk1
 subst hk1
 simp [underlying,hd1,go_sem]
theorem Yu {a:Addr} {p q:Nat} (h:a=⟨b,p,none⟩):a.add q=⟨b,p+q,none⟩:=by
 subst h
 unfold Addr.add
 split
 ·rename_i h0;rw [h0];rfl
 ·rfl
theorem sl_drop {α:Type} {T sz:Nat} {f:α→List Value} {o:Option Addr} {cap lo:Nat} {es:List α} {h:H} (hs:(Sl T f o cap es).p h) (hlo:lo≤es.length) (hsz:∀e,(f e).length=sz) :
  (Sl T f (if cap=lo then o else o.map (·.add (lo * sz))) (cap - lo) (es.drop lo)).p h:=by
 obtain ⟨hc,rfl|⟨b,cs,fz,pre,post,rfl,hb,hcs⟩⟩:=hs
 ·exact ⟨by simp,.inl (by simp)⟩
 ·refine ⟨by simp;omega,.inr ?_⟩
  split
  ·rename_i hcl
   have:es.drop lo=[]:=List.drop_eq_nil_of_le (by omega)
   exact ⟨b,cs,fz,pre,es.flatMap f++post,rfl,hb,by rw [this,hcs];simp⟩
  ·refine ⟨b,cs,fz,pre++(es.take lo).flatMap f,post,?_,hb,?_⟩
   ·simp only [Option.map_some,Option.some.injEq]
    rw [Yu (b:=b) (p:=pre.length) rfl,List.length_append,Za hsz,List.length_take,Nat.min_eq_left hlo]
   ·rw [hcs]
    have:es.flatMap f=(es.take lo).flatMap f++(es.drop lo).flatMap f:=by rw [←List.flatMap_append,List.take_append_drop]
    rw [this];simp
theorem sl_take {α:Type} {T:Nat} {f:α→List Value} {o:Option Addr} {cap m:Nat} {es:List α} {h:H} (hs:(Sl T f o cap es).p h):(Sl T f o cap (es.take m)).p h:=by
 obtain ⟨hc,rfl|⟨b,cs,fz,pre,post,rfl,hb,hcs⟩⟩:=hs
 ·exact ⟨by simp,.inl (by simp)⟩
 ·refine ⟨by simp;omega,.inr ⟨b,cs,fz,pre,(es.drop m).flatMap f++post,rfl,hb,?_⟩⟩
  rw [hcs]
  have:es.flatMap f=(es.take m).flatMap f++(es.drop m).flatMap f:=by rw [←List.flatMap_append,List.take_append_drop]
  rw [this];simp
theorem XP {G:H} {w0 w:World} {hp0 hp hr:H} {f:Pf} (st:SatAt G w0 hp0 F R w hp hr) (h:f.p hp):Sat G w0 hp0 (f::F) R w:=
 ⟨hp,hr,st.inp,st.inr,st.ing,st.d1,st.d2,st.d3,st.sub,fun g hg=>(List.mem_cons.1 hg).elim (fun e=>e ▸ h) (st.f g),st.r,st.same⟩
theorem l_slL {α:Type} {T sz:Nat} {f:α→List Value} {o:Option Addr} {m cap:Nat} {es:List α} {z:Int} {rs tr:TRow} (lo:Nat) (hlo:lo≤es.length)
  (nx:∀o',Wl n C ops.toArray k Q l ((d,.slice o' (es.drop lo).length (cap - lo))::E) (Sl T f o' (cap - lo) (es.drop lo)::F) R)
  (hw:wantL ops E ⟨some d,.slice t x (some y) none none,ty0,pos,aft,gd⟩=some true:=by rfl) (hn:Nat.blt d n=true:=by rfl) (hx:ev E x=some (.slice o m cap):=by rfl) (hy:ev E y=some (.int .i64 z):=by rfl)
  (hs:Sel (Sl T f o cap es) F F0:=by (repeat (first|exact Sel.here|apply Sel.there));first|done|fail) (hts:lookT tab t=some rs:=by rfl) (hrs:rs.k = .slice T:=by rfl) (hT:lookT tab T=some tr:=by rfl) (hsz:tr.size=sz:=by rfl) (hf:∀e,(f e).length=sz:=by intro;rfl)
  (hm:m=es.length:=by rfl) (hz:z=(lo:Int):=by first|rfl|omega):Wl n C ops.toArray k Q (⟨some d,.slice t x (some y) none none,ty0,pos,aft,gd⟩::l) E F R:=
 Zn (fun t ht=>by cases ht;exact Nat.le_of_ble_eq_true hn) (fun c hc=>by cases hc) hw fun a w ha hsat=>by
  obtain ⟨hp,hr,st⟩:=hsat
  subst hm hz
  have h2:=sl_drop (st.f _ hs.mem) hlo hf
  have hs1:=ZR.sizeOf hT w
  rw [hsz] at hs1
  unfold OpRes
  have hc:(0:Int)≤(lo:Int)∧(lo:Int)≤(es.length:Int):=⟨by omega,by omega⟩
  simp only [execOp,ha.ev (x:=x) (by rw [ZF];exact hx),ha.ev (x:=y) (by rw [ZF];exact hy),Option.map_some,Option.map_none,Instr.sliceAt,Instr.slice,YG hts hrs,Instr.sliceBounds,Instr.sliceBound,asIntOf,Sem.run_bind,Result.andThen,Sem.run_pure,if_pos hc,hs1,Int.toNat_natCast]
  rw [←List.length_drop]
  exact fun a' ha'=>nx _ a' w ha' (XP st h2)
theorem l_slLH {α:Type} {T sz:Nat} {f:α→List Value} {o:Option Addr} {m cap:Nat} {es:List α} {z z2:Int} {y2:Operand} {rs tr:TRow} (lo hi:Nat) (hlo:lo≤hi) (hhi:hi≤es.length)
  (nx:∀o',Wl n C ops.toArray k Q l ((d,.slice o' ((es.take hi).drop lo).length (cap - lo))::E) (Sl T f o' (cap - lo) ((es.take hi).drop lo)::F) R)
  (hw:wantL ops E ⟨some d,.slice t x (some y) (some y2) none,ty0,pos,aft,gd⟩=some true:=by rfl) (hn:Nat.blt d n=true:=by rfl) (hx:ev E x=some (.slice o m cap):=by rfl) (hy:ev E y=some (.int .i64 z):=by rfl) (hy2:ev E y2=some (.int .i64 z2):=by rfl)
  (hs:Sel (Sl T f o cap es) F F0:=by (repeat (first|exact Sel.here|apply Sel.there));first|done|fail) (hts:lookT tab t=some rs:=by rfl) (hrs:rs.k = .slice T:=by rfl) (hT:lookT tab T=some tr:=by rfl) (hsz:tr.size=sz:=by rfl) (hf:∀e,(f e).length=sz:=by intro;rfl)
  (hz:z=(lo:Int):=by first|rfl|omega) (hz2:z2=(hi:Int):=by first|rfl|omega):Wl n C ops.toArray k Q (⟨some d,.slice t x (some y) (some y2) none,ty0,pos,aft,gd⟩::l) E F R:=
 Zn (fun t ht=>by cases ht;exact Nat.le_of_ble_eq_true hn) (fun c hc=>by cases hc) hw fun a w ha hsat=>by
  obtain ⟨hp,hr,st⟩:=hsat
  subst hz hz2
  have h1:=st.f _ hs.mem
  have hcap:es.length≤cap:=h1.1
  have h2:=sl_drop (sl_take (m:=hi) h1) (lo:=lo) (by simp;omega) hf
  have hs1:=ZR.sizeOf hT w
  rw [hsz] at hs1
  unfold OpRes
  have hc:(0:Int)≤(lo:Int)∧(lo:Int)≤(hi:Int):=⟨by omega,by omega⟩
  have hc2:(0:Int)≤(hi:Int)∧(hi:Int)≤(cap:Int):=⟨by omega,by omega⟩
  simp only [execOp,ha.ev (x:=x) (by rw [ZF];exact hx),ha.ev (x:=y) (by rw [ZF];exact hy),ha.ev (x:=y2) (by rw [ZF];exact hy2),Option.map_some,Option.map_none,Instr.sliceAt,Instr.slice,YG hts hrs,Instr.sliceBounds,Instr.sliceBound,asIntOf,Sem.run_bind,Result.andThen,Sem.run_pure,if_pos hc,if_pos hc2,hs1,Int.toNat_natCast]
  have hl:hi - lo=((es.take hi).drop lo).length:=by simp;omega
  rw [hl]
  exact fun a' ha'=>nx _ a' w ha' (XP st h2)
abbrev bf:UInt8→List Value:=fun b=>[.int .u8 b.toNat]
theorem byt_flat (l:List UInt8):byt l=l.flatMap bf:=by
 induction l with
 | nil=>rfl
 | cons a l ih=>rw [List.flatMap_cons,←ih];rfl
theorem fold_push:∀(es:List UInt8) (s:ByteArray),((es.map fun b=>(b.toNat:Int)).foldl (fun r m=>r.push (UInt8.ofNat m.toNat)) s)=⟨s.data++es.toArray⟩
 | [],s=>by simp
 | b::es,s=>by
  simp only [List.map_cons,List.foldl_cons,fold_push es]
  congr 1
  rw [←Array.toList_inj]
  simp [ByteArray.push]
theorem l_b2s {T:Nat} {o:Option Addr} {m cap:Nat} {es:List UInt8} {td:TypeId} {rs tr rd:TRow}
  (nx:Wl n C ops.toArray k Q l ((d,.string ⟨es.toArray⟩)::E) F R)
  (hw:wantL ops E ⟨some d,.convert t td x,ty0,pos,aft,gd⟩=some true:=by rfl) (hn:Nat.blt d n=true:=by rfl) (hx:ev E x=some (.slice o m cap):=by rfl)
  (hs:Sel (Sl T bf o cap es) F F0:=by (repeat (first|exact Sel.here|apply Sel.there));first|done|fail) (hts:lookT tab t=some rs:=by rfl) (hrs:rs.k = .slice T:=by rfl) (hT:lookT tab T=some tr:=by rfl) (hTk:tr.k = .int .u8:=by rfl) (htd:lookT tab td=some rd:=by rfl) (hrd:rd.k = .str:=by rfl)
  (hm:m=es.length:=by rfl):Wl n C ops.toArray k Q (⟨some d,.convert t td x,ty0,pos,aft,gd⟩::l) E F R:=
 Zn (fun t ht=>by cases ht;exact Nat.le_of_ble_eq_true hn) (fun c hc=>by cases hc) hw fun a w ha hsat=>by
  obtain ⟨hp,hr,st⟩:=hsat
  subst hm
  have hr1:(Conv.bytesToString (.slice o es.length cap)).run prog w = .ok (.string ⟨es.toArray⟩) w:=by
   obtain ⟨_,rfl|⟨b,cs,fz,pre,post,rfl,hb,hcs⟩⟩:=st.f _ hs.mem
   ·cases o<;>rfl
   ·rw [run_bytesToString (ns:=es.map fun b=>(b.toNat:Int))]
    ·rw [fold_push];simp
    ·unfold loadCells
     rw [←byt_flat] at hcs
     have hlen:cs.size=pre.length+(es.length+post.length):=by rw [←Array.length_toList,hcs];simp [byt]
     rw [run_loadCells (st.inp _ _ hb) pre.length es.length 0 #[] (by omega)]
     simp [hcs,byt]
  unfold OpRes
  simp only [execOp,ha.ev (x:=x) (by rw [ZF];exact hx),convert,YG hts hrs,XD htd hrd,run_undI hT hTk,Sem.run_bind,Result.andThen,Sem.run_pure,hr1]
  exact fun a' ha'=>nx a' w ha' ⟨hp,hr,st⟩
theorem l_s2b {T:Nat} {s:ByteArray} {td:TypeId} {rs tr rd:TRow}
  (nx:∀o cap,Wl n C ops.toArray k Q l ((d,.slice o s.data.toList.length cap)::E) F (Row T 1 o s.data.toList.length cap (byt s.data.toList)::R))
  (hw:wantL ops E ⟨some d,.convert t td x,ty0,pos,aft,gd⟩=some true:=by rfl) (hn:Nat.blt d n=true:=by rfl) (hx:ev E x=some (.string s):=by rfl)
  (hts:lookT tab t=some rs:=by rfl) (hrs:rs.k = .str:=by rfl) (htd:lookT tab td=some rd:=by rfl) (hrd:rd.k = .slice T:=by rfl) (hT:lookT tab T=some tr:=by rfl) (hTk:tr.k = .int .u8:=by rfl) :
  Wl n C ops.toArray k Q (⟨some d,.convert t td x,ty0,pos,aft,gd⟩::l) E F R:=
 Zn (fun t ht=>by cases ht;exact Nat.le_of_ble_eq_true hn) (fun c hc=>by cases hc) hw fun a w ha hsat=>by
  obtain ⟨nc,hnc1,hnc2⟩:∃nc,(choose (.appendCap s.size 0 T)).run prog w = .ok nc {w with drawn:=w.drawn+1}∧s.size≤nc:=⟨_,rfl,by simp [Question.cut]⟩
  have hx1:Ext w {w with drawn:=w.drawn+1}:=(Below.refl _ w).drew
  let cells:Array Value:=(s.data.map fun b=>Value.int .u8 b.toNat)++Array.replicate (nc - s.size) (.int .u8 0)
  have hs2:=(hsat.ext hx1).alloc (.cells cells T)
  let w1:World:={w with drawn:=w.drawn+1}
  have hb1:(w1.alloc (.cells cells T)).heap[w1.heap.size]? = some (.cells cells T):=Z8 w1 _
  let w2:=(w1.alloc (.cells cells T)).freeze ⟨w1.heap.size,cells.size,none⟩ 1
  have hb2:w2.heap[w1.heap.size]? = some (.cells cells T (cells.size,cells.size+1)):=by
   simp only [w2,World.freeze,Nat.one_ne_zero,if_false,Array.getElem?_modify,if_true,hb1]
   simp
  have hs3:Sat C.G C.w0 C.hp0 F (Pt w1.heap.size (.cells cells T (cells.size,cells.size+1))::R) w2:=by
   refine hs2.write ⟨rfl,rfl,rfl,?_⟩ hb2 fun c hc _=>?_
   ·simp only [w2,World.freeze,Nat.one_ne_zero,if_false,Array.size_modify];exact Nat.le_refl _
   ·simp only [w2,World.freeze,Nat.one_ne_zero,if_false,Array.getElem?_modify]
    rw [if_neg (fun h=>hc h.symm)]
  have hr1:(Conv.stringToBytes T s).run prog w = .ok (.slice (some ⟨w1.heap.size,0,none⟩) s.size nc) w2:=by
   unfold Conv.stringToBytes
   simp only [Sem.run_bind,hnc1,Result.andThen,run_newRow,markStringish]
   have hsh:(shape w1.heap.size).run prog (w1.alloc (.cells cells T)) = .ok (some (T,cells.size)) (w1.alloc (.cells cells T)):=by
    simp only [shape,Sem.run,World.shape?,hb1]
   have e:({w with drawn:=w.drawn+1}:World)=w1:=rfl
   simp only [e]
   rw [show ((s.data.map fun b=>Value.int .u8 b.toNat)++Array.replicate (nc - s.size) (.int .u8 0))=cells from rfl,hsh]
   rfl
  unfold OpRes
  simp only [execOp,ha.ev (x:=x) (by rw [ZF];exact hx),convert,XD hts hrs,YG htd hrd,run_undI hT hTk,Sem.run_bind,Result.andThen,Sem.run_pure,hr1]
  have hl:s.size=s.data.toList.length:=by simp
  rw [hl] at hnc2 ⊢
  refine fun a' ha'=>nx _ nc a' w2 ha' (hs3.shut (L:=[Pt _ _]) fun kk hk=>?_)
  obtain ⟨k1,_,_,t1,_,hk1,_⟩:=hk
  have hcl:cells.toList=byt s.data.toList++List.replicate (nc - s.size) (.int .u8 0):=by simp [cells,byt]
  have hcz:(byt s.data.toList++List.replicate (nc - s.size) (Value.int .u8 0)).toArray=cells:=by rw [←hcl]
  refine .inr ⟨_,List.replicate (nc - s.size) (.int .u8 0),(cells.size,cells.size+1),rfl,?_,by simp [byt],?_,hnc2,.inr ?_⟩
  ·rw [hcz];exact t1 _ _ hk1
  ·simp [byt] at hnc2 ⊢;omega
  ·rw [←hcl];simp
theorem Zu {s:ByteArray} {z:Int} {rs:TRow} (i:Nat) (c:UInt8) (hc:s.data.toList[i]? = some c)
  (nx:Wl n C ops.toArray k Q l ((d,.int .u8 c.toNat)::E) F R)
  (hw:wantL ops E ⟨some d,.index t x y,ty0,pos,aft,gd⟩=some true:=by rfl) (hn:Nat.blt d n=true:=by rfl) (hx:ev E x=some (.string s):=by rfl) (hy:ev E y=some (.int .i64 z):=by rfl)
  (hts:lookT tab t=some rs:=by rfl) (hrs:rs.k = .str:=by rfl) (hz:z=(i:Int):=by first|rfl|omega):Wl n C ops.toArray k Q (⟨some d,.index t x y,ty0,pos,aft,gd⟩::l) E F R:=
 l_q (fun a w ha=>by
  subst hz
  have h0:(0:Int)≤(i:Int):=by omega
  have h1:s[i]? = some c:=by
   obtain ⟨hlt,he⟩:=List.getElem?_eq_some_iff.1 hc
   have hlt':i<s.size:=by simpa using hlt
   rw [getElem?_pos s i hlt']
   exact congrArg some he
  simp only [execOp,ha.ev (x:=x) (by rw [ZF];exact hx),ha.ev (x:=y) (by rw [ZF];exact hy),Instr.index,asIntOf,XD hts hrs,Sem.run_bind,Result.andThen,Sem.run_pure,if_pos h0,Int.toNat_natCast,h1]) nx (by intro c h;cases h) hw hn
end
section
def CallsV (v:Value) (vs:List Value) (w:World) (K:Value→World→Prop):Prop:=
 match v with
 | .func fn fs cs=>OpRes prog (invoke (.fn fn cs) (fs++vs.toArray)) w K
 | _=>False
def SpecV (v:Value) (vs:List Value) (F:List Pf) (R:List HP) (post:Post):Prop:=
 ∀G w hp,Sat G w hp F R w→CallsV v vs w fun u w'=>∃x,u=post.val x∧post.pure x∧Sat G w hp (post.F x) (post.R x) w'
theorem YN {v:Value} {args:Array Operand} {tys:Array TypeId} {vs:List Value} {post:Post} (spec:SpecV v vs F1 A post)
  (nx:∀x,post.pure x→Wl n C ops.toArray k Q l ((d,post.val x)::E) (post.F x++F) (post.R x++R')) (hw:wantL ops E ⟨some d,.call ⟨.value x,args,tys⟩,ty0,pos,aft,gd⟩=some true:=by rfl) (hn:Nat.blt d n=true:=by rfl)
  (hx:ev E x=some v:=by rfl) (hargs:evs (ev E) args.toList some=some vs:=by rfl) (sel:Sels A R R':=by (repeat (first|exact Sels.nil|exact Sel.here|apply Sel.there|apply Sels.cons));first|done|fail)
  (hF:EntF F F1:=by (repeat (first|exact trivial|exact Sel.here|apply Sel.there|apply EntF.cons));first|done|fail) :
  Wl n C ops.toArray k Q (⟨some d,.call ⟨.value x,args,tys⟩,ty0,pos,aft,gd⟩::l) E F R:=
 Zn (fun t ht=>by cases ht;exact Nat.le_of_ble_eq_true hn) (fun c hc=>by cases hc) hw fun a w ha hsat=>by
  obtain ⟨G',hp,h1,h2⟩:=W1 hsat sel hF.all
  have h3:=spec G' w hp h1
  obtain ⟨us,_,e2,e3⟩:=X3 _ _ _ hargs
  obtain rfl:=Option.some.inj e2
  have e1:=e3 a.eval fun x _ u hu=>ha.ev (by rw [ZF];exact hu)
  have e4:args.map a.eval=us.toArray:=by rw [←Array.toList_inj];simpa using e1
  have e5:(args.map fun x=>a.eval x)=us.toArray:=e4
  have e0:=ha.ev (x:=x) (by rw [ZF];exact hx)
  unfold CallsV at h3
  split at h3
  ·rename_i fn fs cs
   have h4:=h3.mono (R':=fun v w'=>∀a',Agree n C.ds (upd (look E) (some d) v) a'→wpListIn (fz C.r) 0 prog ops.toArray (after C.r k Q) l a' w') (by
    rintro v w' ⟨x,rfl,hx,hs⟩ a' ha'
    exact nx x hx a' w' ha' (h2 _ _ _ hs))
   unfold OpRes at h4 ⊢
   have er:(execOp a.eval ⟨some d,.call ⟨.value x,args,tys⟩,ty0,pos,aft,gd⟩).run prog w=(invoke (.fn fn cs) (fs++us.toArray)).run prog w:=by
    simp only [execOp,resolve,e0,Deferred.ofValue,Sem.run_bind,Sem.run_pure,Result.andThen]
    rw [e5]
   rw [er]
   exact h4
  ·exact h3.elim
theorem Zf {G:H} {w0 w:World} {hp0:H} {b:Nat} {o o':Obj} (hs:Sat G w0 hp0 F (Pt b o::R) w):Sat G w0 hp0 F (Pt b o'::R) (w.putObj b o'):=by
 have hb:=hs.pt Sel.here
 have hlt:=(Array.getElem?_eq_some_iff.1 hb).1
 refine hs.write ⟨rfl,rfl,rfl,?_⟩ (World.putObj_heap_same hlt) fun c hc _=>World.putObj_heap_other hc
 simp [World.putObj]
structure LR where
 fn:FuncId
 tmps:Array Value
 ps:Array Tmp
 assign:Code
 body:Code
 D:Nat
def rcd (q:LR) (st:LoopState) (pe:Option Code):Loop:={state:=st,pending:=pe,fn:=q.fn,tmps:=q.tmps,params:=q.ps,assign:=q.assign,body:=q.body,defers:=q.D}
theorem k_beg {l:Nat} {q:LR} (t:Wk n C k' Q E F (Pt l (.loop (rcd q .busy none))::R0)) (hs:Sel (Pt l (.loop (rcd q .ready none))) R R0:=by (repeat (first|exact Sel.here|apply Sel.there));first|done|fail) (h:nf 1000 k = .r l::k':=by rfl):Wk n C k Q E F R:=
 fun a w ha hsat=>YQ 1000 k (by
  rw [h]
  exact ⟨_,run_beginRound (hsat.pt hs) rfl,t a _ ha (Zf (hsat.sel hs))⟩)
def both (a b:HP):HP:=fun h=>Sep [a,b] h
def RQ (q:LR) (l:Nat) (G:H) (w0:World) (hp0:H) (Jt Jx:HP):Exit→Act→World→Prop:=
 roundPost prog l fun e w'=>∃b,e = .returned (.bool b)∧Sat G w0 hp0 [] [if b then both (Pt l (.loop (rcd q .ready none))) Jt else both (Pt l (.loop (rcd q .done (some .ret)))) Jx] w'
theorem k_rn {q:LR} {l:Nat} {r:Option Nat} {G:H} {w0:World} {hp0:H} {ds:List Deferred} {Jt Jx:HP} (hs:Sels [Pt l (.loop (rcd q .busy none)),Jt] R R0:=by (repeat (first|exact Sels.nil|exact Sel.here|apply Sel.there|apply Sels.cons));first|done|fail) (h:nf 1000 k=[]:=by rfl) :
  Wk n ⟨r,G,w0,hp0,ds⟩ k (RQ q l G w0 hp0 Jt Jx) E F R:=fun a w ha hsat=>YQ 1000 k (by
 rw [h]
 have h1:=hsat.sels hs
 refine ⟨_,_,run_endRound none (h1.pt Sel.here),true,rfl,?_⟩
 have h2:=Zf (o':=.loop (rcd q .ready none)) h1
 exact ((h2.shut (x:=both _ _) fun _ hh=>hh).facts (F':=[]) (fun _ _ _ hx=>by cases hx)).res fun _ hh=>YL (A:=[_]) hh)
theorem k_rr {q:LR} {l:Nat} {r:Option Nat} {G:H} {w0:World} {hp0:H} {ds:List Deferred} {Jt Jx:HP} (hs:Sels [Pt l (.loop (rcd q .busy none)),Jx] R R0:=by (repeat (first|exact Sels.nil|exact Sel.here|apply Sel.there|apply Sels.cons));first|done|fail) (h:nf 1000 k = .c .ret::k':=by rfl) (hn:noR k'=true:=by rfl) :
  Wk n ⟨r,G,w0,hp0,ds⟩ k (RQ q l G w0 hp0 Jt Jx) E F R:=Zz (fun a w ha hsat=>by
 have h1:=hsat.sels hs
 refine ⟨_,_,run_endRound (some .ret) (h1.pt Sel.here),false,rfl,?_⟩
 have h2:=Zf (o':=.loop (rcd q .done (some .ret))) h1
 exact ((h2.shut (x:=both _ _) fun _ hh=>hh).facts (F':=[]) (fun _ _ _ hx=>by cases hx)).res fun _ hh=>YL (A:=[_]) hh) h hn
theorem XR {P:Program} {l:Nat} {R R':Ending→World→Prop} (h:∀e w,R e w→R' e w):∀e a w,roundPost P l R e a w→roundPost P l R' e a w
 | .normal,_,_,⟨v,w',h1,h2⟩=>⟨v,w',h1,h _ _ h2⟩
 | .ret,_,_,⟨v,w',h1,h2⟩=>⟨v,w',h1,h _ _ h2⟩
 | .exit _,_,_,⟨v,w',h1,h2⟩=>⟨v,w',h1,h _ _ h2⟩
 | .goto _,_,_,⟨v,w',h1,h2⟩=>⟨v,w',h1,h _ _ h2⟩
 | .panic _,_,_,h=>h
 | .outgrown,_,_,h=>h
def YPost {α:Type} (I Ix:List α→HP) (pre:List α) (e:α):Post:=⟨Bool,fun b=>.bool b,fun _=>True,fun _=>[],fun b=>[if b then I (pre++[e]) else Ix (pre++[e])]⟩
theorem UM {r:Option Nat}:after r [] Q=Q:=by funext e a w;rfl
theorem yield_ok {α:Type} {enc:α→Value} {q:LR} {l p:Nat} {J Jx:List α→HP} {pre:List α} {e:α} (hps:q.ps = #[p]) (hpn:p<n) (hag:∀a:Act,a.tmps=q.tmps→a.defers=[]→Agree n [] (look E) a)
  (hbody:∀G w0 hp0,Wk n ⟨some l,G,w0,hp0,[]⟩ [.c q.assign,.r l,.c q.body] (RQ q l G w0 hp0 (J (pre++[e])) (Jx (pre++[e]))) ((p,enc e)::E) F [Pt l (.loop (rcd q .ready none)),J pre]) :
  SpecV (.func (.yield l) #[] #[]) [enc e] [⟨fun h=>∀f ∈ F,f.p h,fun _ _ s h f hf=>f.m _ _ s (h f hf)⟩] [both (Pt l (.loop (rcd q .ready none))) (J pre)]
   (YPost (fun pre=>both (Pt l (.loop (rcd q .ready none))) (J pre)) (fun pre=>both (Pt l (.loop (rcd q .done (some .ret)))) (Jx pre)) pre e):=by
 intro G w hp hsat
 have h1:Sat G w hp F [both (Pt l (.loop (rcd q .ready none))) (J pre)] w:=hsat.facts fun hp hF=>hF _ (List.mem_cons_self ..)
 obtain ⟨_,h2⟩:=h1.open' (X:=Unit) (L:=fun _=>[Pt l (.loop (rcd q .ready none)),J pre]) fun _ hh=>⟨(),hh⟩
 have hl:=h2.pt Sel.here
 unfold CallsV OpRes
 have hy:=run_yield (P:=prog) (args:=#[enc e]) hl (by simp [rcd,hps])
 have hi:(invoke (.fn (.yield l) #[]) (#[]++[enc e].toArray)).run prog w=(Instr.yield l #[enc e]).run prog w:=by simp [invoke]
 simp only [hi,hy]
 refine roundIn_of_wpIn trivial ?_
 have ha:Agree n [] (look ((p,enc e)::E)) ({tmps:=((rcd q .ready none).params.zip #[enc e]).foldl (fun tmps (x:Tmp×Value)=>tmps.setIfInBounds x.1 x.2) (rcd q .ready none).tmps,defers:=[]}:Act):=by
  have:=(hag ⟨q.tmps,[]⟩ rfl rfl).put (d:=some p) (fun t ht=>by cases ht;exact hpn) (enc e)
  rw [Yn]
  simpa [rcd,hps,Act.put] using this
 have hb:=hbody G w hp _ w ha h2
 refine wpIn_mono (show q.assign.wpIn (fz (some l)) 0 prog (after (some l) [.r l,.c q.body] (RQ q l G w hp (J (pre++[e])) (Jx (pre++[e])))) _ w from hb) ?_
 rintro ex a1 w1 hx
 cases ex with
 | normal=>
  obtain ⟨w2,g1,g2⟩:=hx
  refine ⟨w2,g1,?_⟩
  have g3:q.body.wpIn (fz (some l)) 0 prog (after (some l) [] (RQ q l G w hp (J (pre++[e])) (Jx (pre++[e])))) a1 w2:=g2
  rw [UM] at g3
  refine wpIn_mono g3 (XR ?_)
  rintro e' w' ⟨b,rfl,hs'⟩
  exact ⟨b,rfl,trivial,hs'⟩
 | _=>exact hx.elim
theorem XU {X:HP} {R:List HP} {h:H} (hh:Sep (X::R) h):Sep R h:=by
 obtain ⟨_,h2,_,_,s2,_,hR⟩:=hh
 exact hR.sub s2
theorem WN:∀(A:List HP) (X:HP) (R:List HP),Sels A (X::(A++R)) (X::R)
 | [],_,_=>.nil
 | _::A,X,R=>.cons (.there .here) (WN A X R)
def Iter {α:Type} (gf:FuncId) (lb:List Value) (enc:α→Value) (xs:List α) (Fg:List Pf) (A:List HP):Prop:=
 ∀(v:Value) (Y:Pf) (I Ix:List α→HP),(∀pre e,pre++[e] <+: xs→SpecV v [enc e] [Y] [I pre] (YPost I Ix pre e))→
  Enters gf∧Spec prog gf (v::lb).toArray (Y::Fg) (I []::A) ⟨Option (List α),fun _=>.tuple #[],fun r=>∀pre,r=some pre→pre <+: xs,fun _=>[],fun r=>[match r with|none=>I xs|some pre=>Ix pre]⟩
theorem k_range {α:Type} {g:Operand} {p:Nat} {assign body:Code} {gf:FuncId} {lb:Array Value} {enc:α→Value} {xs:List α} {Fg:List Pf} {G:H} {w0:World} {hp0:H} {ds:List Deferred} (J Jx:List α→HP) (hit:Iter gf lb.toList enc xs Fg A)
  (hbody:∀(q:LR) (l:Nat) (pre:List α) (e:α),pre++[e] <+: xs→∀G w0 hp0,Wk n ⟨some l,G,w0,hp0,[]⟩ [.c assign,.r l,.c body] (RQ q l G w0 hp0 (J (pre++[e])) (Jx (pre++[e]))) ((p,enc e)::E) F [Pt l (.loop (rcd q .ready none)),J pre])
  (hdone:∀D,Wk n ⟨none,G,w0,hp0,{target:=.collected D,args:=#[]}::ds⟩ k' Q E F (J xs::Pt D (.deferred (some []))::R'))
  (hstop:∀D pre,pre <+: xs→Wret n ⟨none,G,w0,hp0,{target:=.collected D,args:=#[]}::ds⟩ Q E F (Jx pre::Pt D (.deferred (some []))::R'))
  (h:nf 1000 k = .c (.rangeFunc g #[p] assign body)::k':=by rfl) (hg:ev E g=some (.func (.func gf) #[] lb):=by rfl) (hpn:Nat.blt p n=true:=by rfl) (hnr:noR k'=true:=by rfl)
  (sel:Sels (J []::A) R R':=by (repeat (first|exact Sels.nil|exact Sel.here|apply Sel.there|apply Sels.cons));first|done|fail) (hFg:EntF F Fg:=by (repeat (first|exact trivial|exact Sel.here|apply Sel.there|apply EntF.cons));first|done|fail):Wk n ⟨none,G,w0,hp0,ds⟩ k Q E F R:=fun a w ha hs=>YQ 1000 k (by
 rw [h]
 show (Code.rangeFunc g #[p] assign body).wpIn (fz none) 0 prog (after none k' Q) a w
 refine wpIn_rangeFunc fun fn hfn=>?_
 let q:LR:=⟨fn,a.tmps,#[p],assign,body,w.heap.size⟩
 let lo:Obj:=.loop (rcd q .ready none)
 have hs1:Sat G w0 hp0 F (Pt (w.heap.size+1) lo::Pt w.heap.size (.deferred (some []))::J []::(A++R')) ((w.alloc (.deferred (some []))).alloc lo):=by
  have:=((hs.sels sel).alloc (.deferred (some []))).alloc lo
  simpa using this
 have hs2:Sat G w0 hp0 F (both (Pt (w.heap.size+1) lo) (J [])::Pt w.heap.size (.deferred (some []))::(A++R')) ((w.alloc (.deferred (some []))).alloc lo):=
  (hs1.sels (A:=[Pt (w.heap.size+1) lo,J []]) (.cons .here (.cons (.there .here) .nil))).shut (x:=both _ _) fun _ hh=>hh
 have hy:∀pre e,pre++[e] <+: xs→SpecV (.func (.yield (w.heap.size+1)) #[] #[]) [enc e] _ _ _:=fun pre e hpre=>
  yield_ok (n:=n) (E:=E) (F:=F) (enc:=enc) (q:=q) (l:=w.heap.size+1) (p:=p) (J:=J) (Jx:=Jx) (pre:=pre) (e:=e) rfl (Nat.le_of_ble_eq_true hpn)
   (fun b hb hd=>⟨by rw [hb];exact ha.size,hd,fun t v hv=>by rw [hb];exact ha.slots t v hv⟩) (fun G w0 hp0=>hbody q _ pre e hpre G w0 hp0)
 obtain ⟨eg,hsp⟩:=hit _ _ _ _ hy
 have hev:=ha.ev (x:=g) (by rw [ZF];exact hg)
 refine ⟨w.heap.size+1,[{target:=.collected w.heap.size,args:=#[]}],(w.alloc (.deferred (some []))).alloc lo,{target:=.fn (.func gf) lb,args:=#[.func (.yield (w.heap.size+1)) #[] #[]]},(w.alloc (.deferred (some []))).alloc lo,gf,#[.func (.yield (w.heap.size+1)) #[] #[]]++lb,(w.alloc (.deferred (some []))).alloc lo,run_enterLoop_outer _ _ _ _ _,?_,fun _ _=>trivial,?_,(fun hx=>by cases hx),?_⟩
 ·simp only [resolve,hev]
  simp [go_sem,Deferred.ofValue,Act.eval]
 ·simp only [invoke]
  exact eg _ _
 ·have e1 : #[Value.func (.yield (w.heap.size+1)) #[] #[]]++lb=(Value.func (.yield (w.heap.size+1)) #[] #[]::lb.toList).toArray:=by rw [←Array.toList_inj];simp
  rw [e1]
  refine Xx (YU hsp hs2 (.cons .here (WN A _ R')) (fun hp hF f hf=>?_) fun r w' hr hs3=>?_)
  ·rcases List.mem_cons.1 hf with rfl|hf
   ·exact hF
   ·exact hFg.all hp hF f hf
  ·have hds:({a with defers:=[{target:=.collected w.heap.size,args:=#[]}]++a.defers}:Act).defers={target:=.collected w.heap.size,args:=#[]}::ds:=by simp [ha.defers]
   have ha':Agree n ({target:=.collected w.heap.size,args:=#[]}::ds) (look E) {a with defers:=[{target:=.collected w.heap.size,args:=#[]}]++a.defers}:=⟨ha.size,hds,ha.slots⟩
   cases r with
   | none=>
    obtain ⟨_,h4⟩:=(show Sat G w0 hp0 F (both (Pt (w.heap.size+1) lo) (J xs)::Pt w.heap.size (.deferred (some []))::R') w' from hs3).open' (X:=Unit) (L:=fun _=>[Pt (w.heap.size+1) lo,J xs]) fun _ hh=>⟨(),hh⟩
    refine ⟨none,_,run_endLoop (h4.pt Sel.here) (by simp [rcd]),?_⟩
    have h5:=Zf (o':=.loop (rcd q .exhausted none)) h4
    exact hdone w.heap.size _ _ ha' (h5.res fun _ hh=>XU hh)
   | some pre=>
    obtain ⟨_,h4⟩:=(show Sat G w0 hp0 F (both (Pt (w.heap.size+1) (.loop (rcd q .done (some .ret)))) (Jx pre)::Pt w.heap.size (.deferred (some []))::R') w' from hs3).open' (X:=Unit) (L:=fun _=>[Pt (w.heap.size+1) (.loop (rcd q .done (some .ret))),Jx pre]) fun _ hh=>⟨(),hh⟩
    refine ⟨some .ret,_,run_endLoop (h4.pt Sel.here) (by simp [rcd]),?_⟩
    have h5:=Zf (o':=.loop (rcd q .exhausted (some .ret))) h4
    refine wpIn_ret ?_
    rw [Yl hnr]
    exact hstop w.heap.size pre (hr pre rfl) _ _ ha' (h5.res fun _ hh=>XU hh))
theorem Wb {f:FuncId} {fn:Func} {c:Code} {vs:List Value} {post:Post} {nt:Nat} (hf:prog.funcs[f]? = some fn) (hb:fn.body=some c) (hnt:fn.ntmps=nt) (hle:Nat.ble vs.length nt=true)
  (t:∀G w hp,Wk nt ⟨none,G,w,hp,[]⟩ [.c c] (bodyPostM Fence.wide 0 prog fn (post.holds G w hp)) (argsE 0 vs) F R):Spec prog f vs.toArray F R post:=by
 intro G w hp hsat
 refine (callsIn_wide (n:=0)).1 (callsIn_of_wp_marks hf hb trivial ?_)
 refine t G w hp _ w ⟨?_,rfl,fun i v hv=>?_⟩ hsat
 ·have:=Nat.le_of_ble_eq_true hle
  simp [hnt];omega
 ·obtain ⟨_,h2⟩:=VG vs 0 i v hv
  simp only [Nat.sub_zero] at h2
  have hlt:i<vs.length:=(List.getElem?_eq_some_iff.1 h2).1
  simp only
  rw [Array.getElem?_append_left (by simpa using hlt)]
  simpa using h2
theorem w_retM {fn:Func} {post:Post} {G:H} {w0:World} {hp0:H} {D:Nat} {R1:List HP} (xx:post.X) {vs:List Value} (hv:resV vs=post.val xx) (hp:post.pure xx)
  (hD:Sel (Pt D (.deferred (some []))) R R1:=by (repeat (first|exact Sel.here|apply Sel.there));first|done|fail)
  (hr:ResOK E R1 fn.results.toList vs:=by (repeat (first|exact ResOK.nil|exact Sel.here|apply Sel.there|exact rfl|apply ResOK.tmp|apply ResOK.cell));first|done|fail)
  (hF:EntF F (post.F xx):=by (repeat (first|exact trivial|exact Sel.here|apply Sel.there|apply EntF.cons));first|done|fail)
  (hR:Sels (post.R xx) R1 R0:=by (repeat (first|exact Sels.nil|exact Sel.here|apply Sel.there|apply Sels.cons));first|done|fail) :
  Wret n ⟨none,G,w0,hp0,[{target:=.collected D,args:=#[]}]⟩ (bodyPostM Fence.wide 0 prog fn (post.holds G w0 hp0)) E F R:=fun a w ha hs=>by
 have h1:=hs.sel hD
 have h2:=(Zf (o':=.deferred none) h1).res fun _ hh=>XU hh
 show LeavesInM Fence.wide 0 prog fn a.tmps _ a.defers .returning w
 rw [show a.defers=[{target:=.collected D,args:=#[]}] from ha.defers]
 refine ⟨by simp,.inl ⟨D,_,rfl,run_takeDeferred (h1.pt Sel.here),?_⟩⟩
 exact ⟨_,results_ok (C:=⟨none,G,w0,hp0,[{target:=.collected D,args:=#[]}]⟩) ha h2 hr,xx,by rw [hv],hp,((h2.sels hR).facts (F':=post.F xx) hF.all).res fun _ h=>YL h⟩
theorem k_retM {fn:Func} {post:Post} {G:H} {w0:World} {hp0:H} {D:Nat} {R1:List HP} (xx:post.X) {vs:List Value} (hv:resV vs=post.val xx) (hp:post.pure xx)
  (hD:Sel (Pt D (.deferred (some []))) R R1:=by (repeat (first|exact Sel.here|apply Sel.there));first|done|fail)
  (hr:ResOK E R1 fn.results.toList vs:=by (repeat (first|exact ResOK.nil|exact Sel.here|apply Sel.there|exact rfl|apply ResOK.tmp|apply ResOK.cell));first|done|fail)
  (hF:EntF F (post.F xx):=by (repeat (first|exact trivial|exact Sel.here|apply Sel.there|apply EntF.cons));first|done|fail)
  (hR:Sels (post.R xx) R1 R0:=by (repeat (first|exact Sels.nil|exact Sel.here|apply Sel.there|apply Sels.cons));first|done|fail)
  (h:nf 1000 k = .c .ret::k':=by rfl) (hn:noR k'=true:=by rfl) :
  Wk n ⟨none,G,w0,hp0,[{target:=.collected D,args:=#[]}]⟩ k (bodyPostM Fence.wide 0 prog fn (post.holds G w0 hp0)) E F R:=Zz (w_retM xx hv hp hD hr hF hR) h hn
end
def RetV (v:Value):Post:=⟨Unit,fun _=>v,fun _=>True,fun _=>[],fun _=>[]⟩
theorem isNaN_int (x:Int):Enters 70∧Spec prog 70 #[.int .i64 x] [] [] (RetV (.bool false)):=by
 refine ZE [_] func70 ntmps70 fun G w hp=>?_
 repeat' (first|refine ZC ?_|fail)
 refine ZD () ?_ trivial
 simp [RetV,resV]
theorem isNaN_str (x:ByteArray):Enters 174∧Spec prog 174 #[.string x] [] [] (RetV (.bool false)):=by
 refine ZE [_] func174 ntmps174 fun G w hp=>?_
 repeat' (first|refine ZC ?_|fail)
 refine ZD () ?_ trivial
 simp [RetV,resV]
theorem isNaN_lin (x:ByteArray):Enters 214∧Spec prog 214 #[.string x] [] [] (RetV (.bool false)):=by
 refine ZE [_] func214 ntmps214 fun G w hp=>?_
 repeat' (first|refine ZC ?_|fail)
 refine ZD () ?_ trivial
 simp [RetV,resV]
def cmpI (x y:Int):Int:=if x<y then -1 else if y<x then 1 else 0
def cmpS (x y:ByteArray):Int:=if Op.bytesLess x.toList y.toList then -1 else if x.toList=y.toList then 0 else 1
theorem cmp_int (x y:Int):Enters 41∧Spec prog 41 #[.int .i64 x,.int .i64 y] [] [] (RetV (.int .i64 (cmpI x y))):=by
 refine ZE [_,_] func41 ntmps41 fun G w hp=>?_
 repeat' (first|refine ZC ?_|refine ZA (isNaN_int _) (fun _ _=>?_)|refine ZB (fun hc=>?_) (fun hc=>?_)|fail)
 all_goals
  refine ZD () ?_ trivial
  simp_all [RetV,resV,cmpI]
 all_goals (repeat' split)<;>omega
theorem cmp_str (x y:ByteArray):Enters 135∧Spec prog 135 #[.string x,.string y] [] [] (RetV (.int .i64 (cmpS x y))):=by
 refine ZE [_,_] func135 ntmps135 fun G w hp=>?_
 repeat' (first|refine ZC ?_|refine ZA (isNaN_str _) (fun _ _=>?_)|refine ZB (fun hc=>?_) (fun hc=>?_)|fail)
 all_goals
  refine ZD () ?_ trivial
  simp_all [RetV,resV,cmpS]
theorem cmp_lin (x y:ByteArray):Enters 173∧Spec prog 173 #[.string x,.string y] [] [] (RetV (.int .i64 (cmpS x y))):=by
 refine ZE [_,_] func173 ntmps173 fun G w hp=>?_
 repeat' (first|refine ZC ?_|refine ZA (isNaN_lin _) (fun _ _=>?_)|refine ZB (fun hc=>?_) (fun hc=>?_)|fail)
 all_goals
  refine ZD () ?_ trivial
  simp_all [RetV,resV,cmpS]
theorem isDigit_ok (x:Int):Enters 182∧Spec prog 182 #[.int .u8 x] [] [] (RetV (.bool (decide (48≤x) && decide (x≤57)))):=by
 refine ZE [_] func182 ntmps182 fun G w hp=>?_
 repeat' (first|refine ZC ?_|refine ZG (fun hc=>?_) (fun hc=>?_)|fail)
 all_goals (refine ZD () ?_ trivial;simp_all [RetV,resV]<;>omega)
theorem YP (x:Int):Enters 106∧Spec prog 106 #[.int .i64 x] [] [] (RetV (.bool (decide (1≤x) && decide (x≤20)))):=by
 refine ZE [_] func106 ntmps106 fun G w hp=>?_
 repeat' (first|refine ZC ?_|refine ZG (fun hc=>?_) (fun hc=>?_)|fail)
 all_goals (refine ZD () ?_ trivial;simp_all [RetV,resV]<;>omega)
theorem Xo (x m:Int):Enters 107∧Spec prog 107 #[.int .i64 x,.int .i64 m] [] [] (RetV (.bool (decide (0≤x) && decide (x≤m)))):=by
 refine ZE [_,_] func107 ntmps107 fun G w hp=>?_
 repeat' (first|refine ZC ?_|refine ZG (fun hc=>?_) (fun hc=>?_)|fail)
 all_goals (refine ZD () ?_ trivial;simp_all [RetV,resV]<;>omega)
theorem isTick_ok (x:Int):Enters 74∧Spec prog 74 #[.int .i64 x] [] [] (RetV (.bool (decide (0≤x) && decide (x≤1073741824)))):=by
 refine ZE [_] func74 ntmps74 fun G w hp=>?_
 repeat' (first|refine ZC ?_|refine ZG (fun hc=>?_) (fun hc=>?_)|fail)
 all_goals (refine ZD () ?_ trivial;simp_all [RetV,resV]<;>omega)
structure Nm where
 kind:Int
 owner:ByteArray
 number:Int
 index:Int
 text:ByteArray
def Nm.v (a:Nm):Value:=.agg #[.int .i64 a.kind,.string a.owner,.int .i64 a.number,.int .i64 a.index,.string a.text]
theorem ofOut_ok (o:ByteArray) (m t:Int):Enters 87∧Spec prog 87 #[.string o,.int .i64 m,.int .i64 t] [] [] (RetV (.agg #[.int .i64 18,.string o,.int .i64 m,.int .i64 t,.string ⟨#[]⟩])):=by
 refine ZE [_,_,_] func87 ntmps87 fun G w hp=>?_
 repeat' (first|refine ZC ?_|refine ZH (fun b=>?_)|fail)
 all_goals (refine ZD () ?_ trivial;simp_all [RetV,resV]<;>omega)
theorem outName_ok (o:ByteArray) (m t:Int):Enters 54∧Spec prog 54 #[.string o,.int .i64 m,.int .i64 t] [] [] (RetV (.agg #[.int .i64 18,.string o,.int .i64 m,.int .i64 t,.string ⟨#[]⟩])):=by
 refine ZE [_,_,_] func54 ntmps54 fun G w hp=>?_
 repeat' (first|refine ZC ?_|refine ZH (fun b=>?_)|refine ZA (ofOut_ok _ _ _) (fun _ _=>?_)|fail)
 all_goals (refine ZD () ?_ trivial;simp_all [RetV,resV]<;>omega)
end Go.Proofs.YtcjfciifhdfjkaaGreatDoor
