/-
  Contracts of the package space: newHeld, New, need.
  Contracts of a process's memory: its source, need, own, access.
  Contracts of a process's memory: access, own.
  Contracts of a process's memory: own, Store.
  Contracts of a process's memory: Changes, Has, Pages, Page.
  Contracts of a process's memory: space.New, process.memoryOf, process.Memory.
  Contracts of a process's memory: process.Store.
  The contracts of process.Fork and process.Thread, where they succeed.
  Contracts of cpu.Encode and process.SetRegisters.
  What the functions of package process do with any view: a small language of reads and writes; Epoch, Get, running, put.
  What the functions of package process do with any view: running, put, Start, Exit, Set, SetRegisters, Registers.
  What a view holds of the counts of three processes that make nodes in turn.
  Entries as values, and their identities.
  The law InodeBirths, walked.
  Contracts of processes compared, and cut: slices.Equal, process.Equal, and the statements' own equal and short.
  What the functions of package process do with any view: Exit, Set, Boot, SetRegisters, Registers, owner, memoryOf.
  What the functions of package process do with any view: Boot, SetRegisters, Registers, memoryOf, Child, Wait.
  Contracts of a process's memory: Pages; the law's bytes.
  The bytes of a process's memory after a text was stored: plain laws.
  A text stored into a process's memory and put back: the contracts and what is there then.
  What the functions of package process do with any view: Memory, Store.
  The library's contract, laid at this program: strings.Repeat; and process.setPages, Grow.
  The contracts of process.Grow by one page, and of process.Thread, where they succeed.
  What the functions of package process do with any view: setPages, Grow; strings.Repeat of zero bytes.
  Contracts of the package image: Check, End, NumPages, Memory.
  The example of layer 35, known.
  What is there in the law ProcessForks: before the fork, after it, after each store; and rules that its walk needs.
  Contracts of the package image: pages, Pages.
  The name of a child of a valid name is valid; no program in sight.
  The counts of a process once more: SetMade where it fails, what DecodeCounts accepts, the statement's own counts.
  What the functions of package process do with any view: Child, the counts of a process, Wait.
  What the functions of package process do with any view: Fork and Thread.
  The contract of Rollback where there is nothing to roll back.
  What the functions of package process do with any view: Load.
  Conditions: those that each theorem states.
-/
import Derived.Test.YtgfohjbcccfolaaGreatDoorU3
import Derived.Test.YtgfohjbcccfolaaGreatDoorU2
import Derived.Shelf.Strings.Repeat
set_option maxRecDepth 10000
namespace Go.Proofs.YtgfohjbcccfolaaGreatDoor
open Go.RowKit Go.Proofs.Tryz
variable {n:Nat} {C:Cx} {Q:Exit→Act→World→Prop} {E E':List (Nat×Value)} {F F' F1 Fs F0:List Pf} {R R' R0 Rs N N' A:List HP} {k k':List Fr} {ops l:List Oper} {L L':List (Nat×Nat)} {Tl:List Nat} {i d:Nat} {t ty0:TypeId} {x y:Operand} {pos:String} {aft:Array Edge} {gd:Option (Nat×Bool)}
section
variable {t2:TypeId} {v:Value}
theorem run_ldFn {b off:Nat} {cs:Array Value} {ty:TypeId} {fzn:Nat×Nat} {w:World} {de:TypeDesc} (hd:prog.underlying t=some de) (ha:(match de with | .struct _=>true | .array _ _=>true|_=>false)=false) (hb:w.heap[b]? = some (.cells cs ty fzn)) (hv:cs.toList[off]? = some v) :
  (loadVar t ⟨b,off,none⟩).run prog w = .ok v w:=by
 have hcell:w.cell? ⟨b,off,none⟩=some v:=by unfold World.cell?;rw [hb];simpa using hv
 have hag:(Go.isAgg t).run prog w = .ok false w:=by
  unfold Go.isAgg
  have hu:(underlying t).run prog w = .ok de w:=by simp [underlying,hd,go_sem]
  rw [Sem.run_bind,hu]
  simp only [Result.andThen]
  cases de<;>first|rfl|(simp at ha)
 unfold loadVar
 rw [Sem.run_bind,hag]
 simp only [Result.andThen]
 show (load ⟨b,off,none⟩).run prog w=_
 simp only [load,Sem.run,hcell]
theorem l_ldFn {b off:Nat} {cs:Array Value} {ty:TypeId} {fzn:Nat×Nat} {de:TypeDesc} (hd:prog.underlying t=some de) (nx:Wl n C ops.toArray k Q l ((d,v)::E) F R) (hw:wantL ops E ⟨some d,.load t x,ty0,pos,aft,gd⟩=some true:=by rfl) (hn:Nat.blt d n=true:=by rfl)
  (hx:ev E x=some (.pointer (some ⟨b,off,none⟩)):=by rfl) (hs:Sel (Blk b (.cells cs ty fzn)) F F0:=by (repeat (first|exact Sel.here|apply Sel.there));first|done|fail) (hv:cs.toList[off]? = some v:=by rfl) (ha:(match de with | .struct _=>true | .array _ _=>true|_=>false)=false:=by rfl) :
  Wl n C ops.toArray k Q (⟨some d,.load t x,ty0,pos,aft,gd⟩::l) E F R:=
 YA (fun t ht=>by cases ht;exact Nat.le_of_ble_eq_true hn) (fun c hc=>by cases hc) hw fun a w ha' hsat=>by
  have hr:=run_ldFn hd ha (hsat.blk hs) hv
  unfold OpRes
  simp only [execOp,Instr.loadAt,ha'.ev (by rw [ZL];exact hx),Instr.sureAddr,Sem.run_bind,Sem.run_pure,Result.andThen,hr]
  exact fun a' h=>nx a' w h hsat
theorem l_ldFc {b off T:Nat} {es:List Value} {de:TypeDesc} (hd:prog.underlying t=some de) (j:Nat) (hv:es[j]? = some v) (nx:Wl n C ops.toArray k Q l ((d,v)::E) F R) (hw:wantL ops E ⟨some d,.load t x,ty0,pos,aft,gd⟩=some true:=by rfl) (hn:Nat.blt d n=true:=by rfl)
  (hx:ev E x=some (.pointer (some ⟨b,off,none⟩)):=by rfl) (hs:Sel (Ar T cf b es) R R0:=by (repeat (first|exact Sel.here|apply Sel.there));first|done|fail) (ho:off=j:=by first|rfl|omega) (ha:(match de with | .struct _=>true | .array _ _=>true|_=>false)=false:=by rfl) :
  Wl n C ops.toArray k Q (⟨some d,.load t x,ty0,pos,aft,gd⟩::l) E F R:=
 YA (fun t ht=>by cases ht;exact Nat.le_of_ble_eq_true hn) (fun c hc=>by cases hc) hw fun a w ha' hsat=>by
  subst ho
  have hfl:es.flatMap cf=es:=by simp
  have hr:=run_ldFn hd ha (hsat.pt hs) (off:=off) (v:=v) (by rw [List.toList_toArray,hfl];exact hv)
  unfold OpRes
  simp only [execOp,Instr.loadAt,ha'.ev (by rw [ZL];exact hx),Instr.sureAddr,Sem.run_bind,Sem.run_pure,Result.andThen,hr]
  exact fun a' h=>nx a' w h hsat
theorem r_ldFc {b off T:Nat} {es:List Value} {de:TypeDesc} (hd:prog.underlying t=some de) (j:Nat) (hv:es[j]? = some v) (nx:Wr n C ops k Q Tl Fs R L ((d,v)::E) F N) (hop:nth ops i=some ⟨some d,.load t x,ty0,pos,aft,gd⟩:=by rfl) (hw:wantL ops E ⟨some d,.load t x,ty0,pos,aft,gd⟩=some true:=by rfl)
  (hx:ev E x=some (.pointer (some ⟨b,off,none⟩)):=by rfl) (hs:Sel (Ar T cf b es) R R0:=by (repeat (first|exact Sel.here|apply Sel.there));first|done|fail) (ho:off=j:=by first|rfl|omega) (ha:(match de with | .struct _=>true | .array _ _=>true|_=>false)=false:=by rfl) :
  Wr n C ops k Q Tl Fs R ((i,0)::L) E F N:=
 Yk hop fun hp hr w st hz sb=>by
  simp only [Zt hw]
  refine ⟨v,fun a w ha' hin=>?_,nx hp hr w st hz sb⟩
  subst ho
  have hfl:es.flatMap cf=es:=by simp
  have hr:=run_ldFn hd ha (hin _ _ (sb _ _ (UQ st (show Sel (Pt b (.cells (es.flatMap cf).toArray T (0,0))) R R0 from hs)))) (off:=off) (v:=v) (by rw [List.toList_toArray,hfl];exact hv)
  simp only [execOp,Instr.loadAt,ha'.ev (by rw [ZL];exact hx),Instr.sureAddr,Sem.run_bind,Sem.run_pure,Result.andThen,hr]
theorem l_nefn {f:Fn} {fs cs:Array Value} {p1 p2:Array TypeId} {p3:Bool} (hd:prog.underlying t=some (.func p1 p2 p3)) (nx:Wl n C ops.toArray k Q l ((d,.bool true)::E) F R) (hw:wantL ops E ⟨some d,.binOp .neq t x y t2,ty0,pos,aft,gd⟩=some true:=by rfl) (hn:Nat.blt d n=true:=by rfl)
  (hx:ev E x=some (.func f fs cs):=by rfl) (hy:ev E y=some .nilFunc:=by rfl):Wl n C ops.toArray k Q (⟨some d,.binOp .neq t x y t2,ty0,pos,aft,gd⟩::l) E F R:=
 l_q (fun ac w ha=>by
  have hu:(underlying t).run prog w = .ok (.func p1 p2 p3) w:=by simp [underlying,hd,go_sem]
  have hg:(eqGuard .neq t x y (.func f fs cs) .nilFunc).run prog w = .ok () w:=by simp [eqGuard]
  have hb:(binOp .neq t (.func f fs cs) .nilFunc).run prog w = .ok (.bool true) w:=by
   have he:(Op.equal t (.func f fs cs) .nilFunc).run prog w = .ok false w:=by
    show (Op.equalIn (9999+1) t (.func f fs cs) .nilFunc).run prog w = .ok false w
    rw [Op.equalIn]
    simp only [Sem.run_bind,hu,Result.andThen,Sem.run_pure]
   simp only [binOp,Sem.run_bind,he,Result.andThen,Sem.run_pure]
   rfl
  simp only [execOp,ha.ev (x:=x) (by rw [ZL];exact hx),ha.ev (x:=y) (by rw [ZL];exact hy),Sem.run_bind,hg,Result.andThen,hb,Sem.run_pure]) nx (by intro c h;cases h) hw hn
theorem l_ixA1 {T m b off:Nat} {z:Int} {kd:IntKind} {rs tr:TRow} (j:Nat) (hlt:j<m) (nx:Wl n C ops.toArray k Q l ((d,.pointer (some ⟨b,off+j,none⟩))::E) F R)
  (hw:wantL ops E ⟨some d,.indexAddr t x y,ty0,pos,aft,gd⟩=some true:=by rfl) (hn:Nat.blt d n=true:=by rfl) (hx:ev E x=some (.pointer (some ⟨b,off,none⟩)):=by rfl) (hy:ev E y=some (.int kd z):=by rfl)
  (hts:lookT tab t=some rs:=by rfl) (hrs:rs.k = .arr m T:=by rfl) (hT:lookT tab T=some tr:=by rfl) (hsz:tr.size=1:=by rfl) (hz:z=(j:Int):=by first|rfl|omega):Wl n C ops.toArray k Q (⟨some d,.indexAddr t x y,ty0,pos,aft,gd⟩::l) E F R:=
 l_q (fun a w ha=>by
  have hr:=VR (b:=b) (off:=off) (kd:=kd) (w:=w) hts hrs hT hsz hz hlt
  rw [Nat.mul_one] at hr
  simp only [execOp,ha.ev (x:=x) (by rw [ZL];exact hx),ha.ev (x:=y) (by rw [ZL];exact hy),Sem.run_bind,Result.andThen,hr,Sem.run_pure]) nx (by intro c h;cases h) hw hn
theorem r_ixA1 {T m b off:Nat} {z:Int} {kd:IntKind} {rs tr:TRow} (j:Nat) (hlt:j<m) (nx:Wr n C ops k Q Tl Fs R L ((d,.pointer (some ⟨b,off+j,none⟩))::E) F N)
  (ho:nth ops i=some ⟨some d,.indexAddr t x y,ty0,pos,aft,gd⟩:=by rfl) (hw:wantL ops E ⟨some d,.indexAddr t x y,ty0,pos,aft,gd⟩=some true:=by rfl) (hx:ev E x=some (.pointer (some ⟨b,off,none⟩)):=by rfl) (hy:ev E y=some (.int kd z):=by rfl)
  (hts:lookT tab t=some rs:=by rfl) (hrs:rs.k = .arr m T:=by rfl) (hT:lookT tab T=some tr:=by rfl) (hsz:tr.size=1:=by rfl) (hz:z=(j:Int):=by first|rfl|omega):Wr n C ops k Q Tl Fs R ((i,0)::L) E F N:=
 r_q (fun a w ha=>by
  have hr:=VR (b:=b) (off:=off) (kd:=kd) (w:=w) hts hrs hT hsz hz hlt
  rw [Nat.mul_one] at hr
  simp only [execOp,ha.ev (x:=x) (by rw [ZL];exact hx),ha.ev (x:=y) (by rw [ZL];exact hy),Sem.run_bind,Result.andThen,hr,Sem.run_pure]) nx ho hw
def cpS (es:List UInt8) (s:ByteArray):List UInt8:=s.data.toList.take es.length++es.drop s.size
theorem cpS_len (es:List UInt8) (s:ByteArray):(cpS es s).length=es.length:=by
 have:s.data.toList.length=s.size:=by simp
 simp only [cpS,List.length_append,List.length_take,List.length_drop];omega
theorem run_copyH {T T0 b dl c:Nat} {es:List UInt8} {q:List Value×(Nat×Nat)} {s:ByteArray} {ts tx:TypeId} {rs tr:TRow} {w:World} (hts:lookT tab ts=some rs) (hrs:rs.k = .slice T0) (hT:lookT tab T0=some tr) (hsz:tr.size=1)
  (hb:w.heap[b]? = some (.cells (es.flatMap bf++q.1).toArray T q.2)) (hq:AxOK (es.length * 1) q) (hdl:dl=es.length) :
  ∃w',(Builtin.copy_ #[ts,tx] ty0 #[.slice (some ⟨b,0,none⟩) dl c,.string s]).run prog w = .ok (.int .i64 ((min s.size dl:Nat):Int)) w'∧w'.heap[b]? = some (.cells ((cpS es s).flatMap bf++q.1).toArray T q.2)∧Same w w'∧∀e,e≠b→w'.heap[e]? = w.heap[e]?:=by
 subst hdl
 have hs1:=Zj.sizeOf hT w
 rw [hsz] at hs1
 have hds:s.data.toList.length=s.size:=by simp
 have hcells:((s.extract 0 (min s.size es.length)).data.map fun b=>Value.int .u8 b.toNat).toList=byt (s.data.toList.take (min s.size es.length)):=by
  simp [byt]
 have hel:(es.flatMap bf).length=es.length:=by rw [←YY];simp [byt]
 have hbl:(byt (s.data.toList.take (min s.size es.length))).length=min s.size es.length:=by simp only [byt_len,List.length_take];omega
 obtain ⟨w',g1,g2,g3,g4⟩:=XC (P:=prog) (b:=b) (ty:=T) (fz:=q.2) 0 (byt (s.data.toList.take (min s.size es.length))) 0 w (es.flatMap bf++q.1) hb (by
  rcases hq with h|h
  ·exact .inl h
  ·exact .inr (by rw [List.length_append,hel];omega)) (one1_byt _) (by rw [hbl,List.length_append,hel];omega)
 refine ⟨w',?_,?_,g3,g4⟩
 ·have hn:Nat.min s.size es.length=min s.size es.length:=rfl
  simp only [Builtin.copy_,List.getElem?_toArray,List.getElem?_cons_zero,List.getElem?_cons_succ,Sem.run_bind,Xc hts hrs,Result.andThen,Builtin.lenOf,Sem.run_pure,hs1,Builtin.firstCells,hn]
  rw [hcells,g1]
  rfl
 ·rw [g2]
  congr 3
  rw [hbl,Nat.zero_add,Nat.zero_add,List.take_zero,List.nil_append,cpS,List.flatMap_append,←YY,←YY,←YY]
  by_cases h:s.size≤es.length
  ·rw [Nat.min_eq_left h,List.drop_append_of_le_length (by simp [byt];omega),List.take_of_length_le (by omega),List.take_of_length_le (by omega)]
   simp [byt,List.map_drop]
  ·rw [Nat.min_eq_right (by omega),show es.drop s.size=[] from List.drop_eq_nil_of_le (by omega)]
   have:(byt es++q.1).drop es.length=q.1:=by rw [show es.length=(byt es).length by simp [byt],List.drop_left]
   rw [this];simp [byt]
theorem l_copyH {T T0 b dl c:Nat} {es:List UInt8} {q:List Value×(Nat×Nat)} {s:ByteArray} {ts tx:TypeId} {rs tr:TRow} (hq:AxOK (es.length * 1) q) (nx:Wl n C ops.toArray k Q l ((d,.int .i64 ((min s.size dl:Nat):Int))::E) F (Ax T bf b (cpS es s) q::R0)) (hdl:dl=es.length)
  (hw:wantL ops E ⟨some d,.call ⟨.builtin .copy,#[x,y],#[ts,tx]⟩,ty0,pos,aft,gd⟩=some true:=by rfl) (hn:Nat.blt d n=true:=by rfl) (hx:ev E x=some (.slice (some ⟨b,0,none⟩) dl c):=by rfl) (hy:ev E y=some (.string s):=by rfl)
  (hts:lookT tab ts=some rs:=by rfl) (hrs:rs.k = .slice T0:=by rfl) (hT:lookT tab T0=some tr:=by rfl) (hsz:tr.size=1:=by rfl) (hs:Sel (Ax T bf b es q) R R0:=by (repeat (first|exact Sel.here|apply Sel.there));first|done|fail) :
  Wl n C ops.toArray k Q (⟨some d,.call ⟨.builtin .copy,#[x,y],#[ts,tx]⟩,ty0,pos,aft,gd⟩::l) E F R:=
 YA (fun t ht=>by cases ht;exact Nat.le_of_ble_eq_true hn) (fun c hc=>by cases hc) hw fun a w ha hsat=>by
  obtain ⟨w',g1,g2,g3,g4⟩:=run_copyH (ty0:=ty0) (tx:=tx) (c:=c) (s:=s) hts hrs hT hsz (hsat.pt hs) hq hdl
  have hse:Sat C.G C.w0 C.hp0 F (Ax T bf b (cpS es s) q::R0) w':=(hsat.sel hs).write g3 g2 fun e he _=>g4 e he
  unfold OpRes
  have e1:=ha.ev (x:=x) (by rw [ZL];exact hx)
  have e2:=ha.ev (x:=y) (by rw [ZL];exact hy)
  simp only [execOp,resolve,Sem.run_bind,Sem.run_pure,Result.andThen,invoke,builtin,List.map_toArray,List.map_cons,List.map_nil,e1,e2,g1]
  exact fun a' ha'=>nx a' w' ha' hse
theorem l_b2sH {T T1 b m c:Nat} {es:List UInt8} {q:List Value×(Nat×Nat)} {td:TypeId} {rs tr rd:TRow} (nx:Wl n C ops.toArray k Q l ((d,.string ⟨es.toArray⟩)::E) F R) (hm:m=es.length)
  (hw:wantL ops E ⟨some d,.convert t td x,ty0,pos,aft,gd⟩=some true:=by rfl) (hn:Nat.blt d n=true:=by rfl) (hx:ev E x=some (.slice (some ⟨b,0,none⟩) m c):=by rfl)
  (hs:Sel (Ax T bf b es q) R R0:=by (repeat (first|exact Sel.here|apply Sel.there));first|done|fail) (hts:lookT tab t=some rs:=by rfl) (hrs:rs.k = .slice T1:=by rfl) (hT:lookT tab T1=some tr:=by rfl) (hTk:tr.k = .int .u8:=by rfl) (htd:lookT tab td=some rd:=by rfl) (hrd:rd.k = .str:=by rfl) :
  Wl n C ops.toArray k Q (⟨some d,.convert t td x,ty0,pos,aft,gd⟩::l) E F R:=
 YA (fun t ht=>by cases ht;exact Nat.le_of_ble_eq_true hn) (fun c hc=>by cases hc) hw fun a w ha hsat=>by
  subst hm
  have hb:=hsat.pt hs
  have hr1:(Conv.bytesToString (.slice (some ⟨b,0,none⟩) es.length c)).run prog w = .ok (.string ⟨es.toArray⟩) w:=by
   rw [run_bytesToString (ns:=es.map fun b=>(b.toNat:Int))]
   ·rw [VE];simp
   ·unfold loadCells
    rw [run_loadCells hb 0 es.length 0 #[] (by rw [←YY];simp [byt])]
    rw [←YY]
    simp [byt]
  unfold OpRes
  simp only [execOp,ha.ev (x:=x) (by rw [ZL];exact hx),convert,Xc hts hrs,Yp htd hrd,UC hT hTk,Sem.run_bind,Result.andThen,Sem.run_pure,hr1]
  exact fun a' ha'=>nx a' w ha' hsat
end
def tabS:Tab:=[(149,⟨.struct [(0,145,1),(1,146,64),(65,146,64),(129,146,64),(193,147,64)],257,712,spcL .nilFunc (fun _=>.u) (fun _=>false) (fun _=>0)⟩)]
set_option maxRecDepth 100000 in
theorem tabS_ok:TabOK prog tabS:=by unfold TabOK;kernel_rfl
section
variable {v:Value}
theorem l_qS {op:Op} (nx:Wl n C ops.toArray k Q l ((d,v)::E) F R) (h:qv tabS (ev E) op=some v:=by rfl) (hdf:∀c,op≠.defer c:=by intro c h;cases h) (hw:wantL ops E ⟨some d,op,ty0,pos,aft,gd⟩=some true:=by rfl) (hn:Nat.blt d n=true:=by rfl) :
  Wl n C ops.toArray k Q (⟨some d,op,ty0,pos,aft,gd⟩::l) E F R:=
 l_q (fun a w ha=>qv_ok (o:=⟨some d,op,ty0,pos,aft,gd⟩) tabS_ok h (fun x _ u hu=>ha.ev (by rw [ZL];exact hu)) w) nx hdf hw hn
theorem r_qS {op:Op} (nx:Wr n C ops k Q Tl Fs R L ((d,v)::E) F N) (ho:nth ops i=some ⟨some d,op,ty0,pos,aft,gd⟩:=by rfl) (h:qv tabS (ev E) op=some v:=by rfl) (hw:wantL ops E ⟨some d,op,ty0,pos,aft,gd⟩=some true:=by rfl) :
  Wr n C ops k Q Tl Fs R ((i,0)::L) E F N:=
 r_q (fun a w ha=>qv_ok (o:=⟨some d,op,ty0,pos,aft,gd⟩) tabS_ok h (fun x _ u hu=>ha.ev (by rw [ZL];exact hu)) w) nx ho hw
end
def z64:List UInt8:=List.replicate 64 0
def padS (s:ByteArray):List UInt8:=cpS z64 s
theorem Yr (s:ByteArray):(padS s).length=64:=by unfold padS;rw [cpS_len];rfl
theorem newHeld_ok (s:ByteArray):Enters 128∧Spec prog 128 #[.string s] [] [] ⟨Nat,fun b=>.pointer (some ⟨b,0,none⟩),fun _=>True,fun _=>[],fun b=>[Hld b (padS s)]⟩:=by
 refine ZH [_] func128 ntmps128 fun G w hp=>?_
 repeat' (first|refine ZC ?_|refine ZB ?_|refine ZD ?_|refine ZN (fun b=>?_)|refine l_sla0 ?_|fail)
 refine l_ptc (b:=b) (.cells (z64.flatMap bf++[Value.bool false]).toArray 143 (0,0)) rfl ?_
 refine l_copyH (T:=143) (es:=z64) (q:=([Value.bool false],(0,0))) (.inl rfl) ?_ rfl
 repeat' (first|refine ZC ?_|refine ZB ?_|refine ZD ?_|fail)
 exact ZG b rfl trivial
theorem idleNew (p:Value):Idle 127 (#[]++#[p]):=fun w=>by
 refine callsDIn_of_wpSIn func127 rfl trivial fun c₀ cs hu=>?_
 apply wpSIn_seq
 apply wpSIn_region
 simp [wpOpsSIn,go_sem,recoverD,hu,ntmps127,Exit.thenS]
 refine wpSIn_cond (t:=false) (by simp [Act.eval,Array.replicate]) ?_
 simp only [Bool.false_eq_true,if_false]
 refine wpSIn_of_wpIn rfl (wpIn_skip ?_)
 cases c₀
 simp_all [bodyPostS,results]
namespace VP
def vrN (cs:List Ch) (n:Nm):List Nm:=if nchk n≠0 then [] else match vcall cs n with
 | some _=>[]
 | none=>[n]
end VP
open VP
def rsOf (es:Al):List Nm→List (Nm×Ch)→List (Nm×Ch)
 | [],rs=>rs
 | n::N,rs=>rsOf es N (mset n ⟨n,(getO n es).getD ⟨#[]⟩,!(getO n es).isSome⟩ rs)
theorem Zm (es:Al):∀(N M:List Nm) (rs:List (Nm×Ch)),rsOf es (N++M) rs=rsOf es M (rsOf es N rs)
 | [],_,_=>rfl
 | _::N,M,_rs=>Zm es N M _
theorem XM (es:Al) (rs:List (Nm×Ch)) (cs:List Ch) (n:Nm):vread es rs cs n=rsOf es (vrN cs n) rs:=by
 unfold vread vrN
 split
 ·rfl
 ·cases vcall cs n<;>rfl
def RdX (es:Al) (cs:List Ch) (sp:ByteArray) (M M':Nat→Pg) (h:Pg→Bool) (rs rs':List (Nm×Ch)):Prop:=
 ∃N:List Nm,rs'=rsOf es N rs∧(∀n ∈ N,nchk n=0∧∃i:Nat,i<64∧n=gnm sp (i:Int))∧∀i:Nat,M i = .u→h (M' i)=true→∀n ∈ vrN cs (gnm sp (i:Int)),n ∈ N
structure Sr where
 t1:Nat
 ob:Nat
 vx:Nat
 pb:Nat
 vb:Nat
 p:Pr
 po:Option Addr
 pc:Nat
 o:Pr
 oo:Option Addr
 oc:Nat
def Sr.fs (s:Sr) (ps:Option Addr) (es:Al):List Pf:=[St ps es,Usg,Blk s.t1 (.cells #[.func (.func 76) #[] #[.pointer (some ⟨s.ob,0,none⟩),.pointer (some ⟨s.vx,0,none⟩),.pointer (some ⟨s.pb,0,none⟩)]] 213),
 Blk s.ob (.cells (prf s.o s.oo s.oc).toArray 44),Blk s.vx (.cells #[.pointer (some ⟨s.vb,0,none⟩)] 23),Blk s.pb (.cells (prf s.p s.po s.pc).toArray 44)]
def Sr.fv (s:Sr):Value:=.func (.func 126) #[] #[.pointer (some ⟨s.t1,0,none⟩)]
def srP (es:Al) (cs:List Ch) (s:Sr) (i:Nat):Pg:=if (i:Int)<s.o.pg then .h (padS (vget es cs (gnm s.p.sp i)).1) false else .n
section
variable (s:Sr) (ps:Option Addr) (es:Al) (rs:List (Nm×Ch)) (cs:List Ch) (hsp:s.p.sp.size≤1000)
include hsp
theorem srcY_ok (i:Nat) (hi:(i:Int)<s.o.pg):Enters 76∧Spec prog 76 #[.int .i64 (i:Int),.pointer (some ⟨s.ob,0,none⟩),.pointer (some ⟨s.vx,0,none⟩),.pointer (some ⟨s.pb,0,none⟩)] (s.fs ps es) [Vw s.vb ps rs cs]
  ⟨List (Nm×Ch),fun _=>.tuple #[.string (vget es cs (gnm s.p.sp i)).1,.bool true],fun r=>r=vread es rs cs (gnm s.p.sp i),fun _=>[],fun r=>[Vw s.vb ps r cs]⟩:=by
 have n1:=Xb s.p.sp (i:Int)
 have n2:=XR s.vb ps es rs cs (gnm s.p.sp (i:Int)) (by show s.p.sp.size≤_;omega) (Nat.zero_le _)
 obtain ⟨st1,sob,svx,spb,svb,⟨x1,x2,x3,x4,x5,xs,x7,x8,⟨x9,x10⟩,x11⟩,spo,spc,⟨y1,y2,y3,y4,y5,ys,y7,y8,⟨y9,y10⟩,y11⟩,soo,soc⟩:=s
 dsimp only [Sr.fs,prf] at *
 generalize hrs:vread es rs cs (gnm x7 (i:Int))=rs2 at *
 refine ZH [_,_,_,_] func76 ntmps76 fun G w hp=>?_
 repeat' (first|refine ZC ?_|refine ZB ?_|refine ZU ?_|refine ZD ?_|refine Z9 ?_|refine ZO ?_|refine X7 ?_|refine ZQ ?_|refine ZR (n1) (fun _ _=>?_)|refine ZR (n2) (fun _ _=>?_)|refine ZK 3 [Vw _ _ _ _] [(0,0),(1,0),(2,0),(3,0),(4,4),(5,4),(6,0),(7,0),(8,0),(9,0),(10,0)] [] ?_|(refine ZF (fun hc=>?_) (fun hc=>?_)<;>(try simp at hc)<;>(try omega))|fail)
 exact ZG rs2 rfl rfl
omit hsp in
theorem srcN_ok (i:Nat) (hi:¬(i:Int)<s.o.pg):Enters 76∧Spec prog 76 #[.int .i64 (i:Int),.pointer (some ⟨s.ob,0,none⟩),.pointer (some ⟨s.vx,0,none⟩),.pointer (some ⟨s.pb,0,none⟩)] (s.fs ps es) []
  (RetV (.tuple #[.string ⟨#[]⟩,.bool false])):=by
 obtain ⟨st1,sob,svx,spb,svb,⟨x1,x2,x3,x4,x5,xs,x7,x8,⟨x9,x10⟩,x11⟩,spo,spc,⟨y1,y2,y3,y4,y5,ys,y7,y8,⟨y9,y10⟩,y11⟩,soo,soc⟩:=s
 dsimp only [Sr.fs,prf] at *
 refine ZH [_,_,_,_] func76 ntmps76 fun G w hp=>?_
 repeat' (first|refine ZC ?_|refine ZB ?_|refine ZU ?_|refine ZD ?_|refine Z9 ?_|(refine ZF (fun hc=>?_) (fun hc=>?_)<;>(try simp at hc)<;>(try omega))|fail)
 exact ZG () rfl trivial
theorem fetchY_ok (i:Nat) (hi:(i:Int)<s.o.pg):Enters 126∧Spec prog 126 #[.int .i64 (i:Int),.pointer (some ⟨s.t1,0,none⟩)] (s.fs ps es) [Vw s.vb ps rs cs]
  ⟨Nat×List (Nm×Ch),fun q=>.pointer (some ⟨q.1,0,none⟩),fun q=>q.2=vread es rs cs (gnm s.p.sp i),fun _=>[],fun q=>[Hld q.1 (padS (vget es cs (gnm s.p.sp i)).1),Vw s.vb ps q.2 cs]⟩:=by
 have n1:=srcY_ok s ps es rs cs hsp i hi
 have n2:=newHeld_ok (vget es cs (gnm s.p.sp i)).1
 have n3:Enters 127:=enters_of func127 (by kernel_rfl) rfl
 generalize (vget es cs (gnm s.p.sp i)).1=tx at *
 dsimp only [Sr.fs] at *
 refine ⟨enters_of func126 (by kernel_rfl) rfl,spec_ofD (vs:=[_,_]) func126 rfl ntmps126 rfl fun G w hp=>?_⟩
 repeat' (first|refine ZC ?_|refine ZB ?_|refine ZD ?_|refine ZS ?_|refine ZN (fun b=>?_)|refine ZE ?_|refine ZA (n2) (fun _ _=>?_)|refine l_defer ?_|refine l_ldFn underlying213 ?_|refine X9 n1 (fun _ _=>?_)|fail)
 rename_i r hr h _
 exact k_retD n3 (idleNew _) (h,r) rfl hr
omit hsp in
theorem fetchN_ok (i:Nat) (hi:¬(i:Int)<s.o.pg):Enters 126∧Spec prog 126 #[.int .i64 (i:Int),.pointer (some ⟨s.t1,0,none⟩)] (s.fs ps es) [] (RetV (.pointer none)):=by
 have n1:=srcN_ok s ps es i hi
 have n3:Enters 127:=enters_of func127 (by kernel_rfl) rfl
 dsimp only [Sr.fs] at *
 refine ⟨enters_of func126 (by kernel_rfl) rfl,spec_ofD (vs:=[_,_]) func126 rfl ntmps126 rfl fun G w hp=>?_⟩
 repeat' (first|refine ZC ?_|refine ZB ?_|refine ZD ?_|refine ZS ?_|refine ZN (fun b=>?_)|refine ZJ ?_|refine l_defer ?_|refine l_ldFn underlying213 ?_|refine X9 n1 (fun _ _=>?_)|fail)
 exact k_retD n3 (idleNew _) () rfl trivial
def ndM (src:Nat→Pg) (M:Nat→Pg) (i:Nat):Nat→Pg:=match M i with
 | .u=>up M i (src i)
 | _=>M
omit hsp in
theorem srP_kn {es:Al} {cs:List Ch} {s:Sr} {i:Nat}:(srP es cs s i).kn=true∧(srP es cs s i).chg=false:=by
 unfold srP;split<;>exact ⟨rfl,rfl⟩
theorem need_ok (b:Nat) (M:Nat→Pg) (ak:Nat→Bool) (bl:Nat→Nat) (i:Nat) (hi:i<64) :
  Enters 131∧Spec prog 131 #[.pointer (some ⟨b,0,none⟩),.int .i64 (i:Int)] (s.fs ps es) [Ar 149 cf b (spcL s.fv M ak bl),Hd M bl,Vw s.vb ps rs cs]
  ⟨(Nat→Bool)×(Nat→Nat)×List (Nm×Ch),fun q=>pgv (ndM (srP es cs s) M i i) (q.2.1 i),fun q=>q.2.2=if (M i).kn=false∧(i:Int)<s.o.pg then vread es rs cs (gnm s.p.sp i) else rs,fun _=>[],fun q=>[Ar 149 cf b (spcL s.fv (ndM (srP es cs s) M i) q.1 q.2.1),Hd (ndM (srP es cs s) M i) q.2.1,Vw s.vb ps q.2.2 cs]⟩:=by
 have o1:0+(0+1)+i=(1+i) * 1+0:=by omega
 have o2:0+(0+65)+i=(65+i) * 1+0:=by omega
 have o4:0+(0+193)+i=(193+i) * 1+0:=by omega
 have g1:=spc_kn (fv:=s.fv) (M:=M) (ak:=ak) (bl:=bl) hi
 have g2:=spc_pg (fv:=s.fv) (M:=M) (ak:=ak) (bl:=bl) hi
 by_cases hu:M i = .u
 ·have hnd:ndM (srP es cs s) M i=up M i (srP es cs s i):=by unfold ndM;rw [hu]
  rw [hnd,Xk]
  have g0:=spc_f (fv:=s.fv) (M:=M) (ak:=ak) (bl:=bl)
  have hk:=srP_kn (es:=es) (cs:=cs) (s:=s) (i:=i)
  rw [hu] at g1
  have e1:((spcL s.fv M ak bl).set (1+i) (.bool true))[0]? = some s.fv:=by rw [List.getElem?_set_ne (by omega)];exact g0
  have e2:((spcL s.fv M ak bl).set (1+i) (.bool true))[65+i]? = some (.bool (ak i)):=by rw [List.getElem?_set_ne (by omega)];exact spc_ak hi
  have e3:(((spcL s.fv M ak bl).set (1+i) (.bool true)).set (65+i) (.bool true))[0]? = some s.fv:=by rw [List.getElem?_set_ne (by omega)];exact e1
  have e4:(((spcL s.fv M ak bl).set (1+i) (.bool true)).set (65+i) (.bool true))[193+i]? = some (pgv (M i) (bl i)):=by rw [List.getElem?_set_ne (by omega),List.getElem?_set_ne (by omega)];exact g2
  have e5:=fun hb:Nat=>Xd (fv:=s.fv) (M:=up M i (srP es cs s i)) (ak:=up ak i true) (bl:=up bl i hb) (k:=193+i) (by omega)
  have hnew:=fun hb:Nat=>spc_new (fv:=s.fv) (ak:=ak) (bl:=bl) hi hu (srP es cs s i) hk.1 hk.2 hb
  have e6:∀hb,(spcL s.fv (up M i (srP es cs s i)) (up ak i true) (up bl i hb))[193+i]? = some (pgv (srP es cs s i) hb):=fun hb=>by
   have:=spc_pg (fv:=s.fv) (M:=up M i (srP es cs s i)) (ak:=up ak i true) (bl:=up bl i hb) hi
   rw [Xk,Xk] at this;exact this
  have hpu:pgH (M i) (bl i)=[]:=by rw [hu];rfl
  rw [hu] at g2 e4
  have g6:∀v:Value,((((spcL s.fv M ak bl).set (1+i) (.bool true)).set (65+i) (.bool true)).set (193+i) v)[193+i]? = some v:=fun v=>List.getElem?_set_self (by simp [Xl];omega)
  by_cases hpg:(i:Int)<s.o.pg
  ·have hs:srP es cs s i = .h (padS (vget es cs (gnm s.p.sp i)).1) false:=by unfold srP;rw [if_pos hpg]
   have n1:=fetchY_ok s ps es rs cs hsp i hpg
   rw [hs] at hnew ⊢
   clear e5 e6 hnd hk hs
   generalize padS (vget es cs (gnm s.p.sp i)).1=bs at *
   generalize spcL s.fv M ak bl=L0 at *
   dsimp only [Sr.fs] at *
   generalize b=bv at *
   refine ZH [_,_] func131 ntmps131 fun G w hp=>?_
   repeat' (first|refine ZC ?_|refine ZB ?_|refine ZD ?_|refine ZJ ?_|refine ZO ?_|refine ZQ ?_|refine l_qS ?_|refine r_qS ?_|refine l_ixA1 (m:=64) i hi ?_|refine r_ixA1 (m:=64) i hi ?_|refine l_ldA 1 (1+i) 0 g1 ?_ (ho:=o1)|refine l_stA 1 (1+i) 0 (.bool true) g1 ?_ (ho:=o1)|refine l_ldFc underlying145 0 e1 ?_|refine l_nefn underlying145 ?_|refine l_stA 1 (65+i) 0 (.bool true) e2 ?_ (ho:=o2)|refine r_ldFc underlying145 0 e3 ?_|refine Zw n1 (fun _ _=>?_)|refine l_stA 1 (193+i) 0 _ e4 ?_ (ho:=o4)|refine l_ldA 1 (193+i) 0 (g6 _) ?_ (ho:=o4)|refine ZK 5 [Vw _ _ _ _] [(0,0),(1,0),(2,0),(3,0),(4,0),(5,0),(6,0),(8,0),(9,0),(7,4),(10,0)] [11] ?_|fail)
   rename_i x hx
   obtain ⟨h,r⟩:=x
   dsimp only at hx ⊢
   rw [show (((L0.set (1+i) (.bool true)).set (65+i) (.bool true)).set (193+i) (Value.pointer (some ⟨h,0,none⟩)))=_ from hnew h]
   refine k_hdN (M:=M) (bl:=bl) (b:=h) (bs:=bs) false hi hpu ?_
   have e0:pgv (.h bs false) (up bl i h i)=Value.pointer (some ⟨h,0,none⟩):=by rw [Xk];rfl
   refine ZG (up ak i true,up bl i h,r) ?_ (by dsimp only;rw [if_pos ⟨by rw [hu];rfl,hpg⟩];exact hx)
   exact e0.symm
  ·have hs:srP es cs s i = .n:=by unfold srP;rw [if_neg hpg]
   have n1:=fetchN_ok s ps es i hpg
   rw [hs] at hnew ⊢
   clear e5 e6 hnd hk hs
   generalize spcL s.fv M ak bl=L0 at *
   dsimp only [Sr.fs] at *
   generalize b=bv at *
   refine ZH [_,_] func131 ntmps131 fun G w hp=>?_
   repeat' (first|refine ZC ?_|refine ZB ?_|refine ZD ?_|refine ZJ ?_|refine ZO ?_|refine ZQ ?_|refine l_qS ?_|refine r_qS ?_|refine l_ixA1 (m:=64) i hi ?_|refine r_ixA1 (m:=64) i hi ?_|refine l_ldA 1 (1+i) 0 g1 ?_ (ho:=o1)|refine l_stA 1 (1+i) 0 (.bool true) g1 ?_ (ho:=o1)|refine l_ldFc underlying145 0 e1 ?_|refine l_nefn underlying145 ?_|refine l_stA 1 (65+i) 0 (.bool true) e2 ?_ (ho:=o2)|refine r_ldFc underlying145 0 e3 ?_|refine Zw n1 (fun _ _=>?_)|refine l_stA 1 (193+i) 0 _ e4 ?_ (ho:=o4)|refine l_ldA 1 (193+i) 0 (g6 _) ?_ (ho:=o4)|refine ZK 5 [Vw _ _ _ _] [(0,0),(1,0),(2,0),(3,0),(4,0),(5,0),(6,0),(8,0),(9,0),(7,4),(10,0)] [11] ?_|fail)
   have hnew0:=hnew (bl i)
   rw [up_id] at hnew0
   have hH:=hd_none (M:=M) (bl:=bl) hi hpu (bl i)
   rw [up_id] at hH
   rw [show (((L0.set (1+i) (.bool true)).set (65+i) (.bool true)).set (193+i) (Value.pointer none))=_ from hnew0,←hH]
   exact ZG (up ak i true,bl,rs) rfl (by dsimp only;rw [if_neg (fun e=>hpg e.2)])
 ·have hnd:ndM (srP es cs s) M i=M:=by
   unfold ndM;split
   ·rename_i h;exact absurd h hu
   ·rfl
  rw [hnd]
  have hk:(M i).kn=true:=by
   cases h:M i with
   | u=>exact absurd h hu
   | n=>rfl
   | h bs c=>rfl
  rw [hk] at g1
  obtain ⟨L0,hL0⟩:∃L0,L0=spcL s.fv M ak bl:=⟨_,rfl⟩
  obtain ⟨pv,hpv⟩:∃pv,pv=pgv (M i) (bl i):=⟨_,rfl⟩
  rw [←hL0,←hpv] at g2
  rw [←hL0] at g1 ⊢
  dsimp only [Sr.fs]
  refine ZH [_,_] func131 ntmps131 fun G w hp=>?_
  repeat' (first|refine ZC ?_|refine ZB ?_|refine ZD ?_|refine ZE ?_|refine l_qS ?_|refine l_ixA1 (m:=64) i hi ?_|refine l_ldA 1 (1+i) 0 g1 ?_ (ho:=o1)|refine l_ldA 1 (193+i) 0 g2 ?_ (ho:=o4)|fail)
  subst hL0 hpv
  exact ZG (ak,bl,rs) rfl (by dsimp only;rw [if_neg (fun e=>by rw [hk] at e;cases e.1)])
end
variable {b:Nat}
section
open VP

section
variable {Q:Exit → Act → World → Prop} {E E':List (Nat × Value)} {L L':List (Nat × Nat)} {y1 y2:Operand} {gd:Option (Nat × Bool)}
theorem l_ixO {T sz m cap off : Nat} {z : Int} {rs tr : TRow} (j : Nat) (hlt : j < m) (nx : Wl n C ops.toArray k Q l ((d, .pointer (some ⟨b, off + j * sz, none⟩)) :: E) F R)
    (hw : wantL ops E ⟨some d, .indexAddr t x y, ty0, pos, aft, gd⟩ = some true := by rfl) (hn : Nat.blt d n = true := by rfl) (hx : ev E x = some (.slice (some ⟨b, off, none⟩) m cap) := by rfl) (hy : ev E y = some (.int .i64 z) := by rfl)
    (hts : lookT tab t = some rs := by rfl) (hrs : rs.k = .slice T := by rfl) (hT : lookT tab T = some tr := by rfl) (hsz : tr.size = sz := by rfl) (hz : z = (j : Int) := by first | rfl | omega) : Wl n C ops.toArray k Q (⟨some d, .indexAddr t x y, ty0, pos, aft, gd⟩ :: l) E F R :=
  l_q (fun a w ha => by
    have hr1 := Xf (o := some ⟨b, off, none⟩) (m := m) (cap := cap) (w := w) hts hrs hT hsz hz hlt (p := ⟨b, off + j * sz, none⟩) (by simp [Y2 rfl])
    simp only [execOp, ha.ev (x := x) (by rw [ZL]; exact hx), ha.ev (x := y) (by rw [ZL]; exact hy), Sem.run_bind, Result.andThen, hr1, Sem.run_pure]) nx (by intro c h; cases h) hw hn
theorem l_slO {T m off : Nat} {z1 z2 : Int} {rs tr : TRow} (lo hi : Nat) (hlo : lo < hi) (hhi : hi ≤ m) (nx : Wl n C ops.toArray k Q l ((d, .slice (some ⟨b, off + lo, none⟩) (hi - lo) (m - lo)) :: E) F R)
    (hw : wantL ops E ⟨some d, .slice t x (some y1) (some y2) none, ty0, pos, aft, gd⟩ = some true := by rfl) (hn : Nat.blt d n = true := by rfl) (hx : ev E x = some (.pointer (some ⟨b, off, none⟩)) := by rfl) (hy1 : ev E y1 = some (.int .i64 z1) := by rfl) (hy2 : ev E y2 = some (.int .i64 z2) := by rfl)
    (hts : lookT tab t = some rs := by rfl) (hrs : rs.k = .arr m T := by rfl) (hT : lookT tab T = some tr := by rfl) (hsz : tr.size = 1 := by rfl) (hz1 : z1 = (lo : Int) := by first | rfl | omega) (hz2 : z2 = (hi : Int) := by first | rfl | omega) : Wl n C ops.toArray k Q (⟨some d, .slice t x (some y1) (some y2) none, ty0, pos, aft, gd⟩ :: l) E F R :=
  l_q (fun a w ha => by
    have hr : (Instr.sliceAt t (.pointer (some ⟨b, off, none⟩)) (some (.int .i64 z1)) (some (.int .i64 z2)) none).run Tryz.prog w = .ok (.slice (some ⟨b, off + lo, none⟩) (hi - lo) (m - lo)) w := by
      subst hz1 hz2
      have hs1 := Zj.sizeOf hT w
      rw [hsz] at hs1
      have c1 : (0 : Int) ≤ (hi : Int) ∧ (hi : Int) ≤ (m : Int) := ⟨by omega, by omega⟩
      have c2 : (0 : Int) ≤ (lo : Int) ∧ (lo : Int) ≤ (hi : Int) := ⟨by omega, by omega⟩
      simp only [Instr.sliceAt, run_undA hts hrs, Instr.sureAddr, Instr.sliceBounds, Instr.sliceBound, asIntOf, Sem.run_bind, Sem.run_pure, Result.andThen, if_pos c1, if_pos c2, hs1, Int.toNat_natCast]
      rw [if_neg (by omega), Y2 (b := b) (p := off) rfl]
      simp
    simp only [execOp, Option.map_some, Option.map_none, ha.ev (x := x) (by rw [ZL]; exact hx), ha.ev (x := y1) (by rw [ZL]; exact hy1), ha.ev (x := y2) (by rw [ZL]; exact hy2), Sem.run_bind, hr, Result.andThen, Sem.run_pure]) nx (by intro c h; cases h) hw hn
end

theorem idxNone_ok (bk off m c : Nat) (Lv : List Value) (hL : ∀ j, j < m → ∃ a, Lv[off + j]? = some (.pointer (some ⟨a, 0, none⟩))) (hm : m ≤ 1000) :
    Enters 163 ∧ Spec Tryz.prog 163 #[.slice (some ⟨bk, off, none⟩) m c, .pointer none] [] [Ar 149 cf bk Lv] ⟨Unit, fun _ => .int .i64 (-1), fun _ => True, fun _ => [], fun _ => [Ar 149 cf bk Lv]⟩ := by
  refine ZH [_, _] Tryz.func163 Tryz.ntmps163 fun G w hp => ?_
  repeat' (first | refine ZC ?_ | refine ZB ?_ | refine ZD ?_ | fail)
  refine YH (X := { j : Nat // j ≤ m }) (fun j => [(0, .slice (some ⟨bk, off, none⟩) m c), (1, .pointer none), (7, .int .i64 (m : Int)), (8, .int .i64 (j.1 : Int))]) (fun _ => []) (fun _ => [Ar 149 cf bk Lv]) (fun j => m - j.1) ⟨0, Nat.zero_le _⟩ ⟨rfl, rfl, rfl, rfl, trivial⟩ ?_
  rintro ⟨j, hj⟩
  dsimp only
  by_cases hlt : j < m
  · obtain ⟨a, ha⟩ := hL j hlt
    have o1 : off + j * 1 = (off + j) * 1 + 0 := by omega
    have wj : IntKind.i64.wrap ((j : Int) + 1) = ((j + 1 : Nat) : Int) := by rw [wrapi (by omega) (by omega)]; omega
    repeat' (first | refine ZC ?_ | refine ZB ?_ | refine ZD ?_ | refine ZE ?_ | refine l_ixO j hlt ?_ | refine l_ldA 1 (off + j) 0 ha ?_ (ho := o1) | rw [wj] | (refine ZF (fun hc => ?_) (fun hc => ?_) <;> (try simp at hc) <;> (try omega)) | fail)
    exact ZW ⟨j + 1, by omega⟩ (by show m - (j + 1) < m - j; omega) ⟨rfl, rfl, rfl, rfl, trivial⟩
  · repeat' (first | refine ZC ?_ | refine ZB ?_ | refine ZD ?_ | refine Zn ?_ | (refine ZF (fun hc => ?_) (fun hc => ?_) <;> (try simp at hc) <;> (try omega)) | fail)
    exact ZG () rfl trivial
theorem conNone_ok (bk off m c : Nat) (Lv : List Value) (hL : ∀ j, j < m → ∃ a, Lv[off + j]? = some (.pointer (some ⟨a, 0, none⟩))) (hm : m ≤ 1000) :
    Enters 132 ∧ Spec Tryz.prog 132 #[.slice (some ⟨bk, off, none⟩) m c, .pointer none] [] [Ar 149 cf bk Lv] ⟨Unit, fun _ => .bool false, fun _ => True, fun _ => [], fun _ => [Ar 149 cf bk Lv]⟩ := by
  have n1 := idxNone_ok bk off m c Lv hL hm
  refine ZH [_, _] Tryz.func132 Tryz.ntmps132 fun G w hp => ?_
  repeat' (first | refine ZC ?_ | refine ZB ?_ | refine ZD ?_ | refine ZA (n1) (fun _ _ => ?_) | fail)
  exact ZG () rfl trivial

def isH : Pg → Bool
  | .h _ _ => true
  | _ => false
def accM (src : Nat → Pg) (M : Nat → Pg) (p0 : Nat) : Nat → (Nat → Pg) × Bool
  | 0 => (M, true)
  | j + 1 => let r := accM src M p0 j; if r.2 then (ndM src r.1 (p0 + j), isH (ndM src r.1 (p0 + j) (p0 + j))) else r
def accR (src M : Nat → Pg) (z : Int) (n : Nat) : (Nat → Pg) × Int :=
  if n = 0 then (M, 0) else if z < 0 ∨ 4096 ≤ z ∨ 4096 - z < n then (M, 23)
  else ((accM src M (z.toNat / 64) ((z.toNat + n - 1) / 64 + 1 - z.toNat / 64)).1, if (accM src M (z.toNat / 64) ((z.toNat + n - 1) / 64 + 1 - z.toNat / 64)).2 then 0 else 23)
theorem ndM_self (src M : Nat → Pg) (i j : Nat) (h : isH (M j) = true) : ndM src M i j = M j := by
  unfold ndM
  cases hu : M i with
  | u =>
    by_cases hij : j = i
    · subst hij; rw [hu] at h; cases h
    · show up M i (src i) j = M j
      rw [Wu _ _ hij]
  | _ => rfl
theorem accM_h {src M : Nat → Pg} {p0 : Nat} : ∀ {j : Nat}, (accM src M p0 j).2 = true → ∀ k, k < j → isH ((accM src M p0 j).1 (p0 + k)) = true
  | 0, _, k, hk => by omega
  | j + 1, h, k, hk => by
    by_cases hr : (accM src M p0 j).2 = true
    · have e : accM src M p0 (j + 1) = (ndM src (accM src M p0 j).1 (p0 + j), isH (ndM src (accM src M p0 j).1 (p0 + j) (p0 + j))) := by
        rw [accM]; simp only [hr, if_true]
      rw [e] at h ⊢
      by_cases hkj : k = j
      · subst hkj; exact h
      · have ih := accM_h hr k (by omega)
        show isH (ndM src (accM src M p0 j).1 (p0 + j) (p0 + k)) = true
        rw [ndM_self _ _ _ _ ih]; exact ih
    · have e : accM src M p0 (j + 1) = accM src M p0 j := by rw [accM]; simp only [hr]; rfl
      rw [e] at h; exact absurd h hr

theorem accM_no {src M : Nat → Pg} {p0 j : Nat} (h : (accM src M p0 j).2 = false) : ∀ {J : Nat}, j ≤ J → accM src M p0 J = accM src M p0 j
  | 0, hJ => by obtain rfl : j = 0 := by omega
                rfl
  | J + 1, hJ => by
    by_cases hj : j = J + 1
    · subst hj; rfl
    · have ih := accM_no h (J := J) (by omega)
      rw [accM]
      simp only [ih, h]
      rfl
theorem accM_step {src M : Nat → Pg} {p0 j : Nat} (h : (accM src M p0 j).2 = true) : accM src M p0 (j + 1) = (ndM src (accM src M p0 j).1 (p0 + j), isH (ndM src (accM src M p0 j).1 (p0 + j) (p0 + j))) := by
  rw [accM]; simp only [h, if_true]
theorem RdX.refl (es : Al) (cs : List Ch) (sp : ByteArray) (M : Nat → Pg) (rs : List (Nm × Ch)) : RdX es cs sp M M isH rs rs :=
  ⟨[], rfl, fun n hn => (List.not_mem_nil hn).elim, fun i h1 h2 => by rw [h1] at h2; cases h2⟩
theorem RdX.nd {es : Al} {cs : List Ch} {s : Sr} {M Mj : Nat → Pg} {rs0 rs rs' : List (Nm × Ch)} {i : Nat} (hi : i < 64) (h : RdX es cs s.p.sp M Mj isH rs0 rs) (hr : rs' = if (Mj i).kn = false ∧ (i : Int) < s.o.pg then vread es rs cs (gnm s.p.sp i) else rs) :
    RdX es cs s.p.sp M (ndM (srP es cs s) Mj i) isH rs0 rs' := by
  obtain ⟨N, h1, h2, h3⟩ := h
  by_cases hu : Mj i = .u
  · have hnd : ∀ j, j ≠ i → ndM (srP es cs s) Mj i j = Mj j := fun j hj => by
      unfold ndM; rw [hu]; exact Wu _ _ hj
    by_cases hp : (i : Int) < s.o.pg
    · rw [if_pos ⟨by rw [hu]; rfl, hp⟩, XM, h1, ← Zm] at hr
      refine ⟨N ++ vrN cs (gnm s.p.sp i), hr, fun n hn => ?_, fun j g1 g2 n hn => ?_⟩
      · rcases List.mem_append.1 hn with h4 | h4
        · exact h2 n h4
        · unfold vrN at h4
          split at h4
          · cases h4
          · rename_i hc
            split at h4
            · cases h4
            · have := List.mem_singleton.1 h4
              subst this
              exact ⟨by simpa using hc, i, hi, rfl⟩
      · by_cases hj : j = i
        · subst hj; exact List.mem_append_right _ hn
        · rw [hnd j hj] at g2; exact List.mem_append_left _ (h3 j g1 g2 n hn)
    · rw [if_neg (fun e => hp e.2)] at hr
      refine ⟨N, hr.trans h1, h2, fun j g1 g2 => ?_⟩
      by_cases hj : j = i
      · subst hj
        have : ndM (srP es cs s) Mj j j = .n := by
          unfold ndM; rw [hu]
          show up Mj j (srP es cs s j) j = .n
          rw [Xk]; unfold srP; rw [if_neg hp]
        rw [this] at g2; cases g2
      · rw [hnd j hj] at g2; exact h3 j g1 g2
  · have hk : (Mj i).kn = true := by
      cases h : Mj i with
      | u => exact absurd h hu
      | n => rfl
      | h bs c => rfl
    rw [if_neg (fun e => by rw [hk] at e; cases e.1)] at hr
    have hnd : ndM (srP es cs s) Mj i = Mj := by
      unfold ndM
      split
      · rename_i h; exact absurd h hu
      · rfl
    rw [hnd]
    exact ⟨N, hr.trans h1, h2, h3⟩
section
variable (s : Sr) (ps : Option Addr) (es : Al) (cs : List Ch) (hsp : s.p.sp.size ≤ 1000)
abbrev MmL (s : Sr) (b : Nat) (ps : Option Addr) (cs : List Ch) (M : Nat → Pg) (q : (Nat → Bool) × (Nat → Nat) × List (Nm × Ch)) : List HP := [Ar 149 cf b (spcL s.fv M q.1 q.2.1), Hd M q.2.1, Vw s.vb ps q.2.2 cs]
include hsp
set_option maxHeartbeats 1000000 in
theorem access_ok (bk : Nat) (M : Nat → Pg) (q0 : (Nat → Bool) × (Nat → Nat) × List (Nm × Ch)) (z : Int) (n : Nat) (hn : n < 9223372036854775808) :
    Enters 79 ∧ Spec Tryz.prog 79 #[.pointer (some ⟨bk, 0, none⟩), .int .i64 z, .int .i64 (n : Int)] (s.fs ps es) (MmL s bk ps cs M q0)
    ⟨(Nat → Bool) × (Nat → Nat) × List (Nm × Ch), fun _ => .int .i64 (accR (srP es cs s) M z n).2, fun q => RdX es cs s.p.sp M (accR (srP es cs s) M z n).1 isH q0.2.2 q.2.2, fun _ => [], fun q => MmL s bk ps cs (accR (srP es cs s) M z n).1 q⟩ := by
  unfold accR
  by_cases h0 : n = 0
  · subst h0
    rw [if_pos rfl]
    refine ZH [_, _, _] Tryz.func79 Tryz.ntmps79 fun G w hp => ?_
    repeat' (first | refine ZC ?_ | refine ZB ?_ | refine ZD ?_ | refine ZJ ?_ | fail)
    exact ZG q0 rfl (RdX.refl _ _ _ _ _)
  rw [if_neg h0]
  by_cases h1 : z < 0 ∨ 4096 ≤ z ∨ 4096 - z < n
  · rw [if_pos h1]
    refine ZH [_, _, _] Tryz.func79 Tryz.ntmps79 fun G w hp => ?_
    by_cases h2 : z < 0 ∨ 4096 ≤ z
    · repeat' (first | refine ZC ?_ | refine ZB ?_ | refine ZU ?_ | refine ZD ?_ | refine ZJ ?_ | (refine ZT (fun hc => ?_) (fun hc => ?_) <;> (try simp at hc) <;> (try omega)) | (refine ZF (fun hc => ?_) (fun hc => ?_) <;> (try simp at hc) <;> (try omega)) | fail)
      all_goals exact ZG q0 rfl (RdX.refl _ _ _ _ _)
    · have w1 : IntKind.i64.wrap (4096 - z) = 4096 - z := wrapi (by omega) (by omega)
      repeat' (first | refine ZC ?_ | refine ZB ?_ | refine ZU ?_ | refine ZD ?_ | rw [w1] | (refine ZT (fun hc => ?_) (fun hc => ?_) <;> (try simp at hc) <;> (try omega)) | (refine ZF (fun hc => ?_) (fun hc => ?_) <;> (try simp at hc) <;> (try omega)) | fail)
      all_goals exact ZG q0 rfl (RdX.refl _ _ _ _ _)
  rw [if_neg h1]
  obtain ⟨a, rfl⟩ : ∃ a : Nat, z = (a : Int) := ⟨z.toNat, by omega⟩
  rw [show ((a : Int)).toNat = a from rfl]
  obtain ⟨p0, hp0⟩ : ∃ p0, p0 = a / 64 := ⟨_, rfl⟩
  obtain ⟨p1, hp1⟩ : ∃ p1, p1 = (a + n - 1) / 64 := ⟨_, rfl⟩
  have w1 : IntKind.i64.wrap (4096 - (a : Int)) = 4096 - (a : Int) := wrapi (by omega) (by omega)
  have w2 : IntKind.i64.wrap ((a : Int).tdiv 64) = (p0 : Int) := by
    have : (a : Int).tdiv 64 = (p0 : Int) := by rw [hp0]; exact (Int.ofNat_tdiv _ _).symm
    rw [this, wrapi (by omega) (by omega)]
  have w3 : IntKind.i64.wrap ((IntKind.i64.wrap (IntKind.i64.wrap ((a : Int) + (n : Int)) - 1)).tdiv 64) = (p1 : Int) := by
    rw [wrapi (z := (a : Int) + n) (by omega) (by omega), wrapi (z := (a : Int) + n - 1) (by omega) (by omega)]
    have : ((a : Int) + n - 1).tdiv 64 = (p1 : Int) := by
      rw [show (a : Int) + n - 1 = ((a + n - 1 : Nat) : Int) by omega, hp1]; exact (Int.ofNat_tdiv _ _).symm
    rw [this, wrapi (by omega) (by omega)]
  rw [← hp0, ← hp1]
  obtain ⟨J, hJ⟩ : ∃ J, J = p1 + 1 - p0 := ⟨_, rfl⟩
  rw [← hJ]
  have hp1' : p1 < 64 := by omega
  have hp01 : p0 ≤ p1 := by omega
  have hRn := fun (Mj : Nat → Pg) (rs rs' : List (Nm × Ch)) (i : Nat) (hi : i < 64) (h : RdX es cs s.p.sp M Mj isH q0.2.2 rs) => RdX.nd (s := s) (rs' := rs') (i := i) hi h
  generalize hsrc : srP es cs s = src at *
  refine ZH [_, _, _] Tryz.func79 Tryz.ntmps79 fun G w hp => ?_
  repeat' (first | refine ZC ?_ | refine ZB ?_ | refine ZU ?_ | refine ZD ?_ | rw [w1] | rw [w2] | (refine ZT (fun hc => ?_) (fun hc => ?_) <;> (try simp at hc) <;> (try omega)) | (refine ZF (fun hc => ?_) (fun hc => ?_) <;> (try simp at hc) <;> (try omega)) | fail)
  refine YH (X := { t : Nat × (Nat → Bool) × (Nat → Nat) × List (Nm × Ch) // t.1 ≤ J ∧ (accM src M p0 t.1).2 = true ∧ RdX es cs s.p.sp M (accM src M p0 t.1).1 isH q0.2.2 t.2.2.2 }) (fun t => [(0, .pointer (some ⟨bk, 0, none⟩)), (1, .int .i64 (a : Int)), (2, .int .i64 (n : Int)), (7, .int .i64 ((p0 + t.1.1 : Nat) : Int))]) (fun _ => s.fs ps es) (fun t => MmL s bk ps cs (accM src M p0 t.1.1).1 t.1.2) (fun t => J - t.1.1)
    ⟨(0, q0), Nat.zero_le _, rfl, RdX.refl _ _ _ _ _⟩ ⟨rfl, rfl, rfl, rfl, trivial⟩ ?_
  rintro ⟨⟨j, ak, bl, rs⟩, hj, hok, hrd⟩
  dsimp only at hj hok hrd ⊢
  by_cases hjJ : j < J
  · have n1 := need_ok s ps es rs cs hsp bk (accM src M p0 j).1 ak bl (p0 + j) (by omega)
    rw [hsrc] at n1
    have hst := accM_step (src := src) (M := M) hok
    have wj : IntKind.i64.wrap (((p0 + j : Nat) : Int) + 1) = ((p0 + (j + 1) : Nat) : Int) := by rw [wrapi (by omega) (by omega)]; omega
    have hle : ((p0 + j : Nat) : Int) ≤ (p1 : Int) := by omega
    cases hp : ndM src (accM src M p0 j).1 (p0 + j) (p0 + j) with
    | h bs c =>
      simp only [hp, pgv] at n1
      rw [hp] at hst
      dsimp only [Sr.fs] at *
      repeat' (first | refine ZC ?_ | refine ZB ?_ | refine ZD ?_ | refine ZE ?_ | refine ZA (n1) (fun _ _ => ?_) | rw [w3] | rw [wj] | (refine ZF (fun hc => ?_) (fun hc => ?_) <;> (try simp at hc) <;> (try omega)) | fail)
      rename_i q hq
      exact ZW ⟨(j + 1, q), by show j + 1 ≤ J; omega, by show (accM src M p0 (j + 1)).2 = true; rw [hst]; rfl, by show RdX es cs s.p.sp M (accM src M p0 (j + 1)).1 isH q0.2.2 q.2.2; rw [hst]; exact hRn _ _ _ _ (by omega) hrd hq⟩ (by show J - (j + 1) < J - j; omega) ⟨rfl, rfl, rfl, rfl, trivial⟩ (hr := by dsimp only; rw [hst]; (repeat (first | exact Sels.nil | exact Sel.here | apply Sel.there | apply Sels.cons)))
    | _ =>
      simp only [hp, pgv] at n1
      rw [hp] at hst
      have hJe := accM_no (src := src) (M := M) (p0 := p0) (j := j + 1) (by rw [hst]; rfl) (J := J) (by omega)
      rw [hJe, hst]
      dsimp only [Sr.fs] at *
      repeat' (first | refine ZC ?_ | refine ZB ?_ | refine ZD ?_ | refine ZJ ?_ | refine ZA (n1) (fun _ _ => ?_) | rw [w3] | (refine ZF (fun hc => ?_) (fun hc => ?_) <;> (try simp at hc) <;> (try omega)) | fail)
      rename_i q hq
      exact Y5 (XK (YS q rfl (hRn _ _ _ _ (by omega) hrd hq)))
  · obtain rfl : j = J := by omega
    have hall := accM_h hok
    have w4 : IntKind.i64.wrap ((p1 : Int) + 1) = ((p1 + 1 : Nat) : Int) := by rw [wrapi (by omega) (by omega)]; omega
    have nC := conNone_ok bk (193 + p0) (p1 + 1 - p0) (64 - p0) (spcL s.fv (accM src M p0 j).1 ak bl) (fun k hk => by
      have h1 := hall k (by omega)
      have h2 := spc_pg (fv := s.fv) (M := (accM src M p0 j).1) (ak := ak) (bl := bl) (i := p0 + k) (by omega)
      rw [show 193 + p0 + k = 193 + (p0 + k) by omega, h2]
      cases hm : (accM src M p0 j).1 (p0 + k) with
      | h bs c => exact ⟨_, rfl⟩
      | _ => rw [hm] at h1; cases h1) (by omega)
    have hA : p0 < p1 + 1 := by omega
    have hB : p1 + 1 ≤ 64 := by omega
    repeat' (first | refine ZC ?_ | refine ZB ?_ | refine ZD ?_ | refine ZE ?_ | refine Zn ?_ | refine ZA (nC) (fun _ _ => ?_) | rw [w2] | rw [w3] | rw [w4] | refine l_qS ?_ | refine l_slO (m := 64) p0 (p1 + 1) hA hB ?_ | (refine ZF (fun hc => ?_) (fun hc => ?_) <;> (try simp at hc) <;> (try omega)) | fail)
    refine ZG (ak, bl, rs) ?_ hrd
    show resV [Value.int .i64 0] = Value.int .i64 (if (accM src M p0 j).2 then 0 else 23)
    rw [hok]; rfl
end
end
section
variable {off:Nat} {v:Value}
theorem l_ldQ {α:Type} {T:Nat} {f:α→List Value} {es:List α} {q:List Value×(Nat×Nat)} (sz o:Nat) (nx:Wl n C ops.toArray k Q l ((d,v)::E) F R) (hf:∀e,(f e).length=sz) (ho:off=es.length * sz+o) (hv:ldv t q.1 o=some v) (hw:wantL ops E ⟨some d,.load t x,ty0,pos,aft,gd⟩=some true:=by rfl) (hn:Nat.blt d n=true:=by rfl)
  (hx:ev E x=some (.pointer (some ⟨b,off,none⟩)):=by rfl) (hs:Sel (Ax T f b es q) R R0:=by (repeat (first|exact Sel.here|apply Sel.there));first|done|fail) :
  Wl n C ops.toArray k Q (⟨some d,.load t x,ty0,pos,aft,gd⟩::l) E F R:=
 YA (fun t ht=>by cases ht;exact Nat.le_of_ble_eq_true hn) (fun c hc=>by cases hc) hw fun a w ha hsat=>by
  have hv':ldv t (es.flatMap f++q.1).toArray.toList off=some v:=by
   rw [ho,←YT hf es]
   have h:=Vh (pre:=es.flatMap f) (post:=[]) hv
   rwa [List.append_nil] at h
  have hr:=XS (hsat.pt hs) hv'
  unfold OpRes
  simp only [execOp,Instr.loadAt,ha.ev (by rw [ZL];exact hx),Instr.sureAddr,Sem.run_bind,Sem.run_pure,Result.andThen,hr]
  exact fun a' ha'=>nx a' w ha' hsat
end
theorem own_ok (bk:Nat) (fv:Value) (M:Nat→Pg) (ak:Nat→Bool) (bl:Nat→Nat) (i:Nat) (hi:i<64) (bs:List UInt8) (c:Bool) (hm:M i = .h bs c) (hbs:bs.length=64) :
  Enters 80∧Spec prog 80 #[.pointer (some ⟨bk,0,none⟩),.int .i64 (i:Int)] [] [Ar 149 cf bk (spcL fv M ak bl),Hld (bl i) bs]
   ⟨Unit,fun _=>.pointer (some ⟨bl i,0,none⟩),fun _=>True,fun _=>[],fun _=>[Ar 149 cf bk (spcL fv M ak bl),Hld (bl i) bs]⟩:=by
 have o4:0+(0+193)+i=(193+i) * 1+0:=by omega
 have o5:0+(0+64)=bs.length * 1+0:=by omega
 have g2:=spc_pg (fv:=fv) (M:=M) (ak:=ak) (bl:=bl) hi
 rw [hm] at g2
 have hf1:∀e:UInt8,(bf e).length=1:=fun _=>rfl
 refine ZH [_,_] func80 ntmps80 fun G w hp=>?_
 repeat' (first|refine ZC ?_|refine ZB ?_|refine ZD ?_|refine ZE ?_|refine l_qS ?_|refine l_ixA1 (m:=64) i hi ?_|refine l_ldA 1 (193+i) 0 g2 ?_ (ho:=o4)|refine l_ldQ (q:=([Value.bool false],(0,0))) 1 0 ?_ hf1 o5 rfl|fail)
 exact ZG () rfl trivial
def setB (M:Nat→Pg) (k:Nat) (c:UInt8):Nat→Pg:=match M (k / 64) with
 | .h bs _=>up M (k / 64) (.h (bs.set (k % 64) c) true)
 | _=>M
def stM (M:Nat→Pg) (k:Nat):List UInt8→(Nat→Pg)
 | []=>M
 | c::l=>stM (setB M k c) (k+1) l
theorem stM_snoc (c:UInt8):∀(l:List UInt8) (M:Nat→Pg) (k:Nat),stM M k (l++[c])=setB (stM M k l) (k+l.length) c
 | [],M,k=>rfl
 | d::l,M,k=>by
  rw [List.cons_append,stM,stM_snoc c l,stM,List.length_cons,Nat.add_right_comm,Nat.add_assoc]
def okP:Pg→Prop
 | .h bs _=>bs.length=64
 | _=>False
theorem setB_ok {M:Nat→Pg} {k j:Nat} {c:UInt8} (h:okP (M j)):okP (setB M k c j):=by
 unfold setB
 cases hm:M (k / 64) with
 | h bs d=>
  show okP (up M (k / 64) (.h (bs.set (k % 64) c) true) j)
  by_cases hj:j=k / 64
  ·subst hj
   rw [Xk]
   rw [hm] at h
   show (bs.set _ _).length=64
   rw [List.length_set];exact h
  ·rw [Wu _ _ hj];exact h
 | _=>exact h
theorem stM_ok:∀(l:List UInt8) {M:Nat→Pg} {k j:Nat},okP (M j)→okP (stM M k l j)
 | [],_,_,_,h=>h
 | _::l,_,_,_,h=>stM_ok l (setB_ok h)
section
theorem k_hdS {M:Nat→Pg} {bl:Nat→Nat} {i:Nat} {bs:List UInt8} (c:Bool) (hi:i<64) (t:Wk n C k Q E F (Hd (up M i (.h bs c)) bl::R0)) (hs:Sels [Hld (bl i) bs,HdX i M bl] R R0:=by (repeat (first|exact Sels.nil|exact Sel.here|apply Sel.there|apply Sels.cons));first|done|fail):Wk n C k Q E F R:=
 k_hd' c hi (by rw [up_id];exact t) hs
end
set_option maxHeartbeats 4000000 in
theorem UX (s:Sr) (ps:Option Addr) (es:Al) (cs:List Ch) (hsp:s.p.sp.size≤1000) (bk:Nat) (M:Nat→Pg) (q0:(Nat→Bool)×(Nat→Nat)×List (Nm×Ch)) (z:Int) (tx:ByteArray) (htx:tx.size≤1099511627776)
  (hall:∀j,isH ((accR (srP es cs s) M z tx.size).1 j)=true→okP ((accR (srP es cs s) M z tx.size).1 j)) :
  Enters 25∧Spec prog 25 #[.pointer (some ⟨bk,0,none⟩),.int .i64 z,.string tx] (s.fs ps es) (MmL s bk ps cs M q0)
  ⟨(Nat→Bool)×(Nat→Nat)×List (Nm×Ch),fun _=>.int .i64 (accR (srP es cs s) M z tx.size).2,fun q=>RdX es cs s.p.sp M (accR (srP es cs s) M z tx.size).1 isH q0.2.2 q.2.2,fun _=>[],fun q=>MmL s bk ps cs (if (accR (srP es cs s) M z tx.size).2=0 then stM (accR (srP es cs s) M z tx.size).1 z.toNat tx.data.toList else (accR (srP es cs s) M z tx.size).1) q⟩:=by
 have n1:=access_ok s ps es cs hsp bk M q0 z tx.size (by omega)
 have hin:tx.size≠0→(accR (srP es cs s) M z tx.size).2=0→∃a:Nat,z=(a:Int)∧a+tx.size≤4096∧∀k,a≤k→k<a+tx.size→isH ((accR (srP es cs s) M z tx.size).1 (k / 64))=true:=fun h0 h1=>by
  unfold accR at h1 ⊢
  rw [if_neg h0] at h1 ⊢
  by_cases h2:z<0∨4096≤z∨4096 - z<tx.size
  ·rw [if_pos h2] at h1
   cases h1
  ·rw [if_neg h2] at h1 ⊢
   have h3:(accM (srP es cs s) M (z.toNat / 64) ((z.toNat+tx.size - 1) / 64+1 - z.toNat / 64)).2=true:=by
    cases hb:(accM (srP es cs s) M (z.toNat / 64) ((z.toNat+tx.size - 1) / 64+1 - z.toNat / 64)).2 with
    | true=>rfl
    | false=>simp [hb] at h1
   refine ⟨z.toNat,by omega,by omega,fun k k1 k2=>?_⟩
   have:=accM_h h3 (k / 64 - z.toNat / 64) (by omega)
   rwa [show z.toNat / 64+(k / 64 - z.toNat / 64)=k / 64 by omega] at this
 generalize hr:accR (srP es cs s) M z tx.size=r at *
 obtain ⟨M1,e⟩:=r
 dsimp only at n1 hin hall ⊢
 have hsz:tx.data.toList.length=tx.size:=by simp
 by_cases he:e=0
 rotate_left
 ·rw [if_neg he]
  dsimp only [Sr.fs] at *
  refine ZH [_,_,_] func25 ntmps25 fun G w hp=>?_
  repeat' (first|refine ZC ?_|refine ZB ?_|refine ZD ?_|refine ZE ?_|refine ZA (n1) (fun _ _=>?_)|(refine ZF (fun hc=>?_) (fun hc=>?_)<;>(try simp at hc)<;>(try omega))|fail)
  rename_i q hq
  exact ZG q rfl hq
 subst he
 rw [if_pos rfl]
 refine ZH [_,_,_] func25 ntmps25 fun G w hp=>?_
 dsimp only [Sr.fs] at n1 ⊢
 repeat' (first|refine ZC ?_|refine ZB ?_|refine ZD ?_|refine ZE ?_|refine ZA (n1) (fun _ _=>?_)|fail)
 rename_i q hq
 obtain ⟨ak,bl,rs⟩:=q
 refine YH (X:={i:Nat // i≤tx.size}) (fun i=>[(0,.pointer (some ⟨bk,0,none⟩)),(1,.int .i64 z),(2,.string tx),(21,.int .i64 (tx.size:Int)),(22,.int .i64 (i.1:Int))]) (fun _=>[]) (fun i=>MmL s bk ps cs (stM M1 z.toNat (tx.data.toList.take i.1)) (ak,bl,rs)) (fun i=>tx.size - i.1) ⟨0,Nat.zero_le _⟩ ⟨rfl,rfl,rfl,rfl,rfl,trivial⟩ ?_
 rintro ⟨i,hi⟩
 dsimp only
 by_cases hlt:i<tx.size
 ·obtain ⟨a,rfl,ha2,ha3⟩:=hin (by omega) rfl
  rw [show ((a:Int)).toNat=a from rfl]
  have hpg:=ha3 (a+i) (by omega) (by omega)
  have hok:=stM_ok (tx.data.toList.take i) (k:=a) (hall _ hpg)
  obtain ⟨ch,hch⟩:∃ch,tx.data.toList[i]? = some ch:=⟨_,List.getElem?_eq_getElem (by omega)⟩
  have htk:tx.data.toList.take (i+1)=tx.data.toList.take i++[ch]:=by rw [List.take_add_one,hch];rfl
  have hst:=stM_snoc ch (tx.data.toList.take i) M1 a
  rw [←htk,List.length_take,Nat.min_eq_left (by omega)] at hst
  generalize stM M1 a (tx.data.toList.take i)=M2 at *
  obtain ⟨p,hp⟩:∃p,p=(a+i) / 64:=⟨_,rfl⟩
  obtain ⟨o,ho⟩:∃o,o=(a+i) % 64:=⟨_,rfl⟩
  unfold setB at hst
  rw [←hp] at hst hok
  rw [←ho] at hst
  cases hm:M2 p with
  | h bs d=>
   rw [hm] at hok
   have hbs:bs.length=64:=hok
   simp only [hm] at hst
   have hp64:p<64:=by omega
   have ho64:o<64:=by omega
   have w1:IntKind.i64.wrap ((IntKind.i64.wrap ((a:Int)+(i:Int))).tdiv 64)=(p:Int):=by
    rw [wrapi (z:=(a:Int)+i) (by omega) (by omega)]
    have:((a:Int)+i).tdiv 64=(p:Int):=by rw [show (a:Int)+i=((a+i:Nat):Int) by omega,hp];exact (Int.ofNat_tdiv _ _).symm
    rw [this,wrapi (by omega) (by omega)]
   have w2:(IntKind.i64.wrap ((a:Int)+(i:Int))).tmod 64=(o:Int):=by
    rw [wrapi (z:=(a:Int)+i) (by omega) (by omega)]
    rw [show (a:Int)+i=((a+i:Nat):Int) by omega,ho];exact (Int.ofNat_tmod _ _).symm
   have wi:IntKind.i64.wrap ((i:Int)+1)=((i+1:Nat):Int):=by rw [wrapi (by omega) (by omega)];omega
   have n2:=own_ok bk s.fv M2 ak bl p hp64 bs d hm hbs
   obtain ⟨c0,hc0⟩:∃c0,bs[o]? = some c0:=⟨_,List.getElem?_eq_getElem (by omega)⟩
   refine k_hd (M:=M2) (bl:=bl) hp64 hm ?_
   unfold Hld at n2
   have g1:=spc_ch (fv:=s.fv) (M:=M2) (ak:=ak) (bl:=bl) hp64
   have hmk:=spc_mark (fv:=s.fv) (ak:=ak) (bl:=bl) (bs':=bs.set o ch) hp64 hm
   have o1:0+(0+129)+p=(129+p) * 1+0:=by omega
   have o2:0+0+o * 1=o * 1+0:=by omega
   generalize spcL s.fv M2 ak bl=L0 at *
   repeat' (first|refine ZC ?_|refine ZB ?_|refine ZD ?_|refine ZO ?_|refine ZQ ?_|refine ZR (n2) (fun _ _=>?_)|rw [w1]|rw [w2]|rw [wi]|refine l_qS ?_|refine r_six i ch hch ?_|refine r_ixA (m:=64) o ho64 ?_|refine XN 1 o 0 ch hc0 (.inl rfl) ?_ (ho:=o2)|refine l_ixA1 (m:=64) p hp64 ?_|refine l_stA 1 (129+p) 0 (.bool true) g1 ?_ (ho:=o1)|refine ZK 10 [Ar _ _ _ _,Hld _ _] [(0,0),(1,0),(3,0),(4,0),(5,0),(6,0),(7,0),(8,0),(9,0),(2,4),(10,0),(11,0),(12,0),(13,4)] [] ?_|(refine ZF (fun hc=>?_) (fun hc=>?_)<;>(try simp at hc)<;>(try omega))|fail)
   rw [hmk]
   refine k_hdS (M:=M2) (bl:=bl) (i:=p) (bs:=bs.set o ch) true hp64 ?_
   rw [←hst]
   exact ZW ⟨i+1,by omega⟩ (by show tx.size - (i+1)<tx.size - i;omega) ⟨rfl,rfl,rfl,rfl,rfl,trivial⟩
  | _=>rw [hm] at hok;cases hok
 ·obtain rfl:i=tx.size:=by omega
  have et:stM M1 z.toNat (tx.data.toList.take tx.size)=stM M1 z.toNat tx.data.toList:=by rw [List.take_of_length_le (by omega)]
  rw [et]
  repeat' (first|refine ZC ?_|refine ZB ?_|refine ZD ?_|refine Zn ?_|(refine ZF (fun hc=>?_) (fun hc=>?_)<;>(try simp at hc)<;>(try omega))|fail)
  exact ZG (ak,bl,rs) rfl hq
theorem UZ {β:Type}:∀(l:List Value) (o m:Nat) (k:List Value→Option β),o+m≤l.length→cutF l o m k=k ((l.drop o).take m)
 | l,o,0,k,_=>by unfold cutF;simp
 | [],o,m+1,k,h=>by simp at h
 | x::l,0,m+1,k,h=>by
  rw [cutF,UZ l 0 m _ (by simp at h ⊢;omega)];simp
 | x::l,o+1,m+1,k,h=>by
  rw [cutF,UZ l o (m+1) k (by simp at h ⊢;omega)];simp
section
variable {off:Nat} {v:Value}
theorem l_ldAr {T T1 m:Nat} {es:List Value} {rs:TRow} (xs:List Value) (hxs:(es.drop off).take m=xs) (hle:off+m≤es.length) (nx:Wl n C ops.toArray k Q l ((d,.agg xs.toArray)::E) F R) (hw:wantL ops E ⟨some d,.load t x,ty0,pos,aft,gd⟩=some true:=by rfl) (hn:Nat.blt d n=true:=by rfl)
  (hx:ev E x=some (.pointer (some ⟨b,off,none⟩)):=by rfl) (hs:Sel (Ar T cf b es) R R0:=by (repeat (first|exact Sel.here|apply Sel.there));first|done|fail) (hts:lookT tab t=some rs:=by rfl) (hrs:rs.k = .arr m T1:=by rfl) (hsz:rs.size=m:=by rfl) :
  Wl n C ops.toArray k Q (⟨some d,.load t x,ty0,pos,aft,gd⟩::l) E F R:=
 YA (fun t ht=>by cases ht;exact Nat.le_of_ble_eq_true hn) (fun c hc=>by cases hc) hw fun a w ha hsat=>by
  have hfl:es.flatMap cf=es:=by simp
  have hv:ldv t (es.flatMap cf).toArray.toList off=some (.agg xs.toArray):=by
   rw [List.toList_toArray,hfl]
   unfold ldv
   rw [hts]
   obtain ⟨k0,s0,b0,z0⟩:=rs
   dsimp only at hrs hsz
   subst hrs hsz
   dsimp only
   rw [UZ _ _ _ _ hle,hxs]
  have hr:=XS (hsat.pt (show Sel (Pt b (.cells (es.flatMap cf).toArray T (0,0))) R R0 from hs)) hv
  unfold OpRes
  simp only [execOp,Instr.loadAt,ha.ev (by rw [ZL];exact hx),Instr.sureAddr,Sem.run_bind,Sem.run_pure,Result.andThen,hr]
  exact fun a' ha'=>nx a' w ha' hsat
theorem l_aixV {cs:Array Value} {kd:IntKind} {m T:Nat} {z:Int} {rs tr:TRow} (j:Nat) (v:Value) (hv:cs[j]? = some v) (nx:Wl n C ops.toArray k Q l ((d,v)::E) F R) (hw:wantL ops E ⟨some d,.index t x y,ty0,pos,aft,gd⟩=some true:=by rfl) (hn:Nat.blt d n=true:=by rfl) (hx:ev E x=some (.agg cs):=by rfl) (hy:ev E y=some (.int kd z):=by rfl)
  (hts:lookT tab t=some rs:=by rfl) (hrs:rs.k = .arr m T:=by rfl) (hT:lookT tab T=some tr:=by rfl) (hsz:tr.size=1:=by rfl) (hag:tr.k.isAgg=false:=by rfl) (hot:tr.k≠.other:=by simp) (hm:cs.size=m:=by rfl) (hz:z=(j:Int):=by first|rfl|omega):Wl n C ops.toArray k Q (⟨some d,.index t x y,ty0,pos,aft,gd⟩::l) E F R:=
 l_q (fun a w ha=>by
  subst hz
  have hlt:j<m:=by rw [←hm];exact (Array.getElem?_eq_some_iff.1 hv).1
  obtain ⟨d1,hd1,hk1⟩:=Zj.und hts
  rw [hrs] at hk1
  have hu1:(underlying t).run prog w = .ok (.array m T) w:=by
   cases d1<;>simp [chkKind] at hk1
   obtain ⟨rfl,rfl⟩:=hk1
   simp [underlying,hd1,go_sem]
  have hs1:=Zj.sizeOf hT w
  rw [hsz] at hs1
  have hia:=Zj.isAgg hT hot w
  rw [hag] at hia
  have hp:(part T cs j).run prog w = .ok v w:=by
   unfold part
   simp only [Sem.run_bind,hia,Result.andThen,Bool.false_eq_true,if_false,hv,Sem.run_pure]
  have hr:(Instr.index t (.agg cs) (.int kd (j:Int))).run prog w = .ok v w:=by
   unfold Instr.index
   simp only [asIntOf,Sem.run_bind,Sem.run_pure,Result.andThen,hu1]
   have hc:(0:Int)≤(j:Int)∧(j:Int)<((m:Nat):Int):=⟨by omega,by omega⟩
   rw [if_pos hc]
   simp only [Sem.run_bind,hs1,Result.andThen,Int.toNat_natCast,Nat.mul_one]
   exact hp
  simp only [execOp,ha.ev (x:=x) (by rw [ZL];exact hx),ha.ev (x:=y) (by rw [ZL];exact hy),Sem.run_bind,hr,Result.andThen,Sem.run_pure]) nx (by intro c h;cases h) hw hn
theorem k_hdZ {M:Nat→Pg} {bl:Nat→Nat} {j:Nat} {bs:List UInt8} {c:Bool} (hi:j<64) (hm:M j = .h bs c) (t:Wk n C k Q E F (Hd M bl::R0)) (hs:Sels [Hld (bl j) bs,HdX j M bl] R R0:=by (repeat (first|exact Sels.nil|exact Sel.here|apply Sel.there|apply Sels.cons));first|done|fail):Wk n C k Q E F R:=
 Zq (fun h hh=>(XP hi).2 (by rw [hm];exact hh)) t hs
end
section
end
structure Sc where
 pg:Nat
 val:ByteArray
def scf (x:Sc):List Value:=[.int .i64 (x.pg:Int),.string x.val,.bool false]
def chO (M:Nat→Pg) (i:Nat):Option Sc:=match M i with
 | .h bs true=>some ⟨i,⟨bs.toArray⟩⟩
 | _=>none
def chLi (M:Nat→Pg) (i:Nat):List Sc:=(List.range i).filterMap (chO M)
theorem UU (M:Nat→Pg) (i:Nat):chLi M (i+1)=chLi M i++(chO M i).toList:=by
 unfold chLi
 rw [List.range_succ,List.filterMap_append]
 cases h:chO M i<;>simp [h]
theorem chLi_len (M:Nat→Pg) (i:Nat):(chLi M i).length≤i:=by
 have:=List.length_filterMap_le (chO M) (List.range i)
 rwa [List.length_range] at this
def chgV (M:Nat→Pg):List Value:=(List.range 64).map fun i=>.bool (M i).chg
theorem chg_take (fv:Value) (M:Nat→Pg) (ak:Nat→Bool) (bl:Nat→Nat):((spcL fv M ak bl).drop 129).take 64=chgV M:=by
 apply List.ext_getElem?
 intro k
 unfold chgV
 rw [List.getElem?_take,List.getElem?_map]
 by_cases hk:k<64
 ·rw [if_pos hk,List.getElem?_drop,spc_ch hk,List.getElem?_range hk];rfl
 ·rw [if_neg hk,List.getElem?_eq_none (by simp;omega)];rfl
theorem chgV_get {M:Nat→Pg} {i:Nat} (hi:i<64):(chgV M).toArray[i]? = some (.bool (M i).chg):=by
 unfold chgV
 rw [List.getElem?_toArray,List.getElem?_map,List.getElem?_range hi];rfl
set_option maxHeartbeats 2000000 in
theorem changes_ok (bk:Nat) (fv:Value) (M:Nat→Pg) (ak:Nat→Bool) (bl:Nat→Nat) (hall:∀i,i<64→isH (M i)=true→okP (M i)) :
  Enters 82∧Spec prog 82 #[.pointer (some ⟨bk,0,none⟩)] [] [Ar 149 cf bk (spcL fv M ak bl),Hd M bl]
   ⟨Option Addr×Nat,fun q=>.slice q.1 (chLi M 64).length q.2,fun _=>True,fun _=>[],fun q=>[Ar 149 cf bk (spcL fv M ak bl),Hd M bl,Row 153 3 q.1 (chLi M 64).length q.2 ((chLi M 64).flatMap scf)]⟩:=by
 have hct:=chg_take fv M ak bl
 have hl64:(chgV M).toArray.size=64:=by simp [chgV]
 have hle:0+(0+129)+64≤(spcL fv M ak bl).length:=by rw [Xl];omega
 have gpg:=fun i (hi:i<64)=>spc_pg (fv:=fv) (M:=M) (ak:=ak) (bl:=bl) hi
 obtain ⟨L0,hL0⟩:∃L0,L0=spcL fv M ak bl:=⟨_,rfl⟩
 rw [←hL0] at hct hle ⊢
 simp only [←hL0] at gpg
 refine ZH [_] func82 ntmps82 fun G w hp=>?_
 refine Zq (r:=Row 153 3 none 0 0 []) (Lx:=[]) (fun h _=>YX _ _ h) ?_
 repeat' (first|refine ZC ?_|refine ZB ?_|refine ZD ?_|refine ZE ?_|refine l_qS ?_|refine l_ldAr (chgV M) hct hle ?_|fail)
 refine YH (X:={t:Nat×Option Addr×Nat // t.1≤64}) (fun t=>[(0,.pointer (some ⟨bk,0,none⟩)),(3,.slice t.1.2.1 (chLi M t.1.1).length t.1.2.2),(12,.agg (chgV M).toArray),(13,.int .i64 (t.1.1:Int))]) (fun _=>[]) (fun t=>[Ar 149 cf bk L0,Hd M bl,Row 153 3 t.1.2.1 (chLi M t.1.1).length t.1.2.2 ((chLi M t.1.1).flatMap scf)]) (fun t=>64 - t.1.1)
  ⟨(0,none,0),by omega⟩ ⟨rfl,rfl,rfl,rfl,trivial⟩ ?_
 rintro ⟨⟨i,o,cap⟩,hi⟩
 dsimp only at hi ⊢
 have hcl:=chLi_len M i
 by_cases hlt:i<64
 ·have wi:IntKind.i64.wrap ((i:Int)+1)=((i+1:Nat):Int):=by rw [wrapi (by omega) (by omega)];omega
  have hs:=UU M i
  have hg:=chgV_get (M:=M) hlt
  have hp:=gpg i hlt
  have hok:=hall i hlt
  have o4:0+(0+193)+i=(193+i) * 1+0:=by omega
  by_cases hc:(M i).chg=true
  ·cases hm:M i with
   | h bs c=>
    rw [hm] at hc hg hp hok
    obtain rfl:c=true:=hc
    have hbs:bs.length=64:=hok rfl
    have hco:chO M i=some ⟨i,⟨bs.toArray⟩⟩:=by unfold chO;rw [hm]
    rw [hco] at hs
    refine k_hd (M:=M) (bl:=bl) hlt hm ?_
    generalize chLi M i=pre at *
    repeat' (first|refine ZC ?_|refine ZB ?_|refine ZD ?_|refine Yo (fun b=>?_)|refine ZJ ?_|refine ZE ?_|refine l_qS ?_|refine l_aixV i (.bool true) hg ?_ (hm:=hl64)|refine l_ixA1 (m:=64) i hlt ?_|refine l_ldA 1 (193+i) 0 hp ?_ (ho:=o4)|refine l_sla0 ?_|refine l_b2sH ?_ hbs.symm|refine W2 (fun o' cap'=>?_)|rw [wi]|(refine ZF (fun hc=>?_) (fun hc=>?_)<;>(try simp at hc)<;>(try omega))|fail)
    refine k_hdZ (M:=M) (bl:=bl) hlt hm ?_
    refine Wh (T:=153) (sz:=3) (o:=o') (cap:=cap') (m:=pre.length+1) (m':=(chLi M (i+1)).length) (pre.flatMap scf++scf ⟨i,⟨bs.toArray⟩⟩) ((chLi M (i+1)).flatMap scf) (by rw [hs];simp) (by rw [hs];simp) ?_
    exact ZW ⟨(i+1,o',cap'),by omega⟩ (by show 64 - (i+1)<64 - i;omega) ⟨rfl,(by show look _ _=some (Value.slice o' (chLi M (i+1)).length cap');rw [hs,List.length_append];rfl),rfl,rfl,trivial⟩
   | _=>rw [hm] at hc;cases hc
  ·have hcf:(M i).chg=false:=by simpa using hc
   have hco:chO M i=none:=by
    unfold chO
    cases hm:M i with
    | h bs c=>
     rw [hm] at hcf
     obtain rfl:c=false:=hcf
     rfl
    | _=>rfl
   rw [hco,Option.toList_none,List.append_nil] at hs
   rw [hcf] at hg
   repeat' (first|refine ZC ?_|refine ZB ?_|refine ZD ?_|refine ZJ ?_|refine l_aixV i (.bool false) hg ?_ (hm:=hl64)|rw [wi]|(refine ZF (fun hc=>?_) (fun hc=>?_)<;>(try simp at hc)<;>(try omega))|fail)
   rw [←hs]
   exact ZW ⟨(i+1,o,cap),by omega⟩ (by show 64 - (i+1)<64 - i;omega) ⟨rfl,rfl,rfl,rfl,trivial⟩
 ·obtain rfl:i=64:=by omega
  repeat' (first|refine ZC ?_|refine ZB ?_|refine ZD ?_|refine ZE ?_|refine Zn ?_|fail)
  subst hL0
  exact ZG (o,cap) rfl trivial
section
variable (s:Sr) (ps:Option Addr) (es:Al) (cs:List Ch) (hsp:s.p.sp.size≤1000)
include hsp
end
section
variable (b:Nat) (ps:Option Addr) (es:Al) (rs:List (Nm×Ch)) (cs:List Ch) (who:ByteArray) (p o:Pr)
def Own (es:Al) (cs:List Ch) (who:ByteArray) (p o:Pr):Prop:=if p.sp=who then o=p else PrAt es cs p.sp o
def owR (es:Al) (rs:List (Nm×Ch)) (cs:List Ch) (who:ByteArray) (p:Pr):List (Nm×Ch):=if p.sp=who then rs else vread es rs cs (pnm p.sp)
def mmR (es:Al) (rs:List (Nm×Ch)) (cs:List Ch) (who:ByteArray) (p:Pr):List (Nm×Ch):=owR es (pgR es rs cs who) cs who p
end
theorem spc_setf (fv fv':Value) (M:Nat→Pg) (ak:Nat→Bool) (bl:Nat→Nat):(spcL fv' M ak bl).set 0 fv=spcL fv M ak bl:=by
 refine spc_ext (by simp [Xl]) fun k hk=>?_
 rw [List.getElem?_set,Xd hk]
 simp only [Xl]
 unfold spcAt
 by_cases h:k=0
 ·subst h;rfl
 ·rw [if_neg (fun e=>h e.symm),if_neg h,if_neg h]
theorem hd_u (bl:Nat→Nat) (h:H) (hh:Sep [] h):Hd (fun _=>.u) bl h:=by
 unfold Hd
 rw [show heldL (List.range 64) (fun _=>Pg.u) bl=[] by simp [heldL,pgH]]
 exact hh
structure Mb where
 t1:Nat
 ob:Nat
 vx:Nat
 pb:Nat
 po:Option Addr
 pc:Nat
 oo:Option Addr
 oc:Nat
 bk:Nat
 q:(Nat→Bool)×(Nat→Nat)×List (Nm×Ch)
def Mb.s (x:Mb) (b:Nat) (p o:Pr):Sr:=⟨x.t1,x.ob,x.vx,x.pb,b,p,x.po,x.pc,o,x.oo,x.oc⟩
theorem spNew_ok (ob vx pb:Nat):Enters 75∧Spec prog 75 #[.func (.func 76) #[] #[.pointer (some ⟨ob,0,none⟩),.pointer (some ⟨vx,0,none⟩),.pointer (some ⟨pb,0,none⟩)]] [] []
  ⟨Nat×Nat,fun q=>.pointer (some ⟨q.1,0,none⟩),fun _=>True,fun q=>[Blk q.2 (.cells #[.func (.func 76) #[] #[.pointer (some ⟨ob,0,none⟩),.pointer (some ⟨vx,0,none⟩),.pointer (some ⟨pb,0,none⟩)]] 213)],
   fun q=>[Ar 149 cf q.1 (spcL (.func (.func 126) #[] #[.pointer (some ⟨q.2,0,none⟩)]) (fun _=>.u) (fun _=>false) (fun _=>0)),Hd (fun _=>.u) (fun _=>0)]⟩:=by
 refine ZH [_] func75 ntmps75 fun G w hp=>?_
 repeat' (first|refine ZC ?_|refine ZB ?_|refine ZD ?_|refine ZN (fun b=>?_)|refine l_qS ?_|fail)
 rename_i b1
 refine l_ptc (b:=b) (o:=.cells (spcL .nilFunc (fun _=>.u) (fun _=>false) (fun _=>0)).toArray.toList.toArray 149 (0,0)) (.cells ((spcL .nilFunc (fun _=>.u) (fun _=>false) (fun _=>0)).flatMap cf).toArray 149 (0,0)) (by simp) ?_
 refine l_fz (b:=b1) ?_
 have g0:=spc_f (fv:=.nilFunc) (M:=fun _=>.u) (ak:=fun _=>false) (bl:=fun _=>0)
 have e0:=spc_setf (.func (.func 126) #[] #[.pointer (some ⟨b1,0,none⟩)]) .nilFunc (fun _=>.u) (fun _=>false) (fun _=>0)
 generalize spcL .nilFunc (fun _=>.u) (fun _=>false) (fun _=>0)=L0 at *
 repeat' (first|refine ZC ?_|refine ZB ?_|refine ZD ?_|refine ZJ ?_|refine l_qS ?_|refine l_ldFn underlying213 ?_|refine l_nefn underlying213 ?_|refine l_stA 1 0 0 _ g0 ?_ (ho:=rfl)|fail)
 rw [e0]
 refine Zq (r:=Hd (fun _=>.u) (fun _=>0)) (Lx:=[]) (fun h hh=>hd_u _ h hh) ?_
 exact ZG (b,b1) rfl trivial
theorem Wb {who:ByteArray} {i:Int} (h:lvalid who.data.toList=true) (hi:0≤i∧i≤63):nchk (gnm who i)=0:=by
 have h2:isE ⟨#[]⟩=true:=by simp [isE]
 rw [nchk,if_pos (by simp [gnm])]
 show uchk ⟨_,true,false,true,false,63⟩ (gnm who i)=0
 simp [uchk,gnm,h,h2,within,hi]
def pgC (sp:ByteArray) (x:Sc):Ch:=⟨gnm sp (x.pg:Int),x.val,false⟩
theorem chLi_mem {M:Nat→Pg} {n:Nat} {x:Sc} (h:x ∈ chLi M n):x.pg<n∧∃bs,M x.pg = .h bs true∧x.val=⟨bs.toArray⟩:=by
 unfold chLi at h
 obtain ⟨i,hi,hx⟩:=List.mem_filterMap.1 h
 rw [List.mem_range] at hi
 unfold chO at hx
 split at hx
 ·rename_i bs hm
  cases hx
  exact ⟨hi,bs,hm,rfl⟩
 ·cases hx
def cpC (es:Al) (cs:List Ch) (x y:Nm):List Ch:=if (vget es cs x).2=true then cs++[⟨y,(vget es cs x).1,false⟩] else cs
theorem cpC_len (es:Al) (cs:List Ch) (x y:Nm):(cpC es cs x y).length≤cs.length+1:=by
 unfold cpC;split<;>simp
theorem vcp_ne {es:Al} {cs:List Ch} {x y n:Nm} (h:y≠n):vget es (cpC es cs x y) n=vget es cs n:=by
 unfold cpC;split
 ·exact Yd h
 ·rfl
def spP (es:Al) (cs:List Ch) (f ch:ByteArray):Nat→List Ch
 | 0=>cs
 | n+1=>cpC es (spP es cs f ch n) (gnm f (n:Int)) (gnm ch (n:Int))
theorem spP_len (es:Al) (cs:List Ch) (f ch:ByteArray):∀n,(spP es cs f ch n).length≤cs.length+n
 | 0=>Nat.le_refl _
 | n+1=>by
  have h1:=spP_len es cs f ch n
  have h2:=cpC_len es (spP es cs f ch n) (gnm f (n:Int)) (gnm ch (n:Int))
  rw [spP];omega
theorem vsp_ne {es:Al} {cs:List Ch} {f ch:ByteArray} {m:Nm}:∀{n:Nat},(∀i:Nat,i<n→gnm ch (i:Int)≠m)→vget es (spP es cs f ch n) m=vget es cs m
 | 0,_=>rfl
 | n+1,h=>by rw [spP,vcp_ne (h n (by omega)),vsp_ne fun i hi=>h i (by omega)]
theorem gnm_ne {a c:ByteArray} {i j:Int} (h:a≠c∨i≠j):gnm a i≠gnm c j:=by
 intro e
 simp only [gnm,Nm.mk.injEq,true_and,and_true] at e
 rcases h with h|h
 ·exact h e.1
 ·exact h e.2
theorem vsp_f {es:Al} {cs:List Ch} {f ch:ByteArray} (hne:ch≠f) (n:Nat) (j:Int):vget es (spP es cs f ch n) (gnm f j)=vget es cs (gnm f j):=vsp_ne fun _ _=>gnm_ne (.inl hne)
section
variable (b:Nat) (ps:Option Addr) (es:Al) (rs:List (Nm×Ch)) (cs:List Ch)
theorem copyG_ok (x y:Nm) (hx:x.owner.size≤1099511627770) (hxt:x.text.size≤1099511627776) (hy:y.owner.size≤1099511627770) (hyt:y.text.size≤1099511627776) (hyc:nchk y=0) (hs:(vget es cs x).1.size≤65536) (hl:cs.length≤1000000) :
  Enters 111∧Spec prog 111 #[.pointer (some ⟨b,0,none⟩),x.v,y.v] [St ps es,Usg] [Vw b ps rs cs]
  ⟨Unit,fun _=>.int .i64 0,fun _=>True,fun _=>[],fun _=>[Vw b ps (vread es rs cs x) (cpC es cs x y)]⟩:=by
 unfold cpC
 by_cases h:(vget es cs x).2=true
 ·rw [if_pos h]
  have n1:=XR b ps es rs cs x hx hxt
  rw [h] at n1
  generalize (vget es cs x).1=s at *
  have n2:=Xw b ps (vread es rs cs x) cs y s (by omega) hyt hl
  have e2:vset cs y s=(0,cs++[⟨y,s,false⟩]):=by
   unfold vset
   rw [if_neg (by rw [hyc];simp),if_neg (by omega)]
  rw [e2] at n2
  generalize vread es rs cs x=rs2 at *
  generalize b=bv at *
  refine ZH [_,_,_] func111 ntmps111 fun G w hp=>?_
  repeat' (first|refine ZC ?_|refine ZB ?_|refine ZD ?_|refine ZP ?_|refine ZN (fun b=>?_)|refine ZE ?_|refine ZA (n1) (fun _ _=>?_)|refine ZA (n2) (fun _ _=>?_)|fail)
  exact ZG () rfl trivial
 ·rw [if_neg h]
  exact copy0_ok b ps es rs cs x y hx hxt (by simpa using h)
variable (who:ByteArray) (p o:Pr)
def kidS (share:Bool) (p o:Pr) (ch:ByteArray):Pr:=if share then {p with pg:=0} else {p with sp:=ch,pg:=o.pg}
def spC (es:Al) (cs:List Ch) (who ch:ByteArray) (c:Ct) (p k:Pr):List Ch:=spP es (cpC es (cs++[⟨cnm who,cvs {c with c:=c.c+1},false⟩]++[⟨pnm ch,pencS k,false⟩]) (rnm who) (rnm ch)) p.sp ch k.pg.toNat
theorem UJ {share:Bool} {p o:Pr} {ch:ByteArray} (h:pchk p=0) (hv:lvalid ch.data.toList=true) (ho:0≤o.pg∧o.pg≤64):pchk (kidS share p o ch)=0:=by
 obtain ⟨q1,q2,q3,q4,q5,q6⟩:=Zg h
 unfold pfit at q3
 unfold pchk pfit kidS
 cases share with
 | true=>
  simp only [if_true]
  rw [if_neg (by omega),if_neg (by omega),if_neg (by simp only [Decidable.not_not];omega),if_neg (by simp [q4]),if_neg (by simp [q5])]
  exact q6
 | false=>
  simp only [Bool.false_eq_true,if_false]
  rw [if_neg (by omega),if_neg (by omega),if_neg (by simp only [Decidable.not_not];omega),if_neg (by simp [q4]),if_neg (by simp [hv])]
  exact q6
end
section
variable {v:Value}
theorem r_copyP {T0 T b2 dl dc sl sc:Nat} {cs cs2:List Value} {ty2:TypeId} {fz2:Nat×Nat} {ts tx:TypeId} {rs tr:TRow} (m:Nat) (cs':List Value)
  (nx:Wr n C ops k Q Tl Fs R L ((d,.int .i64 (m:Int))::E) F (Pt b (.cells cs'.toArray T (0,0))::N'))
  (ho:nth ops i=some ⟨some d,.call ⟨.builtin .copy,#[x,y],#[ts,tx]⟩,ty0,pos,aft,gd⟩:=by rfl) (hw:wantL ops E ⟨some d,.call ⟨.builtin .copy,#[x,y],#[ts,tx]⟩,ty0,pos,aft,gd⟩=some true:=by rfl) (hx:ev E x=some (.slice (some ⟨b,0,none⟩) dl dc):=by rfl) (hy:ev E y=some (.slice (some ⟨b2,0,none⟩) sl sc):=by rfl)
  (hts:lookT tab ts=some rs:=by rfl) (hrs:rs.k = .slice T0:=by rfl) (hT:lookT tab T0=some tr:=by rfl) (hsz:tr.size=1:=by rfl) (hs:Sel (Pt b (.cells cs.toArray T (0,0))) N N':=by (repeat (first|exact Sel.here|apply Sel.there));first|done|fail)
  (hs2:Sel (Pt b2 (.cells cs2.toArray ty2 fz2)) R R0:=by (repeat (first|exact Sel.here|apply Sel.there));first|done|fail) (hm:min sl dl=m:=by rfl) (hcs:cs2.take m++cs.drop m=cs':=by rfl) (hall:(cs2.take m).all one1=true:=by rfl) (h1:m≤cs.length:=by simp) (h2:m≤cs2.length:=by simp) :
  Wr n C ops k Q Tl Fs R ((i,4)::L) E F N:=
 Yk ho fun hp hr w st hz sb=>by
  simp only [Zt hw]
  refine ⟨⟨Unit,fun _=>.int .i64 (m:Int),fun _=>True,fun _=>F,fun _=>Pt b (.cells cs'.toArray T (0,0))::N'⟩,fun a G w hp' ha hsub hsat=>?_,fun _ _=>nx hp hr w st hz sb⟩
  have hsz1:=Zj.sizeOf hT w
  rw [hsz] at hsz1
  have hb2:w.heap[b2]? = some (.cells cs2.toArray ty2 fz2):=(hsat.stat hsub) _ _ (sb _ _ (UQ st hs2))
  have hld:(Go.loadCells ⟨b2,0,none⟩ m).run prog w = .ok (cs2.take m).toArray w:=by
   unfold Go.loadCells
   have:=Go.Proofs.YtgfohjbcccfolaaGreatDoor.run_loadCells (P:=prog) hb2 0 m 0 #[] (by simp;omega)
   rw [this]
   simp
  have hlen:(cs2.take m).length=m:=by rw [List.length_take];omega
  obtain ⟨w',g1,g2,g3,g4⟩:=X0 (P:=prog) (b:=b) (ty:=T) 0 (cs2.take m) 0 w cs (hsat.pt hs) hall (by rw [hlen];omega)
  rw [hlen] at g2
  simp only [Nat.add_zero,Nat.zero_add,List.take_zero,List.nil_append] at g2
  rw [hcs] at g2
  unfold OpRes
  have e1:=ha.ev (x:=x) (by rw [ZL];exact hx)
  have e2:=ha.ev (x:=y) (by rw [ZL];exact hy)
  have hmn:Nat.min sl dl=m:=hm
  simp only [execOp,resolve,Sem.run_bind,Sem.run_pure,Result.andThen,invoke,builtin,List.map_toArray,List.map_cons,List.map_nil,e1,e2,Builtin.copy_,List.getElem?_toArray,List.getElem?_cons_zero,List.getElem?_cons_succ,Xc hts hrs,Builtin.lenOf,hsz1,Builtin.firstCells,hmn,Nat.mul_one,hld,g1]
  exact ⟨(),rfl,trivial,(hsat.sel hs).write g3 g2 fun e he _=>g4 e he⟩
end
theorem words_ok (a1 a2 a3 a4 a5 a6 a7 a8 a9:Int):Enters 125∧Spec prog 125 #[.agg #[.int .u32 a1,.int .u32 a2,.int .u32 a3,.int .u32 a4,.int .u32 a5,.int .u32 a6,.int .u32 a7,.int .u32 a8,.int .u32 a9]] [] []
  (RetV (.agg #[.int .u32 a1,.int .u32 a2,.int .u32 a3,.int .u32 a4,.int .u32 a5,.int .u32 a6,.int .u32 a7,.int .u32 a8,.int .u32 a9])):=by
 refine ZH [_] func125 ntmps125 fun G w hp=>?_
 repeat' (first|refine ZC ?_|refine ZB ?_|refine ZD ?_|refine ZP ?_|refine ZS ?_|refine ZN (fun b=>?_)|refine ZO ?_|refine ZQ ?_|refine r_sla0 ?_|refine r_copyP 8 [.int .u32 a1,.int .u32 a2,.int .u32 a3,.int .u32 a4,.int .u32 a5,.int .u32 a6,.int .u32 a7,.int .u32 a8,.int .u32 0] ?_|refine l_ixA (m:=9) 8 (by decide) ?_|refine ZK 2 [Pt _ (.cells #[.int .u32 0,_,_,_,_,_,_,_,_] 211 _)] [(0,0),(1,0),(2,0),(3,4)] [] ?_|fail)
 exact ZG () rfl trivial
def encW (a:Int):List UInt8:=[UInt8.ofNat (a.toNat % 256),UInt8.ofNat (a.toNat / 256 % 256),UInt8.ofNat (a.toNat / 65536 % 256),UInt8.ofNat (a.toNat / 16777216 % 256)]
def encR (g:List Int):List UInt8:=g.flatMap encW
theorem wrap8 (k:Nat):IntKind.u8.wrap (k:Int)=((UInt8.ofNat (k % 256)).toNat:Int):=by
 have:IntKind.u8.wrap (k:Int)=((k % 256:Nat):Int):=by
  simp [IntKind.wrap,IntKind.signed,IntKind.bits]
 rw [this]
 simp [UInt8.toNat_ofNat']
theorem byt_encW {z:Int} (hz:0≤z∧z<4294967296):byt (encW z)=[Value.int .u8 (IntKind.u8.wrap z),.int .u8 (IntKind.u8.wrap (z.fdiv (2 ^ min (Int.toNat 8) IntKind.u32.bits))),.int .u8 (IntKind.u8.wrap (z.fdiv (2 ^ min (Int.toNat 16) IntKind.u32.bits))),.int .u8 (IntKind.u8.wrap (z.fdiv (2 ^ min (Int.toNat 24) IntKind.u32.bits)))]:=by
 obtain ⟨k,rfl⟩:∃k:Nat,z=(k:Int):=⟨z.toNat,by omega⟩
 have e8:((k:Int).fdiv (2 ^ min (Int.toNat 8) IntKind.u32.bits))=((k / 256:Nat):Int):=by
  rw [show (2:Int) ^ min (Int.toNat 8) IntKind.u32.bits=256 from rfl,Int.fdiv_eq_ediv_of_nonneg _ (by decide)];rfl
 have e16:((k:Int).fdiv (2 ^ min (Int.toNat 16) IntKind.u32.bits))=((k / 65536:Nat):Int):=by
  rw [show (2:Int) ^ min (Int.toNat 16) IntKind.u32.bits=65536 from rfl,Int.fdiv_eq_ediv_of_nonneg _ (by decide)];rfl
 have e24:((k:Int).fdiv (2 ^ min (Int.toNat 24) IntKind.u32.bits))=((k / 16777216:Nat):Int):=by
  rw [show (2:Int) ^ min (Int.toNat 24) IntKind.u32.bits=16777216 from rfl,Int.fdiv_eq_ediv_of_nonneg _ (by decide)];rfl
 rw [e8,e16,e24,wrap8,wrap8,wrap8,wrap8]
 rfl
theorem encode_ok (a1 a2 a3 a4 a5 a6 a7 a8 a9:Int) (hr:∀z ∈ [a1,a2,a3,a4,a5,a6,a7,a8,a9],0≤z∧z<4294967296):Enters 73∧Spec prog 73 #[.agg #[.int .u32 a1,.int .u32 a2,.int .u32 a3,.int .u32 a4,.int .u32 a5,.int .u32 a6,.int .u32 a7,.int .u32 a8,.int .u32 a9]] [] []
  (RetV (.string ⟨(encR [a1,a2,a3,a4,a5,a6,a7,a8,a9]).toArray⟩)):=by
 have n1:=words_ok a1 a2 a3 a4 a5 a6 a7 a8 a9
 obtain ⟨g,hg⟩:∃g,g=[a1,a2,a3,a4,a5,a6,a7,a8,a9]:=⟨_,rfl⟩
 have hgl:g.length=9:=by rw [hg];rfl
 obtain ⟨vs,hvs⟩:∃vs:Array Value,vs = #[.int .u32 a1,.int .u32 a2,.int .u32 a3,.int .u32 a4,.int .u32 a5,.int .u32 a6,.int .u32 a7,.int .u32 a8,.int .u32 a9]:=⟨_,rfl⟩
 have hvg:vs=(g.map fun z=>Value.int .u32 z).toArray:=by rw [hvs,hg];rfl
 rw [←hg] at hr ⊢
 refine ZH [_] func73 ntmps73 fun G w hp=>?_
 refine Zq (r:=Row 5 1 none 0 0 []) (Lx:=[]) (fun h _=>YX _ _ h) ?_
 repeat' (first|refine ZC ?_|refine ZB ?_|refine ZD ?_|refine ZP ?_|refine ZN (fun b=>?_)|refine ZA (n1) (fun _ _=>?_)|fail)
 refine YH (X:={t:Nat×Option Addr×Nat // t.1≤9}) (fun t=>[(3,.slice t.1.2.1 (encR (g.take t.1.1)).length t.1.2.2),(7,.agg vs),(8,.int .i64 (t.1.1:Int))]) (fun _=>[]) (fun t=>[Row 5 1 t.1.2.1 (encR (g.take t.1.1)).length t.1.2.2 (byt (encR (g.take t.1.1)))]) (fun t=>9 - t.1.1)
  ⟨(0,none,0),by omega⟩ ⟨rfl,by rw [hvs];rfl,rfl,trivial⟩ ?_
 rintro ⟨⟨i,o,cap⟩,hi⟩
 dsimp only at hi ⊢
 by_cases hlt:i<9
 ·have wi:IntKind.i64.wrap ((i:Int)+1)=((i+1:Nat):Int):=by rw [wrapi (by omega) (by omega)];omega
  obtain ⟨z,hz⟩:∃z,g[i]? = some z:=⟨_,List.getElem?_eq_getElem (by omega)⟩
  have hzr:=hr z (List.mem_of_getElem? hz)
  have hv:vs[i]? = some (.int .u32 z):=by rw [hvg,List.getElem?_toArray,List.getElem?_map,hz];rfl
  have hvl:vs.size=9:=by rw [hvs];rfl
  have htk:encR (g.take (i+1))=encR (g.take i)++encW z:=by rw [List.take_add_one,hz];simp [encR]
  have hpl:(encR (g.take i)).length≤36:=by
   have:(encR (g.take i)).length=4 * (g.take i).length:=by
    generalize g.take i=l
    induction l with
    | nil=>rfl
    | cons a l ih=>simp only [encR,List.flatMap_cons,List.length_append,List.length_cons] at ih ⊢;rw [ih];simp [encW];omega
   rw [this,List.length_take];omega
  generalize encR (g.take i)=pre at *
  repeat' (first|refine ZC ?_|refine ZB ?_|refine ZD ?_|refine Yo (fun b=>?_)|refine l_aixV i (.int .u32 z) hv ?_ (hm:=hvl)|refine W2 (fun o' cap'=>?_)|rw [wi]|(refine ZF (fun hc=>?_) (fun hc=>?_)<;>(try simp at hc)<;>(try omega))|fail)
  refine Wh (T:=5) (sz:=1) (o:=o') (cap:=cap') (m:=pre.length+4) (m':=(encR (g.take (i+1))).length) (byt pre++[Value.int .u8 (IntKind.u8.wrap z),.int .u8 (IntKind.u8.wrap (z.fdiv (2 ^ min (Int.toNat 8) IntKind.u32.bits))),.int .u8 (IntKind.u8.wrap (z.fdiv (2 ^ min (Int.toNat 16) IntKind.u32.bits))),.int .u8 (IntKind.u8.wrap (z.fdiv (2 ^ min (Int.toNat 24) IntKind.u32.bits)))]) (byt (encR (g.take (i+1)))) (by rw [htk];simp [encW]) (by rw [htk,byt_append,byt_encW hzr]) ?_
  exact ZW ⟨(i+1,o',cap'),by omega⟩ (by show 9 - (i+1)<9 - i;omega) ⟨(by show look _ _=some (Value.slice o' (encR (g.take (i+1))).length cap');rw [htk,List.length_append];rfl),rfl,rfl,trivial⟩
 ·obtain rfl:i=9:=by omega
  rw [List.take_of_length_le (by omega)]
  refine k_frz (T:=5) (f:=bf) (encR g) ?_ (YY _) rfl
  repeat' (first|refine ZC ?_|refine ZB ?_|refine ZD ?_|refine ZE ?_|refine Zn ?_|refine l_b2s ?_|fail)
  exact ZG () rfl trivial
theorem setRegs_ok (b:Nat) (ps:Option Addr) (rs:List (Nm×Ch)) (cs:List Ch) (who:ByteArray) (hw:who.size≤1000) (hv:lvalid who.data.toList=true) (hl:cs.length≤1000000) (a1 a2 a3 a4 a5 a6 a7 a8 a9:Int) (hr:∀z ∈ [a1,a2,a3,a4,a5,a6,a7,a8,a9],0≤z∧z<4294967296) :
  Enters 23∧Spec prog 23 #[.pointer (some ⟨b,0,none⟩),.string who,.agg #[.int .u32 a1,.int .u32 a2,.int .u32 a3,.int .u32 a4,.int .u32 a5,.int .u32 a6,.int .u32 a7,.int .u32 a8,.int .u32 a9]] [Usg] [Vw b ps rs cs]
  ⟨Unit,fun _=>.int .i64 0,fun _=>True,fun _=>[],fun _=>[Vw b ps rs (cs++[⟨rnm who,⟨(encR [a1,a2,a3,a4,a5,a6,a7,a8,a9]).toArray⟩,false⟩])]⟩:=by
 have n1:=Zu who (by omega)
 rw [hv] at n1
 have n2:=Yq who
 have n3:=encode_ok a1 a2 a3 a4 a5 a6 a7 a8 a9 hr
 have hsz:(⟨(encR [a1,a2,a3,a4,a5,a6,a7,a8,a9]).toArray⟩:ByteArray).size=36:=by show (List.toArray _).size=36;rw [List.size_toArray];rfl
 generalize (⟨(encR [a1,a2,a3,a4,a5,a6,a7,a8,a9]).toArray⟩:ByteArray)=ec at *
 have n4:=Xw b ps rs cs (rnm who) ec (by show who.size≤_;omega) (Nat.zero_le _) hl
 have e4:vset cs (rnm who) ec=(0,cs++[⟨rnm who,ec,false⟩]):=by
  unfold vset
  rw [if_neg (by rw [V5 hv];simp),if_neg (by omega)]
 rw [e4] at n4
 generalize b=bv at *
 refine ZH [_,_,_] func23 ntmps23 fun G w hp=>?_
 repeat' (first|refine ZC ?_|refine ZB ?_|refine ZD ?_|refine ZN (fun b=>?_)|refine ZE ?_|refine ZO ?_|refine Ze ?_|refine ZQ ?_|refine ZA (n1) (fun _ _=>?_)|refine XQ (n2) (fun _ _=>?_)|refine ZR (n3) (fun _ _=>?_)|refine ZR (n4) (fun _ _=>?_)|refine ZK 5 [Vw _ _ _ _] [(0,0),(1,0),(3,0),(2,5),(4,4),(5,4),(6,0)] [] ?_|fail)
 exact ZG () rfl trivial
section
theorem prts_size:∀(n:Nat) (l:List UInt8) (pos count:Nat),l.length≤n→count≤8→(prts l pos count).all (fun p=>p.e == 0)=true→l.length+7 * count≤56
 | 0,l,pos,count,hn,hc,_=>by
  by_cases h:count=8
  ·omega
  ·omega
 | n+1,l,pos,count,hn,hc,h=>by
  unfold prts at h
  by_cases hf:ferr l count≠0
  ·rw [if_pos hf] at h
   simp at h
   exact absurd h hf
  ·rw [if_neg hf] at h
   simp only [ne_eq,Decidable.not_not] at hf
   unfold ferr at hf
   have h8:count≠8:=fun e=>by rw [if_pos e] at hf;cases hf
   rw [if_neg h8] at hf
   have hl:l≠[]:=fun e=>by rw [if_pos e] at hf;cases hf
   rw [if_neg hl] at hf
   have hd:digs l≠[]:=fun e=>by rw [if_pos e] at hf;cases hf
   rw [if_neg hd] at hf
   have h48:l.head?≠some 48:=fun e=>by rw [if_pos e] at hf;cases hf
   rw [if_neg h48] at hf
   have h6:¬6<(digs l).length:=fun e=>by rw [if_pos e] at hf;cases hf
   have hdl:=(WK l).2
   split at h
   ·rename_i h0
    have:=congrArg List.length h0
    simp at this
    omega
   ·rename_i c rest h0
    have h1:=congrArg List.length h0
    simp at h1
    by_cases hc46:c≠46
    ·rw [if_pos hc46] at h
     simp at h
    ·rw [if_neg hc46] at h
     simp only [List.all_cons,Bool.and_eq_true] at h
     have:=prts_size n rest _ (count+1) (by omega) (by omega) h.2
     omega
theorem lv_size {s:ByteArray} (h:lvalid s.data.toList=true):s.size≤56:=by
 have hs:s.data.toList.length=s.size:=by simp
 unfold lvalid lparts at h
 split at h
 ·rename_i h0;rw [h0] at hs;simp at hs;omega
 ·have:=prts_size _ _ 0 0 (Nat.le_refl _) (by omega) h
  omega
inductive VP (α:Type) where
 | ret (a:α)
 | get (n:Nm) (k:ByteArray×Bool→VP α)
 | set (n:Nm) (v:ByteArray) (k:VP α)
namespace VP
variable {α β γ:Type}
def bind:VP α→(α→VP β)→VP β
 | ret a,f=>f a
 | get n k,f=>get n fun r=>bind (k r) f
 | set n v k,f=>set n v (bind k f)
def run (es:Al):VP α→List Ch→α×List Nm×List Ch
 | ret a,cs=>(a,[],cs)
 | get n k,cs=>((run es (k (vget es cs n)) cs).1,vrN cs n++(run es (k (vget es cs n)) cs).2.1,(run es (k (vget es cs n)) cs).2.2)
 | set n v k,cs=>run es k (cs++[⟨n,v,false⟩])
theorem run_bind (es:Al) (f:α→VP β):∀(p:VP α) (cs:List Ch),run es (bind p f) cs=((run es (f (run es p cs).1) (run es p cs).2.2).1,(run es p cs).2.1++(run es (f (run es p cs).1) (run es p cs).2.2).2.1,(run es (f (run es p cs).1) (run es p cs).2.2).2.2)
 | ret a,cs=>by simp [bind,run]
 | get n k,cs=>by simp [bind,run,run_bind es f (k (vget es cs n)) cs]
 | set n v k,cs=>by simp [bind,run,run_bind es f k]
end VP
open VP
def Sml (es:Al) (cs:List Ch):Prop:=∀n,(vget es cs n).1.size≤65536
theorem Sml.set {es:Al} {cs:List Ch} (h:Sml es cs) (n:Nm) {v:ByteArray} (hv:v.size≤65536):Sml es (cs++[⟨n,v,false⟩]):=fun m=>by
 by_cases he:n=m
 ·by_cases hn:nchk m=0
  ·rw [Wo he hn];exact hv
  ·unfold vget;rw [if_pos hn];exact Nat.zero_le _
 ·rw [Yd he];exact h m
def edec (s:ByteArray):Int×Int:=if (rnum ⟨s.data.toList,0,0⟩ 1073741824).2.err=0∧(rnum ⟨s.data.toList,0,0⟩ 1073741824).2.rest=[] then ((rnum ⟨s.data.toList,0,0⟩ 1073741824).1,0) else (0,3)
def pEpo:VP (Int×Int):=.get enm fun r=>.ret (if r.2 then edec r.1 else (0,0))
section
variable (b:Nat) (ps:Option Addr) (es:Al) (rs:List (Nm×Ch)) (cs:List Ch)
theorem epoG_ok (hS:Sml es cs):Enters 35∧Spec prog 35 #[.pointer (some ⟨b,0,none⟩)] [St ps es,Usg] [Vw b ps rs cs]
  ⟨Unit,fun _=>.tuple #[.int .i64 (pEpo.run es cs).1.1,.int .i64 (pEpo.run es cs).1.2],fun _=>True,fun _=>[],fun _=>[Vw b ps (rsOf es (pEpo.run es cs).2.1 rs) (pEpo.run es cs).2.2]⟩:=by
 have n1:=XR b ps es rs cs enm (Nat.zero_le _) (Nat.zero_le _)
 have n2:=Vi
 have hs:=hS enm
 unfold pEpo
 simp only [VP.run,List.append_nil]
 rw [XM] at n1
 generalize vget es cs enm=g at *
 obtain ⟨s,ok⟩:=g
 generalize rsOf es (vrN cs enm) rs=rs2 at *
 dsimp only at *
 cases ok with
 | false=>
  simp only [Bool.false_eq_true,if_false]
  generalize b=bv at *
  refine ZH [_] func35 ntmps35 fun G w hp=>?_
  repeat' (first|refine ZC ?_|refine ZB ?_|refine ZD ?_|refine ZJ ?_|refine ZE ?_|refine ZA (n1) (fun _ _=>?_)|refine ZA (n2) (fun _ _=>?_)|fail)
  exact ZG () rfl trivial
 | true=>
  simp only [if_true]
  have hsz:s.data.toList.length=s.size:=by simp
  have n3:=fun o cap=>Wj o cap s.data.toList (by omega)
  unfold edec
  generalize h0:(⟨s.data.toList,0,0⟩:RS)=s0 at *
  have e0:s.data.toList=s0.rest:=by rw [←h0]
  have g0:s0.pos+s0.rest.length≤1099511627776:=by subst h0;dsimp only;omega
  have n4:=fun b o cap=>Zx b o cap s0 1073741824 g0
  generalize rnum s0 1073741824=r1 at *
  obtain ⟨v1,s1⟩:=r1
  have n5:=fun b o cap=>W3 b o cap s1
  rw [e0] at n3
  dsimp only at *
  generalize b=bv at *
  by_cases hk:s1.err=0∧s1.rest=[]
  ·rw [if_pos hk]
   refine ZH [_] func35 ntmps35 fun G w hp=>?_
   repeat' (first|refine ZC ?_|refine ZB ?_|refine ZD ?_|refine ZE ?_|refine ZA (n1) (fun _ _=>?_)|refine ZA (n2) (fun _ _=>?_)|refine ZA (n3 _ _) (fun _ _=>?_)|refine ZA (n4 _ _ _) (fun _ _=>?_)|refine ZA (n5 _ _ _) (fun _ _=>?_)|refine l_s2b (fun o cap=>?_)|rw [e0]|(refine ZF (fun hc=>?_) (fun hc=>?_)<;>(try simp at hc)<;>(try omega))|fail)
   ·exact absurd ((close0 _ _).2 hk) (by simpa using hc)
   ·exact ZG () rfl trivial
  ·rw [if_neg hk]
   refine ZH [_] func35 ntmps35 fun G w hp=>?_
   repeat' (first|refine ZC ?_|refine ZB ?_|refine ZD ?_|refine ZE ?_|refine ZA (n1) (fun _ _=>?_)|refine ZA (n2) (fun _ _=>?_)|refine ZA (n3 _ _) (fun _ _=>?_)|refine ZA (n4 _ _ _) (fun _ _=>?_)|refine ZA (n5 _ _ _) (fun _ _=>?_)|refine l_s2b (fun o cap=>?_)|rw [e0]|(refine ZF (fun hc=>?_) (fun hc=>?_)<;>(try simp at hc)<;>(try omega))|fail)
   ·exact ZG () rfl trivial
   ·exact absurd ((close0 _ _).1 (by simpa using hc)) hk
variable (who:ByteArray)
def pAny (who:ByteArray):VP (Pr×Int):=.get (pnm who) fun r=>.ret (if r.2 then ((pdec r.1).getD Pr.z,if (pdec r.1).isSome then 0 else 3) else (Pr.z,8))
theorem anyG_ok (hS:Sml es cs) (hw:who.size≤1000):Enters 95∧Spec prog 95 #[.pointer (some ⟨b,0,none⟩),.string who] [St ps es,Usg] [Vw b ps rs cs]
  ⟨Option Addr×Nat,fun q=>.tuple #[((pAny who).run es cs).1.1.v q.1 q.2,.int .i64 ((pAny who).run es cs).1.2],fun _=>True,fun q=>[Sl 3 zf q.1 q.2 ((pAny who).run es cs).1.1.gs],fun _=>[Vw b ps (rsOf es ((pAny who).run es cs).2.1 rs) ((pAny who).run es cs).2.2]⟩:=by
 have n1:=XR b ps es rs cs (pnm who) (by show who.size≤_;omega) (Nat.zero_le _)
 have n2:=Yi who
 have hs:=hS (pnm who)
 unfold pAny
 simp only [VP.run,List.append_nil]
 rw [XM] at n1
 generalize vget es cs (pnm who)=g at *
 obtain ⟨s,ok⟩:=g
 generalize rsOf es (vrN cs (pnm who)) rs=rs2 at *
 dsimp only at *
 generalize b=bv at *
 cases ok with
 | false=>
  simp only [Bool.false_eq_true,if_false]
  refine ZH [_,_] func95 ntmps95 fun G w hp=>?_
  refine Zk (ZY 3 zf) ?_
  repeat' (first|refine ZC ?_|refine ZB ?_|refine ZD ?_|refine ZS ?_|refine ZN (fun b=>?_)|refine ZJ ?_|refine ZA (n1) (fun _ _=>?_)|refine ZA (n2) (fun _ _=>?_)|fail)
  exact ZG (none,0) rfl trivial
 | true=>
  simp only [if_true]
  have n3:=Vt s (by omega)
  generalize (pdec s).getD Pr.z=p at *
  generalize (if (pdec s).isSome=true then (0:Int) else 3)=e at *
  refine ZH [_,_] func95 ntmps95 fun G w hp=>?_
  repeat' (first|refine ZC ?_|refine ZB ?_|refine ZD ?_|refine ZS ?_|refine ZN (fun b=>?_)|refine ZE ?_|refine ZA (n1) (fun _ _=>?_)|refine ZA (n2) (fun _ _=>?_)|refine ZA (n3) (fun _ _=>?_)|fail)
  rename_i q _
  exact ZG q rfl trivial
def pGet (who:ByteArray):VP (Pr×Int):=if lvalid who.data.toList=true then (pAny who).bind fun a=>if a.2≠0 then .ret (Pr.z,a.2) else pEpo.bind fun e=>if e.2≠0 then .ret (Pr.z,e.2) else if a.1.ep≠e.1 then .ret (Pr.z,8) else .ret (a.1,0) else .ret (Pr.z,12)
theorem WU:((pAny who).run es cs).2.2=cs:=by unfold pAny;simp [VP.run]
theorem XB:(pEpo.run es cs).2.2=cs:=by unfold pEpo;simp [VP.run]
theorem YG:((pGet who).run es cs).2.2=cs:=by
 unfold pGet
 split
 ·rw [run_bind]
  dsimp only
  split
  ·exact WU es cs who
  ·rw [run_bind]
   dsimp only
   split
   ·simp only [VP.run];rw [XB,WU]
   ·split
    ·simp only [VP.run];rw [XB,WU]
    ·simp only [VP.run];rw [XB,WU]
 ·rfl
set_option maxHeartbeats 1000000 in
theorem VO (hS:Sml es cs) (hw:who.size≤1000):Enters 39∧Spec prog 39 #[.pointer (some ⟨b,0,none⟩),.string who] [St ps es,Usg] [Vw b ps rs cs]
  ⟨Option Addr×Nat,fun q=>.tuple #[((pGet who).run es cs).1.1.v q.1 q.2,.int .i64 ((pGet who).run es cs).1.2],fun _=>True,fun q=>[Sl 3 zf q.1 q.2 ((pGet who).run es cs).1.1.gs],fun _=>[Vw b ps (rsOf es ((pGet who).run es cs).2.1 rs) ((pGet who).run es cs).2.2]⟩:=by
 have n1:=Zu who (by omega)
 have n2:=anyG_ok b ps es rs cs who hS hw
 unfold pGet
 cases hv:lvalid who.data.toList with
 | false=>
  rw [if_neg (by simp)]
  rw [hv] at n1
  simp only [VP.run]
  refine ZH [_,_] func39 ntmps39 fun G w hp=>?_
  refine Zk (ZY 3 zf) ?_
  repeat' (first|refine ZC ?_|refine ZB ?_|refine ZD ?_|refine ZS ?_|refine ZN (fun b=>?_)|refine ZJ ?_|refine ZE ?_|refine ZA (n1) (fun _ _=>?_)|fail)
  exact ZG (none,0) rfl trivial
 | true=>
  rw [if_pos rfl,run_bind]
  rw [hv] at n1
  have hc:=WU es cs who
  generalize (pAny who).run es cs=A at *
  obtain ⟨⟨p,e⟩,N,cs1⟩:=A
  dsimp only at hc
  subst hc
  dsimp only at *
  by_cases he:e≠0
  ·simp only [if_pos he,VP.run,List.append_nil]
   obtain ⟨a1,a2,a3,a4,a5,gs,a7,a8,⟨a9,a9'⟩,a10⟩:=p
   simp only [Pr.v] at n2
   generalize b=bv at *
   refine ZH [_,_] func39 ntmps39 fun G w hp=>?_
   refine Zk (ZY 3 zf) ?_
   repeat' (first|refine ZC ?_|refine ZB ?_|refine ZD ?_|refine ZS ?_|refine ZN (fun b=>?_)|refine ZE ?_|refine ZA (n1) (fun _ _=>?_)|refine ZA (n2) (fun _ _=>?_)|(refine ZF (fun hc=>?_) (fun hc=>?_)<;>(try simp at hc)<;>(try omega))|fail)
   exact ZG (none,0) rfl trivial
  ·obtain rfl:e=0:=by omega
   simp only [if_neg he]
   rw [run_bind]
   have n3:=epoG_ok b ps es (rsOf es N rs) cs1 hS
   have hc2:=XB es cs1
   generalize pEpo.run es cs1=B at *
   obtain ⟨⟨ep,e2⟩,N2,cs2⟩:=B
   dsimp only at hc2
   subst hc2
   dsimp only at *
   by_cases he2:e2≠0
   ·simp only [if_pos he2,VP.run,List.append_nil,Zm]
    obtain ⟨a1,a2,a3,a4,a5,gs,a7,a8,⟨a9,a9'⟩,a10⟩:=p
    simp only [Pr.v] at n2
    generalize b=bv at *
    refine ZH [_,_] func39 ntmps39 fun G w hp=>?_
    refine Zk (ZY 3 zf) ?_
    repeat' (first|refine ZC ?_|refine ZB ?_|refine ZD ?_|refine ZS ?_|refine ZN (fun b=>?_)|refine ZE ?_|refine ZA (n1) (fun _ _=>?_)|refine ZA (n2) (fun _ _=>?_)|refine ZA (n3) (fun _ _=>?_)|(refine ZF (fun hc=>?_) (fun hc=>?_)<;>(try simp at hc)<;>(try omega))|fail)
    exact ZG (none,0) rfl trivial
   ·obtain rfl:e2=0:=by omega
    simp only [if_neg he2]
    by_cases hp:p.ep≠ep
    ·simp only [if_pos hp,VP.run,List.append_nil,Zm]
     obtain ⟨a1,a2,a3,a4,a5,gs,a7,a8,⟨a9,a9'⟩,a10⟩:=p
     simp only [Pr.v] at n2
     dsimp only at hp
     generalize b=bv at *
     refine ZH [_,_] func39 ntmps39 fun G w hp=>?_
     refine Zk (ZY 3 zf) ?_
     repeat' (first|refine ZC ?_|refine ZB ?_|refine ZD ?_|refine ZP ?_|refine ZS ?_|refine ZN (fun b=>?_)|refine ZE ?_|refine ZA (n1) (fun _ _=>?_)|refine ZA (n2) (fun _ _=>?_)|refine ZA (n3) (fun _ _=>?_)|(refine ZF (fun hc=>?_) (fun hc=>?_)<;>(try simp at hc)<;>(try omega))|fail)
     exact ZG (none,0) rfl trivial
    ·simp only [if_neg hp,VP.run,List.append_nil,Zm]
     obtain ⟨a1,a2,a3,a4,a5,gs,a7,a8,⟨a9,a9'⟩,a10⟩:=p
     simp only [Pr.v] at n2 ⊢
     dsimp only at hp
     obtain rfl:a4=ep:=by omega
     generalize b=bv at *
     refine ZH [_,_] func39 ntmps39 fun G w hp=>?_
     repeat' (first|refine ZC ?_|refine ZB ?_|refine ZD ?_|refine ZP ?_|refine ZS ?_|refine ZN (fun b=>?_)|refine ZE ?_|refine ZA (n1) (fun _ _=>?_)|refine ZA (n2) (fun _ _=>?_)|refine ZA (n3) (fun _ _=>?_)|(refine ZF (fun hc=>?_) (fun hc=>?_)<;>(try simp at hc)<;>(try omega))|fail)
     rename_i q _ _ _
     exact ZG q rfl trivial
end
end
section
open VP
theorem Z7 {p:Pr} (h:pchk p=0):p.gs.length≤8∧p.sp.size≤56∧p.dr.mkr.size≤56:=by
 obtain ⟨q1,q2,q3,q4,q5,q6⟩:=Zg h
 exact ⟨(WQ q4).1,lv_size q5,lv_size (VG q6).1⟩
section
variable (b:Nat) (ps:Option Addr) (es:Al) (rs:List (Nm×Ch)) (cs:List Ch) (who:ByteArray) (p:Pr)
theorem pAny_chk (h:((pAny who).run es cs).1.2=0):pchk ((pAny who).run es cs).1.1=0:=by
 unfold pAny at *
 simp only [VP.run] at *
 split at h
 ·rename_i h1
  rw [if_pos h1]
  cases hd:pdec (vget es cs (pnm who)).1 with
  | none=>rw [hd] at h;simp at h
  | some q=>exact (pdec_inv hd).1
 ·simp at h
theorem Xz (h:((pGet who).run es cs).1.2=0):pchk ((pGet who).run es cs).1.1=0∧lvalid who.data.toList=true:=by
 have ha:=pAny_chk es cs who
 unfold pGet at *
 cases hv:lvalid who.data.toList with
 | false=>rw [hv] at h;simp [VP.run] at h
 | true=>
  refine ⟨?_,rfl⟩
  rw [hv] at h
  rw [if_pos rfl,run_bind] at *
  generalize (pAny who).run es cs=A at *
  obtain ⟨⟨p,e⟩,N,cs1⟩:=A
  dsimp only at *
  by_cases he:e≠0
  ·rw [if_pos he] at h;simp [VP.run] at h;exact absurd h he
  ·rw [if_neg he] at h ⊢
   rw [run_bind] at *
   generalize pEpo.run es cs1=B at *
   obtain ⟨⟨ep,e2⟩,N2,cs2⟩:=B
   dsimp only at *
   by_cases he2:e2≠0
   ·rw [if_pos he2] at h;simp [VP.run] at h;exact absurd h he2
   ·rw [if_neg he2] at h ⊢
    by_cases hp:p.ep≠ep
    ·rw [if_pos hp] at h;simp [VP.run] at h
    ·rw [if_neg hp];exact ha (by omega)
def pRun (who:ByteArray):VP (Pr×Int):=(pGet who).bind fun a=>if a.2≠0 then .ret (Pr.z,a.2) else if a.1.st≠1 then .ret (Pr.z,10) else .ret (a.1,0)
theorem W0:(pRun who).run es cs=(if ((pGet who).run es cs).1.2≠0 then (Pr.z,((pGet who).run es cs).1.2) else if ((pGet who).run es cs).1.1.st≠1 then (Pr.z,10) else (((pGet who).run es cs).1.1,0),((pGet who).run es cs).2.1,cs):=by
 have hc:=YG es cs who
 unfold pRun
 rw [run_bind]
 generalize (pGet who).run es cs=A at *
 obtain ⟨⟨p,e⟩,N,cs1⟩:=A
 dsimp only at *
 subst hc
 by_cases he:e≠0
 ·rw [if_pos he,if_pos he];simp [VP.run]
 ·rw [if_neg he,if_neg he]
  by_cases hp:p.st≠1
  ·rw [if_pos hp,if_pos hp];simp [VP.run]
  ·rw [if_neg hp,if_neg hp];simp [VP.run]
theorem runG_ok (hS:Sml es cs) (hw:who.size≤1000):Enters 92∧Spec prog 92 #[.pointer (some ⟨b,0,none⟩),.string who] [St ps es,Usg] [Vw b ps rs cs]
  ⟨Option Addr×Nat,fun q=>.tuple #[((pRun who).run es cs).1.1.v q.1 q.2,.int .i64 ((pRun who).run es cs).1.2],fun _=>True,fun q=>[Sl 3 zf q.1 q.2 ((pRun who).run es cs).1.1.gs],fun _=>[Vw b ps (rsOf es ((pRun who).run es cs).2.1 rs) ((pRun who).run es cs).2.2]⟩:=by
 have n1:=VO b ps es rs cs who hS hw
 have hc:=YG es cs who
 rw [W0]
 generalize (pGet who).run es cs=A at *
 obtain ⟨⟨p,e⟩,N,cs1⟩:=A
 dsimp only at *
 subst hc
 obtain ⟨a1,a2,a3,a4,a5,gs,a7,a8,⟨a9,a9'⟩,a10⟩:=p
 simp only [Pr.v] at n1
 generalize rsOf es N rs=rs2 at *
 generalize b=bv at *
 by_cases he:e≠0
 ·simp only [if_pos he]
  refine ZH [_,_] func92 ntmps92 fun G w hp=>?_
  refine Zk (ZY 3 zf) ?_
  repeat' (first|refine ZC ?_|refine ZB ?_|refine ZD ?_|refine ZS ?_|refine ZN (fun b=>?_)|refine ZA (n1) (fun _ _=>?_)|(refine ZF (fun hc=>?_) (fun hc=>?_)<;>(try simp at hc)<;>(try omega))|fail)
  exact ZG (none,0) rfl trivial
 ·obtain rfl:e=0:=by omega
  simp only [if_neg he]
  by_cases hp:a2≠1
  ·simp only [if_pos hp]
   refine ZH [_,_] func92 ntmps92 fun G w hp=>?_
   refine Zk (ZY 3 zf) ?_
   repeat' (first|refine ZC ?_|refine ZB ?_|refine ZD ?_|refine ZP ?_|refine ZS ?_|refine ZN (fun b=>?_)|refine ZE ?_|refine ZA (n1) (fun _ _=>?_)|(refine ZF (fun hc=>?_) (fun hc=>?_)<;>(try simp at hc)<;>(try omega))|fail)
   exact ZG (none,0) rfl trivial
  ·simp only [if_neg hp,Pr.v]
   obtain rfl:a2=1:=by omega
   refine ZH [_,_] func92 ntmps92 fun G w hp=>?_
   repeat' (first|refine ZC ?_|refine ZB ?_|refine ZD ?_|refine ZP ?_|refine ZS ?_|refine ZN (fun b=>?_)|refine ZE ?_|refine ZA (n1) (fun _ _=>?_)|fail)
   rename_i q _
   exact ZG q rfl trivial
def pPut (who:ByteArray) (p:Pr):VP Int:=if pchk p=0 then .set (pnm who) (pencS p) (.ret 0) else .ret (pchk p)
theorem putG_ok (o:Option Addr) (c:Nat) (h0:p.gs.length≤1099511627776) (h1:p.sp.size≤1099511627776) (h2:p.dr.mkr.size≤1099511627776) (hw:who.size≤1000) (hv:lvalid who.data.toList=true) (hl:cs.length≤1000000) :
  Enters 60∧Spec prog 60 #[.pointer (some ⟨b,0,none⟩),.string who,p.v o c] [Sl 3 zf o c p.gs,Usg] [Vw b ps rs cs]
  ⟨Unit,fun _=>.int .i64 ((pPut who p).run es cs).1,fun _=>True,fun _=>[],fun _=>[Vw b ps (rsOf es ((pPut who p).run es cs).2.1 rs) ((pPut who p).run es cs).2.2]⟩:=by
 unfold pPut
 by_cases hc:pchk p=0
 ·rw [if_pos hc]
  obtain ⟨s0,s1,s2⟩:=Z7 hc
  exact Yx b ps rs cs who p o c hc (by omega) (by omega) hw hv hl
 ·rw [if_neg hc]
  have n1:=Uz p o c hc h0 h1 h2
  simp only [VP.run]
  generalize pchk p=e at *
  obtain ⟨a1,a2,a3,a4,a5,gs,a7,a8,⟨a9,a9'⟩,a10⟩:=p
  simp only [Pr.v] at n1 ⊢
  generalize b=bv at *
  refine ZH [_,_,_] func60 ntmps60 fun G w hp=>?_
  repeat' (first|refine ZC ?_|refine ZB ?_|refine ZD ?_|refine ZP ?_|refine ZN (fun b=>?_)|refine ZA (n1) (fun _ _=>?_)|(refine ZF (fun hc=>?_) (fun hc=>?_)<;>(try simp at hc)<;>(try omega))|fail)
  exact ZG () rfl trivial
def pHas (n:Nm):VP Bool:=.get n fun r=>.ret r.2
def pStart (who:ByteArray) (p:Pr):VP Int:=if lvalid who.data.toList=false∨isE who=true then .ret 12 else if pchk p≠0 then .ret (pchk p) else if p.st≠1 then .ret 10 else pEpo.bind fun e=>if e.2≠0 then .ret e.2 else (pHas (pnm who)).bind fun h=>if h=true then .ret 13 else pPut who {p with ep:=e.1}
set_option maxHeartbeats 1000000 in
theorem startG_ok (o:Option Addr) (c:Nat) (hS:Sml es cs) (h0:p.gs.length≤1099511627776) (h1:p.sp.size≤1099511627776) (h2:p.dr.mkr.size≤1099511627776) (hw:who.size≤1000) (hl:cs.length≤1000000) :
  Enters 40∧Spec prog 40 #[.pointer (some ⟨b,0,none⟩),.string who,p.v o c] [Sl 3 zf o c p.gs,St ps es,Usg] [Vw b ps rs cs]
  ⟨Unit,fun _=>.int .i64 ((pStart who p).run es cs).1,fun _=>True,fun _=>[],fun _=>[Vw b ps (rsOf es ((pStart who p).run es cs).2.1 rs) ((pStart who p).run es cs).2.2]⟩:=by
 unfold pStart
 by_cases hb:lvalid who.data.toList=false∨isE who=true
 ·rw [if_pos hb]
  simp only [VP.run,rsOf]
  have n1:=Zu who (by omega)
  generalize b=bv at *
  obtain ⟨a1,a2,a3,a4,a5,gs,a7,a8,⟨a9,a9'⟩,a10⟩:=p
  simp only [Pr.v]
  cases hE:isE who with
  | true=>
   have hE':(who.toList == (⟨#[]⟩:ByteArray).toList)=true:=hE
   refine ZH [_,_,_] func40 ntmps40 fun G w hp=>?_
   repeat' (first|refine ZC ?_|refine ZB ?_|refine ZU ?_|refine ZD ?_|refine ZN (fun b=>?_)|refine ZJ ?_|refine ZE ?_|rw [hE']|fail)
   exact ZG () rfl trivial
  | false=>
   have hE':(who.toList == (⟨#[]⟩:ByteArray).toList)=false:=hE
   rw [hE] at hb
   simp at hb
   rw [hb] at n1
   refine ZH [_,_,_] func40 ntmps40 fun G w hp=>?_
   repeat' (first|refine ZC ?_|refine ZB ?_|refine ZU ?_|refine ZD ?_|refine ZN (fun b=>?_)|refine ZJ ?_|refine ZE ?_|refine ZA (n1) (fun _ _=>?_)|rw [hE']|fail)
   exact ZG () rfl trivial
 ·rw [if_neg hb]
  simp only [not_or,Bool.not_eq_false,Bool.not_eq_true] at hb
  obtain ⟨hv,hne⟩:=hb
  have n0:=Zu who (by omega)
  rw [hv] at n0
  have n1:=XF p o c h0 h1 h2
  have n2:=Yi who
  have hE:(who.toList == (⟨#[]⟩:ByteArray).toList)=false:=by rw [isE] at hne;exact hne
  generalize b=bv at *
  by_cases hc:pchk p≠0
  ·rw [if_pos hc]
   generalize pchk p=e at *
   obtain ⟨a1,a2,a3,a4,a5,gs,a7,a8,⟨a9,a9'⟩,a10⟩:=p
   simp only [Pr.v] at n1 ⊢
   refine ZH [_,_,_] func40 ntmps40 fun G w hp=>?_
   repeat' (first|refine ZC ?_|refine ZB ?_|refine ZU ?_|refine ZD ?_|refine ZP ?_|refine ZN (fun b=>?_)|refine ZE ?_|refine ZA (n0) (fun _ _=>?_)|refine ZA (n1) (fun _ _=>?_)|rw [hE]|(refine ZF (fun hc=>?_) (fun hc=>?_)<;>(try simp at hc)<;>(try omega))|fail)
   exact ZG () rfl trivial
  ·rw [if_neg hc]
   simp only [ne_eq,Decidable.not_not] at hc
   rw [hc] at n1
   by_cases hs:p.st≠1
   ·rw [if_pos hs]
    obtain ⟨a1,a2,a3,a4,a5,gs,a7,a8,⟨a9,a9'⟩,a10⟩:=p
    simp only [Pr.v] at n1 ⊢
    dsimp only at hs
    refine ZH [_,_,_] func40 ntmps40 fun G w hp=>?_
    repeat' (first|refine ZC ?_|refine ZB ?_|refine ZU ?_|refine ZD ?_|refine ZP ?_|refine ZN (fun b=>?_)|refine ZE ?_|refine ZA (n0) (fun _ _=>?_)|refine ZA (n1) (fun _ _=>?_)|rw [hE]|(refine ZF (fun hc=>?_) (fun hc=>?_)<;>(try simp at hc)<;>(try omega))|fail)
    exact ZG () rfl trivial
   ·rw [if_neg hs,run_bind]
    have n3:=epoG_ok bv ps es rs cs hS
    have hcs:=XB es cs
    generalize pEpo.run es cs=A at *
    obtain ⟨⟨ep,e⟩,N,cs1⟩:=A
    dsimp only at *
    subst hcs
    by_cases he:e≠0
    ·simp only [if_pos he,VP.run,List.append_nil]
     obtain ⟨a1,a2,a3,a4,a5,gs,a7,a8,⟨a9,a9'⟩,a10⟩:=p
     simp only [Pr.v] at n1 ⊢
     dsimp only at hs
     obtain rfl:a2=1:=by omega
     refine ZH [_,_,_] func40 ntmps40 fun G w hp=>?_
     repeat' (first|refine ZC ?_|refine ZB ?_|refine ZU ?_|refine ZD ?_|refine ZP ?_|refine ZN (fun b=>?_)|refine ZE ?_|refine ZA (n0) (fun _ _=>?_)|refine ZA (n1) (fun _ _=>?_)|refine ZA (n3) (fun _ _=>?_)|rw [hE]|(refine ZF (fun hc=>?_) (fun hc=>?_)<;>(try simp at hc)<;>(try omega))|fail)
     exact ZG () rfl trivial
    ·obtain rfl:e=0:=by omega
     simp only [if_neg he]
     rw [run_bind]
     have n4:=UO bv ps es (rsOf es N rs) cs1 (pnm who) (by show who.size≤_;omega) (Nat.zero_le _)
     unfold pHas
     simp only [VP.run,List.append_nil]
     rw [XM] at n4
     generalize (vget es cs1 (pnm who)).2=hg at *
     have n5:=putG_ok bv ps es (rsOf es (vrN cs1 (pnm who)) (rsOf es N rs)) cs1 who {p with ep:=ep} o c h0 h1 h2 hw hv hl
     cases hg with
     | true=>
      simp only [if_true,VP.run,List.append_nil,Zm]
      obtain ⟨a1,a2,a3,a4,a5,gs,a7,a8,⟨a9,a9'⟩,a10⟩:=p
      simp only [Pr.v] at n1 ⊢
      dsimp only at hs
      obtain rfl:a2=1:=by omega
      clear n5
      refine ZH [_,_,_] func40 ntmps40 fun G w hp=>?_
      repeat' (first|refine ZC ?_|refine ZB ?_|refine ZU ?_|refine ZD ?_|refine ZP ?_|refine ZN (fun b=>?_)|refine ZJ ?_|refine ZE ?_|refine ZA (n0) (fun _ _=>?_)|refine ZA (n1) (fun _ _=>?_)|refine ZA (n2) (fun _ _=>?_)|refine ZA (n3) (fun _ _=>?_)|refine ZA (n4) (fun _ _=>?_)|rw [hE]|fail)
      exact ZG () rfl trivial
     | false=>
      simp only [Bool.false_eq_true,if_false,Zm]
      generalize (pPut who {p with ep:=ep}).run es cs1=B at *
      obtain ⟨e5,N5,cs5⟩:=B
      generalize rsOf es N5 (rsOf es (vrN cs1 (pnm who)) (rsOf es N rs))=rs5 at *
      generalize rsOf es (vrN cs1 (pnm who)) (rsOf es N rs)=rs4 at *
      generalize rsOf es N rs=rs3 at *
      obtain ⟨a1,a2,a3,a4,a5,gs,a7,a8,⟨a9,a9'⟩,a10⟩:=p
      simp only [Pr.v] at n1 n5 ⊢
      dsimp only at hs n5 ⊢
      obtain rfl:a2=1:=by omega
      refine ZH [_,_,_] func40 ntmps40 fun G w hp=>?_
      repeat' (first|refine ZC ?_|refine ZB ?_|refine ZU ?_|refine ZD ?_|refine ZP ?_|refine ZS ?_|refine ZN (fun b=>?_)|refine ZE ?_|refine ZA (n0) (fun _ _=>?_)|refine ZA (n1) (fun _ _=>?_)|refine ZA (n2) (fun _ _=>?_)|refine ZA (n3) (fun _ _=>?_)|refine ZA (n4) (fun _ _=>?_)|refine ZA (n5) (fun _ _=>?_)|rw [hE]|fail)
      exact ZG () rfl trivial
end
end
section
def mk2:ByteArray:=⟨#[50,46,51]⟩
def mk3:ByteArray:=⟨#[]⟩
def mk27 (k:Nat):ByteArray:=if k=0 then o1 else if k=1 then mk2 else mk3
theorem mk27_valid (k:Nat):lvalid (mk27 k).data.toList=true:=by
 unfold mk27
 split
 ·exact Y7
 ·split
  ·have h:=(Y3 [50,46,51] 0 0 (by simp)).2.2.2
   rw [show ffirst (([50,46,51]:List UInt8).drop 0) 0 0=(⟨2,0,0⟩,1) from rfl] at h
   have h2:=(Y3 [50,46,51] 2 1 (by simp)).2.2.2
   rw [show ffirst (([50,46,51]:List UInt8).drop 2) 2 1=(⟨3,2,0⟩,3) from rfl] at h2
   simp at h h2
   simp [mk2,lvalid,lparts,h,h2]
  ·simp [mk3,lvalid,lparts]
def ndF:Ino:=⟨1,0,0,0,0,0,⟨#[]⟩⟩
structure BI (i:Nat) (cs:List Ch) (ns:List Int) (m:List (Bi×Bool)):Prop where
 len:ns.length=3
 cl:cs.length≤2 * i
 g:∀(k:Nat) (z:Int),ns[k]? = some z→0≤z∧z≤(i:Int)∧vget [] cs (cnm (mk27 k))=if z=0 then (⟨#[]⟩,false) else (cvs ⟨z,0,0⟩,true)
 s:∀(b:Bi) (u:Bool),mget b m=some u→∃(k:Nat) (z:Int),ns[k]? = some z∧b.mkr=mk27 k∧b.nu<z
variable {cs:List Ch} {ns:List Int} {m:List (Bi×Bool)} {k:Nat} {z:Int}
end
def En.w (e:En):Value:=.agg #[.string e.who,.int .i64 e.nu,.int .i64 e.tk,.int .i64 e.o.ch,.string e.o.tg,.string e.o.tx,.int .i64 e.o.us]
structure Idn where
 who:ByteArray
 nu:Int
 tk:Int
 deriving DecidableEq
def Idn.v (i:Idn):Value:=.agg #[.string i.who,.int .i64 i.nu,.int .i64 i.tk]
def En.id (e:En):Idn:=⟨e.who,e.nu,e.tk⟩
theorem beqSw (a b:ByteArray):(a.toList == b.toList)=decide (a=b):=by
 rw [Zz,Zz,Bool.eq_iff_iff]
 simp only [beq_iff_eq,decide_eq_true_eq]
 exact ⟨fun h=>XT h,fun h=>by rw [h]⟩
theorem beqIw (a b:Int):(a == b)=decide (a=b):=by rw [Bool.eq_iff_iff];simp
def cmpT (a b:En):Int:=cmpI a.tk b.tk
section
variable {n:Nat} {C:Cx} {Q:Exit→Act→World→Prop} {E E':List (Nat×Value)} {F F' F1 Fs F0:List Pf} {R R' R0 Rs N N' A:List HP} {k k':List Fr} {ops l:List Oper} {L L':List (Nat×Nat)} {Tl:List Nat} {i d:Nat} {t ty0:TypeId} {x y z:Operand} {pos:String} {aft:Array Edge} {gd:Option (Nat×Bool)} {α β:Type} [DecidableEq α] {K:α→Value} {V:β→Value}
theorem Yz {kt et r:Nat} {rs te:TRow} {m:List (α×β)} {zv:Value} (hk:KeyOK kt K) (a:α) (o:Option β) (ho:mget a m=o) (nx:Wr n C ops k Q Tl Fs R L ((d,(o.map V).getD zv)::E) F N)
  (hop:nth ops i=some ⟨some d,.lookup t x y false,ty0,pos,aft,gd⟩:=by rfl) (hw:wantL ops E ⟨some d,.lookup t x y false,ty0,pos,aft,gd⟩=some true:=by rfl)
  (hx:ev E x=some (.map (some r)):=by rfl) (hy:ev E y=some (K a):=by rfl) (hts:lookT tab t=some rs:=by rfl) (hrs:rs.k = .map kt et:=by rfl) (hte:lookT tab et=some te:=by rfl) (hzv:zval te=some zv:=by rfl)
  (hs:Sel (Mp K V r m) R R0:=by (repeat (first|exact Sel.here|apply Sel.there));first|done|fail):Wr n C ops k Q Tl Fs R ((i,0)::L) E F N:=
 Yk hop fun hp hr w st hz sb=>by
  simp only [Zt hw]
  refine ⟨(o.map V).getD zv,fun ac w ha hin=>?_,nx hp hr w st hz sb⟩
  obtain ⟨h1,h2,_,s1,_,hmp,_⟩:=hs.sep st.r
  obtain ⟨es,clock,hes,he,hB⟩:=hmp
  have hb:w.heap[r]? = some (.map es clock):=hin _ _ (sb _ _ (ZX _ _ _ _ (s1 _ _ hes)))
  have hu:=XA (w:=w) hts hrs
  have hg:(getObj r).run prog w = .ok (.map es clock) w:=by simp [getObj,Sem.run,hb]
  have hc:=hk.chk a es.isEmpty w
  have hf:=XE hk a es.toList m w he
  have hz0:=US hte hzv w
  have hfg:=WP a m 0
  simp only [execOp,ha.ev (x:=x) (by rw [ZL];exact hx),ha.ev (x:=y) (by rw [ZL];exact hy),Instr.lookup,Sem.run_bind,hu,Result.andThen,hg,hc,hf,Sem.run_pure]
  cases hm:mfind a m 0 with
  | none=>
   rw [hm] at hfg
   simp only [Option.map_none,Sem.run_bind,hz0,Result.andThen,Sem.run_pure,Bool.false_eq_true,if_false]
   rw [←ho,←hfg];rfl
  | some q=>
   rw [hm] at hfg
   simp only [Option.map_some,Bool.false_eq_true,if_false]
   rw [←ho,←hfg];rfl
end
theorem eqBi2 (a b:Bi):eqC eqS 20 42 a.v b.v=some (decide (a=b)):=by
 rw [show eqC eqS 20 42 a.v b.v=some ((a.mkr.toList == b.mkr.toList) && ((a.nu == b.nu) && true)) from rfl]
 congr 1
 obtain ⟨a1,a2⟩:=a
 obtain ⟨b1,b2⟩:=b
 simp only [beqSw,beqIw,Bi.mk.injEq]
 rw [Bool.eq_iff_iff];simp
def blv (u:Bool):Value:=.bool u
def svf (s:ByteArray):List Value:=[.string s]
def shP (p:Pr):Pr:={p with sp:=cutS p.sp 80,gs:=p.gs.take 20,dr:={p.dr with mkr:=cutS p.dr.mkr 80}}
theorem short35_ok (p:Pr) (o:Option Addr) (c:Nat) (hl:p.gs.length≤1099511627776):Enters 15∧Spec prog 15 #[p.v o c] [Sl 3 zf o c p.gs] []
  ⟨Option Addr,fun o'=>(shP p).v o' c,fun _=>True,fun o'=>[Sl 3 zf o' c (shP p).gs],fun _=>[]⟩:=by
 have hm:(if (20:Int)<(p.gs.length:Int) then (20:Int) else (p.gs.length:Int))=((min p.gs.length 20:Nat):Int):=by split<;>omega
 obtain ⟨a1,a2,a3,a4,a5,gs,a7,a8,a9,a10⟩:=p
 obtain ⟨b1,b2⟩:=a9
 dsimp only at hl hm
 have ht:gs.take (min gs.length 20)=gs.take 20:=by
  by_cases h:gs.length≤20
  ·rw [Nat.min_eq_left h,List.take_length,List.take_of_length_le h]
  ·rw [Nat.min_eq_right (by omega)]
 refine ZH [_] func15 ntmps15 fun G w hp=>?_
 repeat' (first|refine ZC ?_|refine ZB ?_|refine ZD ?_|refine ZP ?_|refine ZS ?_|refine ZN (fun b=>?_)|refine l_cutS 80 ?_|rw [hm]|refine l_slH (es:=gs) (min gs.length 20) (by omega) (fun o'=>?_)|fail)
 rw [ht]
 exact ZG o' rfl trivial
set_option maxHeartbeats 1000000 in
theorem slEqual_ok (o1 o2:Option Addr) (c1 c2:Nat) (xs ys:List Int) (hx:xs.length≤1099511627776) (hy:ys.length≤1099511627776):Enters 68∧Spec prog 68 #[.slice o1 xs.length c1,.slice o2 ys.length c2] [Sl 3 zf o1 c1 xs,Sl 3 zf o2 c2 ys] [] (RetV (.bool (decide (xs=ys)))):=by
 refine ZH [_,_] func68 ntmps68 fun G w hp=>?_
 by_cases hlen:xs.length=ys.length
 ·repeat' (first|refine ZC ?_|refine ZB ?_|refine ZD ?_|(refine ZF (fun hc=>?_) (fun hc=>?_)<;>(try simp at hc)<;>(try omega))|fail)
  refine YH (X:={i:Nat // i≤xs.length∧xs.take i=ys.take i}) (fun i=>[(0,.slice o1 xs.length c1),(1,.slice o2 ys.length c2),(12,.int .i64 (xs.length:Int)),(13,.int .i64 (i.1:Int))]) (fun _=>[Sl 3 zf o1 c1 xs,Sl 3 zf o2 c2 ys]) (fun _=>[]) (fun i=>xs.length - i.1) ⟨0,by omega,rfl⟩ ⟨rfl,rfl,rfl,rfl,trivial⟩ ?_
  rintro ⟨i,hi1,hi2⟩
  dsimp only
  by_cases hlt:i<xs.length
  ·obtain ⟨a,ha⟩:∃a,xs[i]? = some a:=⟨_,List.getElem?_eq_getElem hlt⟩
   obtain ⟨u,hb⟩:∃u,ys[i]? = some u:=⟨_,List.getElem?_eq_getElem (by omega)⟩
   by_cases hab:a=u
   ·repeat' (first|refine ZC ?_|refine ZB ?_|refine ZD ?_|refine ZO ?_|refine ZQ ?_|refine Wp (es:=xs) i a ha (fun b off=>?_)|refine Wp (es:=ys) i u hb (fun b off=>?_)|refine r_ldC ?_|refine ZK 6 [] [(0,0),(1,0),(2,0),(3,0),(4,0),(5,0),(6,0),(7,0),(8,0)] [] ?_|(refine ZF (fun hc=>?_) (fun hc=>?_)<;>(try simp at hc)<;>(try omega))|fail)
    rw [wrapi (z:=(i:Int)+1) (by omega) (by omega)]
    refine ZW ⟨i+1,by omega,?_⟩ (by show xs.length - (i+1)<xs.length - i;omega) ⟨rfl,rfl,rfl,rfl,trivial⟩
    rw [List.take_add_one,List.take_add_one,hi2,ha,hb,hab]
   ·have e:decide (xs=ys)=false:=decide_eq_false fun h=>by
     subst h
     exact hab (Option.some.inj (ha.symm.trans hb))
    repeat' (first|refine ZC ?_|refine ZB ?_|refine ZD ?_|refine ZO ?_|refine ZQ ?_|refine Wp (es:=xs) i a ha (fun b off=>?_)|refine Wp (es:=ys) i u hb (fun b off=>?_)|refine r_ldC ?_|refine ZK 6 [] [(0,0),(1,0),(2,0),(3,0),(4,0),(5,0),(6,0),(7,0),(8,0)] [] ?_|(refine ZF (fun hc=>?_) (fun hc=>?_)<;>(try simp at hc)<;>(try omega))|fail)
    exact Y5 (XK (w_rv (congrArg Value.bool e) (YS () rfl trivial)))
  ·have e:decide (xs=ys)=true:=decide_eq_true (by
    rw [List.take_of_length_le (by omega),List.take_of_length_le (by omega)] at hi2
    exact hi2)
   rw [e]
   repeat' (first|refine ZC ?_|refine ZB ?_|refine ZD ?_|refine Zn ?_|(refine ZF (fun hc=>?_) (fun hc=>?_)<;>(try simp at hc)<;>(try omega))|fail)
   exact ZG () rfl trivial
 ·have e:decide (xs=ys)=false:=decide_eq_false fun h=>hlen (by rw [h])
  rw [e]
  repeat' (first|refine ZC ?_|refine ZB ?_|refine ZD ?_|(refine ZF (fun hc=>?_) (fun hc=>?_)<;>(try simp at hc)<;>(try omega))|fail)
  exact ZG () rfl trivial
theorem pr_eq (p q:Pr):p=q↔((((((((p.kd=q.kd∧p.st=q.st)∧p.cd=q.cd)∧p.ep=q.ep)∧p.us=q.us)∧p.gs=q.gs)∧p.sp=q.sp)∧p.pg=q.pg)∧p.dr=q.dr)∧p.tm=q.tm:=by
 obtain ⟨a1,a2,a3,a4,a5,a6,a7,a8,a9,a10⟩:=p
 obtain ⟨b1,b2,b3,b4,b5,b6,b7,b8,b9,b10⟩:=q
 simp only [Pr.mk.injEq]
 constructor
 ·rintro ⟨h1,h2,h3,h4,h5,h6,h7,h8,h9,h10⟩;exact ⟨⟨⟨⟨⟨⟨⟨⟨⟨h1,h2⟩,h3⟩,h4⟩,h5⟩,h6⟩,h7⟩,h8⟩,h9⟩,h10⟩
 ·rintro ⟨⟨⟨⟨⟨⟨⟨⟨⟨h1,h2⟩,h3⟩,h4⟩,h5⟩,h6⟩,h7⟩,h8⟩,h9⟩,h10⟩;exact ⟨h1,h2,h3,h4,h5,h6,h7,h8,h9,h10⟩
set_option maxHeartbeats 4000000 in
theorem proEqual_ok (p q:Pr) (o1 o2:Option Addr) (c1 c2:Nat) (h1:p.gs.length≤1099511627776) (h2:q.gs.length≤1099511627776):Enters 19∧Spec prog 19 #[p.v o1 c1,q.v o2 c2] [Sl 3 zf o1 c1 p.gs,Sl 3 zf o2 c2 q.gs] [] (RetV (.bool (decide (p=q)))):=by
 have n1:=slEqual_ok o1 o2 c1 c2 p.gs q.gs h1 h2
 have he:=pr_eq p q
 have hsp:(p.sp.toList == q.sp.toList)=decide (p.sp=q.sp):=beqSv _ _
 have hdr:=eqBi2 p.dr q.dr
 generalize hr:decide (p=q)=r
 obtain ⟨a1,a2,a3,a4,a5,gs,a7,a8,a9,a10⟩:=p
 obtain ⟨b1,b2,b3,b4,b5,gs',b7,b8,b9,b10⟩:=q
 dsimp only at *
 obtain ⟨d1,d2⟩:=a9
 obtain ⟨e1,e2⟩:=b9
 simp only [Bi.v] at hdr
 refine ZH [_,_] func19 ntmps19 fun G w hp=>?_
 repeat' (first|refine l_seq ?_ (he:=hdr)|refine ZC ?_|refine ZB ?_|refine ZU ?_|refine ZD ?_|refine ZP ?_|refine ZN (fun b=>?_)|refine ZA (n1) (fun _ _=>?_)|rw [hsp]|(refine ZT (fun hc=>?_) (fun hc=>?_)<;>(try simp at hc)<;>(try omega))|fail)
 all_goals (
  refine ZG () ?_ trivial
  clear n1 hsp hdr
  refine congrArg Value.bool ?_
  rw [←hr,Bool.eq_iff_iff,decide_eq_true_iff,he]
  simp_all)
section
open VP
section
variable (b:Nat) (ps:Option Addr) (es:Al) (rs:List (Nm×Ch)) (cs:List Ch) (who:ByteArray) (p:Pr)
theorem W7 (h:((pRun who).run es cs).1.2=0):pchk ((pRun who).run es cs).1.1=0∧lvalid who.data.toList=true∧((pRun who).run es cs).1.1.st=1:=by
 have hg:=Xz es cs who
 rw [W0] at *
 dsimp only at *
 by_cases h1:((pGet who).run es cs).1.2≠0
 ·rw [if_pos h1] at h;exact absurd h h1
 ·rw [if_neg h1] at h ⊢
  by_cases h2:((pGet who).run es cs).1.1.st≠1
  ·rw [if_pos h2] at h;cases h
  ·rw [if_neg h2]
   obtain ⟨h3,h4⟩:=hg (by omega)
   exact ⟨h3,h4,by dsimp only;omega⟩
theorem Yn:((pRun who).run es cs).2.2=cs:=by rw [W0]
def pExit (who:ByteArray) (k:Int):VP Int:=(pRun who).bind fun a=>if a.2≠0 then .ret a.2 else if ¬(0≤k∧k≤410) then .ret 2 else pPut who {a.1 with st:=2,cd:=k}
theorem exitFB_ok (bx bc:Nat) (o:Option Addr) (c:Nat) (k:Int) (hk:¬(0≤k∧k≤410)):Enters 57∧Spec prog 57 #[.pointer (some ⟨bx,0,none⟩),.pointer (some ⟨bc,0,none⟩)] []
  [Pt bx (.cells (prf p o c).toArray 44),Pt bc (.cells #[.int .i64 k] 3)] ⟨Unit,fun _=>.int .i64 2,fun _=>True,fun _=>[],fun _=>[Pt bx (.cells (prf p o c).toArray 44),Pt bc (.cells #[.int .i64 k] 3)]⟩:=by
 have n1:=WT k 410
 rw [show (decide (0≤k) && decide (k≤410))=false by simp;omega] at n1
 obtain ⟨a1,a2,a3,a4,a5,gs,a7,a8,a9,a10⟩:=p
 unfold prf
 refine ZH [_,_] func57 ntmps57 fun G w hp=>?_
 repeat' (first|refine ZC ?_|refine ZB ?_|refine ZD ?_|refine ZP ?_|refine ZJ ?_|refine ZA (n1) (fun _ _=>?_)|fail)
 exact ZG () rfl trivial
set_option maxHeartbeats 1000000 in
theorem exitG_ok (k:Int) (hS:Sml es cs) (hw:who.size≤1000) (hl:cs.length≤1000000):Enters 13∧Spec prog 13 #[.pointer (some ⟨b,0,none⟩),.string who,.int .i64 k] [St ps es,Usg] [Vw b ps rs cs]
  ⟨Unit,fun _=>.int .i64 ((pExit who k).run es cs).1,fun _=>True,fun _=>[],fun _=>[Vw b ps (rsOf es ((pExit who k).run es cs).2.1 rs) ((pExit who k).run es cs).2.2]⟩:=by
 have n1:=runG_ok b ps es rs cs who hS hw
 have hck:=W7 es cs who
 have hcs:=Yn es cs who
 unfold pExit
 rw [run_bind]
 generalize (pRun who).run es cs=A at *
 obtain ⟨⟨p,e⟩,N,cs1⟩:=A
 dsimp only at *
 subst hcs
 generalize b=bv at *
 by_cases he:e≠0
 ·simp only [if_pos he,VP.run,List.append_nil]
  generalize rsOf es N rs=rs2 at *
  obtain ⟨a1,a2,a3,a4,a5,gs,a7,a8,⟨a9,a9'⟩,a10⟩:=p
  simp only [Pr.v] at n1
  have hch:∀bc:Nat,Enters 56∧Spec prog 56 #[.pointer (some ⟨bv,0,none⟩),.string who,.func (.func 57) #[] #[.pointer (some ⟨bc,0,none⟩)]] [St ps es,Usg] [Vw bv ps rs cs1,Pt bc (.cells #[.int .i64 k] 3)]
    ⟨Unit,fun _=>.int .i64 e,fun _=>True,fun _=>[],fun _=>[Vw bv ps rs2 cs1]⟩:=fun bc=>by
   refine ZH [_,_,_] func56 ntmps56 fun G w hp=>?_
   repeat' (first|refine ZC ?_|refine ZB ?_|refine ZD ?_|refine ZS ?_|refine ZN (fun b=>?_)|refine ZA (n1) (fun _ _=>?_)|(refine ZF (fun hc=>?_) (fun hc=>?_)<;>(try simp at hc)<;>(try omega))|fail)
   exact ZG () rfl trivial
  refine ZH [_,_,_] func13 ntmps13 fun G w hp=>?_
  repeat' (first|refine ZC ?_|refine ZB ?_|refine ZD ?_|refine ZN (fun b=>?_)|refine ZA (hch _) (fun _ _=>?_)|fail)
  exact ZG () rfl trivial
 ·obtain rfl:e=0:=by omega
  obtain ⟨hpc,hv,hst⟩:=hck rfl
  simp only [if_neg he]
  by_cases hk:¬(0≤k∧k≤410)
  ·simp only [if_pos hk,VP.run,List.append_nil]
   have n2:=fun bx bc o c=>exitFB_ok p bx bc o c k hk
   generalize rsOf es N rs=rs2 at *
   obtain ⟨a1,a2,a3,a4,a5,gs,a7,a8,⟨a9,a9'⟩,a10⟩:=p
   simp only [Pr.v,prf] at n1 n2
   have hch:∀bc:Nat,Enters 56∧Spec prog 56 #[.pointer (some ⟨bv,0,none⟩),.string who,.func (.func 57) #[] #[.pointer (some ⟨bc,0,none⟩)]] [St ps es,Usg] [Vw bv ps rs cs1,Pt bc (.cells #[.int .i64 k] 3)]
     ⟨Unit,fun _=>.int .i64 2,fun _=>True,fun _=>[],fun _=>[Vw bv ps rs2 cs1]⟩:=fun bc=>by
    refine ZH [_,_,_] func56 ntmps56 fun G w hp=>?_
    repeat' (first|refine ZC ?_|refine ZB ?_|refine ZD ?_|refine ZS ?_|refine ZN (fun b=>?_)|refine ZJ ?_|refine ZE ?_|refine ZA (n1) (fun _ _=>?_)|refine X9 (n2 _ _ _ _) (fun _ _=>?_)|fail)
    exact ZG () rfl trivial
   refine ZH [_,_,_] func13 ntmps13 fun G w hp=>?_
   repeat' (first|refine ZC ?_|refine ZB ?_|refine ZD ?_|refine ZN (fun b=>?_)|refine ZA (hch _) (fun _ _=>?_)|fail)
   exact ZG () rfl trivial
  ·simp only [if_neg hk]
   obtain ⟨z0,z1,z2⟩:=Z7 hpc
   have n2:=fun bx bc o c=>exitF_ok p bx bc o c k (by omega)
   have n3:=fun o c=>putG_ok bv ps es (rsOf es N rs) cs1 who {p with st:=2,cd:=k} o c (by show p.gs.length≤_;omega) (by show p.sp.size≤_;omega) (by show p.dr.mkr.size≤_;omega) hw hv hl
   rw [Zm]
   generalize (pPut who {p with st:=2,cd:=k}).run es cs1=B at *
   obtain ⟨e5,N5,cs5⟩:=B
   generalize rsOf es N5 (rsOf es N rs)=rs5 at *
   generalize rsOf es N rs=rs2 at *
   obtain ⟨a1,a2,a3,a4,a5,gs,a7,a8,⟨a9,a9'⟩,a10⟩:=p
   simp only [Pr.v,prf] at n1 n2 n3
   dsimp only at *
   have hch:∀bc:Nat,Enters 56∧Spec prog 56 #[.pointer (some ⟨bv,0,none⟩),.string who,.func (.func 57) #[] #[.pointer (some ⟨bc,0,none⟩)]] [St ps es,Usg] [Vw bv ps rs cs1,Pt bc (.cells #[.int .i64 k] 3)]
     ⟨Unit,fun _=>.int .i64 e5,fun _=>True,fun _=>[],fun _=>[Vw bv ps rs5 cs5]⟩:=fun bc=>by
    refine ZH [_,_,_] func56 ntmps56 fun G w hp=>?_
    repeat' (first|refine ZC ?_|refine ZB ?_|refine ZD ?_|refine ZP ?_|refine ZS ?_|refine ZN (fun b=>?_)|refine ZE ?_|refine ZA (n1) (fun _ _=>?_)|refine ZA (n3 _ _) (fun _ _=>?_)|refine X9 (n2 _ _ _ _) (fun _ _=>?_)|fail)
    exact ZG () rfl trivial
   refine ZH [_,_,_] func13 ntmps13 fun G w hp=>?_
   repeat' (first|refine ZC ?_|refine ZB ?_|refine ZD ?_|refine ZN (fun b=>?_)|refine ZA (hch _) (fun _ _=>?_)|fail)
   exact ZG () rfl trivial
def pSet (who:ByteArray) (p:Pr):VP Int:=if pchk p≠0 then .ret (pchk p) else (pGet who).bind fun a=>if a.2≠0 then .ret a.2 else if {p with ep:=a.1.ep}=a.1 then .ret 0 else pPut who {p with ep:=a.1.ep}
set_option maxHeartbeats 1000000 in
theorem setG_ok (o:Option Addr) (c:Nat) (hS:Sml es cs) (h0:p.gs.length≤1099511627776) (h1:p.sp.size≤1099511627776) (h2:p.dr.mkr.size≤1099511627776) (hw:who.size≤1000) (hl:cs.length≤1000000) :
  Enters 88∧Spec prog 88 #[.pointer (some ⟨b,0,none⟩),.string who,p.v o c] [Sl 3 zf o c p.gs,St ps es,Usg] [Vw b ps rs cs]
  ⟨Unit,fun _=>.int .i64 ((pSet who p).run es cs).1,fun _=>True,fun _=>[],fun _=>[Vw b ps (rsOf es ((pSet who p).run es cs).2.1 rs) ((pSet who p).run es cs).2.2]⟩:=by
 have n1:=XF p o c h0 h1 h2
 unfold pSet
 generalize b=bv at *
 by_cases hc:pchk p≠0
 ·rw [if_pos hc]
  generalize pchk p=e at *
  obtain ⟨a1,a2,a3,a4,a5,gs,a7,a8,⟨a9,a9'⟩,a10⟩:=p
  simp only [Pr.v] at n1 ⊢
  refine ZH [_,_,_] func88 ntmps88 fun G w hp=>?_
  repeat' (first|refine ZC ?_|refine ZB ?_|refine ZD ?_|refine ZP ?_|refine ZN (fun b=>?_)|refine ZE ?_|refine ZA (n1) (fun _ _=>?_)|(refine ZF (fun hc=>?_) (fun hc=>?_)<;>(try simp at hc)<;>(try omega))|fail)
  exact ZG () rfl trivial
 ·rw [if_neg hc,run_bind]
  simp only [ne_eq,Decidable.not_not] at hc
  rw [hc] at n1
  have n2:=VO bv ps es rs cs who hS hw
  have hck:=Xz es cs who
  have hcs:=YG es cs who
  generalize (pGet who).run es cs=A at *
  obtain ⟨⟨q,e⟩,N,cs1⟩:=A
  dsimp only at *
  subst hcs
  by_cases he:e≠0
  ·simp only [if_pos he,VP.run,List.append_nil]
   obtain ⟨a1,a2,a3,a4,a5,gs,a7,a8,⟨a9,a9'⟩,a10⟩:=p
   obtain ⟨q1,q2,q3,q4,q5,qs,q7,q8,⟨q9,q9'⟩,q10⟩:=q
   simp only [Pr.v] at n1 n2 ⊢
   refine ZH [_,_,_] func88 ntmps88 fun G w hp=>?_
   repeat' (first|refine ZC ?_|refine ZB ?_|refine ZD ?_|refine ZP ?_|refine ZS ?_|refine ZN (fun b=>?_)|refine ZE ?_|refine ZA (n1) (fun _ _=>?_)|refine ZA (n2) (fun _ _=>?_)|(refine ZF (fun hc=>?_) (fun hc=>?_)<;>(try simp at hc)<;>(try omega))|fail)
   exact ZG () rfl trivial
  ·obtain rfl:e=0:=by omega
   simp only [if_neg he]
   obtain ⟨hqc,hv⟩:=hck rfl
   obtain ⟨z0,z1,z2⟩:=Z7 hqc
   have n3:=fun o2 c2=>proEqual_ok {p with ep:=q.ep} q o o2 c c2 h0 (by omega)
   have n4:=putG_ok bv ps es (rsOf es N rs) cs1 who {p with ep:=q.ep} o c h0 h1 h2 hw hv hl
   by_cases hq:{p with ep:=q.ep}=q
   ·simp only [if_pos hq,VP.run,List.append_nil]
    simp only [hq,decide_true] at n3
    clear n4
    have hq':=hq
    obtain ⟨a1,a2,a3,a4,a5,gs,a7,a8,⟨a9,a9'⟩,a10⟩:=p
    obtain ⟨q1,q2,q3,q4,q5,qs,q7,q8,⟨q9,q9'⟩,q10⟩:=q
    simp only [Pr.mk.injEq,Bi.mk.injEq] at hq'
    obtain ⟨rfl,rfl,rfl,-,rfl,rfl,rfl,rfl,⟨rfl,rfl⟩,rfl⟩:=hq'
    simp only [Pr.v] at n1 n2 n3 ⊢
    refine ZH [_,_,_] func88 ntmps88 fun G w hp=>?_
    repeat' (first|refine ZC ?_|refine ZB ?_|refine ZD ?_|refine ZP ?_|refine ZS ?_|refine ZN (fun b=>?_)|refine ZJ ?_|refine ZE ?_|refine ZA (n1) (fun _ _=>?_)|refine ZA (n2) (fun _ _=>?_)|refine ZA (n3 _ _) (fun _ _=>?_)|fail)
    exact ZG () rfl trivial
   ·simp only [if_neg hq]
    simp only [hq,decide_false] at n3
    rw [Zm]
    generalize (pPut who {p with ep:=q.ep}).run es cs1=B at *
    obtain ⟨e5,N5,cs5⟩:=B
    generalize rsOf es N5 (rsOf es N rs)=rs5 at *
    generalize rsOf es N rs=rs2 at *
    clear hq hck
    obtain ⟨a1,a2,a3,a4,a5,gs,a7,a8,⟨a9,a9'⟩,a10⟩:=p
    obtain ⟨q1,q2,q3,q4,q5,qs,q7,q8,⟨q9,q9'⟩,q10⟩:=q
    simp only [Pr.v] at n1 n2 n3 n4 ⊢
    dsimp only at *
    refine ZH [_,_,_] func88 ntmps88 fun G w hp=>?_
    repeat' (first|refine ZC ?_|refine ZB ?_|refine ZD ?_|refine ZP ?_|refine ZS ?_|refine ZN (fun b=>?_)|refine ZE ?_|refine ZA (n1) (fun _ _=>?_)|refine ZA (n2) (fun _ _=>?_)|refine ZA (n3 _ _) (fun _ _=>?_)|refine ZA (n4) (fun _ _=>?_)|fail)
    exact ZG () rfl trivial
def pOwn (who:ByteArray) (p:Pr):VP (Pr×Int):=if p.sp=who then .ret (p,0) else pAny p.sp
theorem VI:((pOwn who p).run es cs).2.2=cs:=by
 unfold pOwn
 split
 ·rfl
 ·exact WU es cs p.sp
theorem pOwn_chk (hp:pchk p=0) (h:((pOwn who p).run es cs).1.2=0):pchk ((pOwn who p).run es cs).1.1=0:=by
 unfold pOwn at *
 split
 ·exact hp
 ·rename_i hn
  rw [if_neg hn] at h
  exact pAny_chk es cs p.sp h
theorem ownG_ok (o:Option Addr) (c:Nat) (hS:Sml es cs) (hsp:p.sp.size≤1000):Enters 109∧Spec prog 109 #[.pointer (some ⟨b,0,none⟩),.string who,p.v o c] [Sl 3 zf o c p.gs,St ps es,Usg] [Vw b ps rs cs]
  ⟨Option Addr×Nat,fun q=>.tuple #[((pOwn who p).run es cs).1.1.v q.1 q.2,.int .i64 ((pOwn who p).run es cs).1.2],fun _=>True,fun q=>[Sl 3 zf q.1 q.2 ((pOwn who p).run es cs).1.1.gs],fun _=>[Vw b ps (rsOf es ((pOwn who p).run es cs).2.1 rs) ((pOwn who p).run es cs).2.2]⟩:=by
 unfold pOwn
 generalize b=bv at *
 by_cases h:p.sp=who
 ·simp only [if_pos h]
  obtain ⟨a1,a2,a3,a4,a5,gs,a7,a8,⟨a9,a9'⟩,a10⟩:=p
  dsimp only at h
  subst h
  simp only [Pr.v,VP.run]
  have hE:(a7.toList == a7.toList)=true:=by simp
  refine ZH [_,_,_] func109 ntmps109 fun G w hp=>?_
  repeat' (first|refine ZC ?_|refine ZB ?_|refine ZD ?_|refine ZP ?_|refine ZS ?_|refine ZN (fun b=>?_)|refine ZJ ?_|rw [hE]|fail)
  exact ZG (o,c) rfl trivial
 ·simp only [if_neg h]
  have n1:=anyG_ok bv ps es rs cs p.sp hS hsp
  have hE:(p.sp.toList == who.toList)=false:=by rw [beqSv];simp [h]
  generalize hA:(pAny p.sp).run es cs=A at *
  obtain ⟨⟨q,e⟩,N,cs1⟩:=A
  dsimp only at *
  obtain ⟨a1,a2,a3,a4,a5,gs,a7,a8,⟨a9,a9'⟩,a10⟩:=p
  simp only [Pr.v] at n1 ⊢
  clear hA
  obtain ⟨q1,q2,q3,q4,q5,qs,q7,q8,⟨q9,q9'⟩,q10⟩:=q
  dsimp only at *
  refine ZH [_,_,_] func109 ntmps109 fun G w hp=>?_
  repeat' (first|refine ZC ?_|refine ZB ?_|refine ZD ?_|refine ZP ?_|refine ZS ?_|refine ZN (fun b=>?_)|refine ZE ?_|refine ZA (n1) (fun _ _=>?_)|rw [hE]|fail)
  rename_i q _
  exact ZG q rfl trivial
end
end
section
open VP
section
theorem r_b2sF {T:Nat} {o:Option Addr} {m cap:Nat} {es:List UInt8} {td:TypeId} {rs tr rd:TRow} (nx:Wr n C ops k Q Tl Fs R L ((d,.string ⟨es.toArray⟩)::E) F N)
  (ho:nth ops i=some ⟨some d,.convert t td x,ty0,pos,aft,gd⟩:=by rfl) (hw:wantL ops E ⟨some d,.convert t td x,ty0,pos,aft,gd⟩=some true:=by rfl) (hx:ev E x=some (.slice o m cap):=by rfl)
  (hs:Sel (Sl T bf o cap es) Fs F0:=by (repeat (first|exact Sel.here|apply Sel.there));first|done|fail) (hts:lookT tab t=some rs:=by rfl) (hrs:rs.k = .slice T:=by rfl) (hT:lookT tab T=some tr:=by rfl) (hTk:tr.k = .int .u8:=by rfl) (htd:lookT tab td=some rd:=by rfl) (hrd:rd.k = .str:=by rfl)
  (hm:m=es.length:=by rfl):Wr n C ops k Q Tl Fs R ((i,0)::L) E F N:=
 Yk ho fun hp hr w st hz sb=>by
  simp only [Zt hw]
  subst hm
  refine ⟨.string ⟨es.toArray⟩,fun a w ha hin=>?_,nx hp hr w st hz sb⟩
  have hr1:(Conv.bytesToString (.slice o es.length cap)).run prog w = .ok (.string ⟨es.toArray⟩) w:=by
   obtain ⟨_,rfl|⟨b,cs,fz,pre,post,rfl,hb,hcs⟩⟩:=st.f _ hs.mem
   ·cases o<;>rfl
   ·have hb':=hin _ _ (sb _ _ (Zb st.d1.symm _ _ hb))
    rw [run_bytesToString (ns:=es.map fun b=>(b.toNat:Int))]
    ·rw [VE];simp
    ·unfold loadCells
     rw [←YY] at hcs
     have hlen:cs.size=pre.length+(es.length+post.length):=by rw [←Array.length_toList,hcs];simp [byt]
     rw [run_loadCells hb' pre.length es.length 0 #[] (by omega)]
     simp [hcs,byt]
  simp only [execOp,ha.ev (x:=x) (by rw [ZL];exact hx),convert,Xc hts hrs,Yp htd hrd,UC hT hTk,Sem.run_bind,Result.andThen,Sem.run_pure,hr1]
end
def encB (n:Int):ByteArray:=⟨(venc n.toNat).toArray⟩
theorem encB_size {z:Int} (h:0≤z) (h2:z<9223372036854775808):(encB z).size≤10:=by
 show (venc z.toNat).toArray.size≤10
 rw [List.size_toArray]
 exact Zd _ (by omega)
theorem append0_ok (u:Nat) (hu:u<9223372036854775808):Enters 145∧Spec prog 145 #[.slice none 0 0,.int .i64 (u:Int)] [] []
  ⟨Option Addr×Nat,fun q=>.tuple #[.slice q.1 (venc u).length q.2,.int .i64 0],fun _=>True,fun q=>[Sl 5 bf q.1 q.2 (venc u)],fun _=>[]⟩:=by
 have n1:=clone_ok none [] 0 (by simp)
 have hu':IntKind.u64.wrap (u:Int)=(u:Int):=by simp [IntKind.wrap,IntKind.bits,IntKind.signed];omega
 refine ZH [_,_] func145 ntmps145 fun G w hp=>?_
 refine Zq (r:=Row 5 1 none 0 0 []) (Lx:=[]) (fun h _=>YX _ _ h) ?_
 repeat' (first|refine ZC ?_|refine ZB ?_|refine ZD ?_|refine ZE ?_|refine ZA (n1) (fun _ _=>?_)|refine ZA (Xa _ 0 _ [] u (by omega) (by decide)) (fun _ _=>?_)|rw [hu']|fail)
 rename Option Addr×Nat=>q2
 refine k_frz (T:=5) (sz:=1) (f:=bf) (o:=q2.1) (cap:=q2.2) (m:=0+(venc u).length) (venc u) ?_ (by rw [←YY]) (by simp)
 refine ZG (post:=⟨Option Addr×Nat,fun q=>.tuple #[.slice q.1 (venc u).length q.2,.int .i64 0],fun _=>True,fun q=>[Sl 5 bf q.1 q.2 (venc u)],fun _=>[]⟩) q2 ?_ trivial
 simp only [Nat.zero_add]
 rfl
section
variable (b:Nat) (ps:Option Addr) (es:Al) (rs:List (Nm×Ch)) (cs:List Ch) (who:ByteArray) (p:Pr)
theorem chk_enm:nchk enm=0:=by decide +kernel
theorem edec_rng (s:ByteArray) (h:(edec s).2=0):0≤(edec s).1∧(edec s).1≤1073741824:=by
 unfold edec at *
 split at h
 ·rename_i h1
  rw [if_pos h1]
  obtain ⟨_,h2,h3,_⟩:=Yu h1.1
  exact ⟨h2,h3⟩
 ·simp at h
theorem pEpo_rng (h:(pEpo.run es cs).1.2=0):0≤(pEpo.run es cs).1.1∧(pEpo.run es cs).1.1≤1073741824:=by
 unfold pEpo at *
 simp only [VP.run] at *
 split at h
 ·rename_i h1;rw [if_pos h1];exact edec_rng _ h
 ·rename_i h1;rw [if_neg h1];exact ⟨Int.le_refl 0,by decide⟩
def pBoot:VP (Int×Int):=pEpo.bind fun e=>if e.2≠0 then .ret (0,e.2) else if e.1=1073741824 then .ret (0,9) else .set enm (encB (e.1+1)) (.ret (e.1+1,0))
theorem bootG_ok (hS:Sml es cs) (hl:cs.length≤1000000):Enters 90∧Spec prog 90 #[.pointer (some ⟨b,0,none⟩)] [St ps es,Usg] [Vw b ps rs cs]
  ⟨Unit,fun _=>.tuple #[.int .i64 (pBoot.run es cs).1.1,.int .i64 (pBoot.run es cs).1.2],fun _=>True,fun _=>[],fun _=>[Vw b ps (rsOf es (pBoot.run es cs).2.1 rs) (pBoot.run es cs).2.2]⟩:=by
 have n1:=epoG_ok b ps es rs cs hS
 have hr:=pEpo_rng es cs
 have hcs:=XB es cs
 unfold pBoot
 rw [run_bind]
 generalize pEpo.run es cs=A at *
 obtain ⟨⟨ep,e⟩,N,cs1⟩:=A
 dsimp only at *
 subst hcs
 generalize b=bv at *
 by_cases he:e≠0
 ·simp only [if_pos he,VP.run,List.append_nil]
  refine ZH [_] func90 ntmps90 fun G w hp=>?_
  repeat' (first|refine ZC ?_|refine ZB ?_|refine ZD ?_|refine ZA (n1) (fun _ _=>?_)|(refine ZF (fun hc=>?_) (fun hc=>?_)<;>(try simp at hc)<;>(try omega))|fail)
  exact ZG () rfl trivial
 ·obtain rfl:e=0:=by omega
  simp only [if_neg he]
  obtain ⟨h1,h2⟩:=hr rfl
  by_cases hm:ep=1073741824
  ·simp only [if_pos hm,VP.run,List.append_nil]
   refine ZH [_] func90 ntmps90 fun G w hp=>?_
   repeat' (first|refine ZC ?_|refine ZB ?_|refine ZD ?_|refine ZE ?_|refine ZA (n1) (fun _ _=>?_)|(refine ZF (fun hc=>?_) (fun hc=>?_)<;>(try simp at hc)<;>(try omega))|fail)
   exact ZG () rfl trivial
  ·simp only [if_neg hm,VP.run,List.append_nil]
   obtain ⟨u,hu⟩:∃u:Nat,(u:Int)=ep+1:=⟨(ep+1).toNat,by omega⟩
   have wu:IntKind.i64.wrap (ep+1)=(u:Int):=by rw [wrapi (by omega) (by omega)];omega
   have hz:=encB_size (z:=(u:Int)) (by omega) (by omega)
   have n2:=append0_ok u (by omega)
   have n3:=Vi
   have n4:=Xw bv ps (rsOf es N rs) cs1 enm (encB (u:Int)) (Nat.zero_le _) (Nat.zero_le _) hl
   have e4:vset cs1 enm (encB (u:Int))=(0,cs1++[⟨enm,encB (u:Int),false⟩]):=by
    unfold vset
    rw [if_neg (by rw [chk_enm];simp),if_neg (by omega)]
   rw [e4] at n4
   rw [←hu]
   have hB:encB (u:Int)=⟨(venc u).toArray⟩:=rfl
   rw [hB] at n4 ⊢
   clear hB hz e4
   generalize venc u=vs at *
   refine ZH [_] func90 ntmps90 fun G w hp=>?_
   repeat' (first|refine ZC ?_|refine ZB ?_|refine ZD ?_|refine ZE ?_|refine ZO ?_|refine ZQ ?_|refine ZA (n1) (fun _ _=>?_)|refine ZA (n2) (fun _ _=>?_)|refine XQ (n3) (fun _ _=>?_)|refine ZR (n4) (fun _ _=>?_)|rw [wu]|refine r_b2sF ?_|refine ZK 9 [Vw _ _ _ _] [(0,0),(2,0),(3,0),(1,5),(4,4),(5,0)] [] ?_|(refine ZF (fun hc=>?_) (fun hc=>?_)<;>(try simp at hc)<;>(try omega))|fail)
   exact ZG () rfl trivial
def pSetR (who:ByteArray) (s:ByteArray):VP Int:=if lvalid who.data.toList=true then .set (rnm who) s (.ret 0) else .ret 12
theorem setRG_ok (hw:who.size≤1000) (hl:cs.length≤1000000) (a1 a2 a3 a4 a5 a6 a7 a8 a9:Int) (hr:∀z ∈ [a1,a2,a3,a4,a5,a6,a7,a8,a9],0≤z∧z<4294967296) :
  Enters 23∧Spec prog 23 #[.pointer (some ⟨b,0,none⟩),.string who,.agg #[.int .u32 a1,.int .u32 a2,.int .u32 a3,.int .u32 a4,.int .u32 a5,.int .u32 a6,.int .u32 a7,.int .u32 a8,.int .u32 a9]] [Usg] [Vw b ps rs cs]
  ⟨Unit,fun _=>.int .i64 ((pSetR who ⟨(encR [a1,a2,a3,a4,a5,a6,a7,a8,a9]).toArray⟩).run es cs).1,fun _=>True,fun _=>[],fun _=>[Vw b ps (rsOf es ((pSetR who ⟨(encR [a1,a2,a3,a4,a5,a6,a7,a8,a9]).toArray⟩).run es cs).2.1 rs) ((pSetR who ⟨(encR [a1,a2,a3,a4,a5,a6,a7,a8,a9]).toArray⟩).run es cs).2.2]⟩:=by
 unfold pSetR
 cases hv:lvalid who.data.toList with
 | false=>
  rw [if_neg (by simp)]
  have n1:=Zu who (by omega)
  rw [hv] at n1
  simp only [VP.run]
  generalize b=bv at *
  refine ZH [_,_,_] func23 ntmps23 fun G w hp=>?_
  repeat' (first|refine ZC ?_|refine ZB ?_|refine ZD ?_|refine ZN (fun b=>?_)|refine ZJ ?_|refine ZE ?_|refine ZA (n1) (fun _ _=>?_)|fail)
  exact ZG () rfl trivial
 | true=>
  rw [if_pos rfl]
  exact setRegs_ok b ps rs cs who hw hv hl a1 a2 a3 a4 a5 a6 a7 a8 a9 hr
def pRegs (who:ByteArray):VP (List Int×Int):=if lvalid who.data.toList=true then .get (rnm who) fun r=>.ret (if r.2 then (if r.1.size=36 then rgs r.1 else rg0,if r.1.size=36 then 0 else 3) else (rg0,8)) else .ret (rg0,12)
def pMof (who:ByteArray):VP ((Pr×Pr)×Int):=(pGet who).bind fun a=>if a.2≠0 then .ret ((Pr.z,Pr.z),a.2) else (pOwn who a.1).bind fun o=>if o.2≠0 then .ret ((Pr.z,Pr.z),o.2) else .ret ((a.1,o.1),0)
theorem pMof_chk (h:((pMof who).run es cs).1.2=0):pchk ((pMof who).run es cs).1.1.1=0∧pchk ((pMof who).run es cs).1.1.2=0∧lvalid who.data.toList=true:=by
 have h1:=Xz es cs who
 unfold pMof at *
 rw [run_bind] at *
 generalize (pGet who).run es cs=A at *
 obtain ⟨⟨p,e⟩,N,cs1⟩:=A
 dsimp only at *
 by_cases he:e≠0
 ·rw [if_pos he] at h;simp [VP.run] at h;exact absurd h he
 ·rw [if_neg he] at h ⊢
  rw [run_bind] at *
  have h2:=pOwn_chk es cs1 who p (h1 (by omega)).1
  generalize (pOwn who p).run es cs1=B at *
  obtain ⟨⟨o,e2⟩,N2,cs2⟩:=B
  dsimp only at *
  by_cases he2:e2≠0
  ·rw [if_pos he2] at h;simp [VP.run] at h;exact absurd h he2
  ·rw [if_neg he2]
   exact ⟨(h1 (by omega)).1,h2 (by omega),(h1 (by omega)).2⟩
theorem VF:((pMof who).run es cs).2.2=cs:=by
 have h1:=YG es cs who
 unfold pMof
 rw [run_bind]
 generalize (pGet who).run es cs=A at *
 obtain ⟨⟨p,e⟩,N,cs1⟩:=A
 dsimp only at *
 subst h1
 by_cases he:e≠0
 ·rw [if_pos he];rfl
 ·rw [if_neg he,run_bind]
  have h2:=VI es cs1 who p
  generalize (pOwn who p).run es cs1=B at *
  obtain ⟨⟨o,e2⟩,N2,cs2⟩:=B
  dsimp only at *
  subst h2
  by_cases he2:e2≠0
  ·rw [if_pos he2];rfl
  ·rw [if_neg he2];rfl
set_option maxHeartbeats 1000000 in
theorem mofG_ok (hS:Sml es cs) (hw:who.size≤1000):Enters 74∧Spec prog 74 #[.pointer (some ⟨b,0,none⟩),.string who] [St ps es,Usg] [Vw b ps rs cs]
  ⟨(Option Addr×Nat)×(Option Addr×Nat),fun q=>.tuple #[((pMof who).run es cs).1.1.1.v q.1.1 q.1.2,((pMof who).run es cs).1.1.2.v q.2.1 q.2.2,.int .i64 ((pMof who).run es cs).1.2],fun _=>True,
   fun q=>[Sl 3 zf q.1.1 q.1.2 ((pMof who).run es cs).1.1.1.gs,Sl 3 zf q.2.1 q.2.2 ((pMof who).run es cs).1.1.2.gs],fun _=>[Vw b ps (rsOf es ((pMof who).run es cs).2.1 rs) ((pMof who).run es cs).2.2]⟩:=by
 have n1:=VO b ps es rs cs who hS hw
 have hck:=Xz es cs who
 have hcs:=YG es cs who
 unfold pMof
 rw [run_bind]
 generalize (pGet who).run es cs=A at *
 obtain ⟨⟨p,e⟩,N,cs1⟩:=A
 dsimp only at *
 subst hcs
 generalize b=bv at *
 by_cases he:e≠0
 ·simp only [if_pos he,VP.run,List.append_nil]
  obtain ⟨a1,a2,a3,a4,a5,gs,a7,a8,⟨a9,a9'⟩,a10⟩:=p
  simp only [Pr.v] at n1
  refine ZH [_,_] func74 ntmps74 fun G w hp=>?_
  refine Zk (ZY 3 zf) ?_
  repeat' (first|refine ZC ?_|refine ZB ?_|refine ZD ?_|refine ZS ?_|refine ZN (fun b=>?_)|refine ZA (n1) (fun _ _=>?_)|(refine ZF (fun hc=>?_) (fun hc=>?_)<;>(try simp at hc)<;>(try omega))|fail)
  exact ZG ((none,0),(none,0)) rfl trivial
 ·obtain rfl:e=0:=by omega
  simp only [if_neg he]
  rw [run_bind]
  obtain ⟨hpc,hv⟩:=hck rfl
  obtain ⟨z0,z1,z2⟩:=Z7 hpc
  have n2:=fun a c=>ownG_ok bv ps es (rsOf es N rs) cs1 who p a c hS (by omega)
  have hcs2:=VI es cs1 who p
  generalize (pOwn who p).run es cs1=B at *
  obtain ⟨⟨o,e2⟩,N2,cs2⟩:=B
  dsimp only at *
  subst hcs2
  obtain ⟨a1,a2,a3,a4,a5,gs,a7,a8,a9,a10⟩:=p
  obtain ⟨o1,o2,o3,o4,o5,os,o7,o8,o9,o10⟩:=o
  simp only [Pr.v] at n1 n2 ⊢
  by_cases he2:e2≠0
  ·simp only [if_pos he2,VP.run,List.append_nil,Zm]
   refine ZH [_,_] func74 ntmps74 fun G w hp=>?_
   refine Zk (ZY 3 zf) ?_
   repeat' (first|refine ZC ?_|refine ZB ?_|refine ZD ?_|refine ZP ?_|refine ZS ?_|refine ZN (fun b=>?_)|refine ZE ?_|refine ZA (n1) (fun _ _=>?_)|refine ZA (n2 _ _) (fun _ _=>?_)|(refine ZF (fun hc=>?_) (fun hc=>?_)<;>(try simp at hc)<;>(try omega))|fail)
   exact ZG ((none,0),(none,0)) rfl trivial
  ·obtain rfl:e2=0:=by omega
   simp only [if_neg he2,VP.run,List.append_nil,Zm]
   refine ZH [_,_] func74 ntmps74 fun G w hp=>?_
   repeat' (first|refine ZC ?_|refine ZB ?_|refine ZD ?_|refine ZP ?_|refine ZS ?_|refine ZN (fun b=>?_)|refine ZE ?_|refine Ze ?_|refine r_ldN ?_|refine r_st ?_|refine ZQ ?_|refine ZA (n1) (fun _ _=>?_)|refine ZA (n2 _ _) (fun _ _=>?_)|refine ZK 7 [Pt _ (.cells #[.int .i64 a1,_,_,_,_,_,_,_,_,_,_] _ _)] [(1,0),(0,3),(2,4)] [3,4] ?_|fail)
   rename_i q _ q2 _
   exact ZG (q,q2) rfl trivial
end
end
def alM (src:Nat→Pg) (i:Nat):Nat→Pg:=fun j=>if j<i then src j else .u
def pgL (n:Nat):List Int:=(List.range n).map fun j:Nat=>(j:Int)
section
variable (s:Sr) (ps:Option Addr) (es:Al) (cs:List Ch) (hsp:s.p.sp.size≤1000)
include hsp
end
def memS (es:Al) (cs:List Ch) (sp:ByteArray):Nat→ByteArray
 | 0=>⟨#[]⟩
 | i+1=>memS es cs sp i++⟨(padS (vget es cs (gnm sp (i:Int))).1).toArray⟩
theorem Xu (es:Al) (cs:List Ch) (sp:ByteArray):∀i,(memS es cs sp i).size=64 * i
 | 0=>rfl
 | i+1=>by
  rw [memS,ByteArray.size_append,Xu es cs sp i]
  show _+(List.toArray _).size=_
  rw [List.size_toArray,Yr];omega
def bat (M:Nat→Pg) (j:Nat):Option UInt8:=match M (j / 64) with
 | .h bs _=>bs[j % 64]?
 | _=>none
theorem setB_bat {M:Nat→Pg} {k j:Nat} {c:UInt8} (h:okP (M (k / 64))):bat (setB M k c) j=if j=k then some c else bat M j:=by
 unfold setB
 cases hm:M (k / 64) with
 | h bs d=>
  rw [hm] at h
  have hl:bs.length=64:=h
  unfold bat
  dsimp only
  by_cases hj:j / 64=k / 64
  ·rw [hj,Xk,hm]
   dsimp only
   rw [List.getElem?_set]
   by_cases hjk:j=k
   ·subst hjk;rw [if_pos rfl,if_pos (by omega),if_pos rfl]
   ·rw [if_neg (by omega),if_neg hjk]
  ·rw [Wu _ _ hj,if_neg (by intro e;subst e;exact hj rfl)]
 | _=>rw [hm] at h;cases h
theorem stM_bat:∀(l:List UInt8) {M:Nat→Pg} {k j:Nat},(∀i,k≤i→i<k+l.length→okP (M (i / 64)))→bat (stM M k l) j=if k≤j∧j<k+l.length then l[j - k]? else bat M j
 | [],M,k,j,_=>by rw [if_neg (by simp)];rfl
 | c::l,M,k,j,h=>by
  rw [stM,stM_bat l (M:=setB M k c) (k:=k+1) (fun i h1 h2=>setB_ok (h i (by omega) (by simp only [List.length_cons];omega)))]
  rw [setB_bat (h k (Nat.le_refl _) (by simp))]
  simp only [List.length_cons]
  by_cases h1:j=k
  ·subst h1
   rw [if_neg (by omega),if_pos rfl,if_pos (by omega)]
   simp
  ·rw [if_neg h1]
   by_cases h2:k+1≤j∧j<k+1+l.length
   ·rw [if_pos h2,if_pos (by omega),show j - k=(j - (k+1))+1 by omega];rfl
   ·rw [if_neg h2,if_neg (by omega)]
theorem setB_un {M:Nat→Pg} {k:Nat} {c:UInt8} (i:Nat):setB M k c i=M i∨(setB M k c i).chg=true:=by
 unfold setB
 cases hm:M (k / 64) with
 | h bs d=>
  dsimp only
  by_cases hi:i=k / 64
  ·subst hi;right;rw [Xk];rfl
  ·left;rw [Wu _ _ hi]
 | _=>left;rfl
theorem stM_un:∀(l:List UInt8) {M:Nat→Pg} {k:Nat} (i:Nat),(∀j,(M j).chg=false)→stM M k l i=M i∨(stM M k l i).chg=true
 | l,M,k,i,hM=>by
  have H:∀(l:List UInt8) {M:Nat→Pg} {k:Nat},stM M k l i=M i∨(stM M k l i).chg=true:=by
   intro l
   induction l with
   | nil=>intro M k;left;rfl
   | cons c l ih=>
    intro M k
    rw [stM]
    rcases ih (M:=setB M k c) (k:=k+1) with h|h
    ·rcases setB_un (M:=M) (k:=k) (c:=c) i with h2|h2
     ·left;rw [h,h2]
     ·right;rw [h,h2]
    ·right;exact h
  exact H l
theorem accM_all {src:Nat→Pg} {p0:Nat}:∀{J:Nat},(∀i,i<p0+J→isH (src i)=true)→accM src (fun _=>.u) p0 J=((fun j=>if p0≤j∧j<p0+J then src j else .u),true)
 | 0,_=>by
  rw [accM]
  congr 1
  funext j
  rw [if_neg (by omega)]
 | J+1,h=>by
  have ih:=accM_all (src:=src) (p0:=p0) (J:=J) (fun i hi=>h i (by omega))
  rw [accM_step (by rw [ih]),ih]
  have hn:ndM src (fun j=>if p0≤j∧j<p0+J then src j else .u) (p0+J)=fun j=>if p0≤j∧j<p0+(J+1) then src j else .u:=by
   unfold ndM
   dsimp only
   rw [if_neg (by omega)]
   funext j
   show up _ (p0+J) (src (p0+J)) j=_
   unfold up
   by_cases hj:j=p0+J
   ·subst hj;rw [if_pos rfl,if_pos (by omega)]
   ·rw [if_neg hj]
    dsimp only
    by_cases h2:p0≤j∧j<p0+J
    ·rw [if_pos h2,if_pos (by omega)]
    ·rw [if_neg h2,if_neg (by omega)]
  dsimp only
  rw [hn]
  congr 1
  dsimp only
  rw [if_pos (by omega)]
  exact h _ (by omega)
def nwM (src:Nat→Pg) (k:Nat) (tx:ByteArray):Nat→Pg:=stM (accR src (fun _=>.u) (k:Int) tx.size).1 k tx.data.toList
section
variable {src:Nat→Pg} {k pg:Nat} {tx:ByteArray} (hpg:pg≤64) (hk:k+tx.size≤64 * pg) (hs:∀i,i<pg→∃bs,src i = .h bs false∧bs.length=64)
include hpg hk hs
theorem Xg:(accR src (fun _=>.u) (k:Int) tx.size).2=0∧(∀j,(accR src (fun _=>.u) (k:Int) tx.size).1 j = .u∨(j<pg∧(accR src (fun _=>.u) (k:Int) tx.size).1 j=src j))∧(∀i,k≤i→i<k+tx.size→(accR src (fun _=>.u) (k:Int) tx.size).1 (i / 64)=src (i / 64)):=by
 unfold accR
 by_cases h0:tx.size=0
 ·rw [if_pos h0]
  exact ⟨rfl,fun j=>.inl rfl,fun i h1 h2=>by omega⟩
 ·rw [if_neg h0,if_neg (by omega),show ((k:Int)).toNat=k from rfl]
  have hp:∀i,i<k / 64+((k+tx.size - 1) / 64+1 - k / 64)→isH (src i)=true:=fun i hi=>by
   obtain ⟨bs,hb,_⟩:=hs i (by omega)
   rw [hb];rfl
  rw [accM_all hp]
  refine ⟨rfl,fun j=>?_,fun i h1 h2=>?_⟩
  ·dsimp only
   by_cases hj:k / 64≤j∧j<k / 64+((k+tx.size - 1) / 64+1 - k / 64)
   ·rw [if_pos hj];exact .inr ⟨by omega,rfl⟩
   ·rw [if_neg hj];exact .inl rfl
  ·dsimp only
   rw [if_pos (by omega)]
theorem nw_hall:∀j,isH ((accR src (fun _=>.u) (k:Int) tx.size).1 j)=true→okP ((accR src (fun _=>.u) (k:Int) tx.size).1 j):=fun j h=>by
 rcases (Xg hpg hk hs).2.1 j with e|⟨h1,e⟩
 ·rw [e] at h;cases h
 ·obtain ⟨bs,hb,hl⟩:=hs j h1
  rw [e,hb];exact hl
theorem nw_chg0:∀j,((accR src (fun _=>.u) (k:Int) tx.size).1 j).chg=false:=fun j=>by
 rcases (Xg hpg hk hs).2.1 j with e|⟨h1,e⟩
 ·rw [e];rfl
 ·obtain ⟨bs,hb,hl⟩:=hs j h1
  rw [e,hb];rfl
theorem nw_un (j:Nat):nwM src k tx j=(accR src (fun _=>.u) (k:Int) tx.size).1 j∨(nwM src k tx j).chg=true:=stM_un _ j (nw_chg0 hpg hk hs)
theorem nw_ok (j:Nat):nwM src k tx j = .u∨(j<pg∧okP (nwM src k tx j)):=by
 rcases (Xg hpg hk hs).2.1 j with e|⟨h1,e⟩
 ·left
  have H:∀(l:List UInt8) {M:Nat→Pg} {k:Nat},M j = .u→stM M k l j = .u:=by
   intro l
   induction l with
   | nil=>intro M k h;exact h
   | cons c l ih=>
    intro M k h
    rw [stM]
    refine ih ?_
    unfold setB
    cases hm:M (k / 64) with
    | h bs d=>
     dsimp only
     by_cases hi:j=k / 64
     ·subst hi;rw [h] at hm;cases hm
     ·rw [Wu _ _ hi];exact h
    | _=>exact h
  exact H _ e
 ·right
  refine ⟨h1,stM_ok _ ?_⟩
  obtain ⟨bs,hb,hl⟩:=hs j h1
  rw [e,hb];exact hl
theorem nw_bat (j:Nat):bat (nwM src k tx) j=if k≤j∧j<k+tx.size then tx.data.toList[j - k]? else bat (accR src (fun _=>.u) (k:Int) tx.size).1 j:=by
 have hsz:tx.data.toList.length=tx.size:=by simp
 unfold nwM
 rw [stM_bat _ (fun i h1 h2=>?_),hsz]
 rw [hsz] at h2
 rw [(Xg hpg hk hs).2.2 i h1 h2]
 obtain ⟨bs,hb,hl⟩:=hs (i / 64) (by omega)
 rw [hb];exact hl
end
theorem vput_ne {es:Al} {sp:ByteArray} {m:Nm}:∀{l:List Sc} {cs:List Ch},(∀i:Int,gnm sp i≠m)→vget es (cs++l.map (pgC sp)) m=vget es cs m
 | [],cs,_=>by simp
 | x::l,cs,h=>by
  rw [List.map_cons,show cs++pgC sp x::l.map (pgC sp)=(cs++[pgC sp x])++l.map (pgC sp) by simp,vput_ne h,Yd (h _)]
theorem VJ {es:Al} {cs:List Ch} {sp:ByteArray} (hv:lvalid sp.data.toList=true) (M:Nat→Pg):∀{n:Nat},n≤64→∀i:Nat,vget es (cs++(chLi M n).map (pgC sp)) (gnm sp (i:Int))=match chO M i with
  | some x=>if i<n then (x.val,true) else vget es cs (gnm sp (i:Int))
  | none=>vget es cs (gnm sp (i:Int))
 | 0,_,i=>by
  rw [show chLi M 0=[] from rfl,List.map_nil,List.append_nil]
  split
  ·rw [if_neg (by omega)]
  ·rfl
 | n+1,hn,i=>by
  rw [UU]
  have ih:=VJ (es:=es) (cs:=cs) hv M (n:=n) (by omega) i
  cases hc:chO M n with
  | none=>
   rw [Option.toList_none,List.append_nil,ih]
   split
   ·rename_i x hx
    by_cases hin:i=n
    ·subst hin;rw [hx] at hc;cases hc
    ·by_cases h2:i<n
     ·rw [if_pos h2,if_pos (by omega)]
     ·rw [if_neg h2,if_neg (by omega)]
   ·rfl
  | some y=>
   have hyp:y.pg=n:=by
    unfold chO at hc
    split at hc
    ·cases hc;rfl
    ·cases hc
   rw [Option.toList_some,List.map_append,List.map_cons,List.map_nil,←List.append_assoc]
   by_cases hin:i=n
   ·subst hin
    rw [Wo (by show gnm sp (y.pg:Int)=_;rw [hyp]) (Wb hv (by omega)),hc]
    dsimp only
    rw [if_pos (by omega)]
    rfl
   ·rw [Yd (by show gnm sp (y.pg:Int)≠_;rw [hyp];exact gnm_ne (.inr (by omega))),ih]
    split
    ·by_cases h2:i<n
     ·rw [if_pos h2,if_pos (by omega)]
     ·rw [if_neg h2,if_neg (by omega)]
    ·rfl
theorem UE (es:Al) (cs:List Ch) (sp:ByteArray):∀{n j:Nat},j<64 * n→(memS es cs sp n).data.toList[j]? = (padS (vget es cs (gnm sp ((j / 64:Nat):Int))).1)[j % 64]?
 | 0,j,h=>by omega
 | n+1,j,h=>by
  have hl:(memS es cs sp n).data.toList.length=64 * n:=by rw [←Xu es cs sp n];simp
  rw [memS,ByteArray.data_append,Array.toList_append]
  by_cases hj:j<64 * n
  ·rw [List.getElem?_append_left (by omega),UE es cs sp hj]
  ·rw [List.getElem?_append_right (by omega),hl]
   have e1:j / 64=n:=by omega
   have e2:j - 64 * n=j % 64:=by omega
   rw [e1,e2]
theorem VT {s:ByteArray} (h:s.size=64):padS s=s.data.toList:=by
 have hl:s.data.toList.length=64:=by rw [←h];simp
 unfold padS cpS
 rw [show z64.length=64 from rfl,List.take_of_length_le (by omega),List.drop_of_length_le (by rw [h];decide),List.append_nil]
theorem memS_store {es:Al} {cs:List Ch} {sp:ByteArray} {src:Nat→Pg} {k pg:Nat} {tx:ByteArray} (hv:lvalid sp.data.toList=true) (hpg:pg≤64) (hk:k+tx.size≤64 * pg) (hs:∀i,i<pg→src i = .h (padS (vget es cs (gnm sp (i:Int))).1) false) :
  (memS es (cs++(chLi (nwM src k tx) 64).map (pgC sp)) sp pg).data.toList=(memS es cs sp pg).data.toList.take k++tx.data.toList++(memS es cs sp pg).data.toList.drop (k+tx.size):=by
 have hs':∀i,i<pg→∃bs,src i = .h bs false∧bs.length=64:=fun i hi=>⟨_,hs i hi,Yr _⟩
 have hl1:(memS es cs sp pg).data.toList.length=64 * pg:=by rw [←Xu es cs sp pg];simp
 have hl2:(memS es (cs++(chLi (nwM src k tx) 64).map (pgC sp)) sp pg).data.toList.length=64 * pg:=by rw [←Xu es (cs++(chLi (nwM src k tx) 64).map (pgC sp)) sp pg];simp
 have hsz:tx.data.toList.length=tx.size:=by simp
 apply List.ext_getElem?
 intro j
 by_cases hj:j<64 * pg
 rotate_left
 ·rw [List.getElem?_eq_none (by omega),List.getElem?_eq_none (by simp only [List.length_append,List.length_take,List.length_drop];omega)]
 rw [UE _ _ _ hj,VJ hv _ (Nat.le_refl 64)]
 have hold:=UE es cs sp hj
 have hji:j / 64<pg:=by omega
 have hB:=nw_bat hpg hk hs' j
 have hR:((memS es cs sp pg).data.toList.take k++tx.data.toList++(memS es cs sp pg).data.toList.drop (k+tx.size))[j]? = if k≤j∧j<k+tx.size then tx.data.toList[j - k]? else (memS es cs sp pg).data.toList[j]?:=by
  have ht:((memS es cs sp pg).data.toList.take k).length=k:=by rw [List.length_take];omega
  by_cases h1:j<k
  ·rw [if_neg (by omega),List.append_assoc,List.getElem?_append_left (by omega),List.getElem?_take,if_pos h1]
  ·by_cases h2:j<k+tx.size
   ·rw [if_pos ⟨by omega,h2⟩,List.append_assoc,List.getElem?_append_right (by omega),ht,List.getElem?_append_left (by omega)]
   ·rw [if_neg (by omega),List.getElem?_append_right (by rw [List.length_append,ht];omega),List.length_append,ht,hsz,List.getElem?_drop]
    congr 1;omega
 rw [hR,hold]
 have hM1:=(Xg hpg hk hs').2
 rcases nw_un hpg hk hs' (j / 64) with e|e
 ·-- the page is as it was
  have hc0:chO (nwM src k tx) (j / 64)=none:=by
   have:=nw_chg0 hpg hk hs' (j / 64)
   rw [←e] at this
   unfold chO
   cases hm:nwM src k tx (j / 64) with
   | h bs c=>rw [hm] at this;obtain rfl:c=false:=this;rfl
   | _=>rfl
  rw [hc0]
  dsimp only
  by_cases hin:k≤j∧j<k+tx.size
  ·rw [if_pos hin]
   rw [if_pos hin] at hB
   rw [←hB]
   unfold bat
   rw [e,hM1.2 j hin.1 hin.2,hs _ hji]
  ·rw [if_neg hin]
 ·cases hm:nwM src k tx (j / 64) with
  | h bs c=>
   rw [hm] at e
   obtain rfl:c=true:=e
   have hc1:chO (nwM src k tx) (j / 64)=some ⟨j / 64,⟨bs.toArray⟩⟩:=by unfold chO;rw [hm]
   have hbl:bs.length=64:=by
    rcases nw_ok hpg hk hs' (j / 64) with h|⟨_,h⟩
    ·rw [hm] at h;cases h
    ·rw [hm] at h;exact h
   rw [hc1]
   dsimp only
   rw [if_pos (by omega),VT (by show (List.toArray bs).size=64;rw [List.size_toArray];exact hbl)]
   have hbj:bat (nwM src k tx) j=bs[j % 64]?:=by unfold bat;rw [hm]
   show bs[j % 64]? = _
   rw [←hbj,hB]
   by_cases hin:k≤j∧j<k+tx.size
   ·rw [if_pos hin,if_pos hin]
   ·rw [if_neg hin,if_neg hin]
    unfold bat
    rcases hM1.1 (j / 64) with h|⟨_,h⟩
    ·exfalso
     have:nwM src k tx (j / 64) = .u:=by
      rcases nw_ok hpg hk hs' (j / 64) with h3|⟨h3,h4⟩
      ·exact h3
      ·exfalso
       have H:∀(l:List UInt8) {M:Nat→Pg} {k:Nat},M (j / 64) = .u→stM M k l (j / 64) = .u:=by
        intro l
        induction l with
        | nil=>intro M k h;exact h
        | cons c l ih=>
         intro M k h
         rw [stM]
         refine ih ?_
         unfold setB
         cases hm:M (k / 64) with
         | h bs d=>
          dsimp only
          by_cases hi:j / 64=k / 64
          ·rw [←hi,h] at hm;cases hm
          ·rw [Wu _ _ hi];exact h
         | _=>exact h
       have h5:nwM src k tx (j / 64) = .u:=H _ h
       rw [h5] at h4;cases h4
     rw [hm] at this;cases this
    ·rw [h,hs _ hji]
  | _=>rw [hm] at e;cases e
def srcP (es:Al) (cs:List Ch) (sp:ByteArray) (pg:Int) (i:Nat):Pg:=if (i:Int)<pg then .h (padS (vget es cs (gnm sp (i:Int))).1) false else .n
def putS (es:Al) (cs:List Ch) (sp:ByteArray) (pg:Nat) (k:Nat) (tx:ByteArray):List Ch:=cs++(chLi (nwM (srcP es cs sp (pg:Int)) k tx) 64).map (pgC sp)
theorem Xo {es:Al} {cs:List Ch} {sp:ByteArray} {pg i:Nat} (h:i<pg):srcP es cs sp (pg:Int) i = .h (padS (vget es cs (gnm sp (i:Int))).1) false:=by
 unfold srcP;rw [if_pos (by omega)]
section
variable {es:Al} {cs:List Ch} {sp:ByteArray} {pg k:Nat} {tx:ByteArray}
theorem putS_ne {m:Nm} (h:∀i:Int,gnm sp i≠m):vget es (putS es cs sp pg k tx) m=vget es cs m:=vput_ne h
theorem putS_len:(putS es cs sp pg k tx).length≤cs.length+64:=by
 unfold putS
 have:=chLi_len (nwM (srcP es cs sp (pg:Int)) k tx) 64
 rw [List.length_append,List.length_map];omega
theorem putS_mem (hv:lvalid sp.data.toList=true) (hpg:pg≤64) (hk:k+tx.size≤64 * pg) :
  (memS es (putS es cs sp pg k tx) sp pg).data.toList=(memS es cs sp pg).data.toList.take k++tx.data.toList++(memS es cs sp pg).data.toList.drop (k+tx.size):=
 memS_store hv hpg hk fun _ hi=>Xo hi
theorem putS_pg (hv:lvalid sp.data.toList=true) (hpg:pg≤64) (hk:k+tx.size≤64 * pg) (i:Nat):(∃s:ByteArray,s.size=64∧vget es (putS es cs sp pg k tx) (gnm sp (i:Int))=(s,true))∨vget es (putS es cs sp pg k tx) (gnm sp (i:Int))=vget es cs (gnm sp (i:Int)):=by
 unfold putS
 rw [VJ hv _ (Nat.le_refl 64)]
 cases hc:chO (nwM (srcP es cs sp (pg:Int)) k tx) i with
 | none=>right;rfl
 | some x=>
  dsimp only
  by_cases hi:i<64
  ·left
   rw [if_pos hi]
   refine ⟨x.val,?_,rfl⟩
   unfold chO at hc
   split at hc
   ·rename_i bs hm
    cases hc
    show (List.toArray bs).size=64
    rw [List.size_toArray]
    rcases nw_ok hpg hk (fun i hi=>⟨_,Xo (es:=es) (cs:=cs) (sp:=sp) hi,Yr _⟩) i with h|⟨_,h⟩
    ·rw [hm] at h;cases h
    ·rw [hm] at h;exact h
   ·cases hc
  ·right;rw [if_neg hi]
end
section
variable (s:Sr) (ps:Option Addr) (es:Al) (cs:List Ch) (hsp:s.p.sp.size≤1000) (pg:Nat) (hpg:s.o.pg=(pg:Int)) (hp64:pg≤64) (k:Nat) (tx:ByteArray) (hk:k+tx.size≤64 * pg)
include hpg hp64 hk
omit hp64 hk in
theorem srP_src:srP es cs s=srcP es cs s.p.sp (pg:Int):=by
 funext i
 unfold srP srcP
 rw [hpg]
include hsp in
theorem storeN_ok (bk:Nat) (q0:(Nat→Bool)×(Nat→Nat)×List (Nm×Ch)) (z:Int) (hz:z=(k:Int)) :
  Enters 25∧Spec prog 25 #[.pointer (some ⟨bk,0,none⟩),.int .i64 z,.string tx] (s.fs ps es) (MmL s bk ps cs (fun _=>.u) q0)
  ⟨(Nat→Bool)×(Nat→Nat)×List (Nm×Ch),fun _=>.int .i64 0,fun q=>RdX es cs s.p.sp (fun _=>.u) (accR (srcP es cs s.p.sp (pg:Int)) (fun _=>.u) (k:Int) tx.size).1 isH q0.2.2 q.2.2,fun _=>[],fun q=>MmL s bk ps cs (nwM (srcP es cs s.p.sp (pg:Int)) k tx) q⟩:=by
 subst hz
 have hs:∀i,i<pg→∃bs,srcP es cs s.p.sp (pg:Int) i = .h bs false∧bs.length=64:=fun i hi=>⟨_,Xo hi,Yr _⟩
 have hR:=srP_src (es:=es) (cs:=cs) s pg hpg
 have n1:=UX s ps es cs hsp bk (fun _=>.u) q0 (k:Int) tx (by omega) (by rw [hR];exact nw_hall hp64 hk hs)
 rw [hR,(Xg hp64 hk hs).1] at n1
 simp only [if_true] at n1
 exact n1
end
def spl (w:ByteArray) (k:Nat) (tx:ByteArray):ByteArray:=w.extract 0 k++tx++w.extract (k+tx.size) w.size
theorem spl_list (w:ByteArray) (k:Nat) (tx:ByteArray):(spl w k tx).data.toList=w.data.toList.take k++tx.data.toList++w.data.toList.drop (k+tx.size):=by
 have hl:w.data.toList.length=w.size:=by simp
 unfold spl
 simp only [ByteArray.data_append,Array.toList_append,ByteArray.data_extract,Array.toList_extract,List.extract_eq_drop_take',List.drop_zero]
 congr 2
 rw [List.take_of_length_le (by omega)]
theorem putS_spl {es:Al} {cs:List Ch} {sp:ByteArray} {pg k:Nat} {tx:ByteArray} (hv:lvalid sp.data.toList=true) (hpg:pg≤64) (hk:k+tx.size≤64 * pg):memS es (putS es cs sp pg k tx) sp pg=spl (memS es cs sp pg) k tx:=
 XT (by rw [putS_mem hv hpg hk,spl_list _ _ _])
section
open VP
theorem memGe_ok (b:Nat) (ps:Option Addr) (es:Al) (rs:List (Nm×Ch)) (cs:List Ch) (who:ByteArray) (hS:Sml es cs) (hw:who.size≤1000) (he:((pMof who).run es cs).1.2≠0) :
  Enters 24∧Spec prog 24 #[.pointer (some ⟨b,0,none⟩),.string who] [St ps es,Usg] [Vw b ps rs cs]
  ⟨Unit,fun _=>.tuple #[.pointer none,.int .i64 ((pMof who).run es cs).1.2],fun _=>True,fun _=>[],fun _=>[Vw b ps (rsOf es ((pMof who).run es cs).2.1 rs) cs]⟩:=by
 have n1:=mofG_ok b ps es rs cs who hS hw
 have hcs:=VF es cs who
 generalize (pMof who).run es cs=A at *
 obtain ⟨⟨⟨p,o⟩,e⟩,N,cs1⟩:=A
 dsimp only at *
 subst hcs
 generalize b=bv at *
 obtain ⟨a1,a2,a3,a4,a5,gs,a7,a8,⟨a9,a9'⟩,a10⟩:=p
 obtain ⟨o1,o2,o3,o4,o5,os,o7,o8,⟨o9,o9'⟩,o10⟩:=o
 simp only [Pr.v] at n1
 refine ZH [_,_] func24 ntmps24 fun G w hp=>?_
 repeat' (first|refine ZC ?_|refine ZB ?_|refine ZD ?_|refine ZP ?_|refine ZS ?_|refine ZN (fun b=>?_)|refine ZA (n1) (fun _ _=>?_)|(refine ZF (fun hc=>?_) (fun hc=>?_)<;>(try simp at hc)<;>(try omega))|fail)
 exact ZG () rfl trivial
theorem memGs_ok (b:Nat) (ps:Option Addr) (es:Al) (rs:List (Nm×Ch)) (cs:List Ch) (who:ByteArray) (p o:Pr) (N:List Nm) (hS:Sml es cs) (hw:who.size≤1000) (h:(pMof who).run es cs=(((p,o),0),N,cs)) :
  Enters 24∧Spec prog 24 #[.pointer (some ⟨b,0,none⟩),.string who] [St ps es,Usg] [Vw b ps rs cs]
  ⟨Mb,fun x=>.tuple #[.pointer (some ⟨x.bk,0,none⟩),.int .i64 0],fun x=>x.q.2.2=rsOf es N rs,fun x=>(x.s b p o).fs ps es,fun x=>MmL (x.s b p o) x.bk ps cs (fun _=>.u) x.q⟩:=by
 have n1:=mofG_ok b ps es rs cs who hS hw
 rw [h] at n1
 dsimp only at n1
 generalize rsOf es N rs=rs3 at *
 generalize b=bv at *
 clear h
 obtain ⟨a1,a2,a3,a4,a5,gs,a7,a8,⟨a9,a9'⟩,a10⟩:=p
 obtain ⟨o1,o2,o3,o4,o5,os,o7,o8,⟨o9,o9'⟩,o10⟩:=o
 simp only [Pr.v] at n1
 have n2:=spNew_ok
 refine ZH [_,_] func24 ntmps24 fun G w hp=>?_
 repeat' (first|refine ZC ?_|refine ZB ?_|refine ZD ?_|refine ZP ?_|refine ZS ?_|refine ZN (fun b=>?_)|refine ZE ?_|refine ZA (n1) (fun _ _=>?_)|refine ZA (n2 _ _ _) (fun _ _=>?_)|fail)
 rename_i bx q _ bp nq _
 refine k_fz (b:=b) ?_
 refine k_fz (b:=bp) ?_
 refine k_fz (b:=bx) ?_
 exact ZG ⟨nq.2,b,bx,bp,q.1.1,q.1.2,q.2.1,q.2.2,nq.1,(fun _=>false),(fun _=>0),rs3⟩ rfl rfl
set_option maxHeartbeats 4000000 in
theorem pstoreG_ok (s:Sr) (ps:Option Addr) (es:Al) (cs:List Ch) (who:ByteArray) (p o:Pr) (N:List Nm) (hS:Sml es cs) (hw:who.size≤1000) (h:(pMof who).run es cs=(((p,o),0),N,cs)) (hv:lvalid p.sp.data.toList=true) (bk:Nat) (M:Nat→Pg) (q0:(Nat→Bool)×(Nat→Nat)×List (Nm×Ch))
  (hall:∀i,i<64→isH (M i)=true→okP (M i)) (hch:∀i,i<64→(M i).chg=true→(i:Int)<o.pg) (hl:cs.length≤900000) :
  Enters 26∧Spec prog 26 #[.pointer (some ⟨s.vb,0,none⟩),.string who,.pointer (some ⟨bk,0,none⟩)] [St ps es,Usg] (MmL s bk ps cs M q0)
  ⟨List (Nm×Ch),fun _=>.int .i64 0,fun r=>r=rsOf es N q0.2.2,fun _=>[],fun r=>[Vw s.vb ps r (cs++(chLi M 64).map (pgC p.sp))]⟩:=by
 obtain ⟨ak,bl,rs⟩:=q0
 have n1:=mofG_ok s.vb ps es rs cs who hS hw
 have hck:=pMof_chk es cs who
 rw [h] at n1 hck
 have hpc:=(hck rfl).1
 have n2:=WN s.vb ps (rsOf es N rs) cs
 have n3:=changes_ok bk s.fv M ak bl hall
 have hsp:=(Z7 hpc).2.1
 have hmem:=fun x=>chLi_mem (M:=M) (n:=64) (x:=x)
 have hpgl:∀x ∈ chLi M 64,(x.pg:Int)<o.pg:=fun x hx=>by
  obtain ⟨h1,bs,h2,_⟩:=hmem x hx
  exact hch _ h1 (by rw [h2];rfl)
 have hvl:∀x ∈ chLi M 64,x.val.size=64:=fun x hx=>by
  obtain ⟨h1,bs,h2,h3⟩:=hmem x hx
  have:=hall x.pg h1 (by rw [h2];rfl)
  rw [h2] at this
  rw [h3];show (List.toArray bs).size=64;rw [List.size_toArray];exact this
 have hp64:∀x ∈ chLi M 64,x.pg<64:=fun x hx=>(hmem x hx).1
 have hlen:=chLi_len M 64
 dsimp only [MmL]
 generalize spcL s.fv M ak bl=L0 at *
 generalize hL:chLi M 64=L at *
 generalize rsOf es N rs=rs3 at *
 generalize s.vb=bv at *
 clear h hck hpc hmem hall hch
 obtain ⟨a1,a2,a3,a4,a5,gs,a7,a8,⟨a9,a9'⟩,a10⟩:=p
 obtain ⟨o1,o2,o3,o4,o5,os,o7,o8,⟨o9,o9'⟩,o10⟩:=o
 simp only [Pr.v] at n1
 dsimp only at *
 refine ZH [_,_,_] func26 ntmps26 fun G w hp=>?_
 repeat' (first|refine ZC ?_|refine ZB ?_|refine ZU ?_|refine ZD ?_|refine ZS ?_|refine ZN (fun b=>?_)|refine ZE ?_|refine ZA (n1) (fun _ _=>?_)|refine ZA (n2) (fun _ _=>?_)|refine ZA (n3) (fun _ _=>?_)|fail)
 rename_i q _ b7 _ _ lst _
 obtain ⟨⟨qa,qc⟩,qa',qc'⟩:=q
 obtain ⟨lo,lc⟩:=lst
 dsimp only
 refine k_frz (T:=153) (f:=scf) L ?_ rfl rfl
 refine YH (X:={i:Nat // i≤L.length}) (fun i=>[(0,.pointer (some ⟨bv,0,none⟩)),(7,.pointer (some ⟨b7,0,none⟩)),(8,.pointer (some ⟨b,0,none⟩)),(10,.int .i64 (cs.length:Int)),(33,.slice lo L.length lc),(34,.int .i64 (L.length:Int)),(35,.int .i64 (i.1:Int))]) (fun _=>[Sl 153 scf lo lc L,Usg])
  (fun i=>[Vw bv ps rs3 (cs++(L.take i.1).map (pgC a7)),Pt b7 (.cells #[.int .i64 a1,.int .i64 a2,.int .i64 a3,.int .i64 a4,.int .i64 a5,.slice qa gs.length qc,.string a7,.int .i64 a8,.string a9,.int .i64 a9',.int .i64 a10] 44),Pt b (.cells #[.int .i64 o1,.int .i64 o2,.int .i64 o3,.int .i64 o4,.int .i64 o5,.slice qa' os.length qc',.string o7,.int .i64 o8,.string o9,.int .i64 o9',.int .i64 o10] 44)]) (fun i=>L.length - i.1)
  ⟨0,Nat.zero_le _⟩ ⟨rfl,rfl,rfl,rfl,rfl,rfl,rfl,trivial⟩ ?_ (hr:=by rw [List.take_zero,List.map_nil,List.append_nil];(repeat (first|exact Sels.nil|exact Sel.here|apply Sel.there|apply Sels.cons)))
 rintro ⟨i,hi⟩
 dsimp only
 by_cases hlt:i<L.length
 ·obtain ⟨x,hx⟩:∃x,L[i]? = some x:=⟨_,List.getElem?_eq_getElem hlt⟩
  have hxm:=List.mem_of_getElem? hx
  have g1:=hpgl x hxm
  have g2:=hvl x hxm
  have g3:=hp64 x hxm
  have htk:(L.take (i+1)).map (pgC a7)=(L.take i).map (pgC a7)++[pgC a7 x]:=by rw [List.take_add_one,hx];simp
  have hlen2:(cs++(L.take i).map (pgC a7)).length≤1000000:=by simp;omega
  have hcat:cs++(L.take (i+1)).map (pgC a7)=(cs++(L.take i).map (pgC a7))++[⟨gnm a7 (x.pg:Int),x.val,false⟩]:=by rw [htk,List.append_assoc];rfl
  generalize cs++(L.take i).map (pgC a7)=cs2 at *
  have m1:=Xb a7 (x.pg:Int)
  have m2:=Xw bv ps rs3 cs2 (gnm a7 (x.pg:Int)) x.val (by show a7.size≤_;omega) (Nat.zero_le _) hlen2
  have e2:vset cs2 (gnm a7 (x.pg:Int)) x.val=(0,cs2++[⟨gnm a7 (x.pg:Int),x.val,false⟩]):=by
   unfold vset
   rw [if_neg (by rw [Wb hv (by omega)];simp),if_neg (by omega)]
  rw [e2] at m2
  have wi:IntKind.i64.wrap ((i:Int)+1)=((i+1:Nat):Int):=by rw [wrapi (by omega) (by omega)];omega
  obtain ⟨xp,xv⟩:=x
  dsimp only at *
  repeat' (first|refine ZC ?_|refine ZB ?_|refine ZU ?_|refine ZD ?_|refine ZP ?_|refine ZS ?_|refine ZN (fun b=>?_)|refine ZE ?_|refine ZO ?_|refine Ze ?_|refine ZQ ?_|refine ZR (m1) (fun _ _=>?_)|refine ZR (m2) (fun _ _=>?_)|refine XL (es:=L) (f:=scf) i ⟨xp,xv⟩ hx (fun b off=>?_)|refine YQ ?_|rw [wi]|refine ZK 11 [Vw _ _ _ _] [(0,0),(1,0),(2,0),(3,0),(4,0),(6,0),(7,0),(5,4),(8,4),(9,0)] [] ?_|(refine ZF (fun hc=>?_) (fun hc=>?_)<;>(try simp at hc)<;>(try omega))|fail)
  exact ZW ⟨i+1,by omega⟩ (by show L.length - (i+1)<L.length - i;omega) ⟨rfl,rfl,rfl,rfl,rfl,rfl,rfl,trivial⟩ (hr:=by dsimp only;rw [hcat];(repeat (first|exact Sels.nil|exact Sel.here|apply Sel.there|apply Sels.cons)))
 ·obtain rfl:i=L.length:=by omega
  rw [List.take_length]
  repeat' (first|refine ZC ?_|refine ZB ?_|refine ZD ?_|refine Zn ?_|(refine ZF (fun hc=>?_) (fun hc=>?_)<;>(try simp at hc)<;>(try omega))|fail)
  exact ZG rs3 rfl rfl
theorem accM_src {src:Nat→Pg} {p0:Nat}:∀(J j:Nat),(accM src (fun _=>.u) p0 J).1 j = .u∨(accM src (fun _=>.u) p0 J).1 j=src j
 | 0,j=>.inl rfl
 | J+1,j=>by
  have ih:=accM_src (src:=src) (p0:=p0) J
  unfold accM
  dsimp only
  split
  ·dsimp only
   unfold ndM
   cases hm:(accM src (fun _=>.u) p0 J).1 (p0+J) with
   | u=>
    show up _ (p0+J) (src (p0+J)) j = .u∨up _ (p0+J) (src (p0+J)) j=src j
    by_cases hj:j=p0+J
    ·subst hj;rw [Xk];exact .inr rfl
    ·rw [Wu _ _ hj];exact ih j
   | n=>exact ih j
   | h bs c=>exact ih j
  ·exact ih j
theorem accR_src {src:Nat→Pg} {z:Int} {n:Nat} (j:Nat):(accR src (fun _=>.u) z n).1 j = .u∨(accR src (fun _=>.u) z n).1 j=src j:=by
 unfold accR
 split
 ·exact .inl rfl
 ·split
  ·exact .inl rfl
  ·exact accM_src _ _
section
variable (s:Sr) (ps:Option Addr) (es:Al) (cs:List Ch) (hsp:s.p.sp.size≤1000) (pg:Nat) (hpg:s.o.pg=(pg:Int)) (z:Int) (tx:ByteArray)
theorem accR_bad (hn:tx.size≠0) (hk:¬(0≤z∧z+tx.size≤64 * pg)) (_hp64:pg≤64) (sp:ByteArray):(accR (srcP es cs sp (pg:Int)) (fun _=>.u) z tx.size).2=23:=by
 unfold accR
 rw [if_neg hn]
 by_cases h2:z<0∨4096≤z∨4096 - z<tx.size
 ·rw [if_pos h2]
 ·rw [if_neg h2]
  cases hb:(accM (srcP es cs sp (pg:Int)) (fun _=>.u) (z.toNat / 64) ((z.toNat+tx.size - 1) / 64+1 - z.toNat / 64)).2 with
  | false=>simp
  | true=>
   exfalso
   have h3:=accM_h hb ((z.toNat+tx.size - 1) / 64 - z.toNat / 64) (by omega)
   rw [show z.toNat / 64+((z.toNat+tx.size - 1) / 64 - z.toNat / 64)=(z.toNat+tx.size - 1) / 64 by omega] at h3
   rcases accM_src (src:=srcP es cs sp (pg:Int)) (p0:=z.toNat / 64) ((z.toNat+tx.size - 1) / 64+1 - z.toNat / 64) ((z.toNat+tx.size - 1) / 64) with e|e
   ·rw [e] at h3;cases h3
   ·rw [e] at h3
    unfold srcP at h3
    rw [if_neg (by omega)] at h3
    cases h3
include hsp hpg in
theorem storeBad_ok (hn:tx.size≠0) (htx:tx.size≤1099511627776) (hk:¬(0≤z∧z+tx.size≤64 * pg)) (hp64:pg≤64) (bk:Nat) (q0:(Nat→Bool)×(Nat→Nat)×List (Nm×Ch)) :
  Enters 25∧Spec prog 25 #[.pointer (some ⟨bk,0,none⟩),.int .i64 z,.string tx] (s.fs ps es) (MmL s bk ps cs (fun _=>.u) q0)
  ⟨(Nat→Bool)×(Nat→Nat)×List (Nm×Ch),fun _=>.int .i64 23,fun q=>RdX es cs s.p.sp (fun _=>.u) (accR (srcP es cs s.p.sp (pg:Int)) (fun _=>.u) z tx.size).1 isH q0.2.2 q.2.2,fun _=>[],fun q=>MmL s bk ps cs (accR (srcP es cs s.p.sp (pg:Int)) (fun _=>.u) z tx.size).1 q⟩:=by
 have hR:=srP_src (es:=es) (cs:=cs) s pg hpg
 have hall:∀j,isH ((accR (srP es cs s) (fun _=>.u) z tx.size).1 j)=true→okP ((accR (srP es cs s) (fun _=>.u) z tx.size).1 j):=fun j hj=>by
  rcases accR_src (src:=srP es cs s) (z:=z) (n:=tx.size) j with e|e
  ·rw [e] at hj;cases hj
  ·rw [e] at hj ⊢
   unfold srP at hj ⊢
   split
   ·exact Yr _
   ·rename_i h0;rw [if_neg h0] at hj;cases hj
 have n1:=UX s ps es cs hsp bk (fun _=>.u) q0 z tx htx hall
 rw [hR,accR_bad es cs pg z tx hn hk hp64] at n1
 simp only [show ¬(23:Int)=0 by decide,if_false] at n1
 exact n1
end
theorem pstoreNG_ok (s:Sr) (ps:Option Addr) (es:Al) (cs:List Ch) (pg:Nat) (hp64:pg≤64) (k:Nat) (tx:ByteArray) (hk:k+tx.size≤64 * pg) (who:ByteArray) (p o:Pr) (N:List Nm) (hS:Sml es cs) (hw:who.size≤1000) (h:(pMof who).run es cs=(((p,o),0),N,cs)) (hop:o.pg=(pg:Int)) (hsps:s.p.sp=p.sp) (hv:lvalid p.sp.data.toList=true) (bk:Nat) (q0:(Nat→Bool)×(Nat→Nat)×List (Nm×Ch)) (hl:cs.length≤900000) :
  Enters 26∧Spec prog 26 #[.pointer (some ⟨s.vb,0,none⟩),.string who,.pointer (some ⟨bk,0,none⟩)] [St ps es,Usg] (MmL s bk ps cs (nwM (srcP es cs s.p.sp (pg:Int)) k tx) q0)
  ⟨List (Nm×Ch),fun _=>.int .i64 0,fun r=>r=rsOf es N q0.2.2,fun _=>[],fun r=>[Vw s.vb ps r (putS es cs p.sp pg k tx)]⟩:=by
 have hs:∀i,i<pg→∃bs,srcP es cs s.p.sp (pg:Int) i = .h bs false∧bs.length=64:=fun i hi=>⟨_,Xo hi,Yr _⟩
 have hok:=nw_ok hp64 hk hs
 have n1:=pstoreG_ok s ps es cs who p o N hS hw h hv bk (nwM (srcP es cs s.p.sp (pg:Int)) k tx) q0 (fun i _ hi=>by
  rcases hok i with e|⟨_,e⟩
  ·rw [e] at hi;cases hi
  ·exact e) (fun i _ hi=>by
  rcases hok i with e|⟨e,_⟩
  ·rw [e] at hi;cases hi
  ·rw [hop];omega) hl
 unfold putS
 rw [←hsps] at n1 ⊢
 exact n1
end
end Go.Proofs.YtgfohjbcccfolaaGreatDoor
set_option maxRecDepth 10000
namespace Go.Proofs
open Go.Shelf
def Tryz.lays105_ren:Go.Shelf.Ren:=⟨fun|105=>86|212=>135|99=>136|165=>137|166=>138|170=>139|169=>140|263=>164|264=>165|206=>166|240=>167|241=>168|276=>200|277=>201|n=>n,fun|9=>9|3=>3|4=>4|20=>20|0=>0|46=>174|109=>218|5=>5|72=>223|76=>226|51=>55|146=>257|53=>202|148=>259|70=>221|37=>22|75=>225|127=>261|164=>294|80=>71|n=>n,fun|n=>n⟩
theorem Tryz.lays105:Go.Proofs.Lays.n105 Tryz.prog Tryz.lays105_ren:={
 mixed:=by kernel_rfl
 f99:=Tryz.func136.trans (congrArg some (by kernel_rfl))
 f105:=Tryz.func86.trans (congrArg some (by kernel_rfl))
 f165:=Tryz.func137.trans (congrArg some (by kernel_rfl))
 f166:=Tryz.func138.trans (congrArg some (by kernel_rfl))
 f169:=Tryz.func140.trans (congrArg some (by kernel_rfl))
 f170:=Tryz.func139.trans (congrArg some (by kernel_rfl))
 f206:=Tryz.func166.trans (congrArg some (by kernel_rfl))
 f212:=Tryz.func135.trans (congrArg some (by kernel_rfl))
 f240:=Tryz.func167.trans (congrArg some (by kernel_rfl))
 f241:=Tryz.func168.trans (congrArg some (by kernel_rfl))
 f263:=Tryz.func164.trans (congrArg some (by kernel_rfl))
 f264:=Tryz.func165.trans (congrArg some (by kernel_rfl))
 f276:=Tryz.func200.trans (congrArg some (by kernel_rfl))
 f277:=Tryz.func201.trans (congrArg some (by kernel_rfl))
 t0:=Tryz.underlying0
 a0:=Tryz.isAgg0
 z0:=Tryz.sizeOf0
 v0:=Tryz.zeroValue0
 t3:=Tryz.underlying3
 a3:=Tryz.isAgg3
 z3:=Tryz.sizeOf3
 v3:=Tryz.zeroValue3
 t4:=Tryz.underlying4
 a4:=Tryz.isAgg4
 z4:=Tryz.sizeOf4
 v4:=Tryz.zeroValue4
 t5:=Tryz.underlying5
 a5:=Tryz.isAgg5
 z5:=Tryz.sizeOf5
 v5:=Tryz.zeroValue5
 t9:=Tryz.underlying9
 a9:=Tryz.isAgg9
 z9:=Tryz.sizeOf9
 v9:=Tryz.zeroValue9
 t20:=Tryz.underlying20
 a20:=Tryz.isAgg20
 z20:=Tryz.sizeOf20
 v20:=Tryz.zeroValue20
 t37:=Tryz.underlying22
 a37:=Tryz.isAgg22
 z37:=Tryz.sizeOf22
 v37:=Tryz.zeroValue22
 t46:=Tryz.underlying174
 a46:=Tryz.isAgg174
 z46:=Tryz.sizeOf174
 v46:=Tryz.zeroValue174
 t51:=Tryz.underlying55
 a51:=Tryz.isAgg55
 z51:=Tryz.sizeOf55
 v51:=Tryz.zeroValue55
 t53:=Tryz.underlying202
 a53:=Tryz.isAgg202
 z53:=Tryz.sizeOf202
 v53:=Tryz.zeroValue202
 t70:=Tryz.underlying221
 a70:=Tryz.isAgg221
 z70:=Tryz.sizeOf221
 v70:=Tryz.zeroValue221
 t72:=Tryz.underlying223
 a72:=Tryz.isAgg223
 z72:=Tryz.sizeOf223
 v72:=Tryz.zeroValue223
 t75:=Tryz.underlying225
 a75:=Tryz.isAgg225
 z75:=Tryz.sizeOf225
 v75:=Tryz.zeroValue225
 t76:=Tryz.underlying226
 a76:=Tryz.isAgg226
 z76:=Tryz.sizeOf226
 v76:=Tryz.zeroValue226
 t109:=Tryz.underlying218
 a109:=Tryz.isAgg218
 z109:=Tryz.sizeOf218
 v109:=Tryz.zeroValue218
 t127:=Tryz.underlying261
 a127:=Tryz.isAgg261
 z127:=Tryz.sizeOf261
 v127:=Tryz.zeroValue261
 t146:=Tryz.underlying257
 a146:=Tryz.isAgg257
 z146:=Tryz.sizeOf257
 v146:=Tryz.zeroValue257
 t148:=Tryz.underlying259
 a148:=Tryz.isAgg259
 z148:=Tryz.sizeOf259
 v148:=Tryz.zeroValue259
 t164:=Tryz.underlying294
 a164:=Tryz.isAgg294
 z164:=Tryz.sizeOf294
 v164:=Tryz.zeroValue294}
theorem Tryz.bx105:Builder.Extra Tryz.prog Tryz.lays105_ren:={
 sizeBuilder:=by kernel_rfl
 liesBuilder:=by kernel_rfl
 t5:=Tryz.underlying5
 a5:=Tryz.isAgg5
 z5:=Tryz.sizeOf5
 v5:=Tryz.zeroValue5
 infoByte:=by kernel_rfl
 cellsByte:=by kernel_rfl
 sizeByte:=by kernel_rfl
 neB5:=by decide}
end Go.Proofs
namespace Go.Proofs.YtgfohjbcccfolaaGreatDoor
open Go.Proofs.Tryz
open Go.RowKit
theorem repeat_ok (s:ByteArray) (c:Nat) (h1:2≤c) (h2:c≤1000) (h3:s.size≤1000) (h4:0<s.size):Enters 86∧Spec prog 86 #[.string s,.int .i64 (c:Int)] [] [] (RetV (.string ⟨(Lib.repeatL s.data.toList c).toArray⟩)):=by
 refine ⟨enters_of func86 (by kernel_rfl) rfl,fun G w hp hs=>?_⟩
 refine (Any.strings_Repeat_main Tryz.lays105 Tryz.bx105 s c w h1 (by omega) (Nat.le_trans (Nat.mul_le_mul h3 h2) (by decide)) h4).mono ?_
 rintro e w' ⟨rfl,hx⟩
 exact ⟨(),rfl,trivial,hs.ext hx⟩
def Xm:ByteArray:=⟨z64.toArray⟩
theorem repeat64_ok:Enters 86∧Spec prog 86 #[.string ⟨#[0]⟩,.int .i64 64] [] [] (RetV (.string Xm)):=by
 have h:=repeat_ok ⟨#[0]⟩ 64 (by decide) (by decide) (by decide) (by decide)
 rw [show (⟨(Lib.repeatL (⟨#[0]⟩:ByteArray).data.toList 64).toArray⟩:ByteArray)=Xm by decide +kernel] at h
 exact h
end Go.Proofs.YtgfohjbcccfolaaGreatDoor
namespace Go.Proofs.YtgfohjbcccfolaaGreatDoor
open Go.RowKit Go.Proofs.Tryz
abbrev sf1:ByteArray→List Value:=fun s=>[Value.string s]
def grP (o:Pr):Pr:={o with pg:=o.pg+1}
section
open VP
def zerB (c:Nat):ByteArray:=⟨(List.replicate c (0:UInt8)).toArray⟩
theorem Uf (c:Nat):(zerB c).size=c:=by show (List.toArray _).size=c;simp
theorem V0:∀c,Lib.repeatL [0] c=List.replicate c (0:UInt8)
 | 0=>rfl
 | c+1=>by rw [Lib.repeatL,V0 c];rfl
theorem repeatZ_ok (c:Nat) (hc:c≤100000):Enters 86∧Spec prog 86 #[.string ⟨#[0]⟩,.int .i64 (c:Int)] [] [] (RetV (.string (zerB c))):=by
 by_cases h1:2≤c
 ·have h:Enters 86∧Spec prog 86 #[.string ⟨#[0]⟩,.int .i64 (c:Int)] [] [] (RetV (.string ⟨(Lib.repeatL (⟨#[0]⟩:ByteArray).data.toList c).toArray⟩)):=by
   refine ⟨enters_of func86 (by kernel_rfl) rfl,fun G w hp hs=>?_⟩
   refine (Any.strings_Repeat_main Tryz.lays105 Tryz.bx105 ⟨#[0]⟩ c w h1 (by omega) (Nat.le_trans (Nat.mul_le_mul (show (⟨#[0]⟩:ByteArray).size≤1 by decide) hc) (by decide)) (by decide)).mono ?_
   rintro e w' ⟨rfl,hx⟩
   exact ⟨(),rfl,trivial,hs.ext hx⟩
  rw [show (⟨#[0]⟩:ByteArray).data.toList=[0] from rfl,V0] at h
  exact h
 ·rcases (show c=0∨c=1 by omega) with rfl|rfl
  ·refine ZH [_,_] func86 ntmps86 fun G w hp=>?_
   repeat' (first|refine ZC ?_|refine ZB ?_|refine ZD ?_|refine ZJ ?_|fail)
   exact ZG () rfl trivial
  ·refine ZH [_,_] func86 ntmps86 fun G w hp=>?_
   repeat' (first|refine ZC ?_|refine ZB ?_|refine ZD ?_|refine ZJ ?_|refine ZE ?_|fail)
   exact ZG () rfl trivial
def pgsC (who:ByteArray):Nat→List ByteArray→List Ch
 | _,[]=>[]
 | f,x::l=>⟨gnm who (f:Int),x,false⟩::pgsC who (f+1) l
theorem pgsC_len (who:ByteArray):∀(l:List ByteArray) (f:Nat),(pgsC who f l).length=l.length
 | [],_=>rfl
 | _::l,f=>by rw [pgsC,List.length_cons,pgsC_len who l,List.length_cons]
theorem pgsC_app (who:ByteArray):∀(l m:List ByteArray) (f:Nat),pgsC who f (l++m)=pgsC who f l++pgsC who (f+l.length) m
 | [],_,_=>rfl
 | x::l,m,f=>by
  rw [List.cons_append,pgsC,pgsC,pgsC_app who l m,List.cons_append,List.length_cons,Nat.add_right_comm,Nat.add_assoc]
theorem V7 (b:Nat) (ps:Option Addr) (rs:List (Nm×Ch)) (cs:List Ch) (who:ByteArray) (hw:who.size≤1000) (hv:lvalid who.data.toList=true) (l:List ByteArray) (f:Nat) (hf:f+l.length≤64) (hl:cs.length≤900000) (hx:∀x ∈ l,x.size≤65536) (o:Option Addr) (cap:Nat) :
  Enters 87∧Spec prog 87 #[.pointer (some ⟨b,0,none⟩),.string who,.int .i64 (f:Int),.slice o l.length cap] [Sl 9 sf1 o cap l,Usg] [Vw b ps rs cs]
  ⟨Unit,fun _=>.int .i64 0,fun _=>True,fun _=>[],fun _=>[Vw b ps rs (cs++pgsC who f l)]⟩:=by
 generalize b=bv at *
 refine ZH [_,_,_,_] func87 ntmps87 fun G w hp=>?_
 repeat' (first|refine ZC ?_|refine ZB ?_|refine ZD ?_|fail)
 refine YH (X:={i:Nat // i≤l.length}) (fun i=>[(0,.pointer (some ⟨bv,0,none⟩)),(1,.string who),(2,.int .i64 (f:Int)),(12,.slice o l.length cap),(13,.int .i64 (l.length:Int)),(14,.int .i64 (i.1:Int))]) (fun _=>[Sl 9 sf1 o cap l,Usg]) (fun i=>[Vw bv ps rs (cs++pgsC who f (l.take i.1))]) (fun i=>l.length - i.1) ⟨0,Nat.zero_le _⟩ ⟨rfl,rfl,rfl,rfl,rfl,rfl,trivial⟩ ?_ (hr:=by dsimp only;rw [List.take_zero,pgsC,List.append_nil];(repeat (first|exact Sels.nil|exact Sel.here|apply Sel.there|apply Sels.cons)))
 rintro ⟨i,hi⟩
 dsimp only at hi ⊢
 by_cases h:i<l.length
 ·obtain ⟨x,hxi⟩:∃x,l[i]? = some x:=⟨_,List.getElem?_eq_getElem h⟩
  have hxs:=hx x (List.mem_of_getElem? hxi)
  have hcat:cs++pgsC who f (l.take (i+1))=(cs++pgsC who f (l.take i))++[⟨gnm who ((f+i:Nat):Int),x,false⟩]:=by
   rw [List.take_add_one,hxi,Option.toList_some,pgsC_app,List.length_take,Nat.min_eq_left hi,List.append_assoc]
   rfl
  have hlen:(cs++pgsC who f (l.take i)).length≤1000000:=by
   rw [List.length_append,pgsC_len,List.length_take];omega
  generalize cs++pgsC who f (l.take i)=cs2 at *
  have n1:=Xb who ((f+i:Nat):Int)
  have n2:=Xw bv ps rs cs2 (gnm who ((f+i:Nat):Int)) x (by show who.size≤_;omega) (Nat.zero_le _) hlen
  have e2:vset cs2 (gnm who ((f+i:Nat):Int)) x=(0,cs2++[⟨gnm who ((f+i:Nat):Int),x,false⟩]):=by
   unfold vset
   rw [if_neg (by rw [Wb hv (by omega)];simp),if_neg (by omega)]
  rw [e2] at n2
  have wf:IntKind.i64.wrap ((f:Int)+(i:Int))=((f+i:Nat):Int):=by rw [wrapi (by omega) (by omega)];omega
  have wi:IntKind.i64.wrap ((i:Int)+1)=((i+1:Nat):Int):=by rw [wrapi (by omega) (by omega)];omega
  repeat' (first|refine ZC ?_|refine ZB ?_|refine ZD ?_|refine ZE ?_|refine ZA (n1) (fun _ _=>?_)|refine ZA (n2) (fun _ _=>?_)|rw [wf]|rw [wi]|refine XL (es:=l) (f:=sf1) i x hxi (fun b off=>?_)|refine YQ ?_|(refine ZF (fun hc=>?_) (fun hc=>?_)<;>(try simp at hc)<;>(try omega))|fail)
  exact ZW ⟨i+1,by omega⟩ (by show l.length - (i+1)<l.length - i;omega) ⟨rfl,rfl,rfl,rfl,rfl,rfl,trivial⟩ (hr:=by dsimp only;rw [hcat];(repeat (first|exact Sels.nil|exact Sel.here|apply Sel.there|apply Sels.cons)))
 ·obtain rfl:i=l.length:=by omega
  rw [List.take_length]
  repeat' (first|refine ZC ?_|refine ZB ?_|refine ZD ?_|refine Zn ?_|(refine ZF (fun hc=>?_) (fun hc=>?_)<;>(try simp at hc)<;>(try omega))|fail)
  exact ZG () rfl trivial
def pSets (who:ByteArray):Nat→List ByteArray→VP Int
 | _,[]=>.ret 0
 | f,x::l=>.set (gnm who (f:Int)) x (pSets who (f+1) l)
theorem Xt (es:Al) (who:ByteArray):∀(l:List ByteArray) (f:Nat) (cs:List Ch),(pSets who f l).run es cs=(0,[],cs++pgsC who f l)
 | [],_,cs=>by simp [pSets,VP.run,pgsC]
 | x::l,f,cs=>by
  rw [pSets,VP.run,Xt es who l]
  rw [List.append_assoc];rfl
def pGrow (who:ByteArray) (n:Int):VP (Int×Int):=if ¬(0≤n∧n≤64) then .ret (0,2) else (pMof who).bind fun m=>if m.2≠0 then .ret (0,m.2) else if m.1.2.pg+n > 64 then .ret (0,26) else if n=0 then .ret (m.1.2.pg,0) else
 .set (pnm m.1.1.sp) (pencS {m.1.2 with pg:=m.1.2.pg+n}) ((pSets m.1.1.sp m.1.2.pg.toNat (List.replicate n.toNat Xm)).bind fun _=>.ret (m.1.2.pg,0))
theorem sf1_len:∀l:List ByteArray,(l.flatMap sf1).length=l.length
 | []=>rfl
 | _::l=>by rw [List.flatMap_cons,List.length_append,sf1_len l,List.length_cons];simp;omega
theorem WO:Xm.size=64:=by decide
def fillL (m i:Nat):List ByteArray:=List.replicate i Xm++List.replicate (m - i) ⟨#[]⟩
theorem fill_set {m i:Nat} (h:i<m):(fillL m i).set i Xm=fillL m (i+1)∧(fillL m i)[i]? = some ⟨#[]⟩:=by
 unfold fillL
 obtain ⟨k,hk⟩:∃k,m - i=k+1:=⟨m - i - 1,by omega⟩
 rw [hk,show m - (i+1)=k by omega]
 constructor
 ·rw [List.set_append_right _ _ (by simp),List.length_replicate,Nat.sub_self,List.replicate_succ,List.set_cons_zero,List.replicate_succ',List.append_assoc]
  rfl
 ·rw [List.getElem?_append_right (by simp),List.length_replicate,Nat.sub_self,List.replicate_succ]
  rfl
set_option maxHeartbeats 4000000 in
theorem growG_ok (b:Nat) (ps:Option Addr) (es:Al) (rs:List (Nm×Ch)) (cs:List Ch) (who:ByteArray) (n:Int) (hS:Sml es cs) (hw:who.size≤1000) (hl:cs.length≤800000) :
  Enters 31∧Spec prog 31 #[.pointer (some ⟨b,0,none⟩),.string who,.int .i64 n] [St ps es,Usg] [Vw b ps rs cs]
  ⟨Unit,fun _=>.tuple #[.int .i64 ((pGrow who n).run es cs).1.1,.int .i64 ((pGrow who n).run es cs).1.2],fun _=>True,fun _=>[],fun _=>[Vw b ps (rsOf es ((pGrow who n).run es cs).2.1 rs) ((pGrow who n).run es cs).2.2]⟩:=by
 have n2:=WT n 64
 unfold pGrow
 generalize b=bv at *
 by_cases hn:¬(0≤n∧n≤64)
 ·rw [if_pos hn]
  rw [show (decide (0≤n) && decide (n≤64))=false by simp;omega] at n2
  refine ZH [_,_,_] func31 ntmps31 fun G w hp=>?_
  repeat' (first|refine ZC ?_|refine ZB ?_|refine ZD ?_|refine ZJ ?_|refine ZE ?_|refine ZA (n2) (fun _ _=>?_)|fail)
  exact ZG () rfl trivial
 ·rw [if_neg hn,run_bind]
  rw [show (decide (0≤n) && decide (n≤64))=true by simp;omega] at n2
  have n1:=mofG_ok bv ps es rs cs who hS hw
  have hcs:=VF es cs who
  have hck:=pMof_chk es cs who
  generalize (pMof who).run es cs=A at *
  obtain ⟨⟨⟨p,o⟩,e⟩,N,cs1⟩:=A
  dsimp only at *
  subst hcs
  by_cases he:e≠0
  ·simp only [if_pos he,VP.run,List.append_nil]
   obtain ⟨a1,a2,a3,a4,a5,gs,a7,a8,⟨a9,a9'⟩,a10⟩:=p
   obtain ⟨o1,o2,o3,o4,o5,os,o7,o8,⟨o9,o9'⟩,o10⟩:=o
   simp only [Pr.v] at n1
   refine ZH [_,_,_] func31 ntmps31 fun G w hp=>?_
   repeat' (first|refine ZC ?_|refine ZB ?_|refine ZD ?_|refine ZS ?_|refine ZN (fun b=>?_)|refine ZE ?_|refine ZA (n1) (fun _ _=>?_)|refine ZA (n2) (fun _ _=>?_)|(refine ZF (fun hc=>?_) (fun hc=>?_)<;>(try simp at hc)<;>(try omega))|fail)
   exact ZG () rfl trivial
  ·obtain rfl:e=0:=by omega
   simp only [if_neg he]
   obtain ⟨hpc,hoc,hv⟩:=hck rfl
   obtain ⟨z0,z1,z2⟩:=Z7 hpc
   obtain ⟨y0,y1,y2⟩:=Z7 hoc
   obtain ⟨-,-,-,-,hpv,-⟩:=Zg hpc
   obtain ⟨u1,u2,u3,u4,u5,u6⟩:=Zg hoc
   unfold pfit at u3
   have w1:IntKind.i64.wrap (o.pg+n)=o.pg+n:=wrapi (by omega) (by omega)
   by_cases h26:o.pg+n > 64
   ·simp only [if_pos h26,VP.run,List.append_nil]
    obtain ⟨a1,a2,a3,a4,a5,gs,a7,a8,⟨a9,a9'⟩,a10⟩:=p
    obtain ⟨o1,o2,o3,o4,o5,os,o7,o8,⟨o9,o9'⟩,o10⟩:=o
    simp only [Pr.v] at n1
    dsimp only at *
    refine ZH [_,_,_] func31 ntmps31 fun G w hp=>?_
    repeat' (first|refine ZC ?_|refine ZB ?_|refine ZD ?_|refine ZP ?_|refine ZS ?_|refine ZN (fun b=>?_)|refine ZE ?_|refine ZA (n1) (fun _ _=>?_)|refine ZA (n2) (fun _ _=>?_)|rw [w1]|(refine ZF (fun hc=>?_) (fun hc=>?_)<;>(try simp at hc)<;>(try omega))|fail)
    exact ZG () rfl trivial
   ·simp only [if_neg h26]
    by_cases hn0:n=0
    ·simp only [if_pos hn0,VP.run,List.append_nil]
     subst hn0
     obtain ⟨a1,a2,a3,a4,a5,gs,a7,a8,⟨a9,a9'⟩,a10⟩:=p
     obtain ⟨o1,o2,o3,o4,o5,os,o7,o8,⟨o9,o9'⟩,o10⟩:=o
     simp only [Pr.v] at n1
     dsimp only at *
     refine ZH [_,_,_] func31 ntmps31 fun G w hp=>?_
     repeat' (first|refine ZC ?_|refine ZB ?_|refine ZD ?_|refine ZP ?_|refine ZS ?_|refine ZN (fun b=>?_)|refine ZJ ?_|refine ZE ?_|refine ZA (n1) (fun _ _=>?_)|refine ZA (n2) (fun _ _=>?_)|rw [w1]|(refine ZF (fun hc=>?_) (fun hc=>?_)<;>(try simp at hc)<;>(try omega))|fail)
     exact ZG () rfl trivial
    ·simp only [if_neg hn0]
     obtain ⟨m,rfl⟩:∃m:Nat,n=(m:Int):=⟨n.toNat,by omega⟩
     obtain ⟨pg,hpg⟩:∃pg:Nat,o.pg=(pg:Int):=⟨o.pg.toNat,by omega⟩
     rw [hpg] at w1 h26 ⊢
     simp only [Int.toNat_natCast]
     have hqc:pchk {o with pg:=(pg:Int)+m}=0:=by
      unfold pchk pfit
      dsimp only
      rw [if_neg (by omega),if_neg (by omega),if_neg (by simp only [Decidable.not_not];omega),if_neg (by simp [u4]),if_neg (by simp [u5])]
      exact u6
     have n3:=WN bv ps (rsOf es N rs) cs1
     have n4:=fun a c=>Yx bv ps (rsOf es N rs) cs1 p.sp {o with pg:=(pg:Int)+m} a c hqc (by show o.sp.size≤_;omega) (by show o.dr.mkr.size≤_;omega) (by omega) hpv (by omega)
     have n5:=fun a c=>V7 bv ps (rsOf es N rs) (cs1++[⟨pnm p.sp,pencS {o with pg:=(pg:Int)+m},false⟩]) p.sp (by omega) hpv (List.replicate m Xm) pg (by rw [List.length_replicate];omega) (by simp;omega) (fun x hx=>by rw [List.eq_of_mem_replicate hx,WO];decide) a c
     have n6:=repeat64_ok
     rw [List.length_replicate] at n5
     rw [VP.run,run_bind,Xt]
     simp only [VP.run,List.append_nil]
     generalize cs1++[Ch.mk (pnm p.sp) (pencS {o with pg:=(pg:Int)+m}) false]++pgsC p.sp pg (List.replicate m Xm)=cs3 at *
     generalize cs1++[Ch.mk (pnm p.sp) (pencS {o with pg:=(pg:Int)+m}) false]=cs2 at *
     generalize rsOf es N rs=rs3 at *
     clear hqc hpc hoc hck
     obtain ⟨a1,a2,a3,a4,a5,gs,a7,a8,⟨a9,a9'⟩,a10⟩:=p
     obtain ⟨o1,o2,o3,o4,o5,os,o7,o8,⟨o9,o9'⟩,o10⟩:=o
     simp only [Pr.v] at n1 n4
     dsimp only at *
     subst hpg
     have hm16:16 * m≤281474976710656:=by omega
     have hm63:m≤9223372036854775807:=by omega
     refine ZH [_,_,_] func31 ntmps31 fun G w hp=>?_
     repeat' (first|refine ZC ?_|refine ZB ?_|refine ZD ?_|refine ZP ?_|refine ZS ?_|refine ZN (fun b=>?_)|refine ZE ?_|refine ZA (n1) (fun _ _=>?_)|refine ZA (n2) (fun _ _=>?_)|rw [w1]|refine l_mks (f:=sf1) (z0:=⟨#[]⟩) (m:=m) (bytes:=16) hm16 hm63 (fun b=>?_)|(refine ZF (fun hc=>?_) (fun hc=>?_)<;>(try simp at hc)<;>(try omega))|fail)
     rename_i q _ b8 b9 _
     obtain ⟨⟨qa,qc⟩,qa',qc'⟩:=q
     dsimp only
     refine YH (X:={i:Nat // i≤m}) (fun i=>[(0,.pointer (some ⟨bv,0,none⟩)),(2,.int .i64 (m:Int)),(8,.pointer (some ⟨b8,0,none⟩)),(9,.pointer (some ⟨b9,0,none⟩)),(11,.int .i64 (pg:Int)),(12,.slice (some ⟨b,0,none⟩) m m),(42,.int .i64 (m:Int)),(43,.int .i64 (i.1:Int))]) (fun _=>[Sl 3 zf qa' qc' os,St ps es,Usg])
      (fun i=>[Vw bv ps rs3 cs1,Ar 9 sf1 b (fillL m i.1),Pt b8 (.cells #[.int .i64 a1,.int .i64 a2,.int .i64 a3,.int .i64 a4,.int .i64 a5,.slice qa gs.length qc,.string a7,.int .i64 a8,.string a9,.int .i64 a9',.int .i64 a10] 44),Pt b9 (.cells #[.int .i64 o1,.int .i64 o2,.int .i64 o3,.int .i64 o4,.int .i64 o5,.slice qa' os.length qc',.string o7,.int .i64 (pg:Int),.string o9,.int .i64 o9',.int .i64 o10] 44)]) (fun i=>m - i.1)
      ⟨0,Nat.zero_le _⟩ ⟨rfl,rfl,rfl,rfl,rfl,rfl,rfl,rfl,trivial⟩ ?_
     rintro ⟨i,hi⟩
     dsimp only at hi ⊢
     by_cases h:i<m
     ·have w9:IntKind.i64.wrap ((i:Int)+1)=((i+1:Nat):Int):=by rw [wrapi (by omega) (by omega)];omega
      obtain ⟨hst,hv0⟩:=fill_set h
      have ho:0+i * 1=i * 1+0:=by omega
      repeat' (first|refine ZC ?_|refine ZB ?_|refine ZD ?_|refine ZA (n6) (fun _ _=>?_)|rw [w9]|refine l_ixO (m:=m) (sz:=1) i h ?_|refine l_stA 1 i 0 Xm hv0 ?_ (ho:=ho)|(refine ZF (fun hc=>?_) (fun hc=>?_)<;>(try simp at hc)<;>(try omega))|fail)
      rw [hst]
      exact ZW ⟨i+1,by omega⟩ (by show m - (i+1)<m - i;omega) ⟨rfl,rfl,rfl,rfl,rfl,rfl,rfl,rfl,trivial⟩
     ·obtain rfl:i=m:=by omega
      rw [show fillL i i=List.replicate i Xm by unfold fillL;simp]
      refine Zq (r:=Row 9 1 (some ⟨b,0,none⟩) i i ((List.replicate i Xm).flatMap sf1)) (Lx:=[Ar 9 sf1 b (List.replicate i Xm)]) (fun h hh=>by
       obtain ⟨h1,h2,_,s1,_,hx,_⟩:=hh
       have hlen:((List.replicate i Xm).flatMap sf1).length=i * 1:=by rw [sf1_len,List.length_replicate,Nat.mul_one]
       exact .inr ⟨b,[],(0,0),rfl,by rw [List.append_nil];exact s1 _ _ hx,hlen,by rw [List.append_nil];exact hlen,Nat.le_refl _,.inl rfl⟩) ?_
      refine k_frz (T:=9) (sz:=1) (f:=sf1) (o:=some ⟨b,0,none⟩) (m:=i) (cap:=i) (List.replicate i Xm) ?_ rfl (by simp)
      repeat' (first|refine ZC ?_|refine ZB ?_|refine ZD ?_|refine ZP ?_|refine ZS ?_|refine ZJ ?_|refine ZE ?_|refine Zn ?_|refine ZA (n3) (fun _ _=>?_)|refine ZA (n4 _ _) (fun _ _=>?_)|refine ZA (n5 _ _) (fun _ _=>?_)|rw [w1]|(refine ZF (fun hc=>?_) (fun hc=>?_)<;>(try simp at hc)<;>(try omega))|fail)
      exact ZG () rfl trivial
end
structure Im where
 co:ByteArray
 da:ByteArray
 ze:Int
 en:Int
def Im.v (x:Im):Value:=.agg #[.string x.co,.string x.da,.int .i64 x.ze,.int .i64 x.en]
def dAt (x:Im):Nat:=(x.co.size+63) / 64 * 64
def imgC (x:Im):Int:=if x.co.size=0 then 1 else if x.co.size % 4≠0 then 3 else if x.ze<0∨4096<x.ze then 2 else if 4096<(dAt x:Int)+x.da.size+x.ze then 5 else if x.en<0∨(x.co.size:Int) - 4<x.en∨x.en.tmod 4≠0 then 2 else 0
theorem XZ {x:Im} (h:imgC x=0):(0≤x.ze∧x.ze≤4096)∧(dAt x:Int)+x.da.size+x.ze≤4096∧(0≤x.en∧x.en≤4096)∧x.co.size≤dAt x∧0<x.co.size:=by
 unfold imgC at h
 have hd:dAt x=(x.co.size+63) / 64 * 64:=rfl
 split at h;cases h
 split at h;cases h
 split at h;cases h
 split at h;cases h
 split at h;cases h
 rename_i h1 h2 h3 h4 h5
 simp only [not_or] at h3 h5
 refine ⟨by omega,by omega,⟨by omega,by omega⟩,by omega,by omega⟩
theorem pagesOf_ok (n:Nat) (hn:n≤1099511627776):Enters 170∧Spec prog 170 #[.int .i64 (n:Int)] [] [] (RetV (.int .i64 (((n+63) / 64:Nat):Int))):=by
 have w1:IntKind.i64.wrap ((n:Int)+64)=((n+64:Nat):Int):=by rw [wrapi (by omega) (by omega)];omega
 have w2:IntKind.i64.wrap (((n+64:Nat):Int) - 1)=((n+63:Nat):Int):=by rw [wrapi (by omega) (by omega)];omega
 have t1:((n+63:Nat):Int).tdiv 64=(((n+63) / 64:Nat):Int):=by rw [Int.tdiv_eq_ediv_of_nonneg (Int.natCast_nonneg _)];exact (Int.natCast_ediv _ 64).symm
 have w3:IntKind.i64.wrap (((n+63) / 64:Nat):Int)=(((n+63) / 64:Nat):Int):=wrapi (by omega) (by omega)
 refine ZH [_] func170 ntmps170 fun G w hp=>?_
 repeat' (first|refine ZC ?_|refine ZB ?_|refine ZD ?_|rw [w1]|rw [w2]|rw [t1]|rw [w3]|fail)
 exact ZG () rfl trivial
section
variable (x:Im) (hc:x.co.size≤1099511627776) (hd:x.da.size≤1099511627776)
include hc in
theorem UT:Enters 169∧Spec prog 169 #[x.v] [] [] (RetV (.int .i64 (dAt x:Int))):=by
 have n1:=pagesOf_ok x.co.size hc
 have w1:IntKind.i64.wrap ((((x.co.size+63) / 64:Nat):Int) * 64)=(((x.co.size+63) / 64 * 64:Nat):Int):=by rw [wrapi (by omega) (by omega)];omega
 obtain ⟨co,da,ze,en⟩:=x
 simp only [Im.v,dAt] at *
 refine ZH [_] func169 ntmps169 fun G w hp=>?_
 repeat' (first|refine ZC ?_|refine ZB ?_|refine ZD ?_|refine ZP ?_|refine ZN (fun b=>?_)|refine ZA (n1) (fun _ _=>?_)|rw [w1]|fail)
 exact ZG () rfl trivial
include hc hd in
theorem YE:Enters 141∧Spec prog 141 #[x.v] [] [] (RetV (.int .i64 (imgC x))):=by
 have n1:=UT x hc
 have hda:dAt x=(x.co.size+63) / 64 * 64:=rfl
 have hC:imgC x=if x.co.size=0 then 1 else if x.co.size % 4≠0 then 3 else if x.ze<0∨4096<x.ze then 2 else if 4096<(dAt x:Int)+x.da.size+x.ze then 5 else if x.en<0∨(x.co.size:Int) - 4<x.en∨x.en.tmod 4≠0 then 2 else 0:=rfl
 generalize imgC x=e at *
 generalize dAt x=dt at *
 obtain ⟨co,da,ze,en⟩:=x
 simp only [Im.v] at *
 have t1:(co.size:Int).tmod 4=((co.size % 4:Nat):Int):=by rw [Int.tmod_eq_emod_of_nonneg (Int.natCast_nonneg _)];exact (Int.natCast_emod _ 4).symm
 have w1:IntKind.i64.wrap ((dt:Int)+(da.size:Int))=((dt+da.size:Nat):Int):=by rw [wrapi (by omega) (by omega)];omega
 have w3:IntKind.i64.wrap ((co.size:Int) - 4)=(co.size:Int) - 4:=wrapi (by omega) (by omega)
 by_cases h1:co.size=0
 ·have hz:((co.size:Int) == 0)=true:=by rw [beq_iff_eq];omega
  rw [if_pos h1] at hC
  subst hC
  refine ZH [_] func141 ntmps141 fun G w hp=>?_
  repeat' (first|refine ZC ?_|refine ZB ?_|refine ZD ?_|refine ZP ?_|refine ZN (fun b=>?_)|refine ZJ ?_|rw [hz]|fail)
  exact ZG () rfl trivial
 ·have hz:((co.size:Int) == 0)=false:=by rw [beq_eq_false_iff_ne];omega
  rw [if_neg h1] at hC
  by_cases h2:co.size % 4≠0
  ·rw [if_pos h2] at hC
   subst hC
   refine ZH [_] func141 ntmps141 fun G w hp=>?_
   repeat' (first|refine ZC ?_|refine ZB ?_|refine ZD ?_|refine ZP ?_|refine ZN (fun b=>?_)|refine ZE ?_|rw [hz]|rw [t1]|(refine ZF (fun hc=>?_) (fun hc=>?_)<;>(try simp at hc)<;>(try omega))|fail)
   exact ZG () rfl trivial
  ·rw [if_neg h2] at hC
   by_cases h3:ze<0∨4096<ze
   ·rw [if_pos h3] at hC
    subst hC
    refine ZH [_] func141 ntmps141 fun G w hp=>?_
    repeat' (first|refine ZC ?_|refine ZB ?_|refine ZU ?_|refine ZD ?_|refine ZP ?_|refine ZN (fun b=>?_)|refine ZJ ?_|refine ZE ?_|rw [hz]|rw [t1]|(refine ZT (fun hc=>?_) (fun hc=>?_)<;>(try simp at hc)<;>(try omega))|(refine ZF (fun hc=>?_) (fun hc=>?_)<;>(try simp at hc)<;>(try omega))|fail)
    all_goals exact ZG () rfl trivial
   ·rw [if_neg h3] at hC
    have w2:IntKind.i64.wrap (((dt+da.size:Nat):Int)+ze)=(dt:Int)+da.size+ze:=by rw [wrapi (by omega) (by omega)];omega
    by_cases h4:4096<(dt:Int)+da.size+ze
    ·rw [if_pos h4] at hC
     subst hC
     refine ZH [_] func141 ntmps141 fun G w hp=>?_
     repeat' (first|refine ZC ?_|refine ZB ?_|refine ZU ?_|refine ZD ?_|refine ZP ?_|refine ZN (fun b=>?_)|refine ZE ?_|refine ZO ?_|refine Ze ?_|refine ZQ ?_|refine XQ (n1) (fun _ _=>?_)|rw [hz]|rw [t1]|rw [w1]|rw [w2]|(refine ZT (fun hc=>?_) (fun hc=>?_)<;>(try simp at hc)<;>(try omega))|refine ZK 7 [] [(0,0),(2,0),(3,0),(4,0),(6,0),(7,0),(1,5),(5,0),(8,0),(9,0),(10,0)] [] ?_|(refine ZF (fun hc=>?_) (fun hc=>?_)<;>(try simp at hc)<;>(try omega))|fail)
     all_goals exact ZG () rfl trivial
    ·rw [if_neg h4] at hC
     generalize ht:en.tmod 4=te at *
     by_cases h5:en<0∨(co.size:Int) - 4<en∨te≠0
     ·rw [if_pos h5] at hC
      subst hC
      refine ZH [_] func141 ntmps141 fun G w hp=>?_
      repeat' (first|refine ZC ?_|refine ZB ?_|refine ZU ?_|refine ZD ?_|refine ZP ?_|refine ZN (fun b=>?_)|refine ZJ ?_|refine ZE ?_|refine ZO ?_|refine Ze ?_|refine ZQ ?_|refine XQ (n1) (fun _ _=>?_)|rw [hz]|rw [t1]|rw [w1]|rw [w2]|rw [w3]|rw [ht]|(refine ZT (fun hc=>?_) (fun hc=>?_)<;>(try simp at hc)<;>(try omega))|refine ZK 7 [] [(0,0),(2,0),(3,0),(4,0),(6,0),(7,0),(1,5),(5,0),(8,0),(9,0),(10,0)] [] ?_|(refine ZF (fun hc=>?_) (fun hc=>?_)<;>(try simp at hc)<;>(try omega))|fail)
      all_goals exact ZG () rfl trivial
     ·rw [if_neg h5] at hC
      subst hC
      refine ZH [_] func141 ntmps141 fun G w hp=>?_
      repeat' (first|refine ZC ?_|refine ZB ?_|refine ZU ?_|refine ZD ?_|refine ZP ?_|refine ZN (fun b=>?_)|refine ZE ?_|refine ZO ?_|refine Ze ?_|refine ZQ ?_|refine XQ (n1) (fun _ _=>?_)|rw [hz]|rw [t1]|rw [w1]|rw [w2]|rw [w3]|rw [ht]|(refine ZT (fun hc=>?_) (fun hc=>?_)<;>(try simp at hc)<;>(try omega))|refine ZK 7 [] [(0,0),(2,0),(3,0),(4,0),(6,0),(7,0),(1,5),(5,0),(8,0),(9,0),(10,0)] [] ?_|(refine ZF (fun hc=>?_) (fun hc=>?_)<;>(try simp at hc)<;>(try omega))|fail)
      all_goals exact ZG () rfl trivial
include hc hd
theorem imgEnd_ok (h0:imgC x=0):Enters 171∧Spec prog 171 #[x.v] [] [] (RetV (.int .i64 ((dAt x:Int)+x.da.size+x.ze))):=by
 have n1:=UT x hc
 have n2:=YE x hc hd
 rw [h0] at n2
 obtain ⟨g1,g2,g3,g4,g5⟩:=XZ h0
 generalize dAt x=dt at *
 obtain ⟨co,da,ze,en⟩:=x
 simp only [Im.v] at *
 have w1:IntKind.i64.wrap ((dt:Int)+(da.size:Int))=((dt+da.size:Nat):Int):=by rw [wrapi (by omega) (by omega)];omega
 have w2:IntKind.i64.wrap (((dt+da.size:Nat):Int)+ze)=(dt:Int)+da.size+ze:=by rw [wrapi (by omega) (by omega)];omega
 clear h0
 refine ZH [_] func171 ntmps171 fun G w hp=>?_
 repeat' (first|refine ZC ?_|refine ZB ?_|refine ZD ?_|refine ZP ?_|refine ZN (fun b=>?_)|refine ZE ?_|refine ZO ?_|refine Ze ?_|refine ZQ ?_|refine XQ (n1) (fun _ _=>?_)|refine ZA (n2) (fun _ _=>?_)|rw [w1]|rw [w2]|refine ZK 3 [] [(0,0),(2,0),(3,0),(4,0),(6,0),(7,0),(1,5),(5,0),(8,0),(9,0)] [] ?_|fail)
 exact ZG () rfl trivial
def nPg (x:Im):Nat:=(((dAt x:Int)+x.da.size+x.ze).toNat+63) / 64
theorem Un (h0:imgC x=0):Enters 143∧Spec prog 143 #[x.v] [] [] (RetV (.int .i64 (nPg x:Int))):=by
 have n1:=imgEnd_ok x hc hd h0
 obtain ⟨g1,g2,g3,g4,g5⟩:=XZ h0
 have n2:=pagesOf_ok ((dAt x:Int)+x.da.size+x.ze).toNat (by omega)
 unfold nPg
 rw [show (((((dAt x:Int)+x.da.size+x.ze).toNat:Nat):Int))=(dAt x:Int)+x.da.size+x.ze by omega] at n2
 generalize (((dAt x:Int)+x.da.size+x.ze).toNat+63) / 64=np at *
 generalize (dAt x:Int)+x.da.size+x.ze=ed at *
 obtain ⟨co,da,ze,en⟩:=x
 simp only [Im.v] at *
 clear h0 g1 g2 g3 g4 g5
 refine ZH [_] func143 ntmps143 fun G w hp=>?_
 repeat' (first|refine ZC ?_|refine ZB ?_|refine ZD ?_|refine ZP ?_|refine ZN (fun b=>?_)|refine ZA (n1) (fun _ _=>?_)|refine ZA (n2) (fun _ _=>?_)|fail)
 exact ZG () rfl trivial
def imMem (x:Im):ByteArray:=x.co++zerB (dAt x - x.co.size)++x.da++zerB (nPg x * 64 - (dAt x+x.da.size))
omit hc hd in
theorem Yw (h0:imgC x=0):(imMem x).size=64 * nPg x∧nPg x≤64:=by
 obtain ⟨g1,g2,g3,g4,g5⟩:=XZ h0
 unfold imMem nPg
 simp only [ByteArray.size_append,Uf]
 omega
theorem imMem_ok (h0:imgC x=0):Enters 203∧Spec prog 203 #[x.v] [] [] (RetV (.string (imMem x))):=by
 have n1:=UT x hc
 have n2:=YE x hc hd
 rw [h0] at n2
 have n3:=Un x hc hd h0
 obtain ⟨g1,g2,g3,g4,g5⟩:=XZ h0
 obtain ⟨hsz,hnp⟩:=Yw x h0
 have hnd:dAt x+x.da.size≤nPg x * 64:=by unfold nPg;omega
 unfold imMem at hsz ⊢
 have n4:=repeatZ_ok (dAt x - x.co.size) (by omega)
 have n5:=repeatZ_ok (nPg x * 64 - (dAt x+x.da.size)) (by omega)
 have z1:=Uf (dAt x - x.co.size)
 have z2:=Uf (nPg x * 64 - (dAt x+x.da.size))
 generalize dAt x=dt at *
 generalize nPg x=np at *
 obtain ⟨co,da,ze,en⟩:=x
 simp only [Im.v] at *
 have w1:IntKind.i64.wrap ((dt:Int) - (co.size:Int))=((dt - co.size:Nat):Int):=by rw [wrapi (by omega) (by omega)];omega
 have w2:IntKind.i64.wrap ((np:Int) * 64)=((np * 64:Nat):Int):=by rw [wrapi (by omega) (by omega)];omega
 have w3:IntKind.i64.wrap (((np * 64:Nat):Int) - ((dt+da.size:Nat):Int))=((np * 64 - (dt+da.size):Nat):Int):=by rw [wrapi (by omega) (by omega)];omega
 generalize zerB (dt - co.size)=Z1 at *
 generalize zerB (np * 64 - (dt+da.size))=Z2 at *
 have c1:co.size+Z1.size≤9223372036854775807:=by omega
 have c2:(co++Z1).size+da.size≤9223372036854775807:=by rw [ByteArray.size_append];omega
 have hb:(co++Z1++da).size=dt+da.size:=by rw [ByteArray.size_append,ByteArray.size_append];omega
 have c3:(co++Z1++da).size+Z2.size≤9223372036854775807:=by omega
 clear h0 hsz
 refine ZH [_] func203 ntmps203 fun G w hp=>?_
 repeat' (first|refine ZC ?_|refine ZB ?_|refine ZD ?_|refine ZP ?_|refine ZN (fun b=>?_)|refine ZE ?_|refine ZO ?_|refine Ze ?_|refine ZQ ?_|refine XQ (n1) (fun _ _=>?_)|refine ZA (n2) (fun _ _=>?_)|refine ZA (n3) (fun _ _=>?_)|refine XQ (n4) (fun _ _=>?_)|refine ZA (n5) (fun _ _=>?_)|rw [w1]|rw [hb]|rw [w2]|rw [w3]|refine r_cat ?_ (h:=c1)|refine r_cat ?_ (h:=c2)|refine l_cat ?_ (h:=c3)|refine ZK 3 [] [(0,0),(1,0),(2,0),(4,0),(5,0),(6,0),(10,0),(11,0),(3,5),(7,0),(8,5),(9,0),(12,0),(13,0)] [] ?_|fail)
 exact ZG () rfl trivial
end
def c11:ByteArray:=⟨#[49,46,49]⟩
def c12:ByteArray:=⟨#[49,46,50]⟩
theorem itoa1:Lib.itoa 1=[49]:=by decide +kernel
theorem itoa2:Lib.itoa 2=[50]:=by decide +kernel
theorem chN1:chN o1 1=c11:=by rw [chN,itoa1];decide
theorem chN2:chN o1 2=c12:=by rw [chN,itoa2];decide
theorem o1_parts:lparts o1.data.toList=[⟨1,0,0⟩]:=by
 have h:=(Y3 [49] 0 0 (by simp)).2.2.2
 rw [show ffirst (([49]:List UInt8).drop 0) 0 0=(⟨1,0,0⟩,1) from rfl] at h
 simp at h
 simp [o1,lparts,h]
theorem Wz:(lords o1.data.toList).length≠8:=by
 rw [lords,if_pos Y7,o1_parts];decide
theorem Yb:lvalid c11.data.toList=true:=by
 have h:=(Y3 [49,46,49] 0 0 (by simp)).2.2.2
 rw [show ffirst (([49,46,49]:List UInt8).drop 0) 0 0=(⟨1,0,0⟩,1) from rfl] at h
 have h2:=(Y3 [49,46,49] 2 1 (by simp)).2.2.2
 rw [show ffirst (([49,46,49]:List UInt8).drop 2) 2 1=(⟨1,2,0⟩,3) from rfl] at h2
 simp at h h2
 simp [c11,lvalid,lparts,h,h2]
theorem Ug:lvalid c12.data.toList=true:=by
 have h:=(Y3 [49,46,50] 0 0 (by simp)).2.2.2
 rw [show ffirst (([49,46,50]:List UInt8).drop 0) 0 0=(⟨1,0,0⟩,1) from rfl] at h
 have h2:=(Y3 [49,46,50] 2 1 (by simp)).2.2.2
 rw [show ffirst (([49,46,50]:List UInt8).drop 2) 2 1=(⟨2,2,0⟩,3) from rfl] at h2
 simp at h h2
 simp [c12,lvalid,lparts,h,h2]
def YF:Pr:=⟨1,1,0,0,7,[1,5],o1,2,⟨⟨#[]⟩,0⟩,3⟩
theorem pr_chk {st cd:Int} {sp:ByteArray} (hs:1≤st∧st≤3) (hc:0≤cd∧cd≤410) (h1:st=1→cd=0) (hv:lvalid sp.data.toList=true):pchk ⟨1,st,cd,0,7,[1,5],sp,2,⟨⟨#[]⟩,0⟩,3⟩=0:=by
 have hg:gchk [1,5]=0:=by decide
 have hb:bchk ⟨⟨#[]⟩,0⟩=0:=by
  have h3:lvalid mk3.data.toList=true:=mk27_valid 2
  unfold bchk
  rw [if_neg (by show ¬lvalid mk3.data.toList=false;simp [h3]),if_pos (by decide)]
 unfold pchk pfit
 dsimp only
 rw [if_neg (by omega),if_neg (by omega),if_neg (by simp only [Decidable.not_not];omega),hg,if_neg (by simp),if_neg (by simp [hv]),hb]
theorem one35_chk:pchk YF=0:=pr_chk (by decide) (by decide) (fun _=>rfl) Y7
theorem one35_ok:Enters 41∧Spec prog 41 #[] [] [] ⟨Nat,fun b=>YF.v (some ⟨b,0,none⟩) 2,fun _=>True,fun b=>[Sl 3 zf (some ⟨b,0,none⟩) 2 YF.gs],fun _=>[]⟩:=by
 refine ZH [] func41 ntmps41 fun G w hp=>?_
 repeat' (first|refine ZC ?_|refine ZB ?_|refine ZD ?_|refine ZS ?_|refine ZN (fun b=>?_)|refine Yo (fun b=>?_)|fail)
 refine Zq (r:=Row 3 1 (some ⟨b,0,none⟩) 2 2 [.int .i64 1,.int .i64 5]) (Lx:=[Pt b (.cells #[.int .i64 1,.int .i64 5] 3)]) (fun h hh=>by
  obtain ⟨h1,h2,_,s1,_,hx,_⟩:=hh
  exact .inr ⟨b,[],(0,0),rfl,s1 _ _ hx,rfl,rfl,Nat.le_refl _,.inl rfl⟩) ?_
 refine k_frz (T:=3) (f:=zf) YF.gs ?_ rfl rfl
 exact ZG b rfl trivial
def cA:List Ch:=[]++[⟨pnm o1,pencS YF,false⟩]
theorem begun_ok:Enters 9∧Spec prog 9 #[] [Usg] [] ⟨Nat×Nat×List (Nm×Ch),fun q=>.tuple #[.pointer (some ⟨q.1,0,none⟩),.bool true],fun _=>True,fun q=>[St (some ⟨q.2.1,0,none⟩) []],fun q=>[Vw q.1 (some ⟨q.2.1,0,none⟩) q.2.2 cA]⟩:=by
 have n1:=fun v s o c=>proStart_ok v (some ⟨s,0,none⟩) [] [] [] o1 YF o c one35_chk rfl (by decide) (by decide) (by decide) Y7 (by simp [isE,o1,Zz]) rfl (by simp) (Vu _) (by rw [Vu])
 rw [show ([]++[⟨pnm o1,pencS YF,false⟩]:List Ch)=cA from rfl] at n1
 generalize cA=cs1 at *
 generalize (vread [] (vread [] [] [] enm) [] (pnm o1))=rs1 at *
 refine ZH [] func9 ntmps9 fun G w hp=>?_
 repeat' (first|refine ZC ?_|refine ZB ?_|refine ZU ?_|refine ZD ?_|refine ZA (Ut) (fun _ _=>?_)|refine ZA (XY _) (fun _ _=>?_)|refine ZA (one35_ok) (fun _ _=>?_)|refine ZA (n1 _ _ _ _) (fun _ _=>?_)|fail)
 rename_i s _ v _ _ _ _ _
 exact ZG (v,s,rs1) rfl trivial
theorem fork2_ok {b:Nat} {ps:Option Addr} {es:Al} {rs:List (Nm×Ch)} {cs cs':List Ch} {who s:ByteArray} (h:Enters 52∧Spec prog 52 #[.pointer (some ⟨b,0,none⟩),.string who,.bool false] [St ps es,Usg,P10] [Vw b ps rs cs] ⟨List (Nm×Ch),fun _=>.tuple #[.string s,.int .i64 0],fun _=>True,fun _=>[],fun rs'=>[Vw b ps rs' cs']⟩) :
  Enters 11∧Spec prog 11 #[.pointer (some ⟨b,0,none⟩),.string who] [St ps es,Usg,P10] [Vw b ps rs cs] ⟨List (Nm×Ch),fun _=>.tuple #[.string s,.int .i64 0],fun _=>True,fun _=>[],fun rs'=>[Vw b ps rs' cs']⟩:=by
 refine ZH [_,_] func11 ntmps11 fun G w hp=>?_
 repeat' (first|refine ZC ?_|refine ZB ?_|refine ZD ?_|refine ZA (h) (fun _ _=>?_)|fail)
 rename_i x _
 exact ZG x rfl trivial
section
variable {es:Al} {cs:List Ch} {w ch:ByteArray} {c:Ct} {p:Pr}
theorem vF_p (hv:lvalid ch.data.toList=true) (x:ByteArray):vget es (frkC cs w ch c p) (pnm x)=if x=ch then (pencS (kidP p ch),true) else vget es cs (pnm x):=by
 unfold frkC
 by_cases h:x=ch
 ·subst h
  rw [if_pos rfl,Wo rfl (Wm hv)];rfl
 ·rw [if_neg h,Yd (fun e=>h (by simpa [pnm] using e.symm)),Yd (by simp [pnm,cnm])]
theorem vF_c (hv:lvalid w.data.toList=true):vget es (frkC cs w ch c p) (cnm w)=(cvs {c with c:=c.c+1},true):=by
 unfold frkC
 rw [Yd (by simp [pnm,cnm]),Wo rfl (VK hv)];rfl
theorem vF_o (n:Nm) (h1:n.kind≠1) (h5:n.kind≠5):vget es (frkC cs w ch c p) n=vget es cs n:=by
 unfold frkC
 rw [Yd (fun e=>h1 (by rw [←e];rfl)),Yd (fun e=>h5 (by rw [←e];rfl))]
end
def cB:List Ch:=frkC cA o1 c11 ⟨0,0,0⟩ YF
def cC:List Ch:=frkC cB o1 c12 ⟨0,0,1⟩ YF
def q4:Pr:={kidP YF c11 with st:=2,cd:=9}
def q5:Pr:={q4 with st:=3}
def cD:List Ch:=cC++[⟨pnm c11,pencS q4,false⟩]
def cE:List Ch:=cD++[⟨pnm c11,pencS q5,false⟩]
theorem one_at {cs:List Ch} (h1:vget [] cs (pnm o1)=(pencS YF,true)) (h2:vget [] cs enm=(⟨#[]⟩,false)):PrAt [] cs o1 YF:=⟨Y7,by decide,h1,one35_chk,by decide,by decide,rfl,h2⟩
theorem kid_at {cs:List Ch} {q:Pr} (hc:pchk q=0) (hs:q.sp=c11) (hd:q.dr=⟨⟨#[]⟩,0⟩) (he:q.ep=0) (h1:vget [] cs (pnm c11)=(pencS q,true)) (h2:vget [] cs enm=(⟨#[]⟩,false)):PrAt [] cs c11 q:=⟨Yb,by decide,h1,hc,by rw [hs];decide,by rw [hd];decide,he,h2⟩
theorem made_at {cs:List Ch} {z:Int} (hz:0≤z∧z≤1000) (h:vget [] cs (cnm o1)=(cvs ⟨0,0,z⟩,true)):madeE [] cs o1=(⟨0,0,z⟩,0)∧(vget [] cs (cnm o1)).1.size≤1099511627776:=by
 have hc:CtOK ⟨0,0,z⟩:=⟨Int.le_refl 0,by show (0:Int)≤1048576;decide,Int.le_refl 0,by show (0:Int)≤1048576;decide,hz.1,by show z≤1048576;omega⟩
 have:=UA hc
 rw [madeE,if_pos Y7,h]
 refine ⟨?_,by dsimp only;omega⟩
 simp only [if_true,enc_cdec hc]
 rfl
theorem vA_p (x:ByteArray):vget [] cA (pnm x)=if x=o1 then (pencS YF,true) else (⟨#[]⟩,false):=by
 unfold cA
 by_cases h:x=o1
 ·subst h
  rw [if_pos rfl,Wo rfl (Wm Y7)];rfl
 ·rw [if_neg h,Yd (fun e=>h (by simpa [pnm] using e.symm)),Vu]
theorem vA_o (n:Nm) (h1:n.kind≠1):vget [] cA n=(⟨#[]⟩,false):=by
 unfold cA
 rw [Yd (fun e=>h1 (by rw [←e];rfl)),Vu]
theorem d1:c11≠o1:=by decide
theorem d2:c12≠o1:=by decide
theorem d3:c11≠c12:=by decide
theorem q4_chk:pchk q4=0:=pr_chk (by decide) (by decide) (fun h=>by cases h) Yb
theorem q5_chk:pchk q5=0:=pr_chk (by decide) (by decide) (fun h=>by cases h) Yb
theorem k11_chk:pchk (kidP YF c11)=0:=pr_chk (by decide) (by decide) (fun _=>rfl) Yb
set_option maxHeartbeats 4000000 in
theorem known35_ok:Enters 10∧Spec prog 10 #[] [Usg,P10] [] (RetV (.bool true)):=by
 have hne:isE o1=false:=by simp [isE,o1,Zz]
 have i1:(Lib.itoa 1).length≤100:=by rw [itoa1];decide
 have i2:(Lib.itoa 2).length≤100:=by rw [itoa2];decide
 have a1:PrAt [] cA o1 YF:=one_at (by rw [vA_p,if_pos rfl]) (vA_o _ (by decide))
 have a2:madeE [] cA o1=(⟨0,0,0⟩,0):=by rw [madeE,if_pos Y7,vA_o _ (by decide)];rfl
 have f1:=fun v s rs=>fork2_ok (fork_ok v (some ⟨s,0,none⟩) [] rs cA o1 YF a1 rfl rfl ⟨0,0,0⟩ a2 (by rw [vA_o _ (by decide)];exact Nat.zero_le _) ⟨by decide,by decide,by decide,by decide,by decide,by decide⟩ (by decide) Wz hne i1 (by show lvalid (chN o1 1).data.toList=true;rw [chN1];exact Yb) (by show (chN o1 1).size≤_;rw [chN1];decide)
  (by show (vget [] cA (pnm (chN o1 1))).2=false;rw [chN1,vA_p,if_neg d1]) (by rw [vA_o _ (by decide)]) (fun i=>by rw [vA_o _ (by simp [gnm])]) (by decide))
 rw [show chN o1 ((Ct.mk 0 0 0).c+1)=c11 from chN1,show frkC cA o1 c11 ⟨0,0,0⟩ YF=cB from rfl] at f1
 have b1:PrAt [] cB o1 YF:=one_at (by unfold cB;rw [vF_p Yb,if_neg (fun e=>d1 e.symm),vA_p,if_pos rfl]) (by unfold cB;rw [vF_o _ (by decide) (by decide),vA_o _ (by decide)])
 obtain ⟨b2,b3⟩:=made_at (cs:=cB) (z:=1) (by decide) (by unfold cB;rw [vF_c Y7];rfl)
 have f2:=fun v s rs=>fork2_ok (fork_ok v (some ⟨s,0,none⟩) [] rs cB o1 YF b1 rfl rfl ⟨0,0,1⟩ b2 b3 ⟨by decide,by decide,by decide,by decide,by decide,by decide⟩ (by decide) Wz hne i2 (by show lvalid (chN o1 2).data.toList=true;rw [chN2];exact Ug) (by show (chN o1 2).size≤_;rw [chN2];decide)
  (by show (vget [] cB (pnm (chN o1 2))).2=false;unfold cB;rw [chN2,vF_p Yb,if_neg (fun e=>d3 e.symm),vA_p,if_neg d2]) (by unfold cB;rw [vF_o _ (by decide) (by decide),vA_o _ (by decide)]) (fun i=>by unfold cB;rw [vF_o _ (by simp [gnm]) (by simp [gnm]),vA_o _ (by simp [gnm])]) (by decide))
 rw [show chN o1 ((Ct.mk 0 0 1).c+1)=c12 from chN2,show frkC cB o1 c12 ⟨0,0,1⟩ YF=cC from rfl] at f2
 have e1:vget [] cC enm=(⟨#[]⟩,false):=by unfold cC cB;rw [vF_o _ (by decide) (by decide),vF_o _ (by decide) (by decide),vA_o _ (by decide)]
 have e2:vget [] cC (pnm o1)=(pencS YF,true):=by unfold cC cB;rw [vF_p Ug,if_neg (fun e=>d2 e.symm),vF_p Yb,if_neg (fun e=>d1 e.symm),vA_p,if_pos rfl]
 have e3:vget [] cC (pnm c11)=(pencS (kidP YF c11),true):=by unfold cC cB;rw [vF_p Ug,if_neg d3,vF_p Yb,if_pos rfl]
 have e4:vget [] cC (cnm o1)=(cvs ⟨0,0,2⟩,true):=by unfold cC;rw [vF_c Y7];rfl
 have hpo:pnm c11≠pnm o1:=fun e=>d1 (by simpa [pnm] using e)
 have hpe:pnm c11≠enm:=by simp [pnm,enm]
 have hpc:pnm c11≠cnm o1:=by simp [pnm,cnm]
 have g1:vget [] cD enm=(⟨#[]⟩,false):=by unfold cD;rw [Yd hpe];exact e1
 have g2:vget [] cD (pnm o1)=(pencS YF,true):=by unfold cD;rw [Yd hpo];exact e2
 have g3:vget [] cD (pnm c11)=(pencS q4,true):=by unfold cD;rw [Wo rfl (Wm Yb)];rfl
 have g4:vget [] cD (cnm o1)=(cvs ⟨0,0,2⟩,true):=by unfold cD;rw [Yd hpc];exact e4
 have h1:vget [] cE enm=(⟨#[]⟩,false):=by unfold cE;rw [Yd hpe];exact g1
 have h2:vget [] cE (pnm o1)=(pencS YF,true):=by unfold cE;rw [Yd hpo];exact g2
 have h3:vget [] cE (pnm c11)=(pencS q5,true):=by unfold cE;rw [Wo rfl (Wm Yb)];rfl
 have h4:vget [] cE (cnm o1)=(cvs ⟨0,0,2⟩,true):=by unfold cE;rw [Yd hpc];exact g4
 obtain ⟨m1,m2⟩:=made_at (z:=2) (by decide) e4
 obtain ⟨m3,m4⟩:=made_at (z:=2) (by decide) g4
 obtain ⟨m5,m6⟩:=made_at (z:=2) (by decide) h4
 have k1:PrAt [] cC c11 (kidP YF c11):=kid_at k11_chk rfl rfl rfl e3 e1
 have k2:PrAt [] cD c11 q4:=kid_at q4_chk rfl rfl rfl g3 g1
 have k3:PrAt [] cE c11 q5:=kid_at q5_chk rfl rfl rfl h3 h1
 have w1:=fun v s rs=>Vj v (some ⟨s,0,none⟩) [] rs cC o1 YF (one_at e2 e1) ⟨0,0,2⟩ m1 m2 1 (by decide) (by decide) Wz hne i1 (kidP YF c11) (by rw [chN1];exact k1) (by decide) (fun h=>by cases h)
 have x1:=fun v s rs=>proExit_ok v (some ⟨s,0,none⟩) [] rs cC c11 (kidP YF c11) k1 rfl 9 (by decide) q4_chk (by decide)
 have w2:=fun v s rs=>Vj v (some ⟨s,0,none⟩) [] rs cD o1 YF (one_at g2 g1) ⟨0,0,2⟩ m3 m4 1 (by decide) (by decide) Wz hne i1 q4 (by rw [chN1];exact k2) (by decide) (fun _=>q5_chk)
 have w3:=fun v s rs=>Vj v (some ⟨s,0,none⟩) [] rs cE o1 YF (one_at h2 h1) ⟨0,0,2⟩ m5 m6 1 (by decide) (by decide) Wz hne i1 q5 (by rw [chN1];exact k3) (by decide) (fun h=>by cases h)
 rw [show (kidP YF c11).st=1 from rfl] at w1
 rw [show q4.st=2 from rfl,show q4.cd=9 from rfl,chN1] at w2
 rw [show q5.st=3 from rfl] at w3
 simp only [show ¬(1:Int)=2 by decide,if_false,if_true] at w1
 simp only [show ¬(2:Int)=1 by decide,show ¬(2:Int)=3 by decide,if_false,if_true] at w2
 simp only [show ¬(3:Int)=2 by decide,show ¬(3:Int)=1 by decide,if_false,if_true] at w3
 rw [show (cC++[⟨pnm c11,pencS {kidP YF c11 with st:=2,cd:=9},false⟩]:List Ch)=cD from rfl] at x1
 clear a1 a2 b1 b2 b3 e1 e2 e3 e4 g1 g2 g3 g4 h1 h2 h3 h4 m1 m2 m3 m4 m5 m6 k1 k2 k3
 have n0:=begun_ok
 generalize cC=sC at *
 generalize cB=sB at *
 generalize cA=sA at *
 have y1:(c11.toList == (⟨#[49,46,49]⟩:ByteArray).toList)=true:=by simp [c11]
 have y2:(c12.toList == (⟨#[49,46,50]⟩:ByteArray).toList)=true:=by simp [c12]
 refine ZH [] func10 ntmps10 fun G w hp=>?_
 repeat' (first|refine ZC ?_|refine ZB ?_|refine ZU ?_|refine ZD ?_|refine ZE ?_|refine ZA (n0) (fun _ _=>?_)|refine ZA (f1 _ _ _) (fun _ _=>?_)|refine ZA (f2 _ _ _) (fun _ _=>?_)|refine ZA (w1 _ _ _) (fun _ _=>?_)|refine ZA (x1 _ _ _) (fun _ _=>?_)|refine ZA (w2 _ _ _) (fun _ _=>?_)|refine ZA (w3 _ _ _) (fun _ _=>?_)|rw [y1]|rw [y2]|fail)
 all_goals (refine ZG () ?_ trivial;simp [RetV,resV])
variable {n:Nat} {C:Cx} {Q:Exit→Act→World→Prop} {E E':List (Nat×Value)} {F F' F1 Fs F0:List Pf} {R R' R0 Rs N N' A:List HP} {k k':List Fr} {ops l:List Oper} {L L':List (Nat×Nat)} {Tl:List Nat} {i d:Nat} {t ty0:TypeId} {x y:Operand} {pos:String} {aft:Array Edge} {gd:Option (Nat×Bool)}
section
variable {t2:TypeId} {y2:Operand} {xs ys:Array Value}
theorem run_sLH2 {s:ByteArray} {z1 z2:Int} {rs:TRow} {w:World} (lo hi:Nat) (h1:lo≤hi) (h2:hi≤s.size) (hts:lookT tab t=some rs) (hrs:rs.k = .str) (hz1:z1=(lo:Int)) (hz2:z2=(hi:Int)):(Instr.sliceAt t (.string s) (some (.int .i64 z1)) (some (.int .i64 z2)) none).run prog w = .ok (.string (s.extract lo hi)) w:=by
 subst hz1 hz2
 have hu:=Yp (w:=w) hts hrs
 have hb2:(Instr.sliceBound (.int .i64 (hi:Int)) s.size .sliceAlen).run prog w = .ok hi w:=by
  simp only [Instr.sliceBound,asIntOf,Sem.run_bind,Sem.run_pure,Result.andThen]
  rw [if_pos ⟨by omega,by omega⟩]
  simp
 have hb1:∀e,(Instr.sliceBound (.int .i64 (lo:Int)) hi e).run prog w = .ok lo w:=fun e=>by
  simp only [Instr.sliceBound,asIntOf,Sem.run_bind,Sem.run_pure,Result.andThen]
  rw [if_pos ⟨by omega,by omega⟩]
  simp
 simp [Instr.sliceAt,Instr.slice,Instr.sliceBounds,Sem.run_bind,hu,Result.andThen,hb1,hb2]
theorem l_sLH2 {s:ByteArray} {z1 z2:Int} {rs:TRow} (lo hi:Nat) (h1:lo≤hi) (h2:hi≤s.size) (nx:Wl n C ops.toArray k Q l ((d,.string (s.extract lo hi))::E) F R)
  (hw:wantL ops E ⟨some d,.slice t x (some y) (some y2) none,ty0,pos,aft,gd⟩=some true:=by rfl) (hn:Nat.blt d n=true:=by rfl) (hx:ev E x=some (.string s):=by rfl) (hy:ev E y=some (.int .i64 z1):=by rfl) (hy2:ev E y2=some (.int .i64 z2):=by rfl)
  (hts:lookT tab t=some rs:=by rfl) (hrs:rs.k = .str:=by rfl) (hz1:z1=(lo:Int):=by first|rfl|omega) (hz2:z2=(hi:Int):=by first|rfl|omega):Wl n C ops.toArray k Q (⟨some d,.slice t x (some y) (some y2) none,ty0,pos,aft,gd⟩::l) E F R:=
 l_q (fun a w ha=>by
  simp only [execOp,Option.map_some,Option.map_none,ha.ev (x:=x) (by rw [ZL];exact hx),ha.ev (x:=y) (by rw [ZL];exact hy),ha.ev (x:=y2) (by rw [ZL];exact hy2),Sem.run_bind,run_sLH2 (w:=w) lo hi h1 h2 hts hrs hz1 hz2,Result.andThen,Sem.run_pure]) nx (by intro c h;cases h) hw hn
theorem r_sH {s:ByteArray} {z:Int} {rs:TRow} (hi:Nat) (hle:hi≤s.size) (nx:Wr n C ops k Q Tl Fs R L ((d,.string (s.extract 0 hi))::E) F N)
  (ho:nth ops i=some ⟨some d,.slice t x none (some y) none,ty0,pos,aft,gd⟩:=by rfl) (hw:wantL ops E ⟨some d,.slice t x none (some y) none,ty0,pos,aft,gd⟩=some true:=by rfl) (hx:ev E x=some (.string s):=by rfl) (hy:ev E y=some (.int .i64 z):=by rfl)
  (hts:lookT tab t=some rs:=by rfl) (hrs:rs.k = .str:=by rfl) (hz:z=(hi:Int):=by first|rfl|omega):Wr n C ops k Q Tl Fs R ((i,0)::L) E F N:=
 r_q (fun a w ha=>by
  simp only [execOp,Option.map_some,Option.map_none,ha.ev (x:=x) (by rw [ZL];exact hx),ha.ev (x:=y) (by rw [ZL];exact hy),Sem.run_bind,run_scut (w:=w) hi hle hts hrs hz,Result.andThen,Sem.run_pure]) nx ho hw
end
def eqS35:List Nat:=[58]
section
variable {t2:TypeId} {xs ys:Array Value}
end
def kid35:Pr:=kidS false YF YF c11
structure FJ (i:Nat) (cs:List Ch) (w0 w1:ByteArray):Prop where
 a:PrAt [] cs o1 YF
 b:PrAt [] cs c11 kid35
 m0:memS [] cs o1 2=w0
 m1:memS [] cs c11 2=w1
 l:cs.length≤300+64 * i
section
variable (ec:ByteArray) (tx:ByteArray)
def fk1:List Ch:=cA++[⟨rnm o1,ec,false⟩]
def fk2:List Ch:=putS [] (fk1 ec) o1 2 20 tx
def fk3:List Ch:=spC [] (fk2 ec tx) o1 c11 ⟨0,0,0⟩ YF kid35
end
def imPg (x:Im):List ByteArray:=(List.range (nPg x)).map fun i=>(imMem x).extract (64 * i) (64 * i+64)
theorem WI (x:Im):(imPg x).length=nPg x:=by simp [imPg]
theorem imPg_get {x:Im} {i:Nat} (h:i<nPg x):(imPg x)[i]? = some ((imMem x).extract (64 * i) (64 * i+64)):=by
 unfold imPg;rw [List.getElem?_map,List.getElem?_range h];rfl
theorem imPg_take {x:Im} {i:Nat} (h:i<nPg x):(imPg x).take (i+1)=(imPg x).take i++[(imMem x).extract (64 * i) (64 * i+64)]:=by
 rw [List.take_add_one,imPg_get h];rfl
theorem imPg_size {x:Im} (h0:imgC x=0) {s:ByteArray} (h:s ∈ imPg x):s.size=64:=by
 unfold imPg at h
 obtain ⟨i,hi,rfl⟩:=List.mem_map.1 h
 have:=(Yw x h0).1
 rw [List.mem_range] at hi
 rw [ByteArray.size_extract];omega
abbrev sV:ByteArray→Value:=fun s=>.string s
section
variable (x:Im) (hc:x.co.size≤1099511627776) (hd:x.da.size≤1099511627776) (h0:imgC x=0)
include hc hd h0
theorem pages_iter27 (b1:Nat):Iter 202 [.pointer (some ⟨b1,0,none⟩)] sV (imPg x) [Blk b1 (.cells #[.string x.co,.string x.da,.int .i64 x.ze,.int .i64 x.en] 74)] []:=by
 intro v Y I Ix hy
 have n1:=imMem_ok x hc hd h0
 have hsz:=Yw x h0
 have hpt:=fun i=>imPg_take (x:=x) (i:=i)
 have hln:=WI x
 generalize imMem x=M at *
 generalize nPg x=np at *
 generalize imPg x=L at *
 obtain ⟨co,da,ze,en⟩:=x
 simp only [Im.v] at *
 clear h0
 refine ZH [_,_] func202 ntmps202 fun G w hp=>?_
 repeat' (first|refine ZC ?_|refine ZB ?_|refine ZD ?_|refine Z9 ?_|refine ZA (n1) (fun _ _=>?_)|fail)
 refine YH (X:={i:Nat // i≤np}) (fun i=>[(0,v),(3,.string M),(4,.int .i64 ((64 * i.1:Nat):Int))]) (fun _=>[Y]) (fun i=>[I (L.take i.1)]) (fun i=>np - i.1) ⟨0,Nat.zero_le _⟩ ⟨rfl,rfl,rfl,trivial⟩ ?_
 rintro ⟨i,hi⟩
 dsimp only at hi ⊢
 by_cases hlt:i<np
 ·have w1:IntKind.i64.wrap (((64 * i:Nat):Int)+64)=((64 * (i+1):Nat):Int):=by rw [wrapi (by omega) (by omega)];omega
  have hp:=hpt i hlt
  have hpre:L.take i++[M.extract (64 * i) (64 * i+64)] <+: L:=by rw [←hp];exact List.take_prefix _ _
  have hlo:64 * i≤64 * (i+1):=by omega
  have hhi:64 * (i+1)≤M.size:=by omega
  have hcd:decide (((64 * i:Nat):Int)<(M.size:Int))=true:=by simp;omega
  repeat' (first|refine ZC ?_|refine ZB ?_|refine ZD ?_|refine ZJ ?_|rw [hcd]|rw [w1]|refine l_sLH2 (64 * i) (64 * (i+1)) hlo hhi ?_|fail)
  refine l_callV (vs:=[sV (M.extract (64 * i) (64 * i+64))]) (hy _ _ hpre) (fun bb _=>?_)
  cases bb with
  | false=>
   repeat' (first|refine ZC ?_|refine ZB ?_|refine ZJ ?_|fail)
   exact Y5 (XK (YS (some (L.take i++[M.extract (64 * i) (64 * i+64)])) rfl (fun q hq=>by cases hq;exact hpre)))
  | true=>
   repeat' (first|refine ZC ?_|refine ZB ?_|refine ZD ?_|refine ZE ?_|rw [w1]|fail)
   exact ZW ⟨i+1,by omega⟩ (by show np - (i+1)<np - i;omega) ⟨rfl,rfl,rfl,trivial⟩ (hr:=by dsimp only;rw [hp];(repeat (first|exact Sels.nil|exact Sel.here|apply Sel.there|apply Sels.cons)))
 ·obtain rfl:i=np:=by omega
  have hcd:decide (((64 * i:Nat):Int)<(M.size:Int))=false:=by simp;omega
  rw [List.take_of_length_le (by omega)]
  repeat' (first|refine ZC ?_|refine ZB ?_|refine ZD ?_|refine ZE ?_|refine Zn ?_|rw [hcd]|fail)
  exact XU none rfl (fun q hq=>by cases hq)
omit hc hd h0 in
theorem pagesF_ok:Enters 172∧Spec prog 172 #[x.v] [] []
  ⟨Nat,fun b=>.func (.func 202) #[] #[.pointer (some ⟨b,0,none⟩)],fun _=>True,fun b=>[Blk b (.cells #[.string x.co,.string x.da,.int .i64 x.ze,.int .i64 x.en] 74)],fun _=>[]⟩:=by
 obtain ⟨co,da,ze,en⟩:=x
 simp only [Im.v]
 refine ZH [_] func172 ntmps172 fun G w hp=>?_
 repeat' (first|refine ZC ?_|refine ZB ?_|refine ZD ?_|refine ZN (fun b=>?_)|fail)
 refine k_fz (b:=b) ?_
 exact ZG b rfl trivial
def PgRw (b:Nat) (l:List ByteArray):HP:=fun h=>∃q:Option Addr×Nat,True∧Sep [Pt b (.cells #[.slice q.1 l.length q.2] 157),Row 9 1 q.1 l.length q.2 (l.flatMap sf1)] h
theorem pagesL_ok:Enters 144∧Spec prog 144 #[x.v] [] []
  ⟨Option Addr×Nat,fun q=>.slice q.1 (imPg x).length q.2,fun _=>True,fun _=>[],fun q=>[Row 9 1 q.1 (imPg x).length q.2 ((imPg x).flatMap sf1)]⟩:=by
 have n1:=pagesF_ok x
 have hit:=pages_iter27 x hc hd h0
 have hln:=WI x
 have hnp:=(Yw x h0).2
 generalize imPg x=L at *
 generalize nPg x=np at *
 obtain ⟨co,da,ze,en⟩:=x
 simp only [Im.v] at *
 clear h0
 refine ⟨enters_of func144 (by kernel_rfl) rfl,UG (vs:=[_]) func144 rfl ntmps144 rfl fun G w hp=>?_⟩
 repeat' (first|refine ZC ?_|refine ZB ?_|refine ZD ?_|refine ZP ?_|refine ZN (fun b=>?_)|refine ZA (n1) (fun _ _=>?_)|fail)
 rename_i b1 _ _
 refine Zq (r:=Row 9 1 none 0 0 []) (Lx:=[]) (fun h _=>YX _ _ h) ?_
 refine Zq (r:=PgRw b []) (Lx:=[Pt b (.cells #[.slice none 0 0] 157),Row 9 1 none 0 0 []]) (fun h hh=>⟨(none,0),trivial,hh⟩) ?_
 refine k_range (α:=ByteArray) (enc:=sV) (xs:=L) (fun pre=>PgRw b pre) (fun _ _=>False) (hit _) ?_ ?_ ?_
 ·intro lr l pre e hpre G w0 hp0
  dsimp only
  have hpl:pre.length≤64:=by
   have h1:=hpre.length_le
   simp only [List.length_append,List.length_singleton] at h1;omega
  refine Ye (X:=Option Addr×Nat) (Lx:=fun q=>[Pt b (.cells #[.slice q.1 pre.length q.2] 157),Row 9 1 q.1 pre.length q.2 (pre.flatMap sf1)]) (p:=fun _=>True) (r:=PgRw b pre) (.there .here) (fun h hh=>hh) (fun q _=>?_)
  obtain ⟨o,cap⟩:=q
  generalize b=bb at *
  repeat' (first|refine ZC ?_|refine ZB ?_|refine ZD ?_|refine ZP ?_|refine ZS ?_|refine Yo (fun b=>?_)|refine k_beg ?_|refine W2 (fun o' cap'=>?_)|fail)
  refine Wh (T:=9) (sz:=1) (o:=o') (cap:=cap') (m:=pre.length+1) (m':=(pre++[e]).length) (pre.flatMap sf1++sf1 e) ((pre++[e]).flatMap sf1) (by simp) (by simp) ?_
  refine Zq (r:=PgRw bb (pre++[e])) (Lx:=[Pt bb (.cells #[.slice o' (pre++[e]).length cap'] 157),Row 9 1 o' (pre++[e]).length cap' ((pre++[e]).flatMap sf1)]) (fun h hh=>⟨(o',cap'),trivial,hh⟩) ?_ (by rw [List.length_append];(repeat (first|exact Sels.nil|exact Sel.here|apply Sel.there|apply Sels.cons)))
  exact k_rn
 ·intro D
  dsimp only
  refine Ye (X:=Option Addr×Nat) (Lx:=fun q=>[Pt b (.cells #[.slice q.1 L.length q.2] 157),Row 9 1 q.1 L.length q.2 (L.flatMap sf1)]) (p:=fun _=>True) (r:=PgRw b L) .here (fun h hh=>hh) (fun q _=>?_)
  obtain ⟨o,cap⟩:=q
  repeat' (first|refine ZC ?_|refine ZB ?_|refine ZD ?_|refine ZP ?_|fail)
  exact k_retM (o,cap) rfl trivial
 ·intro D pre hpre
  exact w_open (X:=Empty) (Lx:=fun _=>[]) (p:=fun _=>False) .here (fun h hh=>hh.elim) (fun q hq=>hq.elim)
end
theorem digs_stop {D:List UInt8} {c:UInt8} {t:List UInt8} (h1:∀x ∈ D,isDig x=true) (h2:D.length≤6) (h3:isDig c=false):digs (D++c::t)=D:=by
 unfold digs
 have:(D++c::t).take 7=D++(c::t).take (7 - D.length):=by
  rw [List.take_append,List.take_of_length_le (by omega)]
 rw [this]
 obtain ⟨m,hm⟩:∃m,7 - D.length=m+1:=⟨6 - D.length,by omega⟩
 rw [hm,List.take_succ_cons,List.takeWhile_append_of_pos h1,List.takeWhile_cons,h3]
 simp
theorem digs_self {D:List UInt8} (h1:∀x ∈ D,isDig x=true) (h2:D.length≤6):digs D=D:=by
 unfold digs
 rw [List.take_of_length_le (by omega)]
 have:=List.takeWhile_append_of_pos (l₂:=[]) h1
 simpa using this
theorem dot_nd:isDig 46=false:=by decide
theorem dropW_nd2 {p:UInt8→Bool}:∀(l:List UInt8) {c:UInt8} {r:List UInt8},l.dropWhile p=c::r→p c=false
 | [],_,_,h=>by cases h
 | x::l,c,r,h=>by
  rw [List.dropWhile_cons] at h
  split at h
  ·exact dropW_nd2 l h
  ·rename_i hx
   cases h
   simpa using hx
theorem digs_split {l:List UInt8} (h:(digs l).length≤6):l=digs l∨∃c t,l=digs l++c::t∧isDig c=false:=by
 have h1:=List.takeWhile_append_dropWhile (p:=isDig) (l:=l.take 7)
 cases hd:(l.take 7).dropWhile isDig with
 | nil=>
  rw [hd,List.append_nil] at h1
  have h2:digs l=l.take 7:=h1
  left
  rw [h2] at h ⊢
  rw [List.length_take] at h
  rw [List.take_of_length_le (by omega)]
 | cons c r=>
  rw [hd] at h1
  right
  refine ⟨c,r++l.drop 7,?_,dropW_nd2 _ hd⟩
  have h2:digs l++c::r=l.take 7:=h1
  rw [←List.cons_append,←List.append_assoc,h2,List.take_append_drop]
theorem ferr_app {l r:List UInt8} {count:Nat} (h:ferr l count=0):ferr (l++46::r) count=0∧digs (l++46::r)=digs l∧count≠8:=by
 unfold ferr at h
 have h8:count≠8:=fun e=>by rw [if_pos e] at h;cases h
 rw [if_neg h8] at h
 have hl:l≠[]:=fun e=>by rw [if_pos e] at h;cases h
 rw [if_neg hl] at h
 have hd:digs l≠[]:=fun e=>by rw [if_pos e] at h;cases h
 rw [if_neg hd] at h
 have h48:l.head?≠some 48:=fun e=>by rw [if_pos e] at h;cases h
 rw [if_neg h48] at h
 have h6:¬6<(digs l).length:=fun e=>by rw [if_pos e] at h;cases h
 have hdg:digs (l++46::r)=digs l:=by
  rcases digs_split (l:=l) (by omega) with e|⟨c,t,e,hc⟩
  ·conv=>lhs;rw [e]
   exact digs_stop (W9 l) (by omega) dot_nd
  ·conv=>lhs;rw [e]
   rw [List.append_assoc,List.cons_append]
   exact digs_stop (W9 l) (by omega) hc
 refine ⟨?_,hdg,h8⟩
 unfold ferr
 rw [if_neg h8,if_neg (by simp),hdg,if_neg hd,if_neg (by rw [List.head?_append];cases l with|nil=>exact absurd rfl hl|cons a l=>simpa using h48),if_neg h6]
theorem prts_eq (l:List UInt8) (pos count:Nat):prts l pos count=if ferr l count≠0 then [⟨0,pos,ferr l count⟩] else match l.drop (digs l).length with
  | []=>[⟨dnum (digs l),pos,0⟩]
  | c::rest=>if c≠46 then [⟨dnum (digs l),pos,0⟩,⟨0,pos+(digs l).length,6⟩] else ⟨dnum (digs l),pos,0⟩::prts rest (pos+(digs l).length+1) (count+1):=by
 conv=>lhs;unfold prts
 split
 ·rfl
 ·split
  ·rename_i h0;rw [h0]
  ·rename_i h0;rw [h0]
theorem prts_end {l D:List UInt8} {pos count:Nat} (hf:ferr l count=0) (hd:digs l=D) (h:l.drop D.length=[]):prts l pos count=[⟨dnum D,pos,0⟩]:=by
 rw [prts_eq,if_neg (by simp [hf]),hd,h]
theorem prts_dot {l D t:List UInt8} {pos count:Nat} (hf:ferr l count=0) (hd:digs l=D) (h:l.drop D.length=46::t):prts l pos count=⟨dnum D,pos,0⟩::prts t (pos+D.length+1) (count+1):=by
 rw [prts_eq,if_neg (by simp [hf]),hd,h]
 simp
theorem prts_bad {l D t:List UInt8} {c:UInt8} {pos count:Nat} (hf:ferr l count=0) (hd:digs l=D) (h:l.drop D.length=c::t) (hc:c≠46):prts l pos count=[⟨dnum D,pos,0⟩,⟨0,pos+D.length,6⟩]:=by
 rw [prts_eq,if_neg (by simp [hf]),hd,h]
 simp [hc]
theorem prts_app (r:List UInt8):∀(n:Nat) (l:List UInt8) (pos count:Nat),l.length≤n→(prts l pos count).all (fun p=>p.e == 0)=true→
  prts (l++46::r) pos count=prts l pos count++prts r (pos+l.length+1) (count+(prts l pos count).length)
 | n,l,pos,count,hn,h=>by
  have hf:ferr l count=0:=by
   by_cases hf:ferr l count=0
   ·exact hf
   ·exfalso
    rw [prts_eq,if_pos hf] at h
    simp at h
    exact hf h
  obtain ⟨hf2,hd2,h8⟩:=ferr_app (r:=r) hf
  have h6:(digs l).length≤6:=by
   unfold ferr at hf
   split at hf;cases hf
   split at hf;cases hf
   split at hf;cases hf
   split at hf;cases hf
   split at hf;cases hf
   omega
  generalize hD:digs l=D at *
  rcases digs_split (l:=l) (by rw [hD];exact h6) with e|⟨c,t,e,hc⟩
  ·rw [hD] at e
   subst e
   rw [prts_end hf hD (by simp),prts_dot (t:=r) hf2 hd2 (by simp)]
   rfl
  ·rw [hD] at e
   have hlen:l.length=D.length+(t.length+1):=by have:=congrArg List.length e;simpa using this
   have d1:l.drop D.length=c::t:=by rw [e];simp
   have d2:(l++46::r).drop D.length=c::(t++46::r):=by rw [e];simp
   by_cases h46:c=46
   ·subst h46
    rw [prts_dot hf hD d1] at h ⊢
    simp only [List.all_cons,Bool.and_eq_true] at h
    rw [prts_dot hf2 hd2 d2]
    match n,hn with
    | 0,hn=>omega
    | n+1,hn=>
     rw [prts_app r n t _ (count+1) (by omega) h.2]
     simp only [List.cons_append,List.length_cons]
     congr 2
     rw [hlen]
     congr 1<;>omega
   ·rw [prts_bad hf hD d1 h46] at h
    simp at h
theorem decD_all:∀n:Nat,(∀c ∈ Lib.decDigits n,isDig c=true)∧Lib.decDigits n≠[]∧(0<n→(Lib.decDigits n).head?≠some 48):=by
 intro n
 induction n using Nat.strongRecOn with
 | _ n ih=>
  rw [Lib.decDigits]
  split
  ·rename_i h
   refine ⟨fun c hc=>?_,by simp,fun h0=>?_⟩
   ·simp only [List.mem_singleton] at hc
    subst hc
    exact (show ∀d<10,isDig (UInt8.ofNat (48+d))=true by decide) n h
   ·simp only [List.head?_cons]
    exact (show ∀d<10,0<d→¬some (UInt8.ofNat (48+d))=some 48 by decide) n h h0
  ·rename_i h
   obtain ⟨i1,i2,i3⟩:=ih (n / 10) (by omega)
   refine ⟨fun c hc=>?_,by simp,fun _=>?_⟩
   ·rcases List.mem_append.1 hc with hc|hc
    ·exact i1 c hc
    ·simp only [List.mem_singleton] at hc
     subst hc
     exact (show ∀d<10,isDig (UInt8.ofNat (48+d))=true by decide) (n % 10) (by omega)
   ·have:=i3 (by omega)
    cases hh:Lib.decDigits (n / 10) with
    | nil=>exact absurd hh i2
    | cons a l=>rw [hh] at this;simpa using this
theorem decD_len:∀(k n:Nat),n<10 ^ (k+1)→(Lib.decDigits n).length≤k+1
 | 0,n,h=>by rw [Lib.decDigits,dif_pos (by omega)];simp
 | k+1,n,h=>by
  rw [Lib.decDigits]
  split
  ·simp
  ·have:=decD_len k (n / 10) (by rw [Nat.pow_succ] at h;omega)
   simp only [List.length_append,List.length_cons,List.length_nil]
   omega
theorem Ul {k:Int} (h:1≤k∧k≤999999):(∀c ∈ Lib.itoa k,isDig c=true)∧Lib.itoa k≠[]∧(Lib.itoa k).head?≠some 48∧(Lib.itoa k).length≤6:=by
 obtain ⟨h1,h2,h3⟩:=decD_all k.toNat
 have h4:=decD_len 5 k.toNat (by omega)
 unfold Lib.itoa
 rw [if_neg (by omega)]
 exact ⟨h1,h2,h3 (by omega),h4⟩
theorem prts_itoa {k:Int} (h:1≤k∧k≤999999) (pos count:Nat) (hc:count≠8):(prts (Lib.itoa k) pos count).all (fun p=>p.e == 0)=true∧(prts (Lib.itoa k) pos count).length=1:=by
 obtain ⟨h1,h2,h3,h4⟩:=Ul h
 generalize Lib.itoa k=D at *
 have hd:=digs_self h1 h4
 have hf:ferr D count=0:=by
  unfold ferr
  rw [if_neg hc,if_neg h2,hd,if_neg h2,if_neg h3,if_neg (by omega)]
 have e:prts D pos count=[⟨dnum D,pos,0⟩]:=prts_end hf hd (by simp)
 rw [e]
 exact ⟨rfl,rfl⟩
theorem chN_valid {who:ByteArray} {k:Int} (hv:lvalid who.data.toList=true) (hne:isE who=false) (h:1≤k∧k≤999999) (hd:(lords who.data.toList).length≠8):lvalid (chN who k).data.toList=true:=by
 have hl:who.data.toList≠[]:=fun e=>by
  rw [isE,beqSv] at hne
  simp only [decide_eq_false_iff_not] at hne
  exact hne (XT (by rw [e]))
 have e1:(chN who k).data.toList=who.data.toList++46::Lib.itoa k:=by
  unfold chN
  simp [ByteArray.data_append]
 rw [lords,if_pos hv,List.length_map] at hd
 rw [e1]
 unfold lvalid lparts at *
 rw [if_neg hl] at hv hd
 rw [if_neg (by simp),prts_app _ _ _ _ _ (Nat.le_refl _) hv,List.all_append,hv,(prts_itoa h _ _ (by omega)).1]
 rfl

section
open VP
def childE (who:ByteArray) (k:Int):ByteArray×Int:=if lvalid who.data.toList=false then (⟨#[]⟩,12) else if ¬(1≤k∧k≤999999) then (⟨#[]⟩,2) else if (lords who.data.toList).length=8 then (⟨#[]⟩,9) else (chN who k,0)
theorem YD {who:ByteArray} {k:Int} (hne:isE who=false) (h:(childE who k).2=0):childE who k=(chN who k,0)∧lvalid who.data.toList=true∧(1≤k∧k≤999999)∧lvalid (chN who k).data.toList=true∧(chN who k).size≤56:=by
 unfold childE at *
 by_cases h1:lvalid who.data.toList=false
 ·rw [if_pos h1] at h;cases h
 ·rw [if_neg h1] at h ⊢
  by_cases h2:¬(1≤k∧k≤999999)
  ·rw [if_pos h2] at h;cases h
  ·rw [if_neg h2] at h ⊢
   by_cases h3:(lords who.data.toList).length=8
   ·rw [if_pos h3] at h;cases h
   ·rw [if_neg h3]
    simp only [Bool.not_eq_false] at h1
    simp only [Decidable.not_not] at h2
    have hv:=chN_valid h1 hne h2 h3
    exact ⟨rfl,h1,h2,hv,lv_size hv⟩
theorem XG (who:ByteArray) (k:Int) (hw:who.size≤1000) (hne:isE who=false):Enters 12∧Spec prog 12 #[.string who,.int .i64 k] [P10] [] (RetV (.tuple #[.string (childE who k).1,.int .i64 (childE who k).2])):=by
 have n0:=Zu who (by omega)
 have n1:=isOrd_ok k
 have n2:=depth_ok who (by omega)
 unfold childE
 by_cases h1:lvalid who.data.toList=false
 ·rw [if_pos h1]
  rw [h1] at n0
  refine ZH [_,_] func12 ntmps12 fun G w hp=>?_
  repeat' (first|refine ZC ?_|refine ZB ?_|refine ZD ?_|refine ZJ ?_|refine ZA (n0) (fun _ _=>?_)|fail)
  exact ZG () rfl trivial
 ·rw [if_neg h1]
  simp only [Bool.not_eq_false] at h1
  rw [h1] at n0
  by_cases h2:¬(1≤k∧k≤999999)
  ·rw [if_pos h2]
   rw [show (decide (1≤k) && decide (k≤999999))=false by simp;omega] at n1
   refine ZH [_,_] func12 ntmps12 fun G w hp=>?_
   repeat' (first|refine ZC ?_|refine ZB ?_|refine ZD ?_|refine ZJ ?_|refine ZE ?_|refine ZA (n0) (fun _ _=>?_)|refine ZA (n1) (fun _ _=>?_)|fail)
   exact ZG () rfl trivial
  ·rw [if_neg h2]
   simp only [Decidable.not_not] at h2
   rw [show (decide (1≤k) && decide (k≤999999))=true by simp;omega] at n1
   by_cases h3:(lords who.data.toList).length=8
   ·rw [if_pos h3]
    rw [h3] at n2
    refine ZH [_,_] func12 ntmps12 fun G w hp=>?_
    repeat' (first|refine ZC ?_|refine ZB ?_|refine ZD ?_|refine ZJ ?_|refine ZE ?_|refine ZA (n0) (fun _ _=>?_)|refine ZA (n1) (fun _ _=>?_)|refine ZA (n2) (fun _ _=>?_)|fail)
    exact ZG () rfl trivial
   ·rw [if_neg h3]
    exact child_ok who k h1 hw h2 h3 hne (by have:=(Ul h2).2.2.2;omega)
def pMade (who:ByteArray):VP (Ct×Int):=if lvalid who.data.toList=true then .get (cnm who) fun r=>.ret (if r.2 then ((cdec r.1).getD Ct.z,if (cdec r.1).isSome then 0 else 3) else (Ct.z,0)) else .ret (Ct.z,12)
section
variable (b:Nat) (ps:Option Addr) (es:Al) (rs:List (Nm×Ch)) (cs:List Ch) (who:ByteArray) (p:Pr)
theorem Y6:((pMade who).run es cs).2.2=cs:=by
 unfold pMade;split<;>simp [VP.run]
theorem pMade_chk (h:((pMade who).run es cs).1.2=0):CtOK ((pMade who).run es cs).1.1:=by
 unfold pMade at *
 have hz:CtOK Ct.z:=⟨Int.le_refl 0,by decide,Int.le_refl 0,by decide,Int.le_refl 0,by decide⟩
 split
 ·rename_i hv
  rw [if_pos hv] at h
  simp only [VP.run] at *
  split
  ·rename_i h1
   rw [if_pos h1] at h
   cases hd:cdec (vget es cs (cnm who)).1 with
   | none=>rw [hd] at h;simp at h
   | some c=>exact cdec_ok hd
  ·exact hz
 ·exact hz
theorem madeG_ok (hS:Sml es cs) (hw:who.size≤1000):Enters 59∧Spec prog 59 #[.pointer (some ⟨b,0,none⟩),.string who] [St ps es,Usg] [Vw b ps rs cs]
  ⟨Unit,fun _=>.tuple #[((pMade who).run es cs).1.1.v,.int .i64 ((pMade who).run es cs).1.2],fun _=>True,fun _=>[],fun _=>[Vw b ps (rsOf es ((pMade who).run es cs).2.1 rs) ((pMade who).run es cs).2.2]⟩:=by
 have h:=made_ok b ps es rs cs who (by omega) (by have:=hS (cnm who);omega)
 unfold pMade
 unfold madeE madeR at h
 cases hv:lvalid who.data.toList with
 | true=>
  rw [if_pos rfl]
  simp only [hv,if_true] at h
  rw [XM] at h
  simp only [VP.run,List.append_nil]
  exact h
 | false=>
  rw [if_neg (by simp)]
  simp only [hv,Bool.false_eq_true,if_false] at h
  exact h
def pWait (who:ByteArray) (k:Int):VP (Int×Int):=(pGet who).bind fun a=>if a.2≠0 then .ret (0,a.2) else (pMade who).bind fun m=>if m.2≠0 then .ret (0,m.2) else if k<1∨m.1.c<k then .ret (0,22) else if (childE who k).2≠0 then .ret (0,22) else
 (pGet (childE who k).1).bind fun q=>if q.2≠0 then .ret (0,22) else if q.1.st=1 then .ret (0,19) else if q.1.st=3 then .ret (0,10) else (pPut (childE who k).1 {q.1 with st:=3}).bind fun e=>if e≠0 then .ret (0,e) else .ret (q.1.cd,0)
set_option maxHeartbeats 2000000 in
theorem waitG_ok2 (k:Int) (hS:Sml es cs) (hw:who.size≤1000) (hne:isE who=false) (hl:cs.length≤1000000):Enters 14∧Spec prog 14 #[.pointer (some ⟨b,0,none⟩),.string who,.int .i64 k] [St ps es,Usg,P10] [Vw b ps rs cs]
  ⟨Unit,fun _=>.tuple #[.int .i64 ((pWait who k).run es cs).1.1,.int .i64 ((pWait who k).run es cs).1.2],fun _=>True,fun _=>[],fun _=>[Vw b ps (rsOf es ((pWait who k).run es cs).2.1 rs) ((pWait who k).run es cs).2.2]⟩:=by
 have n1:=VO b ps es rs cs who hS hw
 have hcs:=YG es cs who
 unfold pWait
 rw [run_bind]
 generalize (pGet who).run es cs=A at *
 obtain ⟨⟨p,e⟩,N,cs1⟩:=A
 dsimp only at *
 subst hcs
 generalize b=bv at *
 obtain ⟨a1,a2,a3,a4,a5,gs,a7,a8,⟨a9,a9'⟩,a10⟩:=p
 simp only [Pr.v] at n1
 by_cases he:e≠0
 ·simp only [if_pos he,VP.run,List.append_nil]
  refine ZH [_,_,_] func14 ntmps14 fun G w hp=>?_
  repeat' (first|refine ZC ?_|refine ZB ?_|refine ZD ?_|refine ZS ?_|refine ZN (fun b=>?_)|refine ZA (n1) (fun _ _=>?_)|(refine ZF (fun hc=>?_) (fun hc=>?_)<;>(try simp at hc)<;>(try omega))|fail)
  exact ZG () rfl trivial
 ·obtain rfl:e=0:=by omega
  simp only [if_neg he]
  rw [run_bind]
  have n2:=madeG_ok bv ps es (rsOf es N rs) cs1 who hS hw
  have hcs2:=Y6 es cs1 who
  generalize (pMade who).run es cs1=B at *
  obtain ⟨⟨⟨c1,c2,c3⟩,e2⟩,N2,cs2⟩:=B
  dsimp only at *
  subst hcs2
  by_cases he2:e2≠0
  ·simp only [if_pos he2,VP.run,List.append_nil,Zm]
   refine ZH [_,_,_] func14 ntmps14 fun G w hp=>?_
   repeat' (first|refine ZC ?_|refine ZB ?_|refine ZD ?_|refine ZS ?_|refine ZN (fun b=>?_)|refine ZE ?_|refine ZA (n1) (fun _ _=>?_)|refine ZA (n2) (fun _ _=>?_)|(refine ZF (fun hc=>?_) (fun hc=>?_)<;>(try simp at hc)<;>(try omega))|fail)
   exact ZG () rfl trivial
  ·obtain rfl:e2=0:=by omega
   simp only [if_neg he2]
   by_cases hk:k<1∨c3<k
   ·simp only [if_pos hk,VP.run,List.append_nil,Zm]
    refine ZH [_,_,_] func14 ntmps14 fun G w hp=>?_
    repeat' (first|refine ZC ?_|refine ZB ?_|refine ZU ?_|refine ZD ?_|refine ZP ?_|refine ZS ?_|refine ZN (fun b=>?_)|refine ZJ ?_|refine ZE ?_|refine ZA (n1) (fun _ _=>?_)|refine ZA (n2) (fun _ _=>?_)|(refine ZT (fun hc=>?_) (fun hc=>?_)<;>(try simp at hc)<;>(try omega))|(refine ZF (fun hc=>?_) (fun hc=>?_)<;>(try simp at hc)<;>(try omega))|fail)
    all_goals exact ZG () rfl trivial
   ·simp only [if_neg hk]
    have n3:=XG who k hw hne
    have hch:=YD (who:=who) (k:=k) hne
    generalize childE who k=X at *
    obtain ⟨ch,e3⟩:=X
    dsimp only at *
    by_cases he3:e3≠0
    ·simp only [if_pos he3,VP.run,List.append_nil,Zm]
     refine ZH [_,_,_] func14 ntmps14 fun G w hp=>?_
     repeat' (first|refine ZC ?_|refine ZB ?_|refine ZU ?_|refine ZD ?_|refine ZP ?_|refine ZS ?_|refine ZN (fun b=>?_)|refine ZE ?_|refine ZA (n1) (fun _ _=>?_)|refine ZA (n2) (fun _ _=>?_)|refine ZA (n3) (fun _ _=>?_)|(refine ZT (fun hc=>?_) (fun hc=>?_)<;>(try simp at hc)<;>(try omega))|(refine ZF (fun hc=>?_) (fun hc=>?_)<;>(try simp at hc)<;>(try omega))|fail)
     all_goals exact ZG () rfl trivial
    ·obtain rfl:e3=0:=by omega
     simp only [if_neg he3]
     obtain ⟨hce,hv,hk2,hcv,hcz⟩:=hch rfl
     obtain rfl:ch=chN who k:=congrArg Prod.fst hce
     generalize chN who k=ch at *
     clear hce
     rw [run_bind]
     have n4:=VO bv ps es (rsOf es N2 (rsOf es N rs)) cs2 ch hS (by omega)
     have hcs3:=YG es cs2 ch
     have hck:=Xz es cs2 ch
     generalize (pGet ch).run es cs2=D at *
     obtain ⟨⟨q,e4⟩,N3,cs3⟩:=D
     dsimp only at *
     subst hcs3
     by_cases he4:e4≠0
     ·simp only [if_pos he4,VP.run,List.append_nil,Zm]
      obtain ⟨q1,q2,q3,q4,q5,qs,q7,q8,⟨q9,q9'⟩,q10⟩:=q
      simp only [Pr.v] at n4
      refine ZH [_,_,_] func14 ntmps14 fun G w hp=>?_
      repeat' (first|refine ZC ?_|refine ZB ?_|refine ZU ?_|refine ZD ?_|refine ZP ?_|refine ZS ?_|refine ZN (fun b=>?_)|refine ZE ?_|refine ZA (n1) (fun _ _=>?_)|refine ZA (n2) (fun _ _=>?_)|refine ZA (n3) (fun _ _=>?_)|refine ZA (n4) (fun _ _=>?_)|(refine ZT (fun hc=>?_) (fun hc=>?_)<;>(try simp at hc)<;>(try omega))|(refine ZF (fun hc=>?_) (fun hc=>?_)<;>(try simp at hc)<;>(try omega))|fail)
      all_goals exact ZG () rfl trivial
     ·obtain rfl:e4=0:=by omega
      simp only [if_neg he4]
      obtain ⟨hqc,-⟩:=hck rfl
      obtain ⟨z0,z1,z2⟩:=Z7 hqc
      obtain ⟨-,hst,-⟩:=Zg hqc
      have n5:=fun o c=>putG_ok bv ps es (rsOf es N3 (rsOf es N2 (rsOf es N rs))) cs3 ch {q with st:=3} o c (by show q.gs.length≤_;omega) (by show q.sp.size≤_;omega) (by show q.dr.mkr.size≤_;omega) (by omega) hcv hl
      by_cases hs1:q.st=1
      ·simp only [if_pos hs1,VP.run,List.append_nil,Zm]
       clear n5
       obtain ⟨q1,q2,q3,q4,q5,qs,q7,q8,⟨q9,q9'⟩,q10⟩:=q
       dsimp only at hs1
       subst hs1
       simp only [Pr.v] at n4
       refine ZH [_,_,_] func14 ntmps14 fun G w hp=>?_
       repeat' (first|refine ZC ?_|refine ZB ?_|refine ZU ?_|refine ZD ?_|refine ZP ?_|refine ZS ?_|refine ZN (fun b=>?_)|refine ZJ ?_|refine ZE ?_|refine ZA (n1) (fun _ _=>?_)|refine ZA (n2) (fun _ _=>?_)|refine ZA (n3) (fun _ _=>?_)|refine ZA (n4) (fun _ _=>?_)|(refine ZT (fun hc=>?_) (fun hc=>?_)<;>(try simp at hc)<;>(try omega))|(refine ZF (fun hc=>?_) (fun hc=>?_)<;>(try simp at hc)<;>(try omega))|fail)
       all_goals exact ZG () rfl trivial
      ·simp only [if_neg hs1]
       by_cases hs3:q.st=3
       ·simp only [if_pos hs3,VP.run,List.append_nil,Zm]
        clear n5
        obtain ⟨q1,q2,q3,q4,q5,qs,q7,q8,⟨q9,q9'⟩,q10⟩:=q
        dsimp only at hs3
        subst hs3
        simp only [Pr.v] at n4
        refine ZH [_,_,_] func14 ntmps14 fun G w hp=>?_
        repeat' (first|refine ZC ?_|refine ZB ?_|refine ZU ?_|refine ZD ?_|refine ZP ?_|refine ZS ?_|refine ZN (fun b=>?_)|refine ZJ ?_|refine ZE ?_|refine ZA (n1) (fun _ _=>?_)|refine ZA (n2) (fun _ _=>?_)|refine ZA (n3) (fun _ _=>?_)|refine ZA (n4) (fun _ _=>?_)|(refine ZT (fun hc=>?_) (fun hc=>?_)<;>(try simp at hc)<;>(try omega))|(refine ZF (fun hc=>?_) (fun hc=>?_)<;>(try simp at hc)<;>(try omega))|fail)
        all_goals exact ZG () rfl trivial
       ·simp only [if_neg hs3]
        rw [run_bind]
        generalize (pPut ch {q with st:=3}).run es cs3=G5 at *
        obtain ⟨e5,N5,cs5⟩:=G5
        dsimp only at *
        obtain ⟨q1,q2,q3,q4,q5,qs,q7,q8,⟨q9,q9'⟩,q10⟩:=q
        dsimp only at hs1 hs3 hst
        obtain rfl:q2=2:=by omega
        simp only [Pr.v] at n4 n5
        by_cases he5:e5≠0
        ·simp only [if_pos he5,VP.run,List.append_nil,Zm]
         refine ZH [_,_,_] func14 ntmps14 fun G w hp=>?_
         repeat' (first|refine ZC ?_|refine ZB ?_|refine ZU ?_|refine ZD ?_|refine ZP ?_|refine ZS ?_|refine ZN (fun b=>?_)|refine ZE ?_|refine ZA (n1) (fun _ _=>?_)|refine ZA (n2) (fun _ _=>?_)|refine ZA (n3) (fun _ _=>?_)|refine ZA (n4) (fun _ _=>?_)|refine ZA (n5 _ _) (fun _ _=>?_)|(refine ZT (fun hc=>?_) (fun hc=>?_)<;>(try simp at hc)<;>(try omega))|(refine ZF (fun hc=>?_) (fun hc=>?_)<;>(try simp at hc)<;>(try omega))|fail)
         all_goals exact ZG () rfl trivial
        ·obtain rfl:e5=0:=by omega
         simp only [if_neg he5,VP.run,List.append_nil,Zm]
         refine ZH [_,_,_] func14 ntmps14 fun G w hp=>?_
         repeat' (first|refine ZC ?_|refine ZB ?_|refine ZU ?_|refine ZD ?_|refine ZP ?_|refine ZS ?_|refine ZN (fun b=>?_)|refine ZE ?_|refine ZA (n1) (fun _ _=>?_)|refine ZA (n2) (fun _ _=>?_)|refine ZA (n3) (fun _ _=>?_)|refine ZA (n4) (fun _ _=>?_)|refine ZA (n5 _ _) (fun _ _=>?_)|(refine ZT (fun hc=>?_) (fun hc=>?_)<;>(try simp at hc)<;>(try omega))|(refine ZF (fun hc=>?_) (fun hc=>?_)<;>(try simp at hc)<;>(try omega))|fail)
         all_goals exact ZG () rfl trivial
end
end
section
open VP
def pCopy (x y:Nm):VP Int:=.get x fun r=>if r.2=true then .set y r.1 (.ret 0) else .ret 0
def pCps (f ch:ByteArray):Nat→VP Int
 | 0=>.ret 0
 | n+1=>(pCps f ch n).bind fun _=>pCopy (gnm f (n:Int)) (gnm ch (n:Int))
section
variable (b:Nat) (ps:Option Addr) (es:Al) (rs:List (Nm×Ch)) (cs:List Ch) (who:ByteArray) (p:Pr)
theorem Xv (x y:Nm):(pCopy x y).run es cs=(0,vrN cs x,cpC es cs x y):=by
 unfold pCopy cpC
 simp only [VP.run]
 by_cases h:(vget es cs x).2=true
 ·rw [if_pos h,if_pos h];simp [VP.run]
 ·rw [if_neg h,if_neg h];simp [VP.run]
theorem UI (f ch:ByteArray):∀n,((pCps f ch n).run es cs).1=0∧((pCps f ch n).run es cs).2.2=spP es cs f ch n
 | 0=>⟨rfl,rfl⟩
 | n+1=>by
  obtain ⟨_,h2⟩:=UI f ch n
  unfold pCps
  rw [run_bind,Xv,h2]
  exact ⟨rfl,rfl⟩
theorem pCps_nm (f ch:ByteArray) (n:Nat):((pCps f ch (n+1)).run es cs).2.1=((pCps f ch n).run es cs).2.1++vrN (spP es cs f ch n) (gnm f (n:Int)):=by
 conv=>lhs;unfold pCps
 rw [run_bind,Xv,(UI es cs f ch n).2]
theorem Sml.cp {es:Al} {cs:List Ch} (h:Sml es cs) (x y:Nm):Sml es (cpC es cs x y):=by
 unfold cpC
 split
 ·exact h.set y (h x)
 ·exact h
theorem Sml.sp {es:Al} {cs:List Ch} (h:Sml es cs) (f ch:ByteArray):∀n,Sml es (spP es cs f ch n)
 | 0=>h
 | n+1=>(Sml.sp h f ch n).cp _ _
def pSpawn (who:ByteArray) (share:Bool):VP (ByteArray×Int):=(pRun who).bind fun a=>if a.2≠0 then .ret (⟨#[]⟩,a.2) else (pMade who).bind fun m=>if m.2≠0 then .ret (⟨#[]⟩,m.2) else if m.1.c=1048576 then .ret (⟨#[]⟩,9) else
 if (childE who (m.1.c+1)).2≠0 then .ret (⟨#[]⟩,(childE who (m.1.c+1)).2) else (pHas (pnm (childE who (m.1.c+1)).1)).bind fun h=>if h=true then .ret (⟨#[]⟩,13) else
 (if share=true then .ret (a.1,0) else pOwn who a.1).bind fun o=>if o.2≠0 then .ret (⟨#[]⟩,o.2) else
 .set (cnm who) (cvs {m.1 with c:=m.1.c+1}) (.set (pnm (childE who (m.1.c+1)).1) (pencS (kidS share a.1 o.1 (childE who (m.1.c+1)).1)) ((pCopy (rnm who) (rnm (childE who (m.1.c+1)).1)).bind fun _=>
  (pCps a.1.sp (childE who (m.1.c+1)).1 (kidS share a.1 o.1 (childE who (m.1.c+1)).1).pg.toNat).bind fun _=>.ret ((childE who (m.1.c+1)).1,0)))
set_option maxHeartbeats 16000000 in
theorem spawnG_ok (share:Bool) (hS:Sml es cs) (hw:who.size≤1000) (hne:isE who=false) (hl:cs.length≤900000):Enters 52∧Spec prog 52 #[.pointer (some ⟨b,0,none⟩),.string who,.bool share] [St ps es,Usg,P10] [Vw b ps rs cs]
  ⟨Unit,fun _=>.tuple #[.string ((pSpawn who share).run es cs).1.1,.int .i64 ((pSpawn who share).run es cs).1.2],fun _=>True,fun _=>[],fun _=>[Vw b ps (rsOf es ((pSpawn who share).run es cs).2.1 rs) ((pSpawn who share).run es cs).2.2]⟩:=by
 have n1:=runG_ok b ps es rs cs who hS hw
 have hcs:=Yn es cs who
 have hck:=W7 es cs who
 unfold pSpawn
 rw [run_bind]
 generalize (pRun who).run es cs=A at *
 obtain ⟨⟨p,e⟩,N,cs1⟩:=A
 dsimp only at *
 subst hcs
 generalize b=bv at *
 by_cases he:e≠0
 ·simp only [if_pos he,VP.run,List.append_nil]
  obtain ⟨a1,a2,a3,a4,a5,gs,a7,a8,⟨a9,a9'⟩,a10⟩:=p
  simp only [Pr.v] at n1
  refine ZH [_,_,_] func52 ntmps52 fun G w hp=>?_
  repeat' (first|refine ZC ?_|refine ZB ?_|refine ZD ?_|refine ZS ?_|refine ZN (fun b=>?_)|refine ZA (n1) (fun _ _=>?_)|(refine ZF (fun hc=>?_) (fun hc=>?_)<;>(try simp at hc)<;>(try omega))|fail)
  exact ZG () rfl trivial
 ·obtain rfl:e=0:=by omega
  simp only [if_neg he]
  obtain ⟨hpc,hv,hr⟩:=hck rfl
  obtain ⟨z0,z1,z2⟩:=Z7 hpc
  rw [run_bind]
  have n2:=madeG_ok bv ps es (rsOf es N rs) cs1 who hS hw
  have hcs2:=Y6 es cs1 who
  have hct:=pMade_chk es cs1 who
  generalize (pMade who).run es cs1=B at *
  obtain ⟨⟨c,e2⟩,N2,cs2⟩:=B
  dsimp only at *
  subst hcs2
  by_cases he2:e2≠0
  ·simp only [if_pos he2,VP.run,List.append_nil,Zm]
   obtain ⟨a1,a2,a3,a4,a5,gs,a7,a8,⟨a9,a9'⟩,a10⟩:=p
   obtain ⟨c1,c2,c3⟩:=c
   simp only [Pr.v] at n1
   refine ZH [_,_,_] func52 ntmps52 fun G w hp=>?_
   repeat' (first|refine ZC ?_|refine ZB ?_|refine ZD ?_|refine ZS ?_|refine ZN (fun b=>?_)|refine ZE ?_|refine ZA (n1) (fun _ _=>?_)|refine ZA (n2) (fun _ _=>?_)|(refine ZF (fun hc=>?_) (fun hc=>?_)<;>(try simp at hc)<;>(try omega))|fail)
   exact ZG () rfl trivial
  ·obtain rfl:e2=0:=by omega
   simp only [if_neg he2]
   have hct1:=hct rfl
   clear hct
   by_cases hmx:c.c=1048576
   ·simp only [if_pos hmx,VP.run,List.append_nil,Zm]
    obtain ⟨a1,a2,a3,a4,a5,gs,a7,a8,⟨a9,a9'⟩,a10⟩:=p
    obtain ⟨c1,c2,c3⟩:=c
    dsimp only at hmx
    subst hmx
    simp only [Pr.v] at n1
    refine ZH [_,_,_] func52 ntmps52 fun G w hp=>?_
    repeat' (first|refine ZC ?_|refine ZB ?_|refine ZD ?_|refine ZP ?_|refine ZS ?_|refine ZN (fun b=>?_)|refine ZJ ?_|refine ZE ?_|refine ZA (n1) (fun _ _=>?_)|refine ZA (n2) (fun _ _=>?_)|fail)
    exact ZG () rfl trivial
   ·simp only [if_neg hmx]
    have hc0:=hct1.c0
    have hc1:=hct1.c1
    have w1:IntKind.i64.wrap (c.c+1)=c.c+1:=wrapi (by omega) (by omega)
    have n3:=XG who (c.c+1) hw hne
    have hch:=YD (who:=who) (k:=c.c+1) hne
    generalize childE who (c.c+1)=X at *
    obtain ⟨ch,e3⟩:=X
    dsimp only at *
    by_cases he3:e3≠0
    ·simp only [if_pos he3,VP.run,List.append_nil,Zm]
     clear hct1 hch
     obtain ⟨a1,a2,a3,a4,a5,gs,a7,a8,⟨a9,a9'⟩,a10⟩:=p
     obtain ⟨c1,c2,c3⟩:=c
     simp only [Pr.v] at n1
     dsimp only at *
     refine ZH [_,_,_] func52 ntmps52 fun G w hp=>?_
     repeat' (first|refine ZC ?_|refine ZB ?_|refine ZD ?_|refine ZP ?_|refine ZS ?_|refine ZN (fun b=>?_)|refine ZE ?_|refine ZA (n1) (fun _ _=>?_)|refine ZA (n2) (fun _ _=>?_)|refine ZA (n3) (fun _ _=>?_)|rw [w1]|(refine ZF (fun hc=>?_) (fun hc=>?_)<;>(try simp at hc)<;>(try omega))|fail)
     exact ZG () rfl trivial
    ·obtain rfl:e3=0:=by omega
     simp only [if_neg he3]
     obtain ⟨hce,-,hk2,hcv,hcz⟩:=hch rfl
     obtain rfl:ch=chN who (c.c+1):=congrArg Prod.fst hce
     clear hce hch
     generalize chN who (c.c+1)=ch at *
     rw [run_bind]
     have n4:=Yi ch
     have n5:=UO bv ps es (rsOf es N2 (rsOf es N rs)) cs2 (pnm ch) (by show ch.size≤_;omega) (Nat.zero_le _)
     unfold pHas
     simp only [VP.run,List.append_nil]
     rw [XM] at n5
     generalize (vget es cs2 (pnm ch)).2=hg at *
     generalize vrN cs2 (pnm ch)=N3 at *
     cases hg with
     | true=>
      simp only [if_true,VP.run,List.append_nil,Zm]
      clear hct1
      obtain ⟨a1,a2,a3,a4,a5,gs,a7,a8,⟨a9,a9'⟩,a10⟩:=p
      obtain ⟨c1,c2,c3⟩:=c
      simp only [Pr.v] at n1
      dsimp only at *
      refine ZH [_,_,_] func52 ntmps52 fun G w hp=>?_
      repeat' (first|refine ZC ?_|refine ZB ?_|refine ZD ?_|refine ZP ?_|refine ZS ?_|refine ZN (fun b=>?_)|refine ZJ ?_|refine ZE ?_|refine ZA (n1) (fun _ _=>?_)|refine ZA (n2) (fun _ _=>?_)|refine ZA (n3) (fun _ _=>?_)|refine ZA (n4) (fun _ _=>?_)|refine ZA (n5) (fun _ _=>?_)|rw [w1]|(refine ZF (fun hc=>?_) (fun hc=>?_)<;>(try simp at hc)<;>(try omega))|fail)
      exact ZG () rfl trivial
     | false=>
      simp only [Bool.false_eq_true,if_false]
      rw [run_bind]
      have n6:=fun a c'=>ownG_ok bv ps es (rsOf es N3 (rsOf es N2 (rsOf es N rs))) cs2 who p a c' hS (by omega)
      have hcs3:=VI es cs2 who p
      have hoc:=pOwn_chk es cs2 who p hpc
      have n7:=fun rs'=>WN bv ps rs' cs2
      have hct2:CtOK {c with c:=c.c+1}:=⟨hct1.b0,hct1.b1,hct1.o0,hct1.o1,by show 0≤c.c+1;omega,by show c.c+1≤_;omega⟩
      have n8:=fun rs'=>setMade_ok bv ps rs' cs2 who {c with c:=c.c+1} (by omega) hv hct2 (by omega)
      have hcsz:=UA hct2
      have e8:vset cs2 (cnm who) ⟨(cenc {c with c:=c.c+1}).toArray⟩=(0,cs2++[⟨cnm who,cvs {c with c:=c.c+1},false⟩]):=by
       unfold vset
       rw [if_neg (by rw [VK hv];simp),if_neg (by show ¬65536<(cvs {c with c:=c.c+1}).size;omega)]
       rfl
      rw [e8] at n8
      clear e8
      have n12:=Yq who
      have n13:=Yq ch
      have n14:=fun i:Nat=>Xb p.sp (i:Int)
      have n15:=fun i:Nat=>Xb ch (i:Int)
      cases share with
      | false=>
       simp only [Bool.false_eq_true,if_false]
       generalize (pOwn who p).run es cs2=D at *
       obtain ⟨⟨o,e4⟩,N4,cs3⟩:=D
       dsimp only at *
       subst hcs3
       by_cases he4:e4≠0
       ·simp only [if_pos he4,VP.run,List.append_nil,Zm]
        clear hct1 hct2 n7 n8 hoc
        obtain ⟨a1,a2,a3,a4,a5,gs,a7,a8,⟨a9,a9'⟩,a10⟩:=p
        obtain ⟨o1,o2,o3,o4,o5,os,o7,o8,⟨e1,e2⟩,o10⟩:=o
        obtain ⟨c1,c2,c3⟩:=c
        simp only [Pr.v] at n1 n6
        dsimp only at *
        subst hr
        refine ZH [_,_,_] func52 ntmps52 fun G w hp=>?_
        repeat' (first|refine ZC ?_|refine ZB ?_|refine ZD ?_|refine ZP ?_|refine ZS ?_|refine ZN (fun b=>?_)|refine ZJ ?_|refine ZE ?_|refine ZO ?_|refine Ze ?_|refine r_al (fun b=>?_)|refine ZQ ?_|refine ZA (n1) (fun _ _=>?_)|refine ZA (n2) (fun _ _=>?_)|refine ZA (n3) (fun _ _=>?_)|refine ZA (n4) (fun _ _=>?_)|refine ZA (n5) (fun _ _=>?_)|refine ZA (n6 _ _) (fun _ _=>?_)|rw [w1]|refine ZK 15 [] [(0,0),(1,0),(2,0),(3,1),(4,0)] [5] ?_|(refine ZF (fun hc=>?_) (fun hc=>?_)<;>(try simp at hc)<;>(try omega))|fail)
        exact ZG () rfl trivial
       ·obtain rfl:e4=0:=by omega
        simp only [if_neg he4]
        have hocz:=hoc rfl
        obtain ⟨-,-,hopf,-⟩:=Zg hocz
        unfold pfit at hopf
        have hkc:=UJ (share:=false) (p:=p) (o:=o) (ch:=ch) hpc hcv (by omega)
        have hcl:nchk (cnm who)=0:=VK hv
        have n9:=fun rs' a c'=>Yx bv ps rs' (cs3++[⟨cnm who,cvs {c with c:=c.c+1},false⟩]) ch (kidS false p o ch) a c' hkc (by obtain ⟨_,y1,_⟩:=Z7 hkc;omega) (by obtain ⟨_,_,y2⟩:=Z7 hkc;omega) (by omega) hcv (by simp;omega)
        have hS2:Sml es (cs3++[⟨cnm who,cvs {c with c:=c.c+1},false⟩]++[⟨pnm ch,pencS (kidS false p o ch),false⟩]):=(hS.set _ (by omega)).set _ (by have:=psz _ hkc (by obtain ⟨_,y1,_⟩:=Z7 hkc;omega) (by obtain ⟨_,_,y2⟩:=Z7 hkc;omega);omega)
        have n10:=fun rs'=>copyG_ok bv ps es rs' (cs3++[⟨cnm who,cvs {c with c:=c.c+1},false⟩]++[⟨pnm ch,pencS (kidS false p o ch),false⟩]) (rnm who) (rnm ch) (by show who.size≤_;omega) (Nat.zero_le _) (by show ch.size≤_;omega) (Nat.zero_le _) (V5 hcv) (hS2 _) (by simp;omega)
        simp only [XM] at n10
        simp only [VP.run]
        rw [run_bind,Xv]
        have hS3:=hS2.cp (rnm who) (rnm ch)
        have hl3:=cpC_len es (cs3++[⟨cnm who,cvs {c with c:=c.c+1},false⟩]++[⟨pnm ch,pencS (kidS false p o ch),false⟩]) (rnm who) (rnm ch)
        have hl23:(cs3++[Ch.mk (cnm who) (cvs {c with c:=c.c+1}) false]++[Ch.mk (pnm ch) (pencS (kidS false p o ch)) false]).length=cs3.length+2:=by simp
        generalize vrN (cs3++[Ch.mk (cnm who) (cvs {c with c:=c.c+1}) false]++[Ch.mk (pnm ch) (pencS (kidS false p o ch)) false]) (rnm who)=N5 at *
        generalize cpC es (cs3++[Ch.mk (cnm who) (cvs {c with c:=c.c+1}) false]++[Ch.mk (pnm ch) (pencS (kidS false p o ch)) false]) (rnm who) (rnm ch)=cs4 at *
        generalize cs3++[Ch.mk (cnm who) (cvs {c with c:=c.c+1}) false]++[Ch.mk (pnm ch) (pencS (kidS false p o ch)) false]=cs23 at *
        generalize cs3++[Ch.mk (cnm who) (cvs {c with c:=c.c+1}) false]=cs13 at *
        dsimp only
        rw [run_bind]
        obtain ⟨pg,hpge⟩:∃pg:Nat,o.pg=(pg:Int):=⟨o.pg.toNat,by omega⟩
        rw [show (kidS false p o ch).pg.toNat=pg by show o.pg.toNat=pg;omega]
        have hll:=spP_len es cs4 p.sp ch
        have m0:=fun rs' (i:Nat) (hi:i<pg)=>copyG_ok bv ps es rs' (spP es cs4 p.sp ch i) (gnm p.sp (i:Int)) (gnm ch (i:Int)) (by show p.sp.size≤_;omega) (Nat.zero_le _) (by show ch.size≤_;omega) (Nat.zero_le _) (Wb hcv (by omega)) (hS3.sp p.sp ch i _) (by have:=hll i;omega)
        simp only [XM] at m0
        have g1:=fun n=>(UI es cs4 p.sp ch n).2
        have g2:=fun n=>pCps_nm es cs4 p.sp ch n
        simp only [VP.run,List.append_nil,Zm,g1]
        have g0:((pCps p.sp ch 0).run es cs4).2.1=[]:=rfl
        generalize hPN:(fun n=>((pCps p.sp ch n).run es cs4).2.1)=PN at *
        have hPN':∀n,((pCps p.sp ch n).run es cs4).2.1=PN n:=fun n=>congrFun hPN n
        simp only [hPN'] at g2 g0 ⊢
        clear hPN hPN' hct1 hct2 g1 hkc hoc hocz
        obtain ⟨a1,a2,a3,a4,a5,gs,a7,a8,⟨d1,d2⟩,a10⟩:=p
        obtain ⟨o1,o2,o3,o4,o5,os,o7,o8,⟨e1,e2⟩,o10⟩:=o
        obtain ⟨c1,c2,c3⟩:=c
        dsimp only at *
        subst hr hpge
        simp only [Pr.v,kidS,Bool.false_eq_true,if_false] at n1 n6 n9 ⊢
        refine ZH [_,_,_] func52 ntmps52 fun G w hp=>?_
        repeat' (first|refine ZC ?_|refine ZB ?_|refine ZD ?_|refine ZP ?_|refine ZS ?_|refine ZN (fun b=>?_)|refine ZJ ?_|refine ZE ?_|refine ZO ?_|refine Ze ?_|refine r_al (fun b=>?_)|refine r_st ?_|refine ZQ ?_|refine ZA (n1) (fun _ _=>?_)|refine ZA (n2) (fun _ _=>?_)|refine ZA (n3) (fun _ _=>?_)|refine ZA (n4) (fun _ _=>?_)|refine ZA (n5) (fun _ _=>?_)|refine ZA (n6 _ _) (fun _ _=>?_)|refine ZA (n7 _) (fun _ _=>?_)|refine ZA (n8 _) (fun _ _=>?_)|refine ZA (n9 _ _ _) (fun _ _=>?_)|refine ZA (n10 _) (fun _ _=>?_)|refine ZA (n12) (fun _ _=>?_)|refine ZA (n13) (fun _ _=>?_)|rw [w1]|refine ZK 15 [] [(0,0),(1,0),(2,0),(3,1),(4,0)] [5] ?_|refine ZK 21 [Pt _ (.cells #[_,_,_,_,_,_,_,.int .i64 0,_,_,_] 44 _)] [(0,0),(1,0),(2,0),(3,0),(4,4),(5,0),(6,4)] [] ?_|(refine ZF (fun hc=>?_) (fun hc=>?_)<;>(try simp at hc)<;>(try omega))|fail)
        rename_i q _ b8 _ _ b10 _ _ _ _ _ _ b13 _ _ _ _ _ _ _ _ _ _ _ _ _ _
        obtain ⟨qo,qc⟩:=q
        refine YH (X:={q:Nat // q≤pg}) (fun q=>[(0,.pointer (some ⟨bv,0,none⟩)),(9,.int .i64 0),(11,.string ch),(12,.string a7),(13,.pointer (some ⟨b13,0,none⟩)),(17,.int .i64 (q.1:Int))]) (fun _=>[St ps es,Usg,P10]) (fun q=>[Vw bv ps (rsOf es (PN q.1) (rsOf es N5 (rsOf es N4 (rsOf es N3 (rsOf es N2 (rsOf es N rs)))))) (spP es cs4 a7 ch q.1),Pt b13 (.cells #[.int .i64 a1,.int .i64 1,.int .i64 a3,.int .i64 a4,.int .i64 a5,.slice qo gs.length qc,.string ch,.int .i64 (pg:Int),.string d1,.int .i64 d2,.int .i64 a10] 44)]) (fun q=>pg - q.1) ⟨0,Nat.zero_le _⟩ ⟨rfl,rfl,rfl,rfl,rfl,rfl,trivial⟩ ?_ (hr:=by dsimp only;rw [g0];(repeat (first|exact Sels.nil|exact Sel.here|apply Sel.there|apply Sels.cons)))
        rintro ⟨i,hi'⟩
        dsimp only at hi' ⊢
        by_cases hlt:i<pg
        ·have m1:=m0 (rsOf es (PN i) (rsOf es N5 (rsOf es N4 (rsOf es N3 (rsOf es N2 (rsOf es N rs)))))) i hlt
         rw [show cpC es (spP es cs4 a7 ch i) (gnm a7 (i:Int)) (gnm ch (i:Int))=spP es cs4 a7 ch (i+1) from rfl,←Zm es (PN i) (vrN (spP es cs4 a7 ch i) (gnm a7 (i:Int))),←g2] at m1
         have m2:=n14 i
         have m3:=n15 i
         have wi:IntKind.i64.wrap ((i:Int)+1)=((i+1:Nat):Int):=by rw [wrapi (by omega) (by omega)];omega
         repeat' (first|refine ZC ?_|refine ZB ?_|refine ZU ?_|refine ZD ?_|refine ZP ?_|refine ZJ ?_|refine ZA (m1) (fun _ _=>?_)|refine ZA (m2) (fun _ _=>?_)|refine ZA (m3) (fun _ _=>?_)|rw [wi]|(refine ZT (fun hc=>?_) (fun hc=>?_)<;>(try simp at hc)<;>(try omega))|fail)
         exact ZW ⟨i+1,by omega⟩ (by show pg - (i+1)<pg - i;omega) ⟨rfl,rfl,rfl,rfl,rfl,rfl,trivial⟩
        ·obtain rfl:i=pg:=by omega
         repeat' (first|refine ZC ?_|refine ZB ?_|refine ZU ?_|refine ZD ?_|refine ZP ?_|refine ZE ?_|refine Zn ?_|(refine ZT (fun hc=>?_) (fun hc=>?_)<;>(try simp at hc)<;>(try omega))|fail)
         exact ZG () rfl trivial
      | true=>
       simp only [if_true,VP.run]
       rw [if_neg (by simp)]
       have hkc:=UJ (share:=true) (p:=p) (o:=p) (ch:=ch) hpc hcv (by obtain ⟨-,-,hopf,-⟩:=Zg hpc;unfold pfit at hopf;omega)
       have n9:=fun rs' a c'=>Yx bv ps rs' (cs2++[⟨cnm who,cvs {c with c:=c.c+1},false⟩]) ch (kidS true p p ch) a c' hkc (by obtain ⟨_,y1,_⟩:=Z7 hkc;omega) (by obtain ⟨_,_,y2⟩:=Z7 hkc;omega) (by omega) hcv (by simp;omega)
       have hS2:Sml es (cs2++[⟨cnm who,cvs {c with c:=c.c+1},false⟩]++[⟨pnm ch,pencS (kidS true p p ch),false⟩]):=(hS.set _ (by omega)).set _ (by have:=psz _ hkc (by obtain ⟨_,y1,_⟩:=Z7 hkc;omega) (by obtain ⟨_,_,y2⟩:=Z7 hkc;omega);omega)
       have n10:=fun rs'=>copyG_ok bv ps es rs' (cs2++[⟨cnm who,cvs {c with c:=c.c+1},false⟩]++[⟨pnm ch,pencS (kidS true p p ch),false⟩]) (rnm who) (rnm ch) (by show who.size≤_;omega) (Nat.zero_le _) (by show ch.size≤_;omega) (Nat.zero_le _) (V5 hcv) (hS2 _) (by simp;omega)
       simp only [XM] at n10
       simp only [VP.run]
       rw [run_bind,Xv]
       generalize vrN (cs2++[Ch.mk (cnm who) (cvs {c with c:=c.c+1}) false]++[Ch.mk (pnm ch) (pencS (kidS true p p ch)) false]) (rnm who)=N5 at *
       generalize cpC es (cs2++[Ch.mk (cnm who) (cvs {c with c:=c.c+1}) false]++[Ch.mk (pnm ch) (pencS (kidS true p p ch)) false]) (rnm who) (rnm ch)=cs4 at *
       generalize cs2++[Ch.mk (cnm who) (cvs {c with c:=c.c+1}) false]++[Ch.mk (pnm ch) (pencS (kidS true p p ch)) false]=cs23 at *
       generalize cs2++[Ch.mk (cnm who) (cvs {c with c:=c.c+1}) false]=cs13 at *
       rw [run_bind,show (kidS true p p ch).pg.toNat=0 from rfl,show (pCps p.sp ch 0).run es cs4=(0,[],cs4) from rfl]
       simp only [VP.run,List.append_nil,List.nil_append,Zm]
       clear hct1 hct2 hkc hoc n6 hcs3
       obtain ⟨a1,a2,a3,a4,a5,gs,a7,a8,⟨d1,d2⟩,a10⟩:=p
       obtain ⟨c1,c2,c3⟩:=c
       dsimp only at *
       subst hr
       simp only [Pr.v,kidS,if_true] at n1 n9 ⊢
       refine ZH [_,_,_] func52 ntmps52 fun G w hp=>?_
       repeat' (first|refine ZC ?_|refine ZB ?_|refine ZD ?_|refine ZP ?_|refine ZS ?_|refine ZN (fun b=>?_)|refine ZJ ?_|refine ZE ?_|refine ZO ?_|refine Ze ?_|refine r_al (fun b=>?_)|refine ZQ ?_|refine ZA (n1) (fun _ _=>?_)|refine ZA (n2) (fun _ _=>?_)|refine ZA (n3) (fun _ _=>?_)|refine ZA (n4) (fun _ _=>?_)|refine ZA (n5) (fun _ _=>?_)|refine ZA (n7 _) (fun _ _=>?_)|refine ZA (n8 _) (fun _ _=>?_)|refine ZA (n9 _ _ _) (fun _ _=>?_)|refine ZA (n10 _) (fun _ _=>?_)|refine ZA (n12) (fun _ _=>?_)|refine ZA (n13) (fun _ _=>?_)|rw [w1]|refine ZK 15 [] [(0,0),(1,0),(2,0),(3,1),(4,0)] [5] ?_|(refine ZF (fun hc=>?_) (fun hc=>?_)<;>(try simp at hc)<;>(try omega))|fail)
       rename_i q _ b8 _ _ b10 _ _ _ _ _ _ _ _ _ _ _ _ _ _ _ _ _ _
       obtain ⟨qo,qc⟩:=q
       refine YH (X:=Unit) (fun q=>[(0,.pointer (some ⟨bv,0,none⟩)),(9,.int .i64 0),(11,.string ch),(12,.string a7),(13,.pointer (some ⟨b,0,none⟩)),(17,.int .i64 0)]) (fun _=>[St ps es,Usg,P10]) (fun q=>[Vw bv ps (rsOf es N5 (rsOf es N3 (rsOf es N2 (rsOf es N rs)))) cs4,Pt b (.cells #[.int .i64 a1,.int .i64 1,.int .i64 a3,.int .i64 a4,.int .i64 a5,.slice qo gs.length qc,.string a7,.int .i64 0,.string d1,.int .i64 d2,.int .i64 a10] 44)]) (fun q=>0) () ⟨rfl,rfl,rfl,rfl,rfl,rfl,trivial⟩ ?_
       rintro ⟨⟩
       repeat' (first|refine ZC ?_|refine ZB ?_|refine ZU ?_|refine ZD ?_|refine ZP ?_|refine ZE ?_|refine Zn ?_|fail)
       exact ZG () rfl trivial
end
end
variable {b:Nat}
section
theorem l_slR {T sz:Nat} {o:Option Addr} {m cap:Nat} {xs:List Value} {z2:Int} {y2:Operand} {rs tr:TRow} (nx:Wl n C ops.toArray k Q l ((d,.slice o m cap)::E) F R)
  (hw:wantL ops E ⟨some d,.slice t x none (some y2) none,ty0,pos,aft,gd⟩=some true:=by rfl) (hn:Nat.blt d n=true:=by rfl) (hx:ev E x=some (.slice o m cap):=by rfl) (hy2:ev E y2=some (.int .i64 z2):=by rfl)
  (hs:Sel (Row T sz o m cap xs) R R0:=by (repeat (first|exact Sel.here|apply Sel.there));first|done|fail) (hts:lookT tab t=some rs:=by rfl) (hrs:rs.k = .slice T:=by rfl) (hT:lookT tab T=some tr:=by rfl) (hsz:tr.size=sz:=by rfl)
  (hz2:z2=(m:Int):=by first|rfl|omega):Wl n C ops.toArray k Q (⟨some d,.slice t x none (some y2) none,ty0,pos,aft,gd⟩::l) E F R:=
 YA (fun t ht=>by cases ht;exact Nat.le_of_ble_eq_true hn) (fun c hc=>by cases hc) hw fun a w ha hsat=>by
  have h0:=hsat
  obtain ⟨hp,hr,st⟩:=hsat
  obtain ⟨h1,h2,_,_,_,hx',_⟩:=hs.sep st.r
  subst hz2
  have hs1:=Zj.sizeOf hT w
  rw [hsz] at hs1
  have hmc:m≤cap∧(if cap=0 then o else o.map (·.add (0 * sz)))=o:=by
   rcases hx' with ⟨rfl,rfl,rfl,_⟩|⟨b,_,_,rfl,_,_,_,hc,_⟩
   ·exact ⟨Nat.le_refl _,by simp⟩
   ·refine ⟨hc,?_⟩
    split
    ·rfl
    ·simp [Y2 rfl]
  unfold OpRes
  have hc2:(0:Int)≤(m:Int)∧(m:Int)≤(cap:Int):=⟨by omega,by omega⟩
  simp only [execOp,ha.ev (x:=x) (by rw [ZL];exact hx),ha.ev (x:=y2) (by rw [ZL];exact hy2),Option.map_some,Option.map_none,Instr.sliceAt,Instr.slice,Xc hts hrs,Instr.sliceBounds,Instr.sliceBound,asIntOf,Sem.run_bind,Result.andThen,Sem.run_pure,if_pos hc2,Int.toNat_natCast,hs1]
  rw [Nat.sub_zero,Nat.sub_zero]
  exact fun a' ha'=>nx a' w (by rw [hmc.2] at ha';exact ha') h0
end
theorem vwRoll0_ok (b:Nat) (ps:Option Addr) (rs:List (Nm×Ch)):Enters 83∧Spec prog 83 #[.pointer (some ⟨b,0,none⟩),.int .i64 0] [] [Vw b ps rs []]
  ⟨Unit,fun _=>.int .i64 0,fun _=>True,fun _=>[],fun _=>[Vw b ps rs []]⟩:=by
 generalize b=bv at *
 refine ZH [_,_] func83 ntmps83 fun G w hp=>?_
 refine k_vw fun q=>?_
 obtain ⟨r1,r2,o,cap⟩:=q
 dsimp only [VwL,List.length_nil]
 repeat' (first|refine ZC ?_|refine ZB ?_|refine ZU ?_|refine ZD ?_|refine ZP ?_|refine ZS ?_|refine ZE ?_|refine l_slR ?_|refine l_mkm (K:=Nm.v) (kt:=92) (et:=3) Ve iv (fun r=>?_)|fail)
 refine YH (X:=Unit) (fun _=>[(0,.pointer (some ⟨bv,0,none⟩)),(38,.slice o 0 cap),(39,.int .i64 ((0:Nat):Int)),(40,.int .i64 0)]) (fun _=>[])
  (fun _=>[Pt bv (.cells #[.pointer ps,.map (some r1),.slice o 0 cap,.map (some r)] 166),Mp Nm.v Ch.v r1 rs,Row 105 7 o 0 cap ([].flatMap chf),Mp Nm.v iv r []]) (fun _=>0) () ⟨rfl,rfl,rfl,rfl,trivial⟩ ?_
 rintro ⟨⟩
 repeat' (first|refine ZC ?_|refine ZB ?_|refine ZD ?_|refine ZE ?_|refine Zn ?_|fail)
 refine k_vw' (cs:=[]) (rs:=rs) ?_ rfl rfl rfl
 exact ZG () rfl trivial
section
open VP
theorem Spec.frz {α:Type} {P:Program} {f:FuncId} {args:Array Value} {F:List Pf} {R:List HP} {post:Post} {T sz:Nat} {g:α→List Value} {o:Option Addr} {m cap:Nat} {xs:List Value} {es:List α} (hx:xs=es.flatMap g) (hm:m=es.length)
  (h:Spec P f args (Sl T g o cap es::F) R post):Spec P f args F (Row T sz o m cap xs::R) post:=fun G w hp hs=>h G w hp (VS hx hm .here hs)
section
variable (x:Im) (hc:x.co.size≤1099511627776) (hd:x.da.size≤1099511627776)
def ldP (p:Pr) (who:ByteArray) (x:Im):Pr:={p with kd:=1,sp:=who,pg:=(nPg x:Int)}
theorem ldP_chk {p:Pr} {who:ByteArray} {x:Im} (h:pchk p=0) (hv:lvalid who.data.toList=true) (h0:imgC x=0):pchk (ldP p who x)=0:=by
 obtain ⟨q1,q2,q3,q4,q5,q6⟩:=Zg h
 have:=(Yw x h0).2
 unfold pfit at q3
 unfold pchk pfit ldP
 dsimp only
 rw [if_neg (by omega),if_neg (by omega),if_neg (by simp only [Decidable.not_not];omega),if_neg (by simp [q4]),if_neg (by simp [hv])]
 exact q6
include hc hd in
theorem loadF_ok (bx b4 b5:Nat) (who:ByteArray) (p:Pr) (o:Option Addr) (c:Nat) (h0:imgC x=0):Enters 142∧Spec prog 142 #[.pointer (some ⟨bx,0,none⟩),.pointer (some ⟨b4,0,none⟩),.pointer (some ⟨b5,0,none⟩)] []
  [Pt bx (.cells (prf p o c).toArray 44),Pt b4 (.cells #[.string who] 28),Pt b5 (.cells #[.string x.co,.string x.da,.int .i64 x.ze,.int .i64 x.en] 74)]
  ⟨Unit,fun _=>.int .i64 0,fun _=>True,fun _=>[],fun _=>[Pt bx (.cells (prf (ldP p who x) o c).toArray 44),Pt b4 (.cells #[.string who] 28),Pt b5 (.cells #[.string x.co,.string x.da,.int .i64 x.ze,.int .i64 x.en] 74)]⟩:=by
 have n1:=Un x hc hd h0
 unfold ldP
 generalize nPg x=np at *
 obtain ⟨co,da,ze,en⟩:=x
 simp only [Im.v] at *
 clear h0
 obtain ⟨a1,a2,a3,a4,a5,gs,a7,a8,a9,a10⟩:=p
 unfold prf
 refine ZH [_,_,_] func142 ntmps142 fun G w hp=>?_
 repeat' (first|refine ZC ?_|refine ZB ?_|refine ZD ?_|refine ZO ?_|refine Ze ?_|refine r_st ?_|refine ZQ ?_|refine XQ (n1) (fun _ _=>?_)|refine ZK 1 [Pt bx (.cells _ 44 _)] [(0,0),(1,0),(2,0),(3,0),(4,0),(5,5),(6,0),(7,0),(8,4),(9,0),(10,0),(11,4),(12,0),(13,0),(14,4)] [] ?_|fail)
 exact ZG () rfl trivial
def pLoad (who:ByteArray) (x:Im):VP Int:=if imgC x≠0 then .ret (imgC x) else (pRun who).bind fun a=>if a.2≠0 then .ret a.2 else .set (pnm who) (pencS (ldP a.1 who x)) ((pSets who 0 (imPg x)).bind fun _=>pSetR who ⟨(encR [0,0,0,0,0,0,0,0,x.en]).toArray⟩)
include hc hd in
set_option maxHeartbeats 4000000 in
theorem loadG_ok (b:Nat) (ps:Option Addr) (es:Al) (rs:List (Nm×Ch)) (who:ByteArray) (hS:Sml es []) (hw:who.size≤1000) :
  Enters 89∧Spec prog 89 #[.pointer (some ⟨b,0,none⟩),.string who,x.v] [St ps es,Usg] [Vw b ps rs []]
  ⟨Unit,fun _=>.int .i64 ((pLoad who x).run es []).1,fun _=>True,fun _=>[],fun _=>[Vw b ps (rsOf es ((pLoad who x).run es []).2.1 rs) ((pLoad who x).run es []).2.2]⟩:=by
 have n0:=YE x hc hd
 unfold pLoad
 generalize b=bv at *
 by_cases h0:imgC x≠0
 ·rw [if_pos h0]
  simp only [VP.run]
  generalize imgC x=e at *
  obtain ⟨co,da,ze,en⟩:=x
  simp only [Im.v] at *
  refine ZH [_,_,_] func89 ntmps89 fun G w hp=>?_
  repeat' (first|refine ZC ?_|refine ZB ?_|refine ZD ?_|refine ZP ?_|refine ZN (fun b=>?_)|refine ZE ?_|refine ZA (n0) (fun _ _=>?_)|(refine ZF (fun hc=>?_) (fun hc=>?_)<;>(try simp at hc)<;>(try omega))|fail)
  exact ZG () rfl trivial
 ·rw [if_neg h0,run_bind]
  simp only [ne_eq,Decidable.not_not] at h0
  rw [h0] at n0
  have n1:=runG_ok bv ps es rs [] who hS hw
  have n2:=WN bv ps rs []
  have hcs:=Yn es [] who
  have hck:=W7 es [] who
  have n8:=loadF_ok x hc hd
  have n9:=pagesL_ok x hc hd h0
  generalize (pRun who).run es []=A at *
  obtain ⟨⟨p,e⟩,N,cs1⟩:=A
  dsimp only at *
  subst hcs
  have n3:=vwRoll0_ok bv ps (rsOf es N rs)
  by_cases he:e≠0
  ·simp only [if_pos he,VP.run,List.append_nil]
   clear hck n8 n9 h0
   obtain ⟨co,da,ze,en⟩:=x
   obtain ⟨a1,a2,a3,a4,a5,gs,a7,a8,⟨d1,d2⟩,a10⟩:=p
   simp only [Im.v,Pr.v] at *
   have hch:∀b4 b5:Nat,Enters 56∧Spec prog 56 #[.pointer (some ⟨bv,0,none⟩),.string who,.func (.func 142) #[] #[.pointer (some ⟨b4,0,none⟩),.pointer (some ⟨b5,0,none⟩)]] [St ps es,Usg] [Vw bv ps rs []]
     ⟨Unit,fun _=>.int .i64 e,fun _=>True,fun _=>[],fun _=>[Vw bv ps (rsOf es N rs) []]⟩:=fun b4 b5=>by
    refine ZH [_,_,_] func56 ntmps56 fun G w hp=>?_
    repeat' (first|refine ZC ?_|refine ZB ?_|refine ZD ?_|refine ZS ?_|refine ZN (fun b=>?_)|refine ZA (n1) (fun _ _=>?_)|(refine ZF (fun hc=>?_) (fun hc=>?_)<;>(try simp at hc)<;>(try omega))|fail)
    exact ZG () rfl trivial
   refine ZH [_,_,_] func89 ntmps89 fun G w hp=>?_
   repeat' (first|refine ZC ?_|refine ZB ?_|refine ZD ?_|refine ZP ?_|refine ZN (fun b=>?_)|refine ZE ?_|refine ZA (n0) (fun _ _=>?_)|refine ZA (n2) (fun _ _=>?_)|refine ZA (n3) (fun _ _=>?_)|refine ZA (hch _ _) (fun _ _=>?_)|(refine ZF (fun hc=>?_) (fun hc=>?_)<;>(try simp at hc)<;>(try omega))|fail)
   exact ZG () rfl trivial
  ·obtain rfl:e=0:=by omega
   simp only [if_neg he]
   obtain ⟨hpc,hv,hst⟩:=hck rfl
   have hkc:=ldP_chk (who:=who) hpc hv h0
   obtain ⟨y0,y1,y2⟩:=Z7 hkc
   obtain ⟨hmz,hm64⟩:=Yw x h0
   obtain ⟨g1,g2,g3,g4,g5⟩:=XZ h0
   have n4:=fun o c=>Yx bv ps (rsOf es N rs) [] who (ldP p who x) o c hkc (by omega) (by omega) hw hv (Nat.zero_le _)
   have n5:=fun a c=>V7 bv ps (rsOf es N rs) ([]++[⟨pnm who,pencS (ldP p who x),false⟩]) who hw hv (imPg x) 0 (by rw [WI];omega) (by simp) (fun s hs=>by rw [imPg_size h0 hs];decide) a c
   have n5':=fun (q:Option Addr×Nat)=>Spec.frz (T:=9) (sz:=1) (g:=sf1) (o:=q.1) (m:=(imPg x).length) (cap:=q.2) (es:=imPg x) rfl rfl (n5 q.1 q.2).2
   have n5e:=(n5 none 0).1
   have n6:=fun cs hl=>setRegs_ok bv ps (rsOf es N rs) cs who hw hv hl 0 0 0 0 0 0 0 0 x.en (by
    intro z hz
    simp only [List.mem_cons,List.not_mem_nil,or_false] at hz
    rcases hz with rfl|rfl|rfl|rfl|rfl|rfl|rfl|rfl|rfl<;>omega)
   have hlen:([]++[Ch.mk (pnm who) (pencS (ldP p who x)) false]++pgsC who 0 (imPg x)).length≤1000000:=by simp [pgsC_len,WI];omega
   have n6':=n6 _ hlen
   clear n6 hlen
   rw [VP.run,run_bind,Xt]
   dsimp only
   unfold pSetR
   rw [if_pos hv]
   simp only [VP.run,List.append_nil]
   generalize hR:(⟨(encR [0,0,0,0,0,0,0,0,x.en]).toArray⟩:ByteArray)=RR at *
   generalize []++[Ch.mk (pnm who) (pencS (ldP p who x)) false]++pgsC who 0 (imPg x)=cs3 at *
   generalize []++[Ch.mk (pnm who) (pencS (ldP p who x)) false]=cs2 at *
   generalize rsOf es N rs=rs3 at *
   have w32:IntKind.u32.wrap x.en=x.en:=by simp [IntKind.wrap,IntKind.bits,IntKind.signed];omega
   generalize imPg x=PL at *
   clear hkc hpc
   have n8':=fun bx b4 b5 o c=>n8 bx b4 b5 who p o c h0
   unfold ldP at n4 n8'
   generalize nPg x=np at *
   clear n8 h0 hmz
   obtain ⟨co,da,ze,en⟩:=x
   obtain ⟨a1,a2,a3,a4,a5,gs,a7,a8,⟨d1,d2⟩,a10⟩:=p
   simp only [Im.v,Pr.v,prf] at n0 n1 n4 n8' n9 ⊢
   dsimp only at *
   have hch:∀b4 b5:Nat,Enters 56∧Spec prog 56 #[.pointer (some ⟨bv,0,none⟩),.string who,.func (.func 142) #[] #[.pointer (some ⟨b4,0,none⟩),.pointer (some ⟨b5,0,none⟩)]] [St ps es,Usg] [Vw bv ps rs [],Pt b4 (.cells #[.string who] 28),Pt b5 (.cells #[.string co,.string da,.int .i64 ze,.int .i64 en] 74)]
     ⟨Unit,fun _=>.int .i64 0,fun _=>True,fun _=>[],fun _=>[Vw bv ps rs3 cs2,Pt b4 (.cells #[.string who] 28),Pt b5 (.cells #[.string co,.string da,.int .i64 ze,.int .i64 en] 74)]⟩:=fun b4 b5=>by
    refine ZH [_,_,_] func56 ntmps56 fun G w hp=>?_
    repeat' (first|refine ZC ?_|refine ZB ?_|refine ZD ?_|refine ZP ?_|refine ZS ?_|refine ZN (fun b=>?_)|refine ZE ?_|refine ZA (n1) (fun _ _=>?_)|refine ZA (n4 _ _) (fun _ _=>?_)|refine X9 (n8' _ _ _ _ _) (fun _ _=>?_)|fail)
    exact ZG () rfl trivial
   refine ZH [_,_,_] func89 ntmps89 fun G w hp=>?_
   repeat' (first|refine ZC ?_|refine ZB ?_|refine ZD ?_|refine ZP ?_|refine ZN (fun b=>?_)|refine ZJ ?_|refine ZE ?_|refine ZO ?_|refine Ze ?_|refine ZQ ?_|refine ZA (n0) (fun _ _=>?_)|refine ZA (n2) (fun _ _=>?_)|refine ZA (hch _ _) (fun _ _=>?_)|refine ZR (n9) (fun _ _=>?_)|refine ZR ((⟨n5e,n5' _⟩:_∧_)) (fun _ _=>?_)|refine ZA (n6') (fun _ _=>?_)|rw [w32]|refine ZK 9 [Vw _ _ _ _] [(0,0),(1,0),(2,0),(3,4),(4,4),(5,0)] [] ?_|fail)
   exact ZG () rfl trivial
end
end
end Go.Proofs.YtgfohjbcccfolaaGreatDoor
