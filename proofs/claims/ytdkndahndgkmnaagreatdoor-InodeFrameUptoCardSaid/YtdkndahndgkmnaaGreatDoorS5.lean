/-
  Contracts of the package inode: Read, Contents.
  Contracts of the package inode: Contents, cut, Resize where it succeeds.
  Contracts of the package inode: cut, Resize where it succeeds.
  The functions of package inode as what they do with a view: programs of reads, sets and deletes; no program in sight.
  The contracts of package inode over any view, with all errors: Read, Contents, Write, Resize, Set, Make.
  The model of layer 27: do. What an operation does in a view: perform.
  What a view holds of a file: how Write, Resize and Read see its bytes.
  When a view and the model of layer 27 hold the same; no program in sight.
  Operations of layer 27 in a view and in the model: one file changes; write.
  Operations of layer 27 in a view and in the model: resize, set, make.
  Operations of layer 27 in a view and in the model: make; every operation gives the same.
  The law InodeSizes, walked.
  A text written in parts, in one view or in several ones: what holds between two parts.
  Every operation of layer 27 gives the same in a view and in the model; the state behind a view; the beginning.
  The state and the model in which the statements of layer 27 begin: start.
  The statements' operations of layer 27, one after the other: after.
  From contracts to the statements' form: memory that was there stays; plain data read the same everywhere; the table of the kinds.
  Slices of plain data as arguments: the fact that they lie in memory, and that they read the same later.
  The settled world; arguments of plain types, opened.
  The statements' arguments, opened: items, bytes.
  The statements' arguments, opened: operations of layer 27.
  Conditions: those that each theorem states.
-/
import Derived.Test.YtdkndahndgkmnaaGreatDoorS4
import Derived.Test.YtdkndahndgkmnaaGreatDoorS2
import Derived.Test.YtdkndahndgkmnaaGreatDoorRows
import Derived.Test.YtdkndahndgkmnaaGreatDoorCards
import Derived.Test.YtdkndahndgkmnaaGreatDoorTie
import Derived.ChangeSame
import Derived.ProofKit
import Derived.OpenShut
import Derived.MakeChecks
import Derived.Deep.DeepHandedRow
set_option maxRecDepth 10000
namespace Go.Proofs.YtdkndahndgkmnaaGreatDoor
open Go.RowKit Go.Proofs.Tryz
section
variable {n:Nat} {C:Cx} {Q:Exit→Act→World→Prop} {E E':List (Nat×Value)} {F F' F1 Fs F0:List Pf} {R R' R0 Rs N N' A:List HP} {k k':List Fr} {ops l:List Oper} {L L':List (Nat×Nat)} {Tl:List Nat} {i d b:Nat} {t ty0:TypeId} {x y y1 y2:Operand} {pos:String} {aft:Array Edge} {gd:Option (Nat×Bool)}
theorem l_fz {o:Obj} (nx:Wl n C ops.toArray k Q l E (Blk b o::F) R0) (hs:Sel (Pt b o) R R0:=by (repeat (first|exact Sel.here|apply Sel.there));first|done|fail):Wl n C ops.toArray k Q l E F R:=
 fun a w ha hsat=>nx a w ha (hsat.sel hs).freeze
theorem l_sla {T m:Nat} {z1 z2:Int} {rs tr:TRow} (lo hi:Nat) (hlo:lo<hi) (hhi:hi≤m) (nx:Wl n C ops.toArray k Q l ((d,.slice (some ⟨b,lo,none⟩) (hi - lo) (m - lo))::E) F R)
  (hw:wantL ops E ⟨some d,.slice t x (some y1) (some y2) none,ty0,pos,aft,gd⟩=some true:=by rfl) (hn:Nat.blt d n=true:=by rfl) (hx:ev E x=some (.pointer (some ⟨b,0,none⟩)):=by rfl) (hy1:ev E y1=some (.int .i64 z1):=by rfl) (hy2:ev E y2=some (.int .i64 z2):=by rfl)
  (hts:lookT tab t=some rs:=by rfl) (hrs:rs.k = .arr m T:=by rfl) (hT:lookT tab T=some tr:=by rfl) (hsz:tr.size=1:=by rfl) (hz1:z1=(lo:Int):=by rfl) (hz2:z2=(hi:Int):=by rfl):Wl n C ops.toArray k Q (⟨some d,.slice t x (some y1) (some y2) none,ty0,pos,aft,gd⟩::l) E F R:=
 l_q (fun a w ha=>by
  simp only [execOp,Option.map_some,Option.map_none,ha.ev (x:=x) (by rw [ZU];exact hx),ha.ev (x:=y1) (by rw [ZU];exact hy1),ha.ev (x:=y2) (by rw [ZU];exact hy2),Sem.run_bind,run_sla (w:=w) (b:=b) hlo hhi hts hrs hT hsz hz1 hz2,Result.andThen,Sem.run_pure]) nx (by intro c h;cases h) hw hn
theorem l_slB {T lo c:Nat} {Lb seg pre post:List UInt8} (h:Lb=pre++(seg++post)) (hlo:lo=pre.length) (hc:seg.length≤c) (nx:Wl n C ops.toArray k Q l E (Sl 5 bf (some ⟨b,lo,none⟩) c seg::F) R)
  (hs:Sel (Blk b (.cells (byt Lb).toArray T (0,0))) F F0:=by (repeat (first|exact Sel.here|apply Sel.there));first|done|fail):Wl n C ops.toArray k Q l E F R:=fun a w ha hsat=>by
 obtain ⟨hp,hr,st⟩:=hsat
 have hb:=st.f _ hs.mem
 refine nx a w ha (XM st ?_)
 subst h hlo
 refine ⟨hc,.inr ⟨b,_,(T,0,0),byt pre,byt post,by simp [byt],hb,?_⟩⟩
 rw [List.toList_toArray,Yx,Yx,Xd seg]
end
def rdS (es:Al) (cs:List Ch) (bi:Bi) (p:Pp):List UInt8:=((Yd (vget es cs (bnm bi p.bl)).1).drop p.fr).take (p.to - p.fr)
def rdB (es:Al) (cs:List Ch) (bi:Bi) (l:List Pp):List UInt8:=l.flatMap (rdS es cs bi)
def rdR (es:Al) (cs:List Ch) (bi:Bi) (rs:List (Nm×Ch)) (l:List Pp):List (Nm×Ch):=l.foldl (fun rs p=>vread es rs cs (bnm bi p.bl)) rs
theorem rdS_len {es:Al} {cs:List Ch} {bi:Bi} {p:Pp} (h:p.to≤64):(rdS es cs bi p).length=p.to - p.fr:=by
 have:=YU (vget es cs (bnm bi p.bl)).1
 simp only [rdS,List.length_take,List.length_drop,this];omega
abbrev JRL (b b12:Nat) (ps:Option Addr) (es:Al) (cs:List Ch) (bi:Bi) (rs:List (Nm×Ch)) (pre:List Pp):List HP:=[Vw b ps (rdR es cs bi rs pre) cs,Bdr b12 (rdB es cs bi pre)]
def JR (b b12:Nat) (ps:Option Addr) (es:Al) (cs:List Ch) (bi:Bi) (rs:List (Nm×Ch)) (pre:List Pp):HP:=fun h=>Sep (JRL b b12 ps es cs bi rs pre) h
theorem bdr_new {b:Nat} (h:H) (hh:Sep [Pt b (.cells #[.pointer none,.slice none 0 0] 228)] h):Bdr b [] h:=by
 obtain ⟨h1,h2,d,s1,s2,hx,_⟩:=hh
 exact ⟨(none,none,0),⟨.inl rfl,fun _=>rfl⟩,h1,emp,(fun _=>.inr rfl),s1,(fun _ _ e=>by cases e),hx,emp,emp,(fun _=>.inr rfl),(fun _ _ e=>by cases e),(fun _ _ e=>by cases e),Yf _ _ _,trivial⟩
theorem rdB_len {es:Al} {cs:List Ch} {bi:Bi}:∀(l:List Pp),(∀p ∈ l,p.to≤64)→(rdB es cs bi l).length≤l.length * 64
 | [],_=>by simp [rdB]
 | p::l,h=>by
  have ih:=rdB_len (es:=es) (cs:=cs) (bi:=bi) l (fun q hq=>h q (by simp [hq]))
  have h1:=rdS_len (es:=es) (cs:=cs) (bi:=bi) (h p (by simp))
  have h2:=h p (by simp)
  have e:rdB es cs bi (p::l)=rdS es cs bi p++rdB es cs bi l:=by simp [rdB]
  rw [e,List.length_append,List.length_cons,h1]
  omega
set_option maxHeartbeats 4000000 in
theorem inoRead_ok (b:Nat) (ps:Option Addr) (es:Al) (rs:List (Nm×Ch)) (cs:List Ch) (bi:Bi) (f c sz:Nat) (hw:bi.mkr.size≤1099511627770) (hv:(vget es cs (nnm bi)).1.size≤1099511627776)
  (h0:(ifile es cs bi).2=0) (hz:(ifile es cs bi).1.sz=(sz:Int)) (hsz:sz≤4096) :
  Enters 57∧Spec prog 57 #[.pointer (some ⟨b,0,none⟩),bi.v,.int .i64 (f:Int),.int .i64 (c:Int)] [St ps es,Usg] [Vw b ps rs cs]
   ⟨Unit,fun _=>.tuple #[.string ⟨(rdB es cs bi (pts (min f sz) (min f sz+min c (sz - min f sz)))).toArray⟩,.int .i64 0],fun _=>True,fun _=>[],fun _=>[Vw b ps (rdR es cs bi (igetR es rs cs bi) (pts (min f sz) (min f sz+min c (sz - min f sz)))) cs]⟩:=by
 have n1:=XH b ps es rs cs bi hw hv
 rw [h0] at n1
 generalize (ifile es cs bi).1=nd at *
 obtain ⟨a1,a2,a3,a4,a5,a6,a7⟩:=nd
 dsimp only at hz
 subst hz
 have w2:(if (sz:Int)<(f:Int) then (sz:Int) else (f:Int))=((min f sz:Nat):Int):=by split<;>omega
 generalize hf0:min f sz=f0 at *
 have hf1:f0≤sz:=by omega
 have w1:IntKind.i64.wrap ((sz:Int) - (f0:Int))=((sz - f0:Nat):Int):=by rw [wrapi (by omega) (by omega)];omega
 have w4:(if ((sz - f0:Nat):Int)<(c:Int) then ((sz - f0:Nat):Int) else (c:Int))=((min c (sz - f0):Nat):Int):=by split<;>omega
 generalize hcnt:min c (sz - f0)=cnt at *
 have w3:IntKind.i64.wrap ((f0:Int)+(cnt:Int))=((f0+cnt:Nat):Int):=by rw [wrapi (by omega) (by omega)];omega
 have n3:=partsF_ok (f0:Int) ((f0+cnt:Nat):Int)
 generalize b=bv at *
 refine ⟨enters_of func57 (by kernel_rfl) rfl,Wp (vs:=[_,_,_,_]) func57 rfl ntmps57 rfl fun G w hp=>?_⟩
 repeat' (first|refine ZH ?_|refine ZI ?_|refine ZK ?_|refine ZG ?_|refine ZM ?_|refine ZJ ?_|refine ZN ?_|refine ZP (fun b=>?_)|refine ZO (fun b=>?_)|refine ZA ?_|refine ZB ?_|refine ZL ?_|refine ZE (n1) (fun _ _=>?_)|refine l_call0 (n1) (fun _ _=>?_)|refine ZE (n3) (fun _ _=>?_)|refine l_call0 (n3) (fun _ _=>?_)|rw [w2]|rw [w1]|rw [w4]|rw [w3]|(refine ZC (fun hc=>?_) (fun hc=>?_)<;>(try simp at hc)<;>(try omega))|(refine ZF (fun hc=>?_) (fun hc=>?_)<;>(try simp at hc)<;>(try omega)))
 rename_i b4 b5 _ _ b10 q _
 generalize b=b12 at *
 obtain ⟨p1,p2⟩:=q
 refine k_fz (b:=b4) ?_
 refine k_fz (b:=b5) ?_
 refine Zr (r:=Bdr b12 []) (Lx:=[Pt b12 (.cells #[.pointer none,.slice none 0 0] 228)]) (fun h hh=>bdr_new h hh) ?_
 refine Zr (r:=JR bv b12 ps es cs bi (igetR es rs cs bi) []) (Lx:=JRL bv b12 ps es cs bi (igetR es rs cs bi) []) (fun h hh=>hh) ?_
 refine Vu (α:=Pp) (enc:=Pp.v) (xs:=pts f0 (f0+cnt)) (fun pre=>JR bv b12 ps es cs bi (igetR es rs cs bi) pre) (fun _ _=>False) (VI p1 p2 f0 (f0+cnt) (by omega) (by omega)) ?_ ?_ ?_
 ·intro lr l pre e hpre G w0 hp0
  dsimp only
  have hpm:=Xn (f0+cnt - f0) f0 (f0+cnt) (Nat.le_refl _) e (hpre.subset (by simp))
  have hpl:pre.length≤4096:=by
   have h1:=hpre.length_le
   have h2:=WC (f0+cnt - f0) f0 (f0+cnt) (Nat.le_refl _)
   simp only [List.length_append,List.length_singleton] at h1;omega
  have hpre64:∀p ∈ pre,p.to≤64:=fun p hp=>(Xn (f0+cnt - f0) f0 (f0+cnt) (Nat.le_refl _) p (hpre.subset (by simp [hp]))).2.2.1
  have hbl:=rdB_len (es:=es) (cs:=cs) (bi:=bi) pre hpre64
  obtain ⟨bl,fr,to⟩:=e
  dsimp only at hpm
  have hE1:rdB es cs bi (pre++[⟨bl,fr,to⟩])=rdB es cs bi pre++rdS es cs bi ⟨bl,fr,to⟩:=by simp [rdB]
  have hE2:rdR es cs bi (igetR es rs cs bi) (pre++[⟨bl,fr,to⟩])=vread es (rdR es cs bi (igetR es rs cs bi) pre) cs (bnm bi (bl:Int)):=by simp [rdR]
  have hSl:=rdS_len (es:=es) (cs:=cs) (bi:=bi) (p:=⟨bl,fr,to⟩) hpm.2.2.1
  dsimp only at hSl
  have hseg:rdS es cs bi ⟨bl,fr,to⟩=((Yd (vget es cs (bnm bi (bl:Int))).1).drop fr).take (to - fr):=rfl
  have ho:=YU (vget es cs (bnm bi (bl:Int))).1
  have m1:=block_ok bv ps es (rdR es cs bi (igetR es rs cs bi) pre) cs bi (bl:Int) hw
  refine Z4 (X:=Unit) (Lx:=fun _=>[Vw bv ps (rdR es cs bi (igetR es rs cs bi) pre) cs,Bdr b12 (rdB es cs bi pre)]) (p:=fun _=>True) (r:=JR bv b12 ps es cs bi (igetR es rs cs bi) pre) (by first|exact .here|exact .there .here) (fun h hh=>⟨(),trivial,hh⟩) (fun _ _=>?_)
  generalize rdB es cs bi pre=B at *
  generalize rdR es cs bi (igetR es rs cs bi) pre=rs' at *
  generalize rdS es cs bi ⟨bl,fr,to⟩=seg at *
  generalize Yd (vget es cs (bnm bi (bl:Int))).1=P at *
  have hsplit:P=P.take fr++(seg++P.drop to):=by
   rw [hseg]
   conv=>lhs;rw [←List.take_append_drop fr P,←List.take_append_drop (to - fr) (P.drop fr)]
   rw [List.drop_drop,show fr+(to - fr)=to by omega]
  have hne:seg≠[]:=by
   intro h;rw [h] at hSl;simp at hSl;omega
  have m2:=fun b14=>bdWrite_ok b12 B (some ⟨b14,fr,none⟩) (64 - fr) seg hne (by omega) (by omega)
  rw [hSl] at m2
  repeat' (first|refine ZH ?_|refine ZI ?_|refine ZK ?_|refine ZG ?_|refine ZM ?_|refine ZJ ?_|refine ZN ?_|refine ZP (fun b=>?_)|refine ZO (fun b=>?_)|refine ZA ?_|refine ZB ?_|refine ZL ?_|refine ZE (m1) (fun _ _=>?_)|refine l_call0 (m1) (fun _ _=>?_)|refine k_beg ?_|(refine ZC (fun hc=>?_) (fun hc=>?_)<;>(try simp at hc)<;>(try omega))|(refine ZF (fun hc=>?_) (fun hc=>?_)<;>(try simp at hc)<;>(try omega)))
  generalize b=b14 at *
  refine l_by (T:=215) (b:=b14) (Lb:=List.replicate 64 0) rfl ?_
  refine l_stB (L0:=List.replicate 64 0) (Lb:=P) ?_ ho.symm (by simp [ho])
  refine l_fz (b:=b14) (o:=.cells (byt P).toArray 215 (0,0)) ?_
  refine l_slB (b:=b14) (T:=215) (lo:=fr) (c:=64 - fr) hsplit (by simp [ho];omega) (by omega) ?_
  repeat' (first|refine ZH ?_|refine ZI ?_|refine ZK ?_|refine ZG ?_|refine ZM ?_|refine ZJ ?_|refine ZN ?_|refine ZP (fun b=>?_)|refine ZO (fun b=>?_)|refine ZA ?_|refine ZB ?_|refine ZL ?_|refine ZE (m2 _) (fun _ _=>?_)|refine l_call0 (m2 _) (fun _ _=>?_)|refine l_sla (m:=64) fr to (by omega) (by omega) ?_|(refine ZC (fun hc=>?_) (fun hc=>?_)<;>(try simp at hc)<;>(try omega))|(refine ZF (fun hc=>?_) (fun hc=>?_)<;>(try simp at hc)<;>(try omega)))
  refine Zr (r:=JR bv b12 ps es cs bi (igetR es rs cs bi) (pre++[⟨bl,fr,to⟩])) (Lx:=[Vw bv ps (vread es rs' cs (bnm bi (bl:Int))) cs,Bdr b12 (B++seg)]) (fun h hh=>by
   show Sep [Vw bv ps (rdR es cs bi (igetR es rs cs bi) (pre++[⟨bl,fr,to⟩])) cs,Bdr b12 (rdB es cs bi (pre++[⟨bl,fr,to⟩]))] h
   rw [hE1,hE2];exact hh) ?_
  exact k_rn
 ·intro D
  refine Z4 (X:=Unit) (Lx:=fun _=>[Vw bv ps (rdR es cs bi (igetR es rs cs bi) (pts f0 (f0+cnt))) cs,Bdr b12 (rdB es cs bi (pts f0 (f0+cnt)))]) (p:=fun _=>True) (r:=JR bv b12 ps es cs bi (igetR es rs cs bi) (pts f0 (f0+cnt))) .here (fun h hh=>⟨(),trivial,hh⟩) (fun _ _=>?_)
  have hbl:=rdB_len (es:=es) (cs:=cs) (bi:=bi) (pts f0 (f0+cnt)) (fun p hp=>(Xn (f0+cnt - f0) f0 (f0+cnt) (Nat.le_refl _) p hp).2.2.1)
  have h2:=WC (f0+cnt - f0) f0 (f0+cnt) (Nat.le_refl _)
  have m3:=bdString_ok b12 (rdB es cs bi (pts f0 (f0+cnt))) (by omega)
  repeat' (first|refine ZH ?_|refine ZI ?_|refine ZK ?_|refine ZG ?_|refine ZM ?_|refine ZJ ?_|refine ZN ?_|refine ZP (fun b=>?_)|refine ZO (fun b=>?_)|refine ZA ?_|refine ZB ?_|refine ZL ?_|refine ZE (m3) (fun _ _=>?_)|refine l_call0 (m3) (fun _ _=>?_)|(refine ZC (fun hc=>?_) (fun hc=>?_)<;>(try simp at hc)<;>(try omega))|(refine ZF (fun hc=>?_) (fun hc=>?_)<;>(try simp at hc)<;>(try omega)))
  exact VH () rfl trivial
 ·intro D pre hpre
  exact w_open (X:=Empty) (Lx:=fun _=>[]) (p:=fun _=>False) .here (fun h hh=>hh.elim) (fun q hq=>hq.elim)
section
variable {n:Nat} {C:Cx} {Q:Exit→Act→World→Prop} {E E':List (Nat×Value)} {F F' F1 Fs F0:List Pf} {R R' R0 Rs N N' A:List HP} {k k':List Fr} {ops l:List Oper} {L L':List (Nat×Nat)} {Tl:List Nat} {i d b:Nat} {t ty0:TypeId} {x y y1 y2:Operand} {pos:String} {aft:Array Edge} {gd:Option (Nat×Bool)}
theorem run_slT {T m lo:Nat} {z1:Int} {w:World} {rs tr:TRow} (hlo:lo<m) (hts:lookT tab t=some rs) (hrs:rs.k = .arr m T) (hT:lookT tab T=some tr) (hsz:tr.size=1) (hz1:z1=(lo:Int)) :
  (Instr.sliceAt t (.pointer (some ⟨b,0,none⟩)) (some (.int .i64 z1)) none none).run prog w = .ok (.slice (some ⟨b,lo,none⟩) (m - lo) (m - lo)) w:=by
 subst hz1
 have hs1:=Zo.sizeOf hT w
 rw [hsz] at hs1
 have c2:(0:Int)≤(lo:Int)∧(lo:Int)≤(m:Int):=⟨by omega,by omega⟩
 simp only [Instr.sliceAt,run_undA hts hrs,Instr.sureAddr,Instr.sliceBounds,Instr.sliceBound,asIntOf,Sem.run_bind,Sem.run_pure,Result.andThen,if_pos c2,hs1,Int.toNat_natCast]
 rw [if_neg (by omega),Yw (b:=b) (p:=0) rfl]
 simp
theorem l_slT {T m:Nat} {z1:Int} {rs tr:TRow} (lo:Nat) (hlo:lo<m) (nx:Wl n C ops.toArray k Q l ((d,.slice (some ⟨b,lo,none⟩) (m - lo) (m - lo))::E) F R)
  (hw:wantL ops E ⟨some d,.slice t x (some y1) none none,ty0,pos,aft,gd⟩=some true:=by rfl) (hn:Nat.blt d n=true:=by rfl) (hx:ev E x=some (.pointer (some ⟨b,0,none⟩)):=by rfl) (hy1:ev E y1=some (.int .i64 z1):=by rfl)
  (hts:lookT tab t=some rs:=by rfl) (hrs:rs.k = .arr m T:=by rfl) (hT:lookT tab T=some tr:=by rfl) (hsz:tr.size=1:=by rfl) (hz1:z1=(lo:Int):=by rfl):Wl n C ops.toArray k Q (⟨some d,.slice t x (some y1) none none,ty0,pos,aft,gd⟩::l) E F R:=
 l_q (fun a w ha=>by
  simp only [execOp,Option.map_some,Option.map_none,ha.ev (x:=x) (by rw [ZU];exact hx),ha.ev (x:=y1) (by rw [ZU];exact hy1),Sem.run_bind,run_slT (w:=w) (b:=b) hlo hts hrs hT hsz hz1,Result.andThen,Sem.run_pure]) nx (by intro c h;cases h) hw hn
def clrB (Lb:List UInt8) (lo:Nat):List UInt8:=Lb.take lo++List.replicate (Lb.length - lo) 0
theorem clrB_len {Lb:List UInt8} {lo:Nat} (h:lo≤Lb.length):(clrB Lb lo).length=Lb.length:=by simp [clrB];omega
theorem run_clr {T T0 b lo c m:Nat} {Lb:List UInt8} {ts:TypeId} {rs tr:TRow} {w:World} (hts:lookT tab ts=some rs) (hrs:rs.k = .slice T0) (hT:lookT tab T0=some tr) (hzv:zval tr=some (.int .u8 0))
  (hb:w.heap[b]? = some (.cells (byt Lb).toArray T (0,0))) (hm:m=Lb.length - lo) (hlt:lo<Lb.length) :
  ∃w',(Builtin.clear_ #[ts] ty0 #[.slice (some ⟨b,lo,none⟩) m c]).run prog w = .ok (.tuple #[]) w'∧w'.heap[b]? = some (.cells (byt (clrB Lb lo)).toArray T (0,0))∧Same w w'∧∀e,e≠b→w'.heap[e]? = w.heap[e]?:=by
 have hz:=zval_ok hT hzv w
 obtain ⟨k,rfl⟩:∃k,m=k+1:=⟨m - 1,by omega⟩
 have hcells:(Builtin.zeroCells (Value.cells (.int .u8 0)) (k+1)).toList=byt (List.replicate (k+1) 0):=by
  simp only [Builtin.zeroCells,byt,Value.cells,Array.toList_map,Array.toList_range,List.map_replicate]
  refine List.ext_getElem (by simp) fun j h1 h2=>?_
  simp [Nat.mod_one]
 obtain ⟨w',g1,g2,g3,g4⟩:=YY (P:=prog) (b:=b) (ty:=T) lo (byt (List.replicate (k+1) 0)) 0 w (byt Lb) hb (.inl rfl) (Vx _) (by simp only [Xj,List.length_replicate];omega)
 refine ⟨w',?_,?_,g3,g4⟩
 ·simp only [Builtin.clear_,List.getElem?_toArray,List.getElem?_cons_zero,Sem.run_bind,Xm hts hrs,Result.andThen,Sem.run_pure,hz]
  rw [hcells,g1]
 ·rw [g2]
  congr 3
  have e1:(byt (List.replicate (k+1) (0:UInt8))).length=k+1:=by simp only [Xj,List.length_replicate]
  rw [Nat.add_zero,e1,clrB,Yx,←hm]
  have e2:(byt Lb).drop (lo+(k+1))=[]:=by rw [List.drop_eq_nil_iff];simp only [Xj];omega
  rw [e2,List.append_nil]
  simp [byt,List.map_take]
theorem l_clr {T T0 lo c m:Nat} {Lb:List UInt8} {ts:TypeId} {rs tr:TRow} (nx:Wl n C ops.toArray k Q l E F (By T b (clrB Lb lo)::R0)) (hm:m=Lb.length - lo) (hlt:lo<Lb.length)
  (hw:wantL ops E ⟨none,.call ⟨.builtin .clear,#[x],#[ts]⟩,ty0,pos,aft,gd⟩=some true:=by rfl) (hx:ev E x=some (.slice (some ⟨b,lo,none⟩) m c):=by rfl)
  (hts:lookT tab ts=some rs:=by rfl) (hrs:rs.k = .slice T0:=by rfl) (hT:lookT tab T0=some tr:=by rfl) (hzv:zval tr=some (.int .u8 0):=by rfl) (hs:Sel (By T b Lb) R R0:=by (repeat (first|exact Sel.here|apply Sel.there));first|done|fail) :
  Wl n C ops.toArray k Q (⟨none,.call ⟨.builtin .clear,#[x],#[ts]⟩,ty0,pos,aft,gd⟩::l) E F R:=
 Z6 (fun t ht=>by cases ht) (fun c hc=>by cases hc) hw fun a w ha hsat=>by
  obtain ⟨w',g1,g2,g3,g4⟩:=run_clr (ty0:=ty0) (c:=c) hts hrs hT hzv (hsat.pt hs) hm hlt
  have hse:Sat C.G C.w0 C.hp0 F (By T b (clrB Lb lo)::R0) w':=(show Sat C.G C.w0 C.hp0 F (Pt b (.cells (byt Lb).toArray T (0,0))::R0) w from hsat.sel hs).write g3 g2 fun e he _=>g4 e he
  unfold OpRes
  have e1:=ha.ev (x:=x) (by rw [ZU];exact hx)
  simp only [execOp,resolve,Sem.run_bind,Sem.run_pure,Result.andThen,invoke,builtin,List.map_toArray,List.map_cons,List.map_nil,e1,g1]
  exact fun a' ha'=>nx a' w' ha' hse
end
theorem vwDelete_ok (b:Nat) (ps:Option Addr) (rs:List (Nm×Ch)) (cs:List Ch) (a:Nm) (ha:a.owner.size≤1099511627776) (hat:a.text.size≤1099511627776) (hl:cs.length≤1000000) :
  Enters 168∧Spec prog 168 #[.pointer (some ⟨b,0,none⟩),a.v] [Usg] [Vw b ps rs cs] ⟨Unit,fun _=>.int .i64 (vdel cs a).1,fun _=>True,fun _=>[],fun _=>[Vw b ps rs (vdel cs a).2]⟩:=by
 have n1:=Y4 a ha hat
 have n2:=vwCall_ok b ps rs cs ⟨a,⟨#[]⟩,true⟩ hl
 by_cases h1:nchk a=0
 ·have e:vdel cs a=(0,cs++[⟨a,⟨#[]⟩,true⟩]):=by unfold vdel;rw [if_neg (by simp [h1])]
  rw [e]
  refine ZV [_,_] func168 ntmps168 fun G w hp=>?_
  repeat' (first|refine ZH ?_|refine ZI ?_|refine ZK ?_|refine ZG ?_|refine ZM ?_|refine ZJ ?_|refine ZN ?_|refine ZP (fun b=>?_)|refine ZO (fun b=>?_)|refine ZA ?_|refine ZB ?_|refine ZL ?_|refine ZE (n1) (fun _ _=>?_)|refine l_call0 (n1) (fun _ _=>?_)|refine ZE (n2) (fun _ _=>?_)|refine l_call0 (n2) (fun _ _=>?_)|(refine ZC (fun hc=>?_) (fun hc=>?_)<;>(try simp at hc)<;>(try omega))|(refine ZF (fun hc=>?_) (fun hc=>?_)<;>(try simp at hc)<;>(try omega)))
  exact ZT () rfl trivial
 ·have e:vdel cs a=(12,cs):=by unfold vdel;rw [if_pos h1]
  rw [e]
  refine ZV [_,_] func168 ntmps168 fun G w hp=>?_
  repeat' (first|refine ZH ?_|refine ZI ?_|refine ZK ?_|refine ZG ?_|refine ZM ?_|refine ZJ ?_|refine ZN ?_|refine ZP (fun b=>?_)|refine ZO (fun b=>?_)|refine ZA ?_|refine ZB ?_|refine ZL ?_|refine ZE (n1) (fun _ _=>?_)|refine l_call0 (n1) (fun _ _=>?_)|refine ZE (n2) (fun _ _=>?_)|refine l_call0 (n2) (fun _ _=>?_)|(refine ZC (fun hc=>?_) (fun hc=>?_)<;>(try simp at hc)<;>(try omega))|(refine ZF (fun hc=>?_) (fun hc=>?_)<;>(try simp at hc)<;>(try omega)))
  exact ZT () rfl trivial
def dls (bi:Bi) (a k:Nat):List Ch:=(List.range' a k).map fun j:Nat=>(⟨bnm bi (j:Int),⟨#[]⟩,true⟩:Ch)
theorem dls_snoc (bi:Bi) (a k:Nat):dls bi a (k+1)=dls bi a k++[⟨bnm bi ((a+k:Nat):Int),⟨#[]⟩,true⟩]:=by
 simp only [dls,List.range'_1_concat,List.map_append,List.map_cons,List.map_nil]
def cutD (cs:List Ch) (bi:Bi) (e sz:Nat):List Ch:=cs++dls bi ((e+63) / 64) ((sz+63) / 64 - (e+63) / 64)
def cutC (es:Al) (cs:List Ch) (bi:Bi) (e sz:Nat):List Ch:=
 if e % 64=0 then cutD cs bi e sz else if (vget es (cutD cs bi e sz) (bnm bi ((e / 64:Nat):Int))).2 then cutD cs bi e sz++[⟨bnm bi ((e / 64:Nat):Int),⟨(clrB (Yd (vget es (cutD cs bi e sz) (bnm bi ((e / 64:Nat):Int))).1) (e % 64)).toArray⟩,false⟩] else cutD cs bi e sz
def cutR (es:Al) (rs:List (Nm×Ch)) (cs:List Ch) (bi:Bi) (e sz:Nat):List (Nm×Ch):=
 if e % 64=0 then rs else vread es rs (cutD cs bi e sz) (bnm bi ((e / 64:Nat):Int))
set_option maxHeartbeats 4000000 in
theorem inoCut_ok (b:Nat) (ps:Option Addr) (es:Al) (rs:List (Nm×Ch)) (cs:List Ch) (bi:Bi) (e sz:Nat) (hes:e<sz) (hsz:sz≤4096) (hb:bchk bi=0) (hw:bi.mkr.size≤1099511627770) (hl:cs.length≤900000) :
  Enters 123∧Spec prog 123 #[.pointer (some ⟨b,0,none⟩),bi.v,.int .i64 (e:Int),.int .i64 (sz:Int)] [St ps es,Usg] [Vw b ps rs cs]
   ⟨Unit,fun _=>.int .i64 0,fun _=>True,fun _=>[],fun _=>[Vw b ps (cutR es rs cs bi e sz) (cutC es cs bi e sz)]⟩:=by
 have w1:IntKind.i64.wrap ((e:Int)+64)=((e+64:Nat):Int):=by rw [wrapi (by omega) (by omega)];omega
 have w2:IntKind.i64.wrap (((e+64:Nat):Int) - 1)=((e+63:Nat):Int):=by rw [wrapi (by omega) (by omega)];omega
 have w3:((e+63:Nat):Int).tdiv 64=(((e+63) / 64:Nat):Int):=by rw [Int.tdiv_eq_ediv_of_nonneg (Int.natCast_nonneg _)];exact (Int.natCast_ediv _ 64).symm
 have w4:IntKind.i64.wrap ((((e+63) / 64:Nat):Int))=(((e+63) / 64:Nat):Int):=wrapi (by omega) (by omega)
 have w5:(e:Int).tmod 64=((e % 64:Nat):Int):=by rw [Int.tmod_eq_emod_of_nonneg (Int.natCast_nonneg _)];exact (Int.natCast_emod _ 64).symm
 have w6:IntKind.i64.wrap (((e % 64:Nat):Int))=((e % 64:Nat):Int):=wrapi (by omega) (by omega)
 have hD:cutD cs bi e sz=cs++dls bi ((e+63) / 64) ((sz+63) / 64 - (e+63) / 64):=rfl
 have hdl:∀k,(dls bi ((e+63) / 64) k).length=k:=fun k=>by simp [dls]
 generalize b=bv at *
 refine ZV [_,_,_,_] func123 ntmps123 fun G w hp=>?_
 repeat' (first|refine ZH ?_|refine ZI ?_|refine ZK ?_|refine ZG ?_|refine ZM ?_|refine ZJ ?_|refine ZN ?_|refine ZP (fun b=>?_)|refine ZO (fun b=>?_)|refine ZA ?_|refine ZB ?_|refine ZL ?_|refine ZX ?_|refine ZY ?_|refine Zf ?_|refine Za ?_|refine Zb ?_|refine Zc (fun b=>?_)|refine Zd (fun b=>?_)|refine Ze ?_|refine ZZ ?_|rw [w1]|rw [w2]|rw [w3]|rw [w4]|(refine ZC (fun hc=>?_) (fun hc=>?_)<;>(try simp at hc)<;>(try omega))|(refine ZQ (fun hc=>?_) (fun hc=>?_)<;>(try simp at hc)<;>(try omega))|refine ZD 14 [] [(0,0),(1,0),(2,0),(3,0),(5,0),(6,0),(4,4),(7,4),(8,0)] [] ?_|(refine ZF (fun hc=>?_) (fun hc=>?_)<;>(try simp at hc)<;>(try omega)))
 refine YT (X:={i:Nat // i≤(sz+63) / 64 - (e+63) / 64}) (fun i=>[(0,.pointer (some ⟨bv,0,none⟩)),(2,.int .i64 (e:Int)),(3,.int .i64 (sz:Int)),(5,.pointer (some ⟨b,0,none⟩)),(9,.int .i64 (((e+63) / 64:Nat):Int)),(10,.int .i64 (((e+63) / 64+i.1:Nat):Int))]) (fun _=>[St ps es,Usg]) (fun i=>[Vw bv ps rs (cs++dls bi ((e+63) / 64) i.1),Pt b (.cells #[.string bi.mkr,.int .i64 bi.nu] 68)]) (fun i=>(sz+63) / 64 - (e+63) / 64 - i.1) ⟨0,by omega⟩ ⟨rfl,rfl,rfl,rfl,rfl,rfl,trivial⟩ ?_ (hr:=by simp only [dls,List.range'_zero,List.map_nil,List.append_nil];exact Sels.cons (.there .here) (.cons .here .nil))
 rintro ⟨i,hi⟩
 dsimp only at hi ⊢
 have hlen:=hdl i
 have v1:IntKind.i64.wrap ((((e+63) / 64+i:Nat):Int) * 64)=((((e+63) / 64+i) * 64:Nat):Int):=by rw [wrapi (by omega) (by omega)];omega
 by_cases hlt:i<(sz+63) / 64 - (e+63) / 64
 ·have n1:=WI bi (((e+63) / 64+i:Nat):Int)
  have n2:=vwDelete_ok bv ps rs (cs++dls bi ((e+63) / 64) i) (bnm bi (((e+63) / 64+i:Nat):Int)) (by show bi.mkr.size≤_;omega) (Nat.zero_le _) (by rw [List.length_append,hlen];omega)
  have e9:vdel (cs++dls bi ((e+63) / 64) i) (bnm bi (((e+63) / 64+i:Nat):Int))=(0,cs++dls bi ((e+63) / 64) (i+1)):=by
   unfold vdel
   rw [if_neg (by rw [YP hb (i:=(((e+63) / 64+i:Nat):Int)) (by omega)];simp),dls_snoc,List.append_assoc]
  rw [e9] at n2
  have v2:IntKind.i64.wrap ((((e+63) / 64+i:Nat):Int)+1)=(((e+63) / 64+(i+1):Nat):Int):=by rw [wrapi (by omega) (by omega)];omega
  repeat' (first|refine ZH ?_|refine ZI ?_|refine ZK ?_|refine ZG ?_|refine ZM ?_|refine ZJ ?_|refine ZN ?_|refine ZP (fun b=>?_)|refine ZO (fun b=>?_)|refine ZA ?_|refine ZB ?_|refine ZX ?_|refine ZY ?_|refine Zf ?_|refine Za ?_|refine Zb ?_|refine Zc (fun b=>?_)|refine Zd (fun b=>?_)|refine Ze ?_|refine ZZ ?_|refine ZE (n1) (fun _ _=>?_)|refine l_call0 (n1) (fun _ _=>?_)|refine ZS (n1) (fun _ _=>?_)|refine ZE (n2) (fun _ _=>?_)|refine l_call0 (n2) (fun _ _=>?_)|refine ZS (n2) (fun _ _=>?_)|rw [v1]|(refine ZC (fun hc=>?_) (fun hc=>?_)<;>(try simp at hc)<;>(try omega))|(refine ZQ (fun hc=>?_) (fun hc=>?_)<;>(try simp at hc)<;>(try omega))|refine ZD 14 [] [(0,0),(1,0),(2,0),(3,0),(5,0),(6,0),(4,4),(7,4),(8,0)] [] ?_|(refine ZF (fun hc=>?_) (fun hc=>?_)<;>(try simp at hc)<;>(try omega)))
  rw [v2]
  exact Zi ⟨i+1,by omega⟩ (by show (sz+63) / 64 - (e+63) / 64 - (i+1)<(sz+63) / 64 - (e+63) / 64 - i;omega) ⟨rfl,rfl,rfl,rfl,rfl,rfl,trivial⟩
 ·obtain rfl:i=(sz+63) / 64 - (e+63) / 64:=by omega
  rw [←hD]
  have hDl:(cutD cs bi e sz).length≤910000:=by rw [hD,List.length_append,hlen];omega
  unfold cutC cutR
  generalize cutD cs bi e sz=cs1 at *
  by_cases h64:e % 64=0
  ·rw [if_pos h64,if_pos h64]
   repeat' (first|refine ZH ?_|refine ZI ?_|refine ZK ?_|refine ZG ?_|refine ZM ?_|refine ZJ ?_|refine ZN ?_|refine ZP (fun b=>?_)|refine ZO (fun b=>?_)|refine ZA ?_|refine ZB ?_|refine ZL ?_|refine ZX ?_|refine ZY ?_|refine Zf ?_|refine Za ?_|refine Zb ?_|refine Zc (fun b=>?_)|refine Zd (fun b=>?_)|refine Ze ?_|refine ZZ ?_|rw [v1]|rw [w5]|rw [w6]|(refine ZC (fun hc=>?_) (fun hc=>?_)<;>(try simp at hc)<;>(try omega))|(refine ZQ (fun hc=>?_) (fun hc=>?_)<;>(try simp at hc)<;>(try omega))|refine ZD 14 [] [(0,0),(1,0),(2,0),(3,0),(5,0),(6,0),(4,4),(7,4),(8,0)] [] ?_|(refine ZF (fun hc=>?_) (fun hc=>?_)<;>(try simp at hc)<;>(try omega)))
   exact ZT () rfl trivial
  ·rw [if_neg h64,if_neg h64]
   have v3:IntKind.i64.wrap ((((e+63) / 64:Nat):Int) - 1)=((e / 64:Nat):Int):=by rw [wrapi (by omega) (by omega)];omega
   have m1:=block_ok bv ps es rs cs1 bi ((e / 64:Nat):Int) hw
   have ho:=YU (vget es cs1 (bnm bi ((e / 64:Nat):Int))).1
   have hnm:=YP hb (i:=((e / 64:Nat):Int)) (by omega)
   cases hp:(vget es cs1 (bnm bi ((e / 64:Nat):Int))).2 with
   | false=>
    rw [hp] at m1
    rw [if_neg (by simp)]
    generalize Yd (vget es cs1 (bnm bi ((e / 64:Nat):Int))).1=P at *
    repeat' (first|refine ZH ?_|refine ZI ?_|refine ZK ?_|refine ZG ?_|refine ZM ?_|refine ZJ ?_|refine ZN ?_|refine ZP (fun b=>?_)|refine ZO (fun b=>?_)|refine ZA ?_|refine ZB ?_|refine ZL ?_|refine ZX ?_|refine ZY ?_|refine Zf ?_|refine Za ?_|refine Zb ?_|refine Zc (fun b=>?_)|refine Zd (fun b=>?_)|refine Ze ?_|refine ZZ ?_|refine ZE (m1) (fun _ _=>?_)|refine l_call0 (m1) (fun _ _=>?_)|refine ZS (m1) (fun _ _=>?_)|rw [v1]|rw [w5]|rw [w6]|rw [v3]|(refine ZC (fun hc=>?_) (fun hc=>?_)<;>(try simp at hc)<;>(try omega))|(refine ZQ (fun hc=>?_) (fun hc=>?_)<;>(try simp at hc)<;>(try omega))|refine ZD 14 [] [(0,0),(1,0),(2,0),(3,0),(5,0),(6,0),(4,4),(7,4),(8,0)] [] ?_|(refine ZF (fun hc=>?_) (fun hc=>?_)<;>(try simp at hc)<;>(try omega)))
    generalize b=b12 at *
    refine l_by (T:=215) (b:=b12) (Lb:=List.replicate 64 0) rfl ?_
    refine l_stB (L0:=List.replicate 64 0) (Lb:=P) ?_ ho.symm (by simp [ho])
    repeat' (first|refine ZH ?_|refine ZI ?_|refine ZK ?_|refine ZG ?_|refine ZM ?_|refine ZJ ?_|refine ZN ?_|refine ZP (fun b=>?_)|refine ZO (fun b=>?_)|refine ZA ?_|refine ZB ?_|refine ZL ?_|refine ZX ?_|refine ZY ?_|refine Zf ?_|refine Za ?_|refine Zb ?_|refine Zc (fun b=>?_)|refine Zd (fun b=>?_)|refine Ze ?_|refine ZZ ?_|(refine ZC (fun hc=>?_) (fun hc=>?_)<;>(try simp at hc)<;>(try omega))|(refine ZQ (fun hc=>?_) (fun hc=>?_)<;>(try simp at hc)<;>(try omega))|refine ZD 14 [] [(0,0),(1,0),(2,0),(3,0),(5,0),(6,0),(4,4),(7,4),(8,0)] [] ?_|(refine ZF (fun hc=>?_) (fun hc=>?_)<;>(try simp at hc)<;>(try omega)))
    exact ZT () rfl trivial
   | true=>
    rw [hp] at m1
    rw [if_pos rfl]
    generalize Yd (vget es cs1 (bnm bi ((e / 64:Nat):Int))).1=P at *
    have hcl:=clrB_len (Lb:=P) (lo:=e % 64) (by omega)
    have n1:=WI bi ((e / 64:Nat):Int)
    have n2:=WY bv ps (vread es rs cs1 (bnm bi ((e / 64:Nat):Int))) cs1 (bnm bi ((e / 64:Nat):Int)) ⟨(clrB P (e % 64)).toArray⟩ (by show bi.mkr.size≤_;omega) (Nat.zero_le _) (by omega)
    have e9:vset cs1 (bnm bi ((e / 64:Nat):Int)) ⟨(clrB P (e % 64)).toArray⟩=(0,cs1++[⟨bnm bi ((e / 64:Nat):Int),⟨(clrB P (e % 64)).toArray⟩,false⟩]):=by
     unfold vset
     rw [if_neg (by rw [hnm];simp),if_neg (by show ¬65536<(List.toArray _).size;rw [List.size_toArray,hcl];omega)]
    rw [e9] at n2
    repeat' (first|refine ZH ?_|refine ZI ?_|refine ZK ?_|refine ZG ?_|refine ZM ?_|refine ZJ ?_|refine ZN ?_|refine ZP (fun b=>?_)|refine ZO (fun b=>?_)|refine ZA ?_|refine ZB ?_|refine ZL ?_|refine ZX ?_|refine ZY ?_|refine Zf ?_|refine Za ?_|refine Zb ?_|refine Zc (fun b=>?_)|refine Zd (fun b=>?_)|refine Ze ?_|refine ZZ ?_|refine ZE (m1) (fun _ _=>?_)|refine l_call0 (m1) (fun _ _=>?_)|refine ZS (m1) (fun _ _=>?_)|rw [v1]|rw [w5]|rw [w6]|rw [v3]|(refine ZC (fun hc=>?_) (fun hc=>?_)<;>(try simp at hc)<;>(try omega))|(refine ZQ (fun hc=>?_) (fun hc=>?_)<;>(try simp at hc)<;>(try omega))|refine ZD 14 [] [(0,0),(1,0),(2,0),(3,0),(5,0),(6,0),(4,4),(7,4),(8,0)] [] ?_|(refine ZF (fun hc=>?_) (fun hc=>?_)<;>(try simp at hc)<;>(try omega)))
    generalize b=b12 at *
    refine l_by (T:=215) (b:=b12) (Lb:=List.replicate 64 0) rfl ?_
    refine l_stB (L0:=List.replicate 64 0) (Lb:=P) ?_ ho.symm (by simp [ho])
    repeat' (first|refine ZH ?_|refine ZI ?_|refine ZK ?_|refine ZG ?_|refine ZM ?_|refine ZJ ?_|refine ZN ?_|refine ZP (fun b=>?_)|refine ZO (fun b=>?_)|refine ZA ?_|refine ZB ?_|refine ZL ?_|refine ZX ?_|refine ZY ?_|refine Zf ?_|refine Za ?_|refine Zb ?_|refine Zc (fun b=>?_)|refine Zd (fun b=>?_)|refine Ze ?_|refine ZZ ?_|refine ZE (n1) (fun _ _=>?_)|refine l_call0 (n1) (fun _ _=>?_)|refine ZS (n1) (fun _ _=>?_)|refine ZE (n2) (fun _ _=>?_)|refine l_call0 (n2) (fun _ _=>?_)|refine ZS (n2) (fun _ _=>?_)|rw [w5]|rw [w6]|rw [v3]|refine l_slT (m:=64) (e % 64) (by omega) ?_|refine l_clr (Lb:=P) (lo:=e % 64) ?_ (by rw [ho]) (by omega)|refine r_sla0 ?_|refine r_b2sB (Lb:=clrB P (e % 64)) ?_ (by rw [hcl,ho])|(refine ZC (fun hc=>?_) (fun hc=>?_)<;>(try simp at hc)<;>(try omega))|(refine ZQ (fun hc=>?_) (fun hc=>?_)<;>(try simp at hc)<;>(try omega))|refine ZD 14 [Vw _ _ _ _] [(0,0),(1,0),(2,0),(3,0),(5,0),(6,0),(4,4),(7,4),(8,0)] [] ?_|(refine ZF (fun hc=>?_) (fun hc=>?_)<;>(try simp at hc)<;>(try omega)))
    exact ZT () rfl trivial
def rszC (es:Al) (cs:List Ch) (bi:Bi) (n sz:Nat):List Ch:=if n=sz then cs else (if n<sz then cutC es cs bi n sz else cs)++[⟨nnm bi,iencS {(ifile es cs bi).1 with sz:=(n:Int)},false⟩]
def rszR (es:Al) (rs:List (Nm×Ch)) (cs:List Ch) (bi:Bi) (n sz:Nat):List (Nm×Ch):=if n<sz then cutR es (igetR es rs cs bi) cs bi n sz else igetR es rs cs bi
theorem cutC_len (es:Al) (cs:List Ch) (bi:Bi) (e sz:Nat) (h:sz≤4096):(cutC es cs bi e sz).length≤cs.length+65:=by
 have hd:(cutD cs bi e sz).length≤cs.length+64:=by
  simp only [cutD,List.length_append,dls,List.length_map,List.length_range'];omega
 unfold cutC
 split
 ·omega
 ·split
  ·simp only [List.length_append,List.length_singleton];omega
  ·omega
set_option maxHeartbeats 4000000 in
theorem resize_ok (b:Nat) (ps:Option Addr) (es:Al) (rs:List (Nm×Ch)) (cs:List Ch) (bi:Bi) (n sz:Nat) (hw:bi.mkr.size≤1099511627770) (hv:(vget es cs (nnm bi)).1.size≤1099511627776) (hl:cs.length≤800000)
  (h0:(ifile es cs bi).2=0) (hz:(ifile es cs bi).1.sz=(sz:Int)) (hsz:sz≤4096) (hn:n≤4096) :
  Enters 59∧Spec prog 59 #[.pointer (some ⟨b,0,none⟩),bi.v,.int .i64 (n:Int)] [St ps es,Usg] [Vw b ps rs cs]
   ⟨Unit,fun _=>.int .i64 0,fun _=>True,fun _=>[],fun _=>[Vw b ps (rszR es rs cs bi n sz) (rszC es cs bi n sz)]⟩:=by
 have n1:=XH b ps es rs cs bi hw hv
 obtain ⟨g1,g2,g3,g4⟩:=Wh h0
 have n2:=Z5 (n:Int) 4096
 rw [show (decide ((0:Int)≤(n:Int)) && decide ((n:Int)≤4096))=true by simp;omega] at n2
 unfold rszR rszC
 rw [h0] at n1
 generalize (ifile es cs bi).1=nd at *
 have hck:=XG g2 g3 g4 (z:=(n:Int)) (by omega)
 have hes:=Zs {nd with sz:=(n:Int)}
 have hnn:=Zu g1
 have n5:=fun rs' cs' (h:cs'.length≤1000000)=>W9 b ps rs' cs' bi nd (n:Int) hck (by omega) h
 have e9:∀cs',vset cs' (nnm bi) (iencS {nd with sz:=(n:Int)})=(0,cs'++[⟨nnm bi,iencS {nd with sz:=(n:Int)},false⟩]):=fun cs'=>by
  unfold vset
  rw [if_neg (by rw [hnn];simp),if_neg (by omega)]
 simp only [e9] at n5
 have n3:=fun h=>inoCut_ok b ps es (igetR es rs cs bi) cs bi n sz h hsz g1 hw (by omega)
 have hcl:=cutC_len es cs bi n sz hsz
 generalize cutC es cs bi n sz=cs2 at *
 generalize cutR es (igetR es rs cs bi) cs bi n sz=rs2 at *
 generalize igetR es rs cs bi=rs1 at *
 generalize iencS {nd with sz:=(n:Int)}=S at *
 have n6:=n5 rs2 cs2 (by omega)
 have n7:=n5 rs1 cs (by omega)
 obtain ⟨a1,a2,a3,a4,a5,a6,a7⟩:=nd
 dsimp only at hz
 subst hz
 simp only [Ino.v] at n1 n6 n7
 rcases Nat.lt_trichotomy n sz with h|h|h
 ·have n4:=n3 h
  rw [if_pos h,if_neg (by omega),if_pos h]
  refine ZV [_,_,_] func59 ntmps59 fun G w hp=>?_
  repeat' (first|refine ZH ?_|refine ZI ?_|refine ZK ?_|refine ZG ?_|refine ZM ?_|refine ZJ ?_|refine ZN ?_|refine ZP (fun b=>?_)|refine ZO (fun b=>?_)|refine ZA ?_|refine ZB ?_|refine ZL ?_|refine ZE (n1) (fun _ _=>?_)|refine l_call0 (n1) (fun _ _=>?_)|refine ZE (n2) (fun _ _=>?_)|refine l_call0 (n2) (fun _ _=>?_)|refine ZE (n4) (fun _ _=>?_)|refine l_call0 (n4) (fun _ _=>?_)|refine ZE (n6) (fun _ _=>?_)|refine l_call0 (n6) (fun _ _=>?_)|(refine ZC (fun hc=>?_) (fun hc=>?_)<;>(try simp at hc)<;>(try omega))|(refine ZF (fun hc=>?_) (fun hc=>?_)<;>(try simp at hc)<;>(try omega)))
  exact ZT () rfl trivial
 ·subst h
  rw [if_neg (by omega),if_pos rfl]
  refine ZV [_,_,_] func59 ntmps59 fun G w hp=>?_
  repeat' (first|refine ZH ?_|refine ZI ?_|refine ZK ?_|refine ZG ?_|refine ZM ?_|refine ZJ ?_|refine ZN ?_|refine ZP (fun b=>?_)|refine ZO (fun b=>?_)|refine ZA ?_|refine ZB ?_|refine ZL ?_|refine ZE (n1) (fun _ _=>?_)|refine l_call0 (n1) (fun _ _=>?_)|refine ZE (n2) (fun _ _=>?_)|refine l_call0 (n2) (fun _ _=>?_)|(refine ZC (fun hc=>?_) (fun hc=>?_)<;>(try simp at hc)<;>(try omega))|(refine ZF (fun hc=>?_) (fun hc=>?_)<;>(try simp at hc)<;>(try omega)))
  exact ZT () rfl trivial
 ·rw [if_neg (by omega),if_neg (by omega),if_neg (by omega)]
  refine ZV [_,_,_] func59 ntmps59 fun G w hp=>?_
  repeat' (first|refine ZH ?_|refine ZI ?_|refine ZK ?_|refine ZG ?_|refine ZM ?_|refine ZJ ?_|refine ZN ?_|refine ZP (fun b=>?_)|refine ZO (fun b=>?_)|refine ZA ?_|refine ZB ?_|refine ZL ?_|refine ZE (n1) (fun _ _=>?_)|refine l_call0 (n1) (fun _ _=>?_)|refine ZE (n2) (fun _ _=>?_)|refine l_call0 (n2) (fun _ _=>?_)|refine ZE (n7) (fun _ _=>?_)|refine l_call0 (n7) (fun _ _=>?_)|(refine ZC (fun hc=>?_) (fun hc=>?_)<;>(try simp at hc)<;>(try omega))|(refine ZF (fun hc=>?_) (fun hc=>?_)<;>(try simp at hc)<;>(try omega)))
  exact ZT () rfl trivial
variable {es:Al} {cs:List Ch}
section
open VQ
section
variable {bi:Bi}
def iN (cs:List Ch) (b:Bi):List Nm:=if bchk b≠0 then [] else rn cs (nnm b)
theorem WJ (rs:List (Nm×Ch)):igetR es rs cs bi=rsq es (iN cs bi) rs:=by
 unfold igetR iN
 split
 ·rfl
 ·exact Wf _ _ _ _
def qGet (b:Bi):VQ (Ino×Int):=if bchk b≠0 then .ret (Ino.z,bchk b) else .get (nnm b) fun r=>.ret (if r.2 then ((idec r.1).getD Ino.z,if (idec r.1).isSome then 0 else 3) else (Ino.z,8))
theorem V1 (b:Bi):(qGet b).run es cs=(iget es cs b,iN cs b,cs):=by
 unfold qGet iget iN
 by_cases h:bchk b≠0
 ·rw [if_pos h,if_pos h,if_pos h];rfl
 ·rw [if_neg h,if_neg h,if_neg h];simp only [run,List.append_nil]
def qFile (b:Bi):VQ (Ino×Int):=(qGet b).bind fun a=>.ret (if a.2≠0 then (Ino.z,a.2) else if a.1.kd=2 then (Ino.z,15) else if a.1.kd=3 then (Ino.z,11) else (a.1,0))
theorem YQ (b:Bi):(qFile b).run es cs=(ifile es cs b,iN cs b,cs):=by
 unfold qFile
 rw [run_bind,V1]
 simp only [run,List.append_nil]
 rfl
def qRdL (bi:Bi):List Pp→List UInt8→VQ (List UInt8)
 | [],acc=>.ret acc
 | p::l,acc=>.get (bnm bi p.bl) fun r=>qRdL bi l (acc++((Yd r.1).drop p.fr).take (p.to - p.fr))
def rdN (cs:List Ch) (bi:Bi) (l:List Pp):List Nm:=l.flatMap fun p=>rn cs (bnm bi p.bl)
theorem Xx:∀(l:List Pp) (acc:List UInt8),(qRdL bi l acc).run es cs=(acc++rdB es cs bi l,rdN cs bi l,cs)
 | [],acc=>by simp [qRdL,run,rdB,rdN]
 | p::l,acc=>by
  rw [qRdL]
  simp only [run,Xx l]
  simp [rdB,rdN,rdS]
theorem rdR_q:∀(l:List Pp) (rs:List (Nm×Ch)),rdR es cs bi rs l=rsq es (rdN cs bi l) rs
 | [],rs=>rfl
 | p::l,rs=>by
  show rdR es cs bi (vread es rs cs (bnm bi p.bl)) l=rsq es (rn cs (bnm bi p.bl)++rdN cs bi l) rs
  rw [rdR_q l,W5,Wf]
def qRead (bi:Bi) (f c:Int):VQ (ByteArray×Int):=(qFile bi).bind fun a=>if a.2≠0 then .ret (⟨#[]⟩,a.2) else if f<0∨c<0 then .ret (⟨#[]⟩,2) else
 (qRdL bi (pts (min f.toNat a.1.sz.toNat) (min f.toNat a.1.sz.toNat+min c.toNat (a.1.sz.toNat - min f.toNat a.1.sz.toNat))) []).bind fun l=>.ret (⟨l.toArray⟩,0)
def qWrL (bi:Bi) (f:Nat) (s:ByteArray):List Pp→VQ Unit
 | []=>.ret ()
 | p::l=>if p.to - p.fr<64 then .get (bnm bi p.bl) fun r=>.set (bnm bi p.bl) ⟨(cpy (Yd r.1) p.fr (s.extract (p.bl * 64+p.fr - f) s.size) (p.to - p.fr)).toArray⟩ (qWrL bi f s l)
  else .set (bnm bi p.bl) ⟨(cpy (List.replicate 64 0) p.fr (s.extract (p.bl * 64+p.fr - f) s.size) (p.to - p.fr)).toArray⟩ (qWrL bi f s l)
theorem qWrL_run (f:Nat) (s:ByteArray):∀(l:List Pp) (cs:List Ch) (rs:List (Nm×Ch)),wfold es bi f s (rs,cs) l=(rsq es ((qWrL bi f s l).run es cs).2.1 rs,((qWrL bi f s l).run es cs).2.2)
 | [],cs,rs=>rfl
 | p::l,cs,rs=>by
  show wfold es bi f s (wstep es bi f s (rs,cs) p) l=_
  unfold wstep wnew
  dsimp only
  rw [qWrL_run f s l]
  by_cases h:p.to - p.fr<64
  ·rw [qWrL,if_pos h,if_pos h,if_pos h]
   simp only [run]
   rw [W5,Wf]
  ·rw [qWrL,if_neg h,if_neg h,if_neg h]
   simp only [run]
def qWrite (bi:Bi) (f:Int) (s:ByteArray):VQ (Int×Int):=(qFile bi).bind fun a=>if a.2≠0 then .ret (0,a.2) else if f<0∨4096<f then .ret (0,2) else if f=4096∧isE s=false then .ret (0,26) else
 (qWrL bi f.toNat s (pts f.toNat (f.toNat+min s.size (4096 - f.toNat)))).bind fun _=>if 0<min s.size (4096 - f.toNat)∧a.1.sz<((f.toNat+min s.size (4096 - f.toNat):Nat):Int) then .set (nnm bi) (iencS {a.1 with sz:=((f.toNat+min s.size (4096 - f.toNat):Nat):Int)}) (.ret (((min s.size (4096 - f.toNat):Nat):Int),0)) else .ret (((min s.size (4096 - f.toNat):Nat):Int),0)
def qDls (bi:Bi):Nat→Nat→VQ Unit
 | _,0=>.ret ()
 | a,k+1=>.del (bnm bi (a:Int)) (qDls bi (a+1) k)
theorem qDls_run:∀(k a:Nat) (cs:List Ch),(qDls bi a k).run es cs=((),[],cs++dls bi a k)
 | 0,a,cs=>by simp [qDls,run,dls]
 | k+1,a,cs=>by
  rw [qDls]
  simp only [run,qDls_run k]
  simp [dls,List.range'_succ]
def qCut (bi:Bi) (e sz:Nat):VQ Unit:=(qDls bi ((e+63) / 64) ((sz+63) / 64 - (e+63) / 64)).bind fun _=>if e % 64=0 then .ret () else .get (bnm bi ((e / 64:Nat):Int)) fun r=>if r.2 then .set (bnm bi ((e / 64:Nat):Int)) ⟨(clrB (Yd r.1) (e % 64)).toArray⟩ (.ret ()) else .ret ()
theorem qCut_run (e sz:Nat):(qCut bi e sz).run es cs=((),if e % 64=0 then [] else rn (cutD cs bi e sz) (bnm bi ((e / 64:Nat):Int)),cutC es cs bi e sz):=by
 unfold qCut
 rw [run_bind,qDls_run]
 unfold cutC
 show ((VQ.run es _ (cutD cs bi e sz)).1,_,_)=_
 dsimp only
 show ((VQ.run es _ (cutD cs bi e sz)).1,[]++(VQ.run es _ (cutD cs bi e sz)).2.1,(VQ.run es _ (cutD cs bi e sz)).2.2)=_
 by_cases h:e % 64=0
 ·rw [if_pos h,if_pos h,if_pos h];rfl
 ·rw [if_neg h,if_neg h,if_neg h]
  simp only [run,List.nil_append]
  cases hv:(vget es (cutD cs bi e sz) (bnm bi ((e / 64:Nat):Int))).2 with
  | true=>simp [run]
  | false=>simp [run]
theorem cutR_q (rs:List (Nm×Ch)) (e sz:Nat):cutR es rs cs bi e sz=rsq es (if e % 64=0 then [] else rn (cutD cs bi e sz) (bnm bi ((e / 64:Nat):Int))) rs:=by
 unfold cutR
 split
 ·rfl
 ·exact Wf _ _ _ _
def qResize (bi:Bi) (n:Int):VQ Int:=(qFile bi).bind fun a=>if a.2≠0 then .ret a.2 else if n<0∨4096<n then .ret 2 else if n=a.1.sz then .ret 0 else
 (if n<a.1.sz then qCut bi n.toNat a.1.sz.toNat else .ret ()).bind fun _=>.set (nnm bi) (iencS {a.1 with sz:=n}) (.ret 0)
def qSet (bi:Bi) (nd:Ino):VQ Int:=if ichk nd≠0 then .ret (ichk nd) else (qGet bi).bind fun a=>if a.2≠0 then .ret a.2 else if a.1.kd≠nd.kd then .ret 11 else .set (nnm bi) (iencS {nd with sz:=a.1.sz}) (.ret 0)
def qMade (who:ByteArray):VQ (Ct×Int):=if lvalid who.data.toList then .get (cnm who) fun r=>.ret (if r.2 then ((cdec r.1).getD Ct.z,if (cdec r.1).isSome then 0 else 3) else (Ct.z,0)) else .ret (Ct.z,12)
def mN (cs:List Ch) (who:ByteArray):List Nm:=if lvalid who.data.toList then rn cs (cnm who) else []
theorem qMade_run (who:ByteArray):(qMade who).run es cs=(madeE es cs who,mN cs who,cs):=by
 unfold qMade madeE mN
 by_cases h:lvalid who.data.toList=true
 ·rw [if_pos h,if_pos h,if_pos h];simp only [run,List.append_nil]
 ·rw [if_neg h,if_neg h,if_neg h];rfl
theorem madeR_q (rs:List (Nm×Ch)) (who:ByteArray):madeR es rs cs who=rsq es (mN cs who) rs:=by
 unfold madeR mN
 split
 ·exact Wf _ _ _ _
 ·rfl
def qMake (who:ByteArray) (nd:Ino):VQ (Bi×Int):=if ichk nd≠0 then .ret (Bi.z,ichk nd) else if nd.sz≠0 then .ret (Bi.z,2) else (qMade who).bind fun m=>if m.2≠0 then .ret (Bi.z,m.2) else if m.1.b=1048576 then .ret (Bi.z,9) else
 .set (cnm who) (cvs {m.1 with b:=m.1.b+1}) (.set (nnm ⟨who,m.1.b⟩) (iencS nd) (.ret (⟨who,m.1.b⟩,0)))
theorem V8 (who:ByteArray) (nd:Ino):(qMake who nd).run es cs=(mkE es cs who nd,if ichk nd=0∧nd.sz=0 then mN cs who else [],mkC es cs who nd):=by
 unfold qMake
 by_cases h1:ichk nd=0
 ·by_cases h2:nd.sz=0
  ·have e1:mkE es cs who nd=nbE es cs who:=by rw [mkE,if_neg (by simp [h1]),if_neg (by simp [h2])]
   rw [mkC,e1,if_neg (show ¬ichk nd≠0 by simp [h1]),if_neg (show ¬nd.sz≠0 by simp [h2]),if_pos ⟨h1,h2⟩,run_bind,qMade_run]
   dsimp only
   by_cases h3:(madeE es cs who).2≠0
   ·have e2:nbE es cs who=(Bi.z,(madeE es cs who).2):=by rw [nbE,if_pos h3]
    rw [e2,if_neg h3]
    simp only [if_pos h3,run,List.append_nil]
   ·by_cases h4:(madeE es cs who).1.b=1048576
    ·have e2:nbE es cs who=(Bi.z,9):=by rw [nbE,if_neg h3,if_pos h4]
     rw [e2,if_neg h3,if_pos h4,if_neg (show ¬(Bi.z,(9:Int)).2=0 by simp)]
     simp only [run,List.append_nil]
    ·have e2:nbE es cs who=(⟨who,(madeE es cs who).1.b⟩,0):=by rw [nbE,if_neg h3,if_neg h4]
     rw [nbC,e2]
     simp only [if_neg h3,if_neg h4,run,List.append_nil,if_true]
  ·have e1:mkE es cs who nd=(Bi.z,2):=by rw [mkE,if_neg (by simp [h1]),if_pos h2]
   rw [mkC,e1,if_neg (show ¬ichk nd≠0 by simp [h1]),if_pos (show nd.sz≠0 from h2),if_neg (fun h=>h2 h.2),if_neg (by decide)]
   rfl
 ·have e1:mkE es cs who nd=(Bi.z,ichk nd):=by rw [mkE,if_pos h1]
  rw [mkC,e1,if_pos (show ichk nd≠0 from h1),if_neg (fun h=>h1 h.1),if_neg h1]
  rfl
theorem mkR_q (rs:List (Nm×Ch)) (who:ByteArray) (nd:Ino):mkR es rs cs who nd=rsq es (if ichk nd=0∧nd.sz=0 then mN cs who else []) rs:=by
 unfold mkR
 split
 ·exact madeR_q _ _
 ·rfl
end
end
section
open VQ
theorem ichk_no {a:Ino} (ha:ichk a=0) (h:a.kd≠1):a.sz=0:=by
 have h1:=Yc ha
 unfold ifit at h1
 unfold ichk at ha
 rw [if_neg (by omega),if_neg (by unfold ifit;omega)] at ha
 split at ha
 ·cases ha
 ·rename_i h3
  by_cases hz:a.sz=0
  ·exact hz
  ·exact absurd (.inl ⟨h,hz⟩) h3
theorem ichk_set {a n:Ino} (ha:ichk a=0) (hn:ichk n=0) (hk:a.kd=n.kd):ichk {n with sz:=a.sz}=0:=by
 have h1:=Yc ha
 unfold ifit at h1
 by_cases h:n.kd=1
 ·exact XG hn (by omega) (by omega) (by omega)
 ·have e1:=ichk_no ha (by omega)
  have e2:=ichk_no hn h
  have e:({n with sz:=a.sz}:Ino)=n:=by
   obtain ⟨n1,n2,n3,n4,n5,n6,n7⟩:=n
   dsimp only at e2
   rw [e1,e2]
  rw [e];exact hn
section
variable (b:Nat) (ps:Option Addr) (es:Al) (rs:List (Nm×Ch)) (cs:List Ch) (bi:Bi)
set_option maxHeartbeats 2000000 in
theorem UL (f c:Int) (hw:bi.mkr.size≤1000) (hS:∀n,(vget es cs n).1.size≤65536) :
  Enters 57∧Spec prog 57 #[.pointer (some ⟨b,0,none⟩),bi.v,.int .i64 f,.int .i64 c] [St ps es,Usg] [Vw b ps rs cs]
   ⟨Unit,fun _=>.tuple #[.string ((qRead bi f c).run es cs).1.1,.int .i64 ((qRead bi f c).run es cs).1.2],fun _=>True,fun _=>[],fun _=>[Vw b ps (rsq es ((qRead bi f c).run es cs).2.1 rs) ((qRead bi f c).run es cs).2.2]⟩:=by
 have hv:=hS (nnm bi)
 have n1:=XH b ps es rs cs bi (by omega) (by omega)
 rw [WJ] at n1
 unfold qRead
 rw [run_bind,YQ]
 dsimp only
 by_cases h0:(ifile es cs bi).2≠0
 ·simp only [if_pos h0,run,List.append_nil]
  generalize ifile es cs bi=g at *
  obtain ⟨nd,e⟩:=g
  dsimp only at *
  generalize b=bv at *
  refine ZV [_,_,_,_] func57 ntmps57 fun G w hp=>?_
  repeat' (first|refine ZH ?_|refine ZI ?_|refine ZK ?_|refine ZG ?_|refine ZM ?_|refine ZJ ?_|refine ZN ?_|refine ZP (fun b=>?_)|refine ZO (fun b=>?_)|refine ZA ?_|refine ZB ?_|refine ZL ?_|refine ZE (n1) (fun _ _=>?_)|refine l_call0 (n1) (fun _ _=>?_)|(refine ZC (fun hc=>?_) (fun hc=>?_)<;>(try simp at hc)<;>(try omega))|(refine ZF (fun hc=>?_) (fun hc=>?_)<;>(try simp at hc)<;>(try omega)))
  exact ZT () rfl trivial
 ·have h0':(ifile es cs bi).2=0:=by omega
  obtain ⟨g1,g2,g3,g4⟩:=Wh h0'
  obtain ⟨-,g5,-⟩:=Yc g2
  unfold ifit at g5
  simp only [if_neg h0]
  by_cases hn:f<0∨c<0
  ·simp only [if_pos hn,run,List.append_nil]
   rw [h0'] at n1
   generalize ifile es cs bi=g at *
   obtain ⟨nd,e⟩:=g
   dsimp only at *
   generalize b=bv at *
   refine ZV [_,_,_,_] func57 ntmps57 fun G w hp=>?_
   repeat' (first|refine ZH ?_|refine ZI ?_|refine ZK ?_|refine ZG ?_|refine ZM ?_|refine ZJ ?_|refine ZN ?_|refine ZP (fun b=>?_)|refine ZO (fun b=>?_)|refine ZA ?_|refine ZB ?_|refine ZL ?_|refine ZE (n1) (fun _ _=>?_)|refine l_call0 (n1) (fun _ _=>?_)|(refine ZC (fun hc=>?_) (fun hc=>?_)<;>(try simp at hc)<;>(try omega))|(refine ZF (fun hc=>?_) (fun hc=>?_)<;>(try simp at hc)<;>(try omega)))
   all_goals exact ZT () rfl trivial
  ·simp only [if_neg hn,run_bind,Xx,run,List.append_nil,List.nil_append]
   obtain ⟨f',rfl⟩:∃k:Nat,f=(k:Int):=⟨f.toNat,by omega⟩
   obtain ⟨c',rfl⟩:∃k:Nat,c=(k:Int):=⟨c.toNat,by omega⟩
   obtain ⟨sz,hsz⟩:∃k:Nat,(ifile es cs bi).1.sz=(k:Int):=⟨(ifile es cs bi).1.sz.toNat,by omega⟩
   have n2:=inoRead_ok b ps es rs cs bi f' c' sz (by omega) (by omega) h0' hsz (by omega)
   rw [rdR_q,WJ,←W5] at n2
   rw [hsz]
   exact n2
theorem WK (hw:bi.mkr.size≤1000) (hS:∀n,(vget es cs n).1.size≤65536) :
  Enters 18∧Spec prog 18 #[.pointer (some ⟨b,0,none⟩),bi.v] [St ps es,Usg] [Vw b ps rs cs]
   ⟨Unit,fun _=>.tuple #[.string ((qRead bi 0 4096).run es cs).1.1,.int .i64 ((qRead bi 0 4096).run es cs).1.2],fun _=>True,fun _=>[],fun _=>[Vw b ps (rsq es ((qRead bi 0 4096).run es cs).2.1 rs) ((qRead bi 0 4096).run es cs).2.2]⟩:=by
 have n1:=UL b ps es rs cs bi 0 4096 hw hS
 generalize (qRead bi 0 4096).run es cs=r at *
 refine ZV [_,_] func18 ntmps18 fun G w hp=>?_
 repeat' (first|refine ZH ?_|refine ZI ?_|refine ZK ?_|refine ZG ?_|refine ZM ?_|refine ZJ ?_|refine ZN ?_|refine ZP (fun b=>?_)|refine ZO (fun b=>?_)|refine ZA ?_|refine ZB ?_|refine ZL ?_|refine ZE (n1) (fun _ _=>?_)|refine l_call0 (n1) (fun _ _=>?_)|(refine ZC (fun hc=>?_) (fun hc=>?_)<;>(try simp at hc))|(refine ZF (fun hc=>?_) (fun hc=>?_)<;>(try simp at hc)))
 exact ZT () rfl trivial
set_option maxHeartbeats 2000000 in
theorem writeG_ok (f:Int) (s:ByteArray) (hw:bi.mkr.size≤1000) (hs:s.size≤1000000) (hl:cs.length≤1000) (hS:∀n,(vget es cs n).1.size≤65536) :
  Enters 51∧Spec prog 51 #[.pointer (some ⟨b,0,none⟩),bi.v,.int .i64 f,.string s] [St ps es,Usg] [Vw b ps rs cs]
   ⟨Unit,fun _=>.tuple #[.int .i64 ((qWrite bi f s).run es cs).1.1,.int .i64 ((qWrite bi f s).run es cs).1.2],fun _=>True,fun _=>[],fun _=>[Vw b ps (rsq es ((qWrite bi f s).run es cs).2.1 rs) ((qWrite bi f s).run es cs).2.2]⟩:=by
 have hv:=hS (nnm bi)
 have n1:=XH b ps es rs cs bi (by omega) (by omega)
 rw [WJ] at n1
 unfold qWrite
 rw [run_bind,YQ]
 dsimp only
 by_cases h0:(ifile es cs bi).2≠0
 ·simp only [if_pos h0,run,List.append_nil]
  generalize ifile es cs bi=g at *
  obtain ⟨nd,e⟩:=g
  dsimp only at *
  generalize b=bv at *
  refine ZV [_,_,_,_] func51 ntmps51 fun G w hp=>?_
  repeat' (first|refine ZH ?_|refine ZI ?_|refine ZK ?_|refine ZG ?_|refine ZM ?_|refine ZJ ?_|refine ZN ?_|refine ZP (fun b=>?_)|refine ZO (fun b=>?_)|refine ZA ?_|refine ZB ?_|refine ZL ?_|refine ZX ?_|refine ZY ?_|refine Zf ?_|refine Za ?_|refine Zb ?_|refine Zc (fun b=>?_)|refine Zd (fun b=>?_)|refine Ze ?_|refine ZZ ?_|refine ZE (n1) (fun _ _=>?_)|refine l_call0 (n1) (fun _ _=>?_)|refine ZS (n1) (fun _ _=>?_)|(refine ZC (fun hc=>?_) (fun hc=>?_)<;>(try simp at hc)<;>(try omega))|(refine ZQ (fun hc=>?_) (fun hc=>?_)<;>(try simp at hc)<;>(try omega))|refine ZD 14 [] [(0,0),(1,0),(2,0),(3,0),(4,0),(5,0),(6,0),(7,0),(8,0),(9,0),(10,0),(11,0),(12,0),(13,0),(14,0),(15,4)] [] ?_|refine ZD 15 [] [(0,0),(1,0),(2,0),(3,0),(5,0),(6,0),(4,4),(7,4),(8,0)] [] ?_|(refine ZF (fun hc=>?_) (fun hc=>?_)<;>(try simp at hc)<;>(try omega)))
  exact ZT () rfl trivial
 ·have h0':(ifile es cs bi).2=0:=by omega
  simp only [if_neg h0]
  by_cases hn:f<0∨4096<f
  ·simp only [if_pos hn,run,List.append_nil]
   have n2:=Z5 f 4096
   rw [show (decide (0≤f) && decide (f≤4096))=false by simp;omega] at n2
   rw [h0'] at n1
   generalize ifile es cs bi=g at *
   obtain ⟨nd,e⟩:=g
   dsimp only at *
   generalize b=bv at *
   refine ZV [_,_,_,_] func51 ntmps51 fun G w hp=>?_
   repeat' (first|refine ZH ?_|refine ZI ?_|refine ZK ?_|refine ZG ?_|refine ZM ?_|refine ZJ ?_|refine ZN ?_|refine ZP (fun b=>?_)|refine ZO (fun b=>?_)|refine ZA ?_|refine ZB ?_|refine ZL ?_|refine ZX ?_|refine ZY ?_|refine Zf ?_|refine Za ?_|refine Zb ?_|refine Zc (fun b=>?_)|refine Zd (fun b=>?_)|refine Ze ?_|refine ZZ ?_|refine ZE (n1) (fun _ _=>?_)|refine l_call0 (n1) (fun _ _=>?_)|refine ZS (n1) (fun _ _=>?_)|refine ZE (n2) (fun _ _=>?_)|refine l_call0 (n2) (fun _ _=>?_)|refine ZS (n2) (fun _ _=>?_)|(refine ZC (fun hc=>?_) (fun hc=>?_)<;>(try simp at hc)<;>(try omega))|(refine ZQ (fun hc=>?_) (fun hc=>?_)<;>(try simp at hc)<;>(try omega))|refine ZD 14 [] [(0,0),(1,0),(2,0),(3,0),(4,0),(5,0),(6,0),(7,0),(8,0),(9,0),(10,0),(11,0),(12,0),(13,0),(14,0),(15,4)] [] ?_|refine ZD 15 [] [(0,0),(1,0),(2,0),(3,0),(5,0),(6,0),(4,4),(7,4),(8,0)] [] ?_|(refine ZF (fun hc=>?_) (fun hc=>?_)<;>(try simp at hc)<;>(try omega)))
   exact ZT () rfl trivial
  ·simp only [if_neg hn]
   by_cases h4:f=4096∧isE s=false
   ·simp only [if_pos h4,run,List.append_nil]
    obtain ⟨rfl,hE⟩:=h4
    have n2:=Z5 4096 4096
    rw [show (decide ((0:Int)≤4096) && decide ((4096:Int)≤4096))=true by simp] at n2
    have hE2:s.toList≠[]:=fun e=>by
     have:isE s=true:=by simp [isE,e]
     rw [hE] at this;cases this
    rw [h0'] at n1
    generalize ifile es cs bi=g at *
    obtain ⟨nd,e⟩:=g
    dsimp only at *
    generalize b=bv at *
    refine ZV [_,_,_,_] func51 ntmps51 fun G w hp=>?_
    repeat' (first|refine ZH ?_|refine ZI ?_|refine ZK ?_|refine ZG ?_|refine ZM ?_|refine ZJ ?_|refine ZN ?_|refine ZP (fun b=>?_)|refine ZO (fun b=>?_)|refine ZA ?_|refine ZB ?_|refine ZL ?_|refine ZX ?_|refine ZY ?_|refine Zf ?_|refine Za ?_|refine Zb ?_|refine Zc (fun b=>?_)|refine Zd (fun b=>?_)|refine Ze ?_|refine ZZ ?_|refine ZE (n1) (fun _ _=>?_)|refine l_call0 (n1) (fun _ _=>?_)|refine ZS (n1) (fun _ _=>?_)|refine ZE (n2) (fun _ _=>?_)|refine l_call0 (n2) (fun _ _=>?_)|refine ZS (n2) (fun _ _=>?_)|(refine ZC (fun hc=>?_) (fun hc=>?_)<;>(try simp at hc)<;>(try omega))|(refine ZQ (fun hc=>?_) (fun hc=>?_)<;>(try simp at hc)<;>(try omega))|refine ZD 14 [] [(0,0),(1,0),(2,0),(3,0),(4,0),(5,0),(6,0),(7,0),(8,0),(9,0),(10,0),(11,0),(12,0),(13,0),(14,0),(15,4)] [] ?_|refine ZD 15 [] [(0,0),(1,0),(2,0),(3,0),(5,0),(6,0),(4,4),(7,4),(8,0)] [] ?_|(refine ZF (fun hc=>?_) (fun hc=>?_)<;>(try simp at hc)<;>(try omega)))
    ·exact ZT () rfl trivial
    ·exact absurd (by assumption) hE2
   ·obtain ⟨f',rfl⟩:∃k:Nat,f=(k:Int):=⟨f.toNat,by omega⟩
    simp only [if_neg h4,Int.toNat_natCast]
    have n2:=write_ok b ps es rs cs bi f' s (by omega) (by omega) (by omega) (by omega) h0' (by omega) (fun e=>by
     cases hE:isE s with
     | true=>rfl
     | false=>exact absurd ⟨by omega,hE⟩ h4)
    unfold iwQ iwN at n2
    rw [run_bind]
    rw [qWrL_run] at n2
    rw [WJ,←W5] at n2
    dsimp only at n2
    generalize (qWrL bi f' s (pts f' (f'+min s.size (4096 - f')))).run es cs=q at *
    obtain ⟨u,N,cs2⟩:=q
    dsimp only at n2 ⊢
    by_cases hg:0<min s.size (4096 - f')∧(ifile es cs bi).1.sz<((f'+min s.size (4096 - f'):Nat):Int)
    ·simp only [if_pos hg,run,List.append_nil] at n2 ⊢
     exact n2
    ·simp only [if_neg hg,run,List.append_nil] at n2 ⊢
     exact n2
set_option maxHeartbeats 2000000 in
theorem resizeG_ok (n:Int) (hw:bi.mkr.size≤1000) (hl:cs.length≤1000) (hS:∀n,(vget es cs n).1.size≤65536) :
  Enters 59∧Spec prog 59 #[.pointer (some ⟨b,0,none⟩),bi.v,.int .i64 n] [St ps es,Usg] [Vw b ps rs cs]
   ⟨Unit,fun _=>.int .i64 ((qResize bi n).run es cs).1,fun _=>True,fun _=>[],fun _=>[Vw b ps (rsq es ((qResize bi n).run es cs).2.1 rs) ((qResize bi n).run es cs).2.2]⟩:=by
 have hv:=hS (nnm bi)
 have n1:=XH b ps es rs cs bi (by omega) (by omega)
 rw [WJ] at n1
 unfold qResize
 rw [run_bind,YQ]
 dsimp only
 by_cases h0:(ifile es cs bi).2≠0
 ·simp only [if_pos h0,run,List.append_nil]
  generalize ifile es cs bi=g at *
  obtain ⟨nd,e⟩:=g
  dsimp only at *
  generalize b=bv at *
  refine ZV [_,_,_] func59 ntmps59 fun G w hp=>?_
  repeat' (first|refine ZH ?_|refine ZI ?_|refine ZK ?_|refine ZG ?_|refine ZM ?_|refine ZJ ?_|refine ZN ?_|refine ZP (fun b=>?_)|refine ZO (fun b=>?_)|refine ZA ?_|refine ZB ?_|refine ZL ?_|refine ZE (n1) (fun _ _=>?_)|refine l_call0 (n1) (fun _ _=>?_)|(refine ZC (fun hc=>?_) (fun hc=>?_)<;>(try simp at hc)<;>(try omega))|(refine ZF (fun hc=>?_) (fun hc=>?_)<;>(try simp at hc)<;>(try omega)))
  exact ZT () rfl trivial
 ·have h0':(ifile es cs bi).2=0:=by omega
  obtain ⟨g1,g2,g3,g4⟩:=Wh h0'
  obtain ⟨-,g5,-⟩:=Yc g2
  unfold ifit at g5
  simp only [if_neg h0]
  by_cases hn:n<0∨4096<n
  ·simp only [if_pos hn,run,List.append_nil]
   have n2:=Z5 n 4096
   rw [show (decide (0≤n) && decide (n≤4096))=false by simp;omega] at n2
   rw [h0'] at n1
   generalize ifile es cs bi=g at *
   obtain ⟨nd,e⟩:=g
   dsimp only at *
   generalize b=bv at *
   refine ZV [_,_,_] func59 ntmps59 fun G w hp=>?_
   repeat' (first|refine ZH ?_|refine ZI ?_|refine ZK ?_|refine ZG ?_|refine ZM ?_|refine ZJ ?_|refine ZN ?_|refine ZP (fun b=>?_)|refine ZO (fun b=>?_)|refine ZA ?_|refine ZB ?_|refine ZL ?_|refine ZE (n1) (fun _ _=>?_)|refine l_call0 (n1) (fun _ _=>?_)|refine ZE (n2) (fun _ _=>?_)|refine l_call0 (n2) (fun _ _=>?_)|(refine ZC (fun hc=>?_) (fun hc=>?_)<;>(try simp at hc)<;>(try omega))|(refine ZF (fun hc=>?_) (fun hc=>?_)<;>(try simp at hc)<;>(try omega)))
   exact ZT () rfl trivial
  ·simp only [if_neg hn]
   obtain ⟨n',rfl⟩:∃k:Nat,n=(k:Int):=⟨n.toNat,by omega⟩
   obtain ⟨sz,hsz⟩:∃k:Nat,(ifile es cs bi).1.sz=(k:Int):=⟨(ifile es cs bi).1.sz.toNat,by omega⟩
   have n2:=resize_ok b ps es rs cs bi n' sz (by omega) (by omega) (by omega) h0' hsz (by omega) (by omega)
   unfold rszR rszC at n2
   rw [cutR_q,WJ,←W5] at n2
   rw [hsz]
   by_cases h1:(n':Int)=(sz:Int)
   ·obtain rfl:n'=sz:=by omega
    simp only [if_true,run,List.append_nil]
    simp only [Nat.lt_irrefl,if_false,if_true] at n2
    exact n2
   ·simp only [if_neg h1,run_bind,Int.toNat_natCast]
    by_cases h2:(n':Int)<(sz:Int)
    ·simp only [if_pos h2,qCut_run,run,List.append_nil]
     simp only [if_neg (show ¬n'=sz by omega),if_pos (show n'<sz by omega)] at n2
     exact n2
    ·simp only [if_neg h2,run,List.append_nil]
     simp only [if_neg (show ¬n'=sz by omega),if_neg (show ¬n'<sz by omega)] at n2
     exact n2
set_option maxHeartbeats 2000000 in
theorem inoSetG_ok (nd:Ino) (hw:bi.mkr.size≤1000) (hl:cs.length≤1000) (hS:∀n,(vget es cs n).1.size≤65536) :
  Enters 60∧Spec prog 60 #[.pointer (some ⟨b,0,none⟩),bi.v,nd.v] [St ps es,Usg] [Vw b ps rs cs]
   ⟨Unit,fun _=>.int .i64 ((qSet bi nd).run es cs).1,fun _=>True,fun _=>[],fun _=>[Vw b ps (rsq es ((qSet bi nd).run es cs).2.1 rs) ((qSet bi nd).run es cs).2.2]⟩:=by
 have hv:=hS (nnm bi)
 have n0:=Xp nd
 have n1:=Wu b ps es rs cs bi (by omega) (by omega)
 rw [WJ] at n1
 unfold qSet
 by_cases hk:ichk nd≠0
 ·simp only [if_pos hk,run]
  generalize ichk nd=e at *
  refine ZV [_,_,_] func60 ntmps60 fun G w hp=>?_
  repeat' (first|refine ZH ?_|refine ZI ?_|refine ZK ?_|refine ZG ?_|refine ZM ?_|refine ZJ ?_|refine ZN ?_|refine ZP (fun b=>?_)|refine ZO (fun b=>?_)|refine ZA ?_|refine ZB ?_|refine ZL ?_|refine ZE (n0) (fun _ _=>?_)|refine l_call0 (n0) (fun _ _=>?_)|(refine ZC (fun hc=>?_) (fun hc=>?_)<;>(try simp at hc)<;>(try omega))|(refine ZF (fun hc=>?_) (fun hc=>?_)<;>(try simp at hc)<;>(try omega)))
  exact ZT () rfl trivial
 ·have hk':ichk nd=0:=by omega
  rw [hk'] at n0
  simp only [if_neg hk,run_bind,V1]
  have hg:(iget es cs bi).2=0→bchk bi=0∧ichk (iget es cs bi).1=0:=fun h=>by
   unfold iget at h ⊢
   by_cases h1:bchk bi≠0
   ·rw [if_pos h1] at h;exact absurd h h1
   ·rw [if_neg h1] at h ⊢
    refine ⟨by omega,?_⟩
    by_cases h2:(vget es cs (nnm bi)).2=true
    ·rw [if_pos h2] at h ⊢
     cases hd:idec (vget es cs (nnm bi)).1 with
     | none=>rw [hd] at h;cases h
     | some x=>exact (idec_inv hd).1
    ·rw [if_neg h2] at h;cases h
  generalize iget es cs bi=g at *
  obtain ⟨bf,e⟩:=g
  dsimp only at *
  by_cases he:e≠0
  ·simp only [if_pos he,run,List.append_nil]
   obtain ⟨a1,a2,a3,a4,a5,a6,a7⟩:=bf
   obtain ⟨c1,c2,c3,c4,c5,c6,c7⟩:=nd
   simp only [Ino.v] at *
   refine ZV [_,_,_] func60 ntmps60 fun G w hp=>?_
   repeat' (first|refine ZH ?_|refine ZI ?_|refine ZK ?_|refine ZG ?_|refine ZM ?_|refine ZJ ?_|refine ZN ?_|refine ZP (fun b=>?_)|refine ZO (fun b=>?_)|refine ZA ?_|refine ZB ?_|refine ZL ?_|refine ZE (n0) (fun _ _=>?_)|refine l_call0 (n0) (fun _ _=>?_)|refine ZE (n1) (fun _ _=>?_)|refine l_call0 (n1) (fun _ _=>?_)|(refine ZC (fun hc=>?_) (fun hc=>?_)<;>(try simp at hc)<;>(try omega))|(refine ZF (fun hc=>?_) (fun hc=>?_)<;>(try simp at hc)<;>(try omega)))
   exact ZT () rfl trivial
  ·obtain rfl:e=0:=by omega
   obtain ⟨h1,h2⟩:=hg rfl
   simp only [if_neg he]
   by_cases hd:bf.kd≠nd.kd
   ·simp only [if_pos hd,run,List.append_nil]
    obtain ⟨a1,a2,a3,a4,a5,a6,a7⟩:=bf
    obtain ⟨c1,c2,c3,c4,c5,c6,c7⟩:=nd
    simp only [Ino.v] at *
    refine ZV [_,_,_] func60 ntmps60 fun G w hp=>?_
    repeat' (first|refine ZH ?_|refine ZI ?_|refine ZK ?_|refine ZG ?_|refine ZM ?_|refine ZJ ?_|refine ZN ?_|refine ZP (fun b=>?_)|refine ZO (fun b=>?_)|refine ZA ?_|refine ZB ?_|refine ZL ?_|refine ZE (n0) (fun _ _=>?_)|refine l_call0 (n0) (fun _ _=>?_)|refine ZE (n1) (fun _ _=>?_)|refine l_call0 (n1) (fun _ _=>?_)|(refine ZC (fun hc=>?_) (fun hc=>?_)<;>(try simp at hc)<;>(try omega))|(refine ZF (fun hc=>?_) (fun hc=>?_)<;>(try simp at hc)<;>(try omega)))
    exact ZT () rfl trivial
   ·simp only [if_neg hd,run,List.append_nil]
    have hz:ichk {nd with sz:=bf.sz}=0:=ichk_set h2 hk' (by omega)
    have hes:=Zs {nd with sz:=bf.sz}
    have n5:=UF b ps (rsq es (iN cs bi) rs) cs bi {nd with sz:=bf.sz} hz (by omega) (by omega)
    have e9:vset cs (nnm bi) (iencS {nd with sz:=bf.sz})=(0,cs++[⟨nnm bi,iencS {nd with sz:=bf.sz},false⟩]):=by
     unfold vset
     rw [if_neg (by rw [Zu h1];simp),if_neg (by omega)]
    rw [e9] at n5
    generalize iencS {nd with sz:=bf.sz}=S at *
    obtain ⟨a1,a2,a3,a4,a5,a6,a7⟩:=bf
    obtain ⟨c1,c2,c3,c4,c5,c6,c7⟩:=nd
    have hd':a1=c1:=by simpa using hd
    subst hd'
    simp only [Ino.v] at *
    refine ZV [_,_,_] func60 ntmps60 fun G w hp=>?_
    repeat' (first|refine ZH ?_|refine ZI ?_|refine ZK ?_|refine ZG ?_|refine ZM ?_|refine ZJ ?_|refine ZN ?_|refine ZP (fun b=>?_)|refine ZO (fun b=>?_)|refine ZA ?_|refine ZB ?_|refine ZL ?_|refine ZE (n0) (fun _ _=>?_)|refine l_call0 (n0) (fun _ _=>?_)|refine ZE (n1) (fun _ _=>?_)|refine l_call0 (n1) (fun _ _=>?_)|refine ZE (n5) (fun _ _=>?_)|refine l_call0 (n5) (fun _ _=>?_)|(refine ZC (fun hc=>?_) (fun hc=>?_)<;>(try simp at hc)<;>(try omega))|(refine ZF (fun hc=>?_) (fun hc=>?_)<;>(try simp at hc)<;>(try omega)))
    exact ZT () rfl trivial
theorem makeG_ok (who:ByteArray) (nd:Ino) (hw:who.size≤1000) (hl:cs.length≤1000) (hS:∀n,(vget es cs n).1.size≤65536) :
  Enters 50∧Spec prog 50 #[.pointer (some ⟨b,0,none⟩),.string who,nd.v] [St ps es,Usg] [Vw b ps rs cs]
   ⟨Unit,fun _=>.tuple #[((qMake who nd).run es cs).1.1.v,.int .i64 ((qMake who nd).run es cs).1.2],fun _=>True,fun _=>[],fun _=>[Vw b ps (rsq es ((qMake who nd).run es cs).2.1 rs) ((qMake who nd).run es cs).2.2]⟩:=by
 have hv:=hS (cnm who)
 have n1:=make_ok b ps es rs cs who nd (by omega) (by omega) (by omega)
 rw [mkR_q] at n1
 rw [V8]
 exact n1
end
end
section
open VQ
theorem WQ (k:UInt8) (j:Nat) (h:k.toNat % 6=j):(k.toNat:Int).tmod 6=(j:Int):=by
 rw [Int.tmod_eq_emod_of_nonneg (Int.natCast_nonneg _)];omega
theorem tmod3 (k:UInt8):(k.toNat:Int).tmod 3=((k.toNat % 3:Nat):Int):=by
 rw [Int.tmod_eq_emod_of_nonneg (Int.natCast_nonneg _)];exact (Int.natCast_emod _ 3).symm
theorem Y6 {z:Int} (h:0≤z∧z≤255):IntKind.u8.wrap z=z:=by
 simp [IntKind.wrap,IntKind.bits,IntKind.signed]
 omega
theorem YC {bs:List Bi} (h:∀b ∈ bs,b.mkr.size≤3) (wd:UInt8):(bthF bs wd).mkr.size≤1000:=by
 unfold bthF
 split
 ·rename_i b hb
  have:=h b (List.mem_of_getElem? hb)
  omega
 ·show (1:Nat)≤1000;omega
def mDoR (bs:List Bi) (fs:List Fq) (m:List (ByteArray×Int)) (o:Op7):Rz7:=
 if o.k.toNat % 6=0 then ⟨(mRead bs fs (bthF bs o.w) o.f o.c).1,0,Bi.z,(mRead bs fs (bthF bs o.w) o.f o.c).2⟩
 else if o.k.toNat % 6=1 then ⟨⟨#[]⟩,(mWrite bs fs (bthF bs o.w) o.f o.t).1.1,Bi.z,(mWrite bs fs (bthF bs o.w) o.f o.t).1.2⟩
 else if o.k.toNat % 6=2 then ⟨⟨#[]⟩,0,Bi.z,(mResize bs fs (bthF bs o.w) o.c).1⟩
 else if o.k.toNat % 6=3 then ⟨⟨#[]⟩,0,Bi.z,(mSet bs fs (bthF bs o.w) o.n).1⟩
 else if o.k.toNat % 6=4 then ⟨(mRead bs fs (bthF bs o.w) 0 4096).1,0,Bi.z,(mRead bs fs (bthF bs o.w) 0 4096).2⟩
 else ⟨⟨#[]⟩,0,(mMake bs m (Zh (o.w.toNat % 3)) o.n).b,(mMake bs m (Zh (o.w.toNat % 3)) o.n).e⟩
def mDoB (bs:List Bi) (m:List (ByteArray×Int)) (o:Op7):List Bi:=if o.k.toNat % 6=5 then (mMake bs m (Zh (o.w.toNat % 3)) o.n).bs else bs
def mDoM (bs:List Bi) (m:List (ByteArray×Int)) (o:Op7):List (ByteArray×Int):=if o.k.toNat % 6=5 then (mMake bs m (Zh (o.w.toNat % 3)) o.n).m else m
def mDoF (bs:List Bi) (fs:List Fq) (o:Op7) (r:Nat):List Fq:=
 if o.k.toNat % 6=1 then (mWrite bs fs (bthF bs o.w) o.f o.t).2
 else if o.k.toNat % 6=2 then (mResize bs fs (bthF bs o.w) o.c).2
 else if o.k.toNat % 6=3 then (mSet bs fs (bthF bs o.w) o.n).2
 else if o.k.toNat % 6=5 then mMakeF fs o.n r else fs
def qOp (bs:List Bi) (o:Op7):VQ Rz7:=
 if o.k.toNat % 6=0 then (qRead (bthF bs o.w) o.f o.c).bind fun r=>.ret ⟨r.1,0,Bi.z,r.2⟩
 else if o.k.toNat % 6=1 then (qWrite (bthF bs o.w) o.f o.t).bind fun r=>.ret ⟨⟨#[]⟩,r.1,Bi.z,r.2⟩
 else if o.k.toNat % 6=2 then (qResize (bthF bs o.w) o.c).bind fun r=>.ret ⟨⟨#[]⟩,0,Bi.z,r⟩
 else if o.k.toNat % 6=3 then (qSet (bthF bs o.w) o.n).bind fun r=>.ret ⟨⟨#[]⟩,0,Bi.z,r⟩
 else if o.k.toNat % 6=4 then (qRead (bthF bs o.w) 0 4096).bind fun r=>.ret ⟨r.1,0,Bi.z,r.2⟩
 else (qMake (Zh (o.w.toNat % 3)) o.n).bind fun r=>.ret ⟨⟨#[]⟩,0,r.1,r.2⟩
section
variable (bm:Nat) (q:Mq) (bs:List Bi) (fs:List Fq) (m:List (ByteArray×Int))
structure DoH (q:Mq) (bs:List Bi) (fs:List Fq) (m:List (ByteArray×Int)):Prop where
 hl:bs.length≤1000
 hlf:fs.length=bs.length
 hq:q.OK bs.length fs.length
 hb0:0<bs.length
 hct:∀x ∈ fs,x.ct.size≤4096
 hbs:∀b ∈ bs,b.mkr.size≤3
 hmv:∀j,j<3→0≤(mget (Zh j) m).getD 0∧(mget (Zh j) m).getD 0≤1000000
theorem mWr_len (bi:Bi) (f:Int) (s:ByteArray):(mWrite bs fs bi f s).2.length=fs.length:=by
 unfold mWrite
 repeat' split
 all_goals first|rfl|exact List.length_set
theorem mRs_len (bi:Bi) (n:Int):(mResize bs fs bi n).2.length=fs.length:=by
 unfold mResize
 repeat' split
 all_goals first|rfl|exact List.length_set
theorem mSt_bl (bi:Bi) (nd:Ino) (rm:Nat):CM rm m (mSet bs fs bi nd).2=CM rm m fs:=by
 unfold mSet
 split
 ·rfl
 ·split
  ·rfl
  ·split
   ·rfl
   ·split
    ·rfl
    ·rename_i i _ _ x hx
     split
     ·rfl
     ·have h1:(fs.set i {x with nd:={nd with sz:=x.nd.sz}}).map BlF=fs.map BlF:=by
       rw [List.map_set]
       refine List.ext_getElem? fun j=>?_
       rw [List.getElem?_set]
       split
       ·rename_i hj
        subst hj
        split
        ·rw [List.getElem?_map,hx];rfl
        ·rename_i hlt
         rw [List.getElem?_eq_none (by simpa using hlt)]
       ·rfl
      unfold CM
      rw [h1]
theorem mSt_len (bi:Bi) (nd:Ino):(mSet bs fs bi nd).2.length=fs.length:=by
 unfold mSet
 repeat' split
 all_goals first|rfl|exact List.length_set
set_option maxHeartbeats 4000000 in
theorem do27_0 (o:Op7) (hk:o.k.toNat % 6=0) (hot:o.t.size≤500) (hD:DoH q bs fs m) :
  Enters 48∧Spec prog 48 #[.pointer (some ⟨bm,0,none⟩),o.v] [] (MoL bm q bs fs m)
   ⟨Mq×Nat,fun _=>(mDoR bs fs m o).v,fun x=>x.1.OK (mDoB bs m o).length (mDoF bs fs o x.2).length,fun _=>[],fun x=>MoL bm x.1 (mDoB bs m o) (mDoF bs fs o x.2) (mDoM bs m o)⟩:=by
 have hR:mDoR bs fs m o=⟨(mRead bs fs (bthF bs o.w) o.f o.c).1,0,Bi.z,(mRead bs fs (bthF bs o.w) o.f o.c).2⟩:=by unfold mDoR;rw [if_pos hk]
 have hF:∀r,mDoF bs fs o r=fs:=fun r=>by unfold mDoF;rw [if_neg (show ¬o.k.toNat % 6=1 by omega),if_neg (show ¬o.k.toNat % 6=2 by omega),if_neg (show ¬o.k.toNat % 6=3 by omega),if_neg (show ¬o.k.toNat % 6=5 by omega)]
 have hB:mDoB bs m o=bs:=by unfold mDoB;rw [if_neg (show ¬o.k.toNat % 6=5 by omega)]
 have hM:mDoM bs m o=m:=by unfold mDoM;rw [if_neg (show ¬o.k.toNat % 6=5 by omega)]
 simp only [hR,hF,hB,hM]
 clear hR hF hB hM
 obtain ⟨hl,hlf,hq,hb0,hct,hbs,hmv⟩:=hD
 obtain ⟨ok,ow,of,oc,ot,⟨a1,a2,a3,a4,a5,a6,a7⟩⟩:=o
 dsimp only at *
 have hbz:=YC hbs ow
 have n1:=YB q bs ow
 have t1:=WQ ok 0 hk
 have w1:=Y6 (z:=((0:Nat):Int)) (by omega)
 generalize hBI:bthF bs ow=BI at *
 have n2:=read27_ok bm q bs fs BI of oc hl hlf hct hbz
 generalize mRead bs fs BI of oc=G at *
 obtain ⟨g1,g2⟩:=BI
 simp only [Op7.v,Rz7.v,Bi.v,Bi.z,Ino.v] at *
 refine ZV [_,_] func48 ntmps48 fun G w hp=>?_
 repeat' (first|refine ZH ?_|refine ZI ?_|refine ZK ?_|refine ZG ?_|refine ZM ?_|refine ZJ ?_|refine ZN ?_|refine ZP (fun b=>?_)|refine ZO (fun b=>?_)|refine ZA ?_|refine ZB ?_|refine ZL ?_|refine ZX ?_|refine ZY ?_|refine Zf ?_|refine Za ?_|refine Zb ?_|refine Zc (fun b=>?_)|refine Zd (fun b=>?_)|refine Ze ?_|refine ZZ ?_|refine ZE (n1) (fun _ _=>?_)|refine l_call0 (n1) (fun _ _=>?_)|refine ZS (n1) (fun _ _=>?_)|refine ZE (n2) (fun _ _=>?_)|refine l_call0 (n2) (fun _ _=>?_)|refine ZS (n2) (fun _ _=>?_)|rw [t1]|rw [w1]|(refine ZC (fun hc=>?_) (fun hc=>?_)<;>(try simp at hc)<;>(try omega))|(refine ZQ (fun hc=>?_) (fun hc=>?_)<;>(try simp at hc)<;>(try omega))|refine ZD 2 [BiX _ _] [(0,0),(1,0),(2,0),(3,0),(4,0),(5,0),(6,4),(7,1),(8,4)] [] ?_|(refine ZF (fun hc=>?_) (fun hc=>?_)<;>(try simp at hc)<;>(try omega)))
 exact ZT (q,0) rfl hq
set_option maxHeartbeats 4000000 in
theorem do27_1 (o:Op7) (hk:o.k.toNat % 6=1) (hot:o.t.size≤500) (hD:DoH q bs fs m) :
  Enters 48∧Spec prog 48 #[.pointer (some ⟨bm,0,none⟩),o.v] [] (MoL bm q bs fs m)
   ⟨Mq×Nat,fun _=>(mDoR bs fs m o).v,fun x=>x.1.OK (mDoB bs m o).length (mDoF bs fs o x.2).length,fun _=>[],fun x=>MoL bm x.1 (mDoB bs m o) (mDoF bs fs o x.2) (mDoM bs m o)⟩:=by
 have hR:mDoR bs fs m o=⟨⟨#[]⟩,(mWrite bs fs (bthF bs o.w) o.f o.t).1.1,Bi.z,(mWrite bs fs (bthF bs o.w) o.f o.t).1.2⟩:=by unfold mDoR;rw [if_neg (show ¬o.k.toNat % 6=0 by omega),if_pos hk]
 have hF:∀r,mDoF bs fs o r=(mWrite bs fs (bthF bs o.w) o.f o.t).2:=fun r=>by unfold mDoF;rw [if_pos hk]
 have hB:mDoB bs m o=bs:=by unfold mDoB;rw [if_neg (show ¬o.k.toNat % 6=5 by omega)]
 have hM:mDoM bs m o=m:=by unfold mDoM;rw [if_neg (show ¬o.k.toNat % 6=5 by omega)]
 simp only [hR,hF,hB,hM]
 clear hR hF hB hM
 obtain ⟨hl,hlf,hq,hb0,hct,hbs,hmv⟩:=hD
 obtain ⟨ok,ow,of,oc,ot,⟨a1,a2,a3,a4,a5,a6,a7⟩⟩:=o
 dsimp only at *
 have hbz:=YC hbs ow
 have n1:=YB q bs ow
 have t1:=WQ ok 1 hk
 have w1:=Y6 (z:=((1:Nat):Int)) (by omega)
 generalize hBI:bthF bs ow=BI at *
 have n2:=write27_ok bm q bs fs BI m of ot (by omega) hl hlf hct hbz hq
 have hln:=mWr_len bs fs BI of ot
 generalize mWrite bs fs BI of ot=G at *
 obtain ⟨g1,g2⟩:=BI
 simp only [Op7.v,Rz7.v,Bi.v,Bi.z,Ino.v] at *
 refine ZV [_,_] func48 ntmps48 fun G w hp=>?_
 repeat' (first|refine ZH ?_|refine ZI ?_|refine ZK ?_|refine ZG ?_|refine ZM ?_|refine ZJ ?_|refine ZN ?_|refine ZP (fun b=>?_)|refine ZO (fun b=>?_)|refine ZA ?_|refine ZB ?_|refine ZL ?_|refine ZX ?_|refine ZY ?_|refine Zf ?_|refine Za ?_|refine Zb ?_|refine Zc (fun b=>?_)|refine Zd (fun b=>?_)|refine Ze ?_|refine ZZ ?_|refine ZE (n1) (fun _ _=>?_)|refine l_call0 (n1) (fun _ _=>?_)|refine ZS (n1) (fun _ _=>?_)|refine ZE (n2) (fun _ _=>?_)|refine l_call0 (n2) (fun _ _=>?_)|refine ZS (n2) (fun _ _=>?_)|rw [t1]|rw [w1]|(refine ZC (fun hc=>?_) (fun hc=>?_)<;>(try simp at hc)<;>(try omega))|(refine ZQ (fun hc=>?_) (fun hc=>?_)<;>(try simp at hc)<;>(try omega))|refine ZD 2 [BiX _ _] [(0,0),(1,0),(2,0),(3,0),(4,0),(5,0),(6,4),(7,1),(8,4)] [] ?_|(refine ZF (fun hc=>?_) (fun hc=>?_)<;>(try simp at hc)<;>(try omega)))
 rw [←hln]
 exact ZT (q,0) rfl (by dsimp only;rw [hln];exact hq)
set_option maxHeartbeats 4000000 in
theorem do27_2 (o:Op7) (hk:o.k.toNat % 6=2) (hot:o.t.size≤500) (hD:DoH q bs fs m) :
  Enters 48∧Spec prog 48 #[.pointer (some ⟨bm,0,none⟩),o.v] [] (MoL bm q bs fs m)
   ⟨Mq×Nat,fun _=>(mDoR bs fs m o).v,fun x=>x.1.OK (mDoB bs m o).length (mDoF bs fs o x.2).length,fun _=>[],fun x=>MoL bm x.1 (mDoB bs m o) (mDoF bs fs o x.2) (mDoM bs m o)⟩:=by
 have hR:mDoR bs fs m o=⟨⟨#[]⟩,0,Bi.z,(mResize bs fs (bthF bs o.w) o.c).1⟩:=by unfold mDoR;rw [if_neg (show ¬o.k.toNat % 6=0 by omega),if_neg (show ¬o.k.toNat % 6=1 by omega),if_pos hk]
 have hF:∀r,mDoF bs fs o r=(mResize bs fs (bthF bs o.w) o.c).2:=fun r=>by unfold mDoF;rw [if_neg (show ¬o.k.toNat % 6=1 by omega),if_pos hk]
 have hB:mDoB bs m o=bs:=by unfold mDoB;rw [if_neg (show ¬o.k.toNat % 6=5 by omega)]
 have hM:mDoM bs m o=m:=by unfold mDoM;rw [if_neg (show ¬o.k.toNat % 6=5 by omega)]
 simp only [hR,hF,hB,hM]
 clear hR hF hB hM
 obtain ⟨hl,hlf,hq,hb0,hct,hbs,hmv⟩:=hD
 obtain ⟨ok,ow,of,oc,ot,⟨a1,a2,a3,a4,a5,a6,a7⟩⟩:=o
 dsimp only at *
 have hbz:=YC hbs ow
 have n1:=YB q bs ow
 have t1:=WQ ok 2 hk
 have w1:=Y6 (z:=((2:Nat):Int)) (by omega)
 generalize hBI:bthF bs ow=BI at *
 have n2:=resize27_ok bm q bs fs BI m oc hl hlf hct hbz hq
 have hln:=mRs_len bs fs BI oc
 generalize mResize bs fs BI oc=G at *
 obtain ⟨g1,g2⟩:=BI
 simp only [Op7.v,Rz7.v,Bi.v,Bi.z,Ino.v] at *
 refine ZV [_,_] func48 ntmps48 fun G w hp=>?_
 repeat' (first|refine ZH ?_|refine ZI ?_|refine ZK ?_|refine ZG ?_|refine ZM ?_|refine ZJ ?_|refine ZN ?_|refine ZP (fun b=>?_)|refine ZO (fun b=>?_)|refine ZA ?_|refine ZB ?_|refine ZL ?_|refine ZX ?_|refine ZY ?_|refine Zf ?_|refine Za ?_|refine Zb ?_|refine Zc (fun b=>?_)|refine Zd (fun b=>?_)|refine Ze ?_|refine ZZ ?_|refine ZE (n1) (fun _ _=>?_)|refine l_call0 (n1) (fun _ _=>?_)|refine ZS (n1) (fun _ _=>?_)|refine ZE (n2) (fun _ _=>?_)|refine l_call0 (n2) (fun _ _=>?_)|refine ZS (n2) (fun _ _=>?_)|rw [t1]|rw [w1]|(refine ZC (fun hc=>?_) (fun hc=>?_)<;>(try simp at hc)<;>(try omega))|(refine ZQ (fun hc=>?_) (fun hc=>?_)<;>(try simp at hc)<;>(try omega))|refine ZD 2 [BiX _ _] [(0,0),(1,0),(2,0),(3,0),(4,0),(5,0),(6,4),(7,1),(8,4)] [] ?_|(refine ZF (fun hc=>?_) (fun hc=>?_)<;>(try simp at hc)<;>(try omega)))
 rw [←hln]
 exact ZT (q,0) rfl (by dsimp only;rw [hln];exact hq)
set_option maxHeartbeats 4000000 in
theorem do27_3 (o:Op7) (hk:o.k.toNat % 6=3) (hot:o.t.size≤500) (hD:DoH q bs fs m) :
  Enters 48∧Spec prog 48 #[.pointer (some ⟨bm,0,none⟩),o.v] [] (MoL bm q bs fs m)
   ⟨Mq×Nat,fun _=>(mDoR bs fs m o).v,fun x=>x.1.OK (mDoB bs m o).length (mDoF bs fs o x.2).length,fun _=>[],fun x=>MoL bm x.1 (mDoB bs m o) (mDoF bs fs o x.2) (mDoM bs m o)⟩:=by
 have hR:mDoR bs fs m o=⟨⟨#[]⟩,0,Bi.z,(mSet bs fs (bthF bs o.w) o.n).1⟩:=by unfold mDoR;rw [if_neg (show ¬o.k.toNat % 6=0 by omega),if_neg (show ¬o.k.toNat % 6=1 by omega),if_neg (show ¬o.k.toNat % 6=2 by omega),if_pos hk]
 have hF:∀r,mDoF bs fs o r=(mSet bs fs (bthF bs o.w) o.n).2:=fun r=>by unfold mDoF;rw [if_neg (show ¬o.k.toNat % 6=1 by omega),if_neg (show ¬o.k.toNat % 6=2 by omega),if_pos hk]
 have hB:mDoB bs m o=bs:=by unfold mDoB;rw [if_neg (show ¬o.k.toNat % 6=5 by omega)]
 have hM:mDoM bs m o=m:=by unfold mDoM;rw [if_neg (show ¬o.k.toNat % 6=5 by omega)]
 simp only [hR,hF,hB,hM]
 clear hR hF hB hM
 obtain ⟨hl,hlf,hq,hb0,hct,hbs,hmv⟩:=hD
 obtain ⟨ok,ow,of,oc,ot,⟨a1,a2,a3,a4,a5,a6,a7⟩⟩:=o
 dsimp only at *
 have hbz:=YC hbs ow
 have n1:=YB q bs ow
 have t1:=WQ ok 3 hk
 have w1:=Y6 (z:=((3:Nat):Int)) (by omega)
 generalize hBI:bthF bs ow=BI at *
 have n2:=set27_ok bm q bs fs BI ⟨a1,a2,a3,a4,a5,a6,a7⟩ hl hlf hbz hq
 have hln:=mSt_len bs fs BI ⟨a1,a2,a3,a4,a5,a6,a7⟩
 have hcm:=mSt_bl bs fs m BI ⟨a1,a2,a3,a4,a5,a6,a7⟩ q.rm
 generalize mSet bs fs BI ⟨a1,a2,a3,a4,a5,a6,a7⟩=G at *
 obtain ⟨g1,g2⟩:=BI
 simp only [Op7.v,Rz7.v,Bi.v,Bi.z,Ino.v] at *
 refine ZV [_,_] func48 ntmps48 fun G w hp=>?_
 repeat' (first|refine ZH ?_|refine ZI ?_|refine ZK ?_|refine ZG ?_|refine ZM ?_|refine ZJ ?_|refine ZN ?_|refine ZP (fun b=>?_)|refine ZO (fun b=>?_)|refine ZA ?_|refine ZB ?_|refine ZL ?_|refine ZX ?_|refine ZY ?_|refine Zf ?_|refine Za ?_|refine Zb ?_|refine Zc (fun b=>?_)|refine Zd (fun b=>?_)|refine Ze ?_|refine ZZ ?_|refine ZE (n1) (fun _ _=>?_)|refine l_call0 (n1) (fun _ _=>?_)|refine ZS (n1) (fun _ _=>?_)|refine ZE (n2) (fun _ _=>?_)|refine l_call0 (n2) (fun _ _=>?_)|refine ZS (n2) (fun _ _=>?_)|rw [t1]|rw [w1]|(refine ZC (fun hc=>?_) (fun hc=>?_)<;>(try simp at hc)<;>(try omega))|(refine ZQ (fun hc=>?_) (fun hc=>?_)<;>(try simp at hc)<;>(try omega))|refine ZD 2 [BiX _ _] [(0,0),(1,0),(2,0),(3,0),(4,0),(5,0),(6,4),(7,1),(8,4)] [] ?_|(refine ZF (fun hc=>?_) (fun hc=>?_)<;>(try simp at hc)<;>(try omega)))
 refine k_say (P:=CM q.rm m fs) hcm.symm ?_
 rw [←hln]
 exact ZT (q,0) rfl (by dsimp only;rw [hln];exact hq)
set_option maxHeartbeats 4000000 in
theorem do27_4 (o:Op7) (hk:o.k.toNat % 6=4) (hot:o.t.size≤500) (hD:DoH q bs fs m) :
  Enters 48∧Spec prog 48 #[.pointer (some ⟨bm,0,none⟩),o.v] [] (MoL bm q bs fs m)
   ⟨Mq×Nat,fun _=>(mDoR bs fs m o).v,fun x=>x.1.OK (mDoB bs m o).length (mDoF bs fs o x.2).length,fun _=>[],fun x=>MoL bm x.1 (mDoB bs m o) (mDoF bs fs o x.2) (mDoM bs m o)⟩:=by
 have hR:mDoR bs fs m o=⟨(mRead bs fs (bthF bs o.w) 0 4096).1,0,Bi.z,(mRead bs fs (bthF bs o.w) 0 4096).2⟩:=by unfold mDoR;rw [if_neg (show ¬o.k.toNat % 6=0 by omega),if_neg (show ¬o.k.toNat % 6=1 by omega),if_neg (show ¬o.k.toNat % 6=2 by omega),if_neg (show ¬o.k.toNat % 6=3 by omega),if_pos hk]
 have hF:∀r,mDoF bs fs o r=fs:=fun r=>by unfold mDoF;rw [if_neg (show ¬o.k.toNat % 6=1 by omega),if_neg (show ¬o.k.toNat % 6=2 by omega),if_neg (show ¬o.k.toNat % 6=3 by omega),if_neg (show ¬o.k.toNat % 6=5 by omega)]
 have hB:mDoB bs m o=bs:=by unfold mDoB;rw [if_neg (show ¬o.k.toNat % 6=5 by omega)]
 have hM:mDoM bs m o=m:=by unfold mDoM;rw [if_neg (show ¬o.k.toNat % 6=5 by omega)]
 simp only [hR,hF,hB,hM]
 clear hR hF hB hM
 obtain ⟨hl,hlf,hq,hb0,hct,hbs,hmv⟩:=hD
 obtain ⟨ok,ow,of,oc,ot,⟨a1,a2,a3,a4,a5,a6,a7⟩⟩:=o
 dsimp only at *
 have hbz:=YC hbs ow
 have n1:=YB q bs ow
 have t1:=WQ ok 4 hk
 have w1:=Y6 (z:=((4:Nat):Int)) (by omega)
 generalize hBI:bthF bs ow=BI at *
 have n2:=read27_ok bm q bs fs BI 0 4096 hl hlf hct hbz
 generalize mRead bs fs BI 0 4096=G at *
 obtain ⟨g1,g2⟩:=BI
 simp only [Op7.v,Rz7.v,Bi.v,Bi.z,Ino.v] at *
 refine ZV [_,_] func48 ntmps48 fun G w hp=>?_
 repeat' (first|refine ZH ?_|refine ZI ?_|refine ZK ?_|refine ZG ?_|refine ZM ?_|refine ZJ ?_|refine ZN ?_|refine ZP (fun b=>?_)|refine ZO (fun b=>?_)|refine ZA ?_|refine ZB ?_|refine ZL ?_|refine ZX ?_|refine ZY ?_|refine Zf ?_|refine Za ?_|refine Zb ?_|refine Zc (fun b=>?_)|refine Zd (fun b=>?_)|refine Ze ?_|refine ZZ ?_|refine ZE (n1) (fun _ _=>?_)|refine l_call0 (n1) (fun _ _=>?_)|refine ZS (n1) (fun _ _=>?_)|refine ZE (n2) (fun _ _=>?_)|refine l_call0 (n2) (fun _ _=>?_)|refine ZS (n2) (fun _ _=>?_)|rw [t1]|rw [w1]|(refine ZC (fun hc=>?_) (fun hc=>?_)<;>(try simp at hc)<;>(try omega))|(refine ZQ (fun hc=>?_) (fun hc=>?_)<;>(try simp at hc)<;>(try omega))|refine ZD 2 [BiX _ _] [(0,0),(1,0),(2,0),(3,0),(4,0),(5,0),(6,4),(7,1),(8,4)] [] ?_|(refine ZF (fun hc=>?_) (fun hc=>?_)<;>(try simp at hc)<;>(try omega)))
 exact ZT (q,0) rfl hq
set_option maxHeartbeats 4000000 in
theorem do27_5 (o:Op7) (hk:o.k.toNat % 6=5) (hot:o.t.size≤500) (hD:DoH q bs fs m) :
  Enters 48∧Spec prog 48 #[.pointer (some ⟨bm,0,none⟩),o.v] [] (MoL bm q bs fs m)
   ⟨Mq×Nat,fun _=>(mDoR bs fs m o).v,fun x=>x.1.OK (mDoB bs m o).length (mDoF bs fs o x.2).length,fun _=>[],fun x=>MoL bm x.1 (mDoB bs m o) (mDoF bs fs o x.2) (mDoM bs m o)⟩:=by
 have hR:mDoR bs fs m o=⟨⟨#[]⟩,0,(mMake bs m (Zh (o.w.toNat % 3)) o.n).b,(mMake bs m (Zh (o.w.toNat % 3)) o.n).e⟩:=by unfold mDoR;rw [if_neg (show ¬o.k.toNat % 6=0 by omega),if_neg (show ¬o.k.toNat % 6=1 by omega),if_neg (show ¬o.k.toNat % 6=2 by omega),if_neg (show ¬o.k.toNat % 6=3 by omega),if_neg (show ¬o.k.toNat % 6=4 by omega)]
 have hF:∀r,mDoF bs fs o r=mMakeF fs o.n r:=fun r=>by unfold mDoF;rw [if_neg (show ¬o.k.toNat % 6=1 by omega),if_neg (show ¬o.k.toNat % 6=2 by omega),if_neg (show ¬o.k.toNat % 6=3 by omega),if_pos hk]
 have hB:mDoB bs m o=(mMake bs m (Zh (o.w.toNat % 3)) o.n).bs:=by unfold mDoB;rw [if_pos hk]
 have hM:mDoM bs m o=(mMake bs m (Zh (o.w.toNat % 3)) o.n).m:=by unfold mDoM;rw [if_pos hk]
 simp only [hR,hF,hB,hM]
 clear hR hF hB hM
 obtain ⟨hl,hlf,hq,hb0,hct,hbs,hmv⟩:=hD
 obtain ⟨ok,ow,of,oc,ot,⟨a1,a2,a3,a4,a5,a6,a7⟩⟩:=o
 dsimp only at *
 have hbz:=YC hbs ow
 have n1:=YB q bs ow
 have t1:=WQ ok 5 hk
 have w1:=Y6 (z:=((5:Nat):Int)) (by omega)
 have hw3:ow.toNat % 3<3:=by omega
 have t3:=tmod3 ow
 have w3:=Y6 (z:=((ow.toNat % 3:Nat):Int)) (by omega)
 have hg:=VC hw3
 generalize hBI:bthF bs ow=BI at *
 have n2:=make27_ok bm q bs fs m (Zh (ow.toNat % 3)) ⟨a1,a2,a3,a4,a5,a6,a7⟩ (hmv _ hw3).1 (hmv _ hw3).2 hl hlf hq hb0
 generalize mMake bs m (Zh (ow.toNat % 3)) ⟨a1,a2,a3,a4,a5,a6,a7⟩=G at *
 obtain ⟨g1,g2⟩:=BI
 simp only [Op7.v,Rz7.v,Bi.v,Bi.z,Ino.v] at *
 refine ZV [_,_] func48 ntmps48 fun G w hp=>?_
 repeat' (first|refine ZH ?_|refine ZI ?_|refine ZK ?_|refine ZG ?_|refine ZM ?_|refine ZJ ?_|refine ZN ?_|refine ZP (fun b=>?_)|refine ZO (fun b=>?_)|refine ZA ?_|refine ZB ?_|refine ZL ?_|refine ZX ?_|refine ZY ?_|refine Zf ?_|refine Za ?_|refine Zb ?_|refine Zc (fun b=>?_)|refine Zd (fun b=>?_)|refine Ze ?_|refine ZZ ?_|refine ZE (n1) (fun _ _=>?_)|refine l_call0 (n1) (fun _ _=>?_)|refine ZS (n1) (fun _ _=>?_)|refine ZE (n2) (fun _ _=>?_)|refine l_call0 (n2) (fun _ _=>?_)|refine ZS (n2) (fun _ _=>?_)|refine ZE (YL) (fun _ _=>?_)|refine l_call0 (YL) (fun _ _=>?_)|refine ZS (YL) (fun _ _=>?_)|rw [t1]|rw [w1]|rw [t3]|rw [w3]|refine r_ixK7 (m:=3) (ow.toNat % 3) hw3 ?_|refine Zp 1 (ow.toNat % 3) 0 hg ?_|(refine ZC (fun hc=>?_) (fun hc=>?_)<;>(try simp at hc)<;>(try omega))|(refine ZQ (fun hc=>?_) (fun hc=>?_)<;>(try simp at hc)<;>(try omega))|refine ZD 2 [BiX _ _] [(0,0),(1,0),(2,0),(3,0),(4,0),(5,0),(6,4),(7,1),(8,4)] [] ?_|refine ZD 4 [MdP _ _ _ _,BiX _ _,FlX _ _,CM _ _ _,Pt _ (.cells #[.string _,.int .i64 _,.string _,.int .i64 _,.int .i64 _] _)] [(0,0),(2,0),(3,0),(4,0),(7,0),(8,0),(1,4),(5,0),(6,3),(9,4),(10,0),(11,0),(12,0),(13,0),(14,4),(15,0),(16,4)] [] ?_|(refine ZF (fun hc=>?_) (fun hc=>?_)<;>(try simp at hc)<;>(try omega)))
 rename_i x hx
 exact ZT x rfl hx
theorem do27_ok (o:Op7) (hot:o.t.size≤500) (hD:DoH q bs fs m) :
  Enters 48∧Spec prog 48 #[.pointer (some ⟨bm,0,none⟩),o.v] [] (MoL bm q bs fs m)
   ⟨Mq×Nat,fun _=>(mDoR bs fs m o).v,fun x=>x.1.OK (mDoB bs m o).length (mDoF bs fs o x.2).length,fun _=>[],fun x=>MoL bm x.1 (mDoB bs m o) (mDoF bs fs o x.2) (mDoM bs m o)⟩:=by
 have h:=Nat.mod_lt o.k.toNat (show 0<6 by decide)
 rcases (show o.k.toNat % 6=0∨o.k.toNat % 6=1∨o.k.toNat % 6=2∨o.k.toNat % 6=3∨o.k.toNat % 6=4∨o.k.toNat % 6=5 by omega) with h|h|h|h|h|h
 ·exact do27_0 bm q bs fs m o h hot hD
 ·exact do27_1 bm q bs fs m o h hot hD
 ·exact do27_2 bm q bs fs m o h hot hD
 ·exact do27_3 bm q bs fs m o h hot hD
 ·exact do27_4 bm q bs fs m o h hot hD
 ·exact do27_5 bm q bs fs m o h hot hD
end
section
variable (vb:Nat) (ps:Option Addr) (es:Al) (q:Mq) (bs:List Bi)
set_option maxHeartbeats 4000000 in
theorem perf27_0 (o:Op7) (hk:o.k.toNat % 6=0) (hot:o.t.size≤500∧∀b ∈ bs,b.mkr.size≤3) (hS:∀n,(vget es [] n).1.size≤65536) :
  Enters 20∧Spec prog 20 #[.pointer (some ⟨vb,0,none⟩),.slice (some ⟨q.bb,0,none⟩) bs.length q.cb,o.v] [St ps es,Usg] [Vw vb ps [] [],BiX q bs]
   ⟨Unit,fun _=>((qOp bs o).run es []).1.v,fun _=>True,fun _=>[],fun _=>[Vw vb ps (rsq es ((qOp bs o).run es []).2.1 []) ((qOp bs o).run es []).2.2,BiX q bs]⟩:=by
 have hO:qOp bs o=(qRead (bthF bs o.w) o.f o.c).bind fun r=>.ret ⟨r.1,0,Bi.z,r.2⟩:=by unfold qOp;rw [if_pos hk]
 rw [hO,run_bind]
 simp only [run,List.append_nil]
 clear hO
 obtain ⟨hot,hbs⟩:=hot
 obtain ⟨ok,ow,of,oc,ot,⟨a1,a2,a3,a4,a5,a6,a7⟩⟩:=o
 dsimp only at *
 have hbz:=YC hbs ow
 have n1:=YB q bs ow
 have t1:=WQ ok 0 hk
 have w1:=Y6 (z:=((0:Nat):Int)) (by omega)
 generalize hBI:bthF bs ow=BI at *
 have n2:=UL vb ps es [] [] BI of oc hbz hS
 generalize (qRead BI of oc).run es []=G at *
 obtain ⟨g1,g2⟩:=BI
 simp only [Op7.v,Rz7.v,Bi.v,Bi.z,Ino.v] at *
 refine ZV [_,_,_] func20 ntmps20 fun G w hp=>?_
 repeat' (first|refine ZH ?_|refine ZI ?_|refine ZK ?_|refine ZG ?_|refine ZM ?_|refine ZJ ?_|refine ZN ?_|refine ZP (fun b=>?_)|refine ZO (fun b=>?_)|refine ZA ?_|refine ZB ?_|refine ZL ?_|refine ZE (n1) (fun _ _=>?_)|refine l_call0 (n1) (fun _ _=>?_)|refine ZE (n2) (fun _ _=>?_)|refine l_call0 (n2) (fun _ _=>?_)|rw [t1]|rw [w1]|(refine ZC (fun hc=>?_) (fun hc=>?_)<;>(try simp at hc)<;>(try omega))|(refine ZF (fun hc=>?_) (fun hc=>?_)<;>(try simp at hc)<;>(try omega)))
 exact ZT () rfl trivial
set_option maxHeartbeats 4000000 in
theorem perf27_1 (o:Op7) (hk:o.k.toNat % 6=1) (hot:o.t.size≤500∧∀b ∈ bs,b.mkr.size≤3) (hS:∀n,(vget es [] n).1.size≤65536) :
  Enters 20∧Spec prog 20 #[.pointer (some ⟨vb,0,none⟩),.slice (some ⟨q.bb,0,none⟩) bs.length q.cb,o.v] [St ps es,Usg] [Vw vb ps [] [],BiX q bs]
   ⟨Unit,fun _=>((qOp bs o).run es []).1.v,fun _=>True,fun _=>[],fun _=>[Vw vb ps (rsq es ((qOp bs o).run es []).2.1 []) ((qOp bs o).run es []).2.2,BiX q bs]⟩:=by
 have hO:qOp bs o=(qWrite (bthF bs o.w) o.f o.t).bind fun r=>.ret ⟨⟨#[]⟩,r.1,Bi.z,r.2⟩:=by unfold qOp;rw [if_neg (show ¬o.k.toNat % 6=0 by omega),if_pos hk]
 rw [hO,run_bind]
 simp only [run,List.append_nil]
 clear hO
 obtain ⟨hot,hbs⟩:=hot
 obtain ⟨ok,ow,of,oc,ot,⟨a1,a2,a3,a4,a5,a6,a7⟩⟩:=o
 dsimp only at *
 have hbz:=YC hbs ow
 have n1:=YB q bs ow
 have t1:=WQ ok 1 hk
 have w1:=Y6 (z:=((1:Nat):Int)) (by omega)
 generalize hBI:bthF bs ow=BI at *
 have n2:=writeG_ok vb ps es [] [] BI of ot hbz (by omega) (by simp) hS
 generalize (qWrite BI of ot).run es []=G at *
 obtain ⟨g1,g2⟩:=BI
 simp only [Op7.v,Rz7.v,Bi.v,Bi.z,Ino.v] at *
 refine ZV [_,_,_] func20 ntmps20 fun G w hp=>?_
 repeat' (first|refine ZH ?_|refine ZI ?_|refine ZK ?_|refine ZG ?_|refine ZM ?_|refine ZJ ?_|refine ZN ?_|refine ZP (fun b=>?_)|refine ZO (fun b=>?_)|refine ZA ?_|refine ZB ?_|refine ZL ?_|refine ZE (n1) (fun _ _=>?_)|refine l_call0 (n1) (fun _ _=>?_)|refine ZE (n2) (fun _ _=>?_)|refine l_call0 (n2) (fun _ _=>?_)|rw [t1]|rw [w1]|(refine ZC (fun hc=>?_) (fun hc=>?_)<;>(try simp at hc)<;>(try omega))|(refine ZF (fun hc=>?_) (fun hc=>?_)<;>(try simp at hc)<;>(try omega)))
 exact ZT () rfl trivial
set_option maxHeartbeats 4000000 in
theorem perf27_2 (o:Op7) (hk:o.k.toNat % 6=2) (hot:o.t.size≤500∧∀b ∈ bs,b.mkr.size≤3) (hS:∀n,(vget es [] n).1.size≤65536) :
  Enters 20∧Spec prog 20 #[.pointer (some ⟨vb,0,none⟩),.slice (some ⟨q.bb,0,none⟩) bs.length q.cb,o.v] [St ps es,Usg] [Vw vb ps [] [],BiX q bs]
   ⟨Unit,fun _=>((qOp bs o).run es []).1.v,fun _=>True,fun _=>[],fun _=>[Vw vb ps (rsq es ((qOp bs o).run es []).2.1 []) ((qOp bs o).run es []).2.2,BiX q bs]⟩:=by
 have hO:qOp bs o=(qResize (bthF bs o.w) o.c).bind fun r=>.ret ⟨⟨#[]⟩,0,Bi.z,r⟩:=by unfold qOp;rw [if_neg (show ¬o.k.toNat % 6=0 by omega),if_neg (show ¬o.k.toNat % 6=1 by omega),if_pos hk]
 rw [hO,run_bind]
 simp only [run,List.append_nil]
 clear hO
 obtain ⟨hot,hbs⟩:=hot
 obtain ⟨ok,ow,of,oc,ot,⟨a1,a2,a3,a4,a5,a6,a7⟩⟩:=o
 dsimp only at *
 have hbz:=YC hbs ow
 have n1:=YB q bs ow
 have t1:=WQ ok 2 hk
 have w1:=Y6 (z:=((2:Nat):Int)) (by omega)
 generalize hBI:bthF bs ow=BI at *
 have n2:=resizeG_ok vb ps es [] [] BI oc hbz (by simp) hS
 generalize (qResize BI oc).run es []=G at *
 obtain ⟨g1,g2⟩:=BI
 simp only [Op7.v,Rz7.v,Bi.v,Bi.z,Ino.v] at *
 refine ZV [_,_,_] func20 ntmps20 fun G w hp=>?_
 repeat' (first|refine ZH ?_|refine ZI ?_|refine ZK ?_|refine ZG ?_|refine ZM ?_|refine ZJ ?_|refine ZN ?_|refine ZP (fun b=>?_)|refine ZO (fun b=>?_)|refine ZA ?_|refine ZB ?_|refine ZL ?_|refine ZE (n1) (fun _ _=>?_)|refine l_call0 (n1) (fun _ _=>?_)|refine ZE (n2) (fun _ _=>?_)|refine l_call0 (n2) (fun _ _=>?_)|rw [t1]|rw [w1]|(refine ZC (fun hc=>?_) (fun hc=>?_)<;>(try simp at hc)<;>(try omega))|(refine ZF (fun hc=>?_) (fun hc=>?_)<;>(try simp at hc)<;>(try omega)))
 exact ZT () rfl trivial
set_option maxHeartbeats 4000000 in
theorem perf27_3 (o:Op7) (hk:o.k.toNat % 6=3) (hot:o.t.size≤500∧∀b ∈ bs,b.mkr.size≤3) (hS:∀n,(vget es [] n).1.size≤65536) :
  Enters 20∧Spec prog 20 #[.pointer (some ⟨vb,0,none⟩),.slice (some ⟨q.bb,0,none⟩) bs.length q.cb,o.v] [St ps es,Usg] [Vw vb ps [] [],BiX q bs]
   ⟨Unit,fun _=>((qOp bs o).run es []).1.v,fun _=>True,fun _=>[],fun _=>[Vw vb ps (rsq es ((qOp bs o).run es []).2.1 []) ((qOp bs o).run es []).2.2,BiX q bs]⟩:=by
 have hO:qOp bs o=(qSet (bthF bs o.w) o.n).bind fun r=>.ret ⟨⟨#[]⟩,0,Bi.z,r⟩:=by unfold qOp;rw [if_neg (show ¬o.k.toNat % 6=0 by omega),if_neg (show ¬o.k.toNat % 6=1 by omega),if_neg (show ¬o.k.toNat % 6=2 by omega),if_pos hk]
 rw [hO,run_bind]
 simp only [run,List.append_nil]
 clear hO
 obtain ⟨hot,hbs⟩:=hot
 obtain ⟨ok,ow,of,oc,ot,⟨a1,a2,a3,a4,a5,a6,a7⟩⟩:=o
 dsimp only at *
 have hbz:=YC hbs ow
 have n1:=YB q bs ow
 have t1:=WQ ok 3 hk
 have w1:=Y6 (z:=((3:Nat):Int)) (by omega)
 generalize hBI:bthF bs ow=BI at *
 have n2:=inoSetG_ok vb ps es [] [] BI ⟨a1,a2,a3,a4,a5,a6,a7⟩ hbz (by simp) hS
 generalize (qSet BI ⟨a1,a2,a3,a4,a5,a6,a7⟩).run es []=G at *
 obtain ⟨g1,g2⟩:=BI
 simp only [Op7.v,Rz7.v,Bi.v,Bi.z,Ino.v] at *
 refine ZV [_,_,_] func20 ntmps20 fun G w hp=>?_
 repeat' (first|refine ZH ?_|refine ZI ?_|refine ZK ?_|refine ZG ?_|refine ZM ?_|refine ZJ ?_|refine ZN ?_|refine ZP (fun b=>?_)|refine ZO (fun b=>?_)|refine ZA ?_|refine ZB ?_|refine ZL ?_|refine ZE (n1) (fun _ _=>?_)|refine l_call0 (n1) (fun _ _=>?_)|refine ZE (n2) (fun _ _=>?_)|refine l_call0 (n2) (fun _ _=>?_)|rw [t1]|rw [w1]|(refine ZC (fun hc=>?_) (fun hc=>?_)<;>(try simp at hc)<;>(try omega))|(refine ZF (fun hc=>?_) (fun hc=>?_)<;>(try simp at hc)<;>(try omega)))
 exact ZT () rfl trivial
set_option maxHeartbeats 4000000 in
theorem perf27_4 (o:Op7) (hk:o.k.toNat % 6=4) (hot:o.t.size≤500∧∀b ∈ bs,b.mkr.size≤3) (hS:∀n,(vget es [] n).1.size≤65536) :
  Enters 20∧Spec prog 20 #[.pointer (some ⟨vb,0,none⟩),.slice (some ⟨q.bb,0,none⟩) bs.length q.cb,o.v] [St ps es,Usg] [Vw vb ps [] [],BiX q bs]
   ⟨Unit,fun _=>((qOp bs o).run es []).1.v,fun _=>True,fun _=>[],fun _=>[Vw vb ps (rsq es ((qOp bs o).run es []).2.1 []) ((qOp bs o).run es []).2.2,BiX q bs]⟩:=by
 have hO:qOp bs o=(qRead (bthF bs o.w) 0 4096).bind fun r=>.ret ⟨r.1,0,Bi.z,r.2⟩:=by unfold qOp;rw [if_neg (show ¬o.k.toNat % 6=0 by omega),if_neg (show ¬o.k.toNat % 6=1 by omega),if_neg (show ¬o.k.toNat % 6=2 by omega),if_neg (show ¬o.k.toNat % 6=3 by omega),if_pos hk]
 rw [hO,run_bind]
 simp only [run,List.append_nil]
 clear hO
 obtain ⟨hot,hbs⟩:=hot
 obtain ⟨ok,ow,of,oc,ot,⟨a1,a2,a3,a4,a5,a6,a7⟩⟩:=o
 dsimp only at *
 have hbz:=YC hbs ow
 have n1:=YB q bs ow
 have t1:=WQ ok 4 hk
 have w1:=Y6 (z:=((4:Nat):Int)) (by omega)
 generalize hBI:bthF bs ow=BI at *
 have n2:=WK vb ps es [] [] BI hbz hS
 generalize (qRead BI 0 4096).run es []=G at *
 obtain ⟨g1,g2⟩:=BI
 simp only [Op7.v,Rz7.v,Bi.v,Bi.z,Ino.v] at *
 refine ZV [_,_,_] func20 ntmps20 fun G w hp=>?_
 repeat' (first|refine ZH ?_|refine ZI ?_|refine ZK ?_|refine ZG ?_|refine ZM ?_|refine ZJ ?_|refine ZN ?_|refine ZP (fun b=>?_)|refine ZO (fun b=>?_)|refine ZA ?_|refine ZB ?_|refine ZL ?_|refine ZE (n1) (fun _ _=>?_)|refine l_call0 (n1) (fun _ _=>?_)|refine ZE (n2) (fun _ _=>?_)|refine l_call0 (n2) (fun _ _=>?_)|rw [t1]|rw [w1]|(refine ZC (fun hc=>?_) (fun hc=>?_)<;>(try simp at hc)<;>(try omega))|(refine ZF (fun hc=>?_) (fun hc=>?_)<;>(try simp at hc)<;>(try omega)))
 exact ZT () rfl trivial
set_option maxHeartbeats 4000000 in
theorem perf27_5 (o:Op7) (hk:o.k.toNat % 6=5) (hot:o.t.size≤500∧∀b ∈ bs,b.mkr.size≤3) (hS:∀n,(vget es [] n).1.size≤65536) :
  Enters 20∧Spec prog 20 #[.pointer (some ⟨vb,0,none⟩),.slice (some ⟨q.bb,0,none⟩) bs.length q.cb,o.v] [St ps es,Usg] [Vw vb ps [] [],BiX q bs]
   ⟨Unit,fun _=>((qOp bs o).run es []).1.v,fun _=>True,fun _=>[],fun _=>[Vw vb ps (rsq es ((qOp bs o).run es []).2.1 []) ((qOp bs o).run es []).2.2,BiX q bs]⟩:=by
 have hO:qOp bs o=(qMake (Zh (o.w.toNat % 3)) o.n).bind fun r=>.ret ⟨⟨#[]⟩,0,r.1,r.2⟩:=by unfold qOp;rw [if_neg (show ¬o.k.toNat % 6=0 by omega),if_neg (show ¬o.k.toNat % 6=1 by omega),if_neg (show ¬o.k.toNat % 6=2 by omega),if_neg (show ¬o.k.toNat % 6=3 by omega),if_neg (show ¬o.k.toNat % 6=4 by omega)]
 rw [hO,run_bind]
 simp only [run,List.append_nil]
 clear hO
 obtain ⟨hot,hbs⟩:=hot
 obtain ⟨ok,ow,of,oc,ot,⟨a1,a2,a3,a4,a5,a6,a7⟩⟩:=o
 dsimp only at *
 have hbz:=YC hbs ow
 have n1:=YB q bs ow
 have t1:=WQ ok 5 hk
 have w1:=Y6 (z:=((5:Nat):Int)) (by omega)
 have hw3:ow.toNat % 3<3:=by omega
 have t3:=tmod3 ow
 have w3:=Y6 (z:=((ow.toNat % 3:Nat):Int)) (by omega)
 have hg:=VC hw3
 generalize hBI:bthF bs ow=BI at *
 have n2:=makeG_ok vb ps es [] [] (Zh (ow.toNat % 3)) ⟨a1,a2,a3,a4,a5,a6,a7⟩ (by have:=XF (ow.toNat % 3);omega) (by simp) hS
 generalize (qMake (Zh (ow.toNat % 3)) ⟨a1,a2,a3,a4,a5,a6,a7⟩).run es []=G at *
 obtain ⟨g1,g2⟩:=BI
 simp only [Op7.v,Rz7.v,Bi.v,Bi.z,Ino.v] at *
 refine ZV [_,_,_] func20 ntmps20 fun G w hp=>?_
 repeat' (first|refine ZH ?_|refine ZI ?_|refine ZK ?_|refine ZG ?_|refine ZM ?_|refine ZJ ?_|refine ZN ?_|refine ZP (fun b=>?_)|refine ZO (fun b=>?_)|refine ZA ?_|refine ZB ?_|refine ZL ?_|refine ZX ?_|refine ZY ?_|refine Zf ?_|refine Za ?_|refine Zb ?_|refine Zc (fun b=>?_)|refine Zd (fun b=>?_)|refine Ze ?_|refine ZZ ?_|refine ZE (n1) (fun _ _=>?_)|refine l_call0 (n1) (fun _ _=>?_)|refine ZS (n1) (fun _ _=>?_)|refine ZE (n2) (fun _ _=>?_)|refine l_call0 (n2) (fun _ _=>?_)|refine ZS (n2) (fun _ _=>?_)|refine ZE (YL) (fun _ _=>?_)|refine l_call0 (YL) (fun _ _=>?_)|refine ZS (YL) (fun _ _=>?_)|rw [t1]|rw [w1]|rw [t3]|rw [w3]|refine r_ixK7 (m:=3) (ow.toNat % 3) hw3 ?_|refine Zp 1 (ow.toNat % 3) 0 hg ?_|(refine ZC (fun hc=>?_) (fun hc=>?_)<;>(try simp at hc)<;>(try omega))|(refine ZQ (fun hc=>?_) (fun hc=>?_)<;>(try simp at hc)<;>(try omega))|refine ZD 4 [Vw _ _ _ _,Pt _ (.cells #[.string _,.int .i64 _,.string _,.int .i64 _,.int .i64 _] _)] [(0,0),(2,0),(3,0),(4,0),(7,0),(8,0),(1,4),(5,0),(6,3),(9,4),(10,0),(11,0),(12,0),(13,0),(14,4),(15,0),(16,4)] [] ?_|(refine ZF (fun hc=>?_) (fun hc=>?_)<;>(try simp at hc)<;>(try omega)))
 exact ZT () rfl trivial
theorem UH (o:Op7) (hot:o.t.size≤500∧∀b ∈ bs,b.mkr.size≤3) (hS:∀n,(vget es [] n).1.size≤65536) :
  Enters 20∧Spec prog 20 #[.pointer (some ⟨vb,0,none⟩),.slice (some ⟨q.bb,0,none⟩) bs.length q.cb,o.v] [St ps es,Usg] [Vw vb ps [] [],BiX q bs]
   ⟨Unit,fun _=>((qOp bs o).run es []).1.v,fun _=>True,fun _=>[],fun _=>[Vw vb ps (rsq es ((qOp bs o).run es []).2.1 []) ((qOp bs o).run es []).2.2,BiX q bs]⟩:=by
 have h:=Nat.mod_lt o.k.toNat (show 0<6 by decide)
 rcases (show o.k.toNat % 6=0∨o.k.toNat % 6=1∨o.k.toNat % 6=2∨o.k.toNat % 6=3∨o.k.toNat % 6=4∨o.k.toNat % 6=5 by omega) with h|h|h|h|h|h
 ·exact perf27_0 vb ps es q bs o h hot hS
 ·exact perf27_1 vb ps es q bs o h hot hS
 ·exact perf27_2 vb ps es q bs o h hot hS
 ·exact perf27_3 vb ps es q bs o h hot hS
 ·exact perf27_4 vb ps es q bs o h hot hS
 ·exact perf27_5 vb ps es q bs o h hot hS
end
end
theorem Y9 {es:Al} {cs:List Ch} {c:Ch} {n:Nm} (h:c.nm≠n):vget es (cs++[c]) n=vget es cs n:=by
 unfold vget
 rw [YN,if_neg h]
theorem vg_eq {es:Al} {cs:List Ch} {c:Ch} {n:Nm} (h:c.nm=n) (hn:nchk n=0):vget es (cs++[c]) n=(c.val,!c.abs):=by
 unfold vget
 rw [if_neg (by rw [hn];simp),YN,if_pos h]
theorem Vj {bi:Bi} {i j:Nat} (h:bnm bi (i:Int)=bnm bi (j:Int)):i=j:=by
 simp only [bnm,Nm.mk.injEq] at h;omega
theorem bnm_nnm {a b:Bi} {i:Int}:bnm a i≠nnm b:=by simp [bnm,nnm]
theorem V4 {a b:Bi} {i:Int}:nnm b≠bnm a i:=by simp [bnm,nnm]
def fb (es:Al) (cs:List Ch) (bi:Bi) (k:Nat):UInt8:=(Yd (vget es cs (bnm bi ((k / 64:Nat):Int))).1).getD (k % 64) 0
structure FOK (es:Al) (cs:List Ch) (bi:Bi) (w:ByteArray):Prop where
 nd:∃nd:Ino,ichk nd=0∧nd.kd=1∧nd.sz=(w.size:Int)∧vget es cs (nnm bi)=(iencS nd,true)
 le:w.size≤4096
 b:∀k,k<4096→fb es cs bi k=w.data.toList.getD k 0
 e:∀j:Nat,j<64→(vget es cs (bnm bi (j:Int))).2=false→(vget es cs (bnm bi (j:Int))).1=⟨#[]⟩
section
variable {bi:Bi} {w:ByteArray}
theorem FOK.file (h:FOK es cs bi w) (hb:bchk bi=0):(ifile es cs bi).2=0∧(ifile es cs bi).1.sz=(w.size:Int)∧(vget es cs (nnm bi)).1.size≤1099511627776:=by
 obtain ⟨nd,h1,h2,h3,h4⟩:=h.nd
 obtain ⟨_,g2⟩:=Yi hb h4 h1 h2
 rw [g2,h4]
 have:=Zs nd
 exact ⟨rfl,h3,by dsimp only;omega⟩
theorem Yt {α:Type} (a b:List α) (j:Nat) (d:α):(a++b).getD j d=if j<a.length then a.getD j d else b.getD (j - a.length) d:=by
 split
 ·rename_i h;rw [List.getD_eq_getElem?_getD,List.getD_eq_getElem?_getD,List.getElem?_append_left h]
 ·rename_i h;rw [List.getD_eq_getElem?_getD,List.getD_eq_getElem?_getD,List.getElem?_append_right (by omega)]
theorem Ym {α:Type} (a:List α) (m j:Nat) (d:α) (h:j<m):(a.take m).getD j d=a.getD j d:=by
 rw [List.getD_eq_getElem?_getD,List.getD_eq_getElem?_getD,List.getElem?_take,if_pos h]
theorem Xw {α:Type} (a:List α) (m j:Nat) (d:α):(a.drop m).getD j d=a.getD (m+j) d:=by
 rw [List.getD_eq_getElem?_getD,List.getD_eq_getElem?_getD,List.getElem?_drop]
theorem Xz {α:Type} (a:List α) (j:Nat) (d:α) (h:a.length≤j):a.getD j d=d:=by
 rw [List.getD_eq_getElem?_getD,List.getElem?_eq_none h];rfl
theorem XK {α:Type} (m j:Nat) (d:α):(List.replicate m d).getD j d=d:=by
 rw [List.getD_eq_getElem?_getD,List.getElem?_replicate];split<;>rfl
theorem cpy_getD {L:List UInt8} {off dl:Nat} {s:ByteArray} (h1:dl≤s.size) (h2:off+dl≤L.length) (j:Nat):(cpy L off s dl).getD j 0=if off≤j∧j<off+dl then s.data.toList.getD (j - off) 0 else L.getD j 0:=by
 have hs:s.data.toList.length=s.size:=by simp
 have hm:min s.size dl=dl:=by omega
 have l1:(L.take off).length=off:=by simp;omega
 have l2:(s.data.toList.take dl).length=dl:=by simp;omega
 rw [cpy,hm,Yt,Yt,List.length_append,l1,l2,Xw]
 by_cases h3:j<off
 ·rw [if_pos (by omega),if_pos h3,if_neg (by omega),Ym _ _ _ _ h3]
 ·by_cases h4:j<off+dl
  ·rw [if_pos h4,if_neg h3,if_pos ⟨by omega,h4⟩,Ym _ _ _ _ (by omega)]
  ·rw [if_neg h4,if_neg (by omega)]
   congr 1;omega
theorem pad64_full {s:ByteArray} (h:s.size=64):Yd s=s.data.toList:=by
 have hs:s.data.toList.length=s.size:=by simp
 have h2:min s.size 64=64:=by omega
 have h3:(List.replicate 64 (0:UInt8)).drop (0+64)=[]:=by rw [List.drop_eq_nil_iff];simp
 rw [Yd,cpy,h2,h3,List.take_zero,List.take_of_length_le (l:=s.data.toList) (by omega),List.append_nil,List.nil_append]
theorem Wt:Yd ⟨#[]⟩=List.replicate 64 0:=by
 unfold Yd cpy
 have:(⟨#[]⟩:ByteArray).size=0:=rfl
 rw [this];simp
theorem rdB_pts:∀(k f t:Nat),t - f≤k→rdB es cs bi (pts f t)=(List.range' f (t - f)).map (fb es cs bi)
 | 0,f,t,hk=>by
  rw [pts,if_neg (by omega),show t - f=0 by omega];rfl
 | k+1,f,t,hk=>by
  rw [pts]
  split
  ·rename_i hlt
   have ih:=rdB_pts k (min t (f / 64 * 64+64)) t (by omega)
   have e1:∀p l,rdB es cs bi (p::l)=rdS es cs bi p++rdB es cs bi l:=fun p l=>by simp [rdB]
   rw [e1,ih]
   have e2:t - f=(min t (f / 64 * 64+64) - f)+(t - min t (f / 64 * 64+64)):=by omega
   have e3:List.range' f (t - f)=List.range' f (min t (f / 64 * 64+64) - f)++List.range' (min t (f / 64 * 64+64)) (t - min t (f / 64 * 64+64)):=by
    rw [e2,←List.range'_append_1,show f+(min t (f / 64 * 64+64) - f)=min t (f / 64 * 64+64) by omega]
   rw [e3,List.map_append]
   congr 1
   have hp:=YU (vget es cs (bnm bi ((f / 64:Nat):Int))).1
   refine List.ext_getElem ?_ fun j h1 h2=>?_
   ·rw [rdS_len (by dsimp only;omega)];simp;omega
   ·simp only [List.length_map,List.length_range'] at h2
    simp only [rdS,List.getElem_take,List.getElem_drop,List.getElem_map,List.getElem_range',fb]
    have a1:(f+1 * j) / 64=f / 64:=by omega
    have a2:(f+1 * j) % 64=f - f / 64 * 64+j:=by omega
    rw [a1,a2,List.getD_eq_getElem?_getD,List.getElem?_eq_getElem (by rw [hp];omega)]
    rfl
  ·rw [show t - f=0 by omega];rfl
theorem FOK.read (h:FOK es cs bi w):(⟨(rdB es cs bi (pts 0 w.size)).toArray⟩:ByteArray)=w:=by
 have hs:w.data.toList.length=w.size:=by simp
 have h1:rdB es cs bi (pts 0 w.size)=w.data.toList:=by
  rw [rdB_pts w.size 0 w.size (by omega)]
  refine List.ext_getElem (by simp) fun j h1 h2=>?_
  simp only [List.length_map,List.length_range'] at h1
  have:=h.le
  simp only [List.getElem_map,List.getElem_range']
  rw [h.b _ (by omega),List.getD_eq_getElem?_getD,List.getElem?_eq_getElem (by rw [hs];omega)]
  simp
 rw [h1]
theorem ext_drop (s:ByteArray) (a:Nat):(s.extract a s.size).data.toList=s.data.toList.drop a:=by
 have hs:s.data.size=s.size:=rfl
 rw [ByteArray.data_extract,Array.toList_extract,List.extract_eq_take_drop,List.take_of_length_le (by simp [hs])]
theorem wnew_getD {f:Nat} {s:ByteArray} {p:Pp} (h1:f≤p.bl * 64+p.fr) (h2:p.fr<p.to) (h3:p.to≤64) (h4:p.bl * 64+p.to≤f+s.size) (j:Nat) (hj:j<64) :
  (wnew es cs bi f s p).getD j 0=if p.fr≤j∧j<p.to then s.data.toList.getD (p.bl * 64+j - f) 0 else (Yd (vget es cs (bnm bi p.bl)).1).getD j 0:=by
 have hp:=YU (vget es cs (bnm bi p.bl)).1
 have hx:(s.extract (p.bl * 64+p.fr - f) s.size).size=s.size - (p.bl * 64+p.fr - f):=by rw [ByteArray.size_extract];omega
 unfold wnew
 by_cases hf:p.to - p.fr<64
 ·rw [if_pos hf,cpy_getD (by rw [hx];omega) (by rw [hp];omega)]
  by_cases hr:p.fr≤j∧j<p.to
  ·rw [if_pos (by omega),if_pos hr,ext_drop,Xw]
   congr 1;omega
  ·rw [if_neg (by omega),if_neg hr]
 ·rw [if_neg hf,cpy_getD (by rw [hx];omega) (by simp;omega),if_pos (by omega),if_pos (by omega),ext_drop,Xw]
  congr 1;omega
theorem fb_step {f:Nat} {s:ByteArray} {q:List (Nm×Ch)×List Ch} {p:Pp} (hb:bchk bi=0) (h1:f≤p.bl * 64+p.fr) (h2:p.fr<p.to) (h3:p.to≤64) (h4:p.bl * 64+p.to≤f+s.size) (hbl:p.bl<64) (k:Nat) :
  fb es (wstep es bi f s q p).2 bi k=if p.bl * 64+p.fr≤k∧k<p.bl * 64+p.to then s.data.toList.getD (k - f) 0 else fb es q.2 bi k:=by
 have hst:(wstep es bi f s q p).2=q.2++[⟨bnm bi p.bl,⟨(wnew es q.2 bi f s p).toArray⟩,false⟩]:=rfl
 rw [hst]
 have hl:=X2 (es:=es) (cs:=q.2) (bi:=bi) (f:=f) (s:=s) (p:=p) (by omega)
 by_cases hkb:k / 64=p.bl
 ·have hv:vget es (q.2++[⟨bnm bi p.bl,⟨(wnew es q.2 bi f s p).toArray⟩,false⟩]) (bnm bi ((k / 64:Nat):Int))=(⟨(wnew es q.2 bi f s p).toArray⟩,true):=vg_eq (by rw [hkb]) (YP hb (by omega))
  unfold fb
  rw [hv,pad64_full (by show (List.toArray _).size=64;rw [List.size_toArray,hl])]
  show (wnew es q.2 bi f s p).getD (k % 64) 0=_
  rw [wnew_getD h1 h2 h3 h4 _ (by omega),hkb]
  by_cases hr:p.fr≤k % 64∧k % 64<p.to
  ·rw [if_pos hr,if_pos (by omega)]
   congr 1;omega
  ·rw [if_neg hr,if_neg (by omega)]
 ·unfold fb
  rw [Y9 (fun e=>hkb (Vj e).symm),if_neg (by omega)]
theorem fb_fold {f:Nat} {s:ByteArray} (hb:bchk bi=0):∀(n a t:Nat),t - a≤n→f≤a→t≤4096→t≤f+s.size→∀(q:List (Nm×Ch)×List Ch) (k:Nat),k<4096→
  fb es (wfold es bi f s q (pts a t)).2 bi k=if a≤k∧k<t then s.data.toList.getD (k - f) 0 else fb es q.2 bi k
 | 0,a,t,hn,_,_,_,q,k,hk=>by
  rw [pts,if_neg (by omega),if_neg (by omega)];rfl
 | n+1,a,t,hn,ha,ht,hs,q,k,hk=>by
  rw [pts]
  split
  ·rename_i hlt
   show fb es (wfold es bi f s (wstep es bi f s q ⟨a / 64,a - a / 64 * 64,min t (a / 64 * 64+64) - a / 64 * 64⟩) (pts (min t (a / 64 * 64+64)) t)).2 bi k=_
   rw [fb_fold hb n (min t (a / 64 * 64+64)) t (by omega) (by omega) ht hs _ k hk,fb_step hb (by dsimp only;omega) (by dsimp only;omega) (by dsimp only;omega) (by dsimp only;omega) (by dsimp only;omega) k]
   dsimp only
   by_cases h1:min t (a / 64 * 64+64)≤k∧k<t
   ·rw [if_pos h1,if_pos (by omega)]
   ·rw [if_neg h1]
    by_cases h2:a≤k∧k<t
    ·rw [if_pos h2,if_pos (by omega)]
    ·rw [if_neg h2,if_neg (by omega)]
  ·rw [if_neg (by omega)];rfl
theorem vg_fold {f:Nat} {s:ByteArray}:∀(l:List Pp) (q:List (Nm×Ch)×List Ch),vget es (wfold es bi f s q l).2 (nnm bi)=vget es q.2 (nnm bi)
 | [],_=>rfl
 | p::l,q=>by
  show vget es (wfold es bi f s (wstep es bi f s q p) l).2 (nnm bi)=_
  rw [vg_fold l]
  exact Y9 bnm_nnm
theorem ve_fold {f:Nat} {s:ByteArray} (hb:bchk bi=0) (j:Nat) (hj:j<64):∀(l:List Pp) (q:List (Nm×Ch)×List Ch),((vget es q.2 (bnm bi (j:Int))).2=false→(vget es q.2 (bnm bi (j:Int))).1=⟨#[]⟩)→(vget es (wfold es bi f s q l).2 (bnm bi (j:Int))).2=false→(vget es (wfold es bi f s q l).2 (bnm bi (j:Int))).1=⟨#[]⟩
 | [],_,h=>h
 | p::l,q,h=>by
  show (vget es (wfold es bi f s (wstep es bi f s q p) l).2 (bnm bi (j:Int))).2=false→_
  refine ve_fold hb j hj l _ ?_
  have hst:(wstep es bi f s q p).2=q.2++[⟨bnm bi p.bl,⟨(wnew es q.2 bi f s p).toArray⟩,false⟩]:=rfl
  rw [hst]
  by_cases hp:bnm bi (p.bl:Int)=bnm bi (j:Int)
  ·rw [vg_eq hp (YP hb (by omega))]
   intro h;cases h
  ·rw [Y9 hp];exact h
theorem FOK.write (h:FOK es cs bi w) (hb:bchk bi=0) {f:Nat} {s w':ByteArray} (hf:f≤4096) (rs:List (Nm×Ch)) (hsz:w'.size=if min s.size (4096 - f)=0 then w.size else max w.size (f+min s.size (4096 - f)))
  (hg:∀k,k<4096→w'.data.toList.getD k 0=if f≤k∧k<f+min s.size (4096 - f) then s.data.toList.getD (k - f) 0 else w.data.toList.getD k 0):FOK es ((iwQ es rs cs bi f s).2++iwN es cs bi f s) bi w':=by
 obtain ⟨nd,h1,h2,h3,h4⟩:=h.nd
 have hle:=h.le
 obtain ⟨_,hif⟩:=Yi hb h4 h1 h2
 have hN:∀c ∈ iwN es cs bi f s,c.nm=nnm bi:=fun c hc=>by
  unfold iwN at hc
  split at hc
  ·rw [List.mem_singleton.1 hc]
  ·cases hc
 have hq:iwQ es rs cs bi f s=wfold es bi f s (igetR es rs cs bi,cs) (pts f (f+min s.size (4096 - f))):=rfl
 have hb1:∀j:Nat,vget es ((iwQ es rs cs bi f s).2++iwN es cs bi f s) (bnm bi (j:Int))=vget es (iwQ es rs cs bi f s).2 (bnm bi (j:Int)):=fun j=>by
  unfold iwN
  split
  ·exact Y9 V4
  ·rw [List.append_nil]
 generalize hn:min s.size (4096 - f)=n at *
 refine ⟨?_,?_,fun k hk=>?_,fun j hj=>?_⟩
 ·by_cases hw:0<n∧nd.sz<((f+n:Nat):Int)
  ·have e1:iwN es cs bi f s=[⟨nnm bi,iencS {nd with sz:=((f+n:Nat):Int)},false⟩]:=by
    unfold iwN
    rw [hn,hif,if_pos hw]
   refine ⟨{nd with sz:=((f+n:Nat):Int)},XG h1 (by omega) (by omega) (by omega),h2,?_,?_⟩
   ·show ((f+n:Nat):Int)=_
    rw [hsz,if_neg (by omega)];omega
   ·rw [e1];exact YJ (Zu hb)
  ·have e1:iwN es cs bi f s=[]:=by
    unfold iwN
    rw [hn,hif,if_neg hw]
   refine ⟨nd,h1,h2,?_,?_⟩
   ·rw [h3,hsz]
    split
    ·rfl
    ·omega
   ·rw [e1,List.append_nil,hq,vg_fold];exact h4
 ·rw [hsz];split<;>omega
 ·have e1:fb es ((iwQ es rs cs bi f s).2++iwN es cs bi f s) bi k=fb es (iwQ es rs cs bi f s).2 bi k:=by
   unfold fb;rw [hb1]
  rw [e1,hq,fb_fold hb (f+n - f) f (f+n) (Nat.le_refl _) (Nat.le_refl _) (by omega) (by omega) _ k hk,hg k hk]
  split
  ·rfl
  ·exact h.b k hk
 ·rw [hb1,hq]
  exact ve_fold hb j hj _ _ (h.e j hj)
theorem vg_dls (hb:bchk bi=0) (a:Nat):∀(k j:Nat),j<64→vget es (cs++dls bi a k) (bnm bi (j:Int))=if a≤j∧j<a+k then (⟨#[]⟩,false) else vget es cs (bnm bi (j:Int))
 | 0,j,_=>by
  rw [if_neg (by omega)]
  simp [dls]
 | k+1,j,hj=>by
  rw [dls_snoc,←List.append_assoc]
  by_cases h:j=a+k
  ·subst h
   rw [vg_eq rfl (YP hb (by omega)),if_pos (by omega)];rfl
  ·rw [Y9 (fun e=>h (Vj e).symm),vg_dls hb a k j hj]
   by_cases h2:a≤j∧j<a+k
   ·rw [if_pos h2,if_pos (by omega)]
   ·rw [if_neg h2,if_neg (by omega)]
theorem FOK.cut (h:FOK es cs bi w) (hb:bchk bi=0) {n:Nat} (hn:n<w.size):(∀k,k<4096→fb es (cutC es cs bi n w.size) bi k=if k<n then w.data.toList.getD k 0 else 0)∧
  (∀j:Nat,j<64→(vget es (cutC es cs bi n w.size) (bnm bi (j:Int))).2=false→(vget es (cutC es cs bi n w.size) (bnm bi (j:Int))).1=⟨#[]⟩):=by
 have hle:=h.le
 have hs:w.data.toList.length=w.size:=by simp
 have hD:∀j:Nat,j<64→vget es (cutD cs bi n w.size) (bnm bi (j:Int))=if (n+63) / 64≤j∧j<(w.size+63) / 64 then (⟨#[]⟩,false) else vget es cs (bnm bi (j:Int)):=fun j hj=>by
  rw [cutD,vg_dls hb _ _ j hj]
  congr 1
  rw [eq_iff_iff];omega
 have hDe:∀j:Nat,j<64→(vget es (cutD cs bi n w.size) (bnm bi (j:Int))).2=false→(vget es (cutD cs bi n w.size) (bnm bi (j:Int))).1=⟨#[]⟩:=fun j hj=>by
  rw [hD j hj]
  split
  ·intro _;rfl
  ·exact h.e j hj
 have hDb:∀k,k<4096→fb es (cutD cs bi n w.size) bi k=if (n+63) / 64≤k / 64 then 0 else w.data.toList.getD k 0:=fun k hk=>by
  unfold fb
  rw [hD (k / 64) (by omega)]
  by_cases h1:(n+63) / 64≤k / 64
  ·rw [if_pos h1]
   by_cases h2:k / 64<(w.size+63) / 64
   ·rw [if_pos ⟨h1,h2⟩,Wt,XK]
   ·rw [if_neg (by omega)]
    have:=h.b k hk
    unfold fb at this
    rw [this,Xz _ _ _ (by rw [hs];omega)]
  ·rw [if_neg h1,if_neg (by omega)]
   exact h.b k hk
 unfold cutC
 by_cases h64:n % 64=0
 ·rw [if_pos h64]
  refine ⟨fun k hk=>?_,hDe⟩
  rw [hDb k hk]
  by_cases h1:k<n
  ·rw [if_pos h1,if_neg (by omega)]
  ·rw [if_neg h1,if_pos (by omega)]
 ·rw [if_neg h64]
  have hp:=YU (vget es (cutD cs bi n w.size) (bnm bi ((n / 64:Nat):Int))).1
  by_cases hv:(vget es (cutD cs bi n w.size) (bnm bi ((n / 64:Nat):Int))).2=true
  ·rw [if_pos hv]
   refine ⟨fun k hk=>?_,fun j hj=>?_⟩
   ·by_cases hkb:k / 64=n / 64
    ·have hl:=clrB_len (Lb:=Yd (vget es (cutD cs bi n w.size) (bnm bi ((n / 64:Nat):Int))).1) (lo:=n % 64) (by omega)
     unfold fb
     rw [hkb,vg_eq rfl (YP hb (by omega)),pad64_full (by show (List.toArray _).size=64;rw [List.size_toArray,hl,hp])]
     show (clrB (Yd (vget es (cutD cs bi n w.size) (bnm bi ((n / 64:Nat):Int))).1) (n % 64)).getD (k % 64) 0=_
     have hb2:=hDb k hk
     unfold fb at hb2
     rw [hkb,if_neg (by omega)] at hb2
     rw [clrB,Yt,List.length_take,hp]
     by_cases h1:k<n
     ·rw [if_pos h1,if_pos (by omega),Ym _ _ _ _ (by omega),hb2]
     ·rw [if_neg h1,if_neg (by omega),XK]
    ·have e1:fb es (cutD cs bi n w.size++[⟨bnm bi ((n / 64:Nat):Int),⟨(clrB (Yd (vget es (cutD cs bi n w.size) (bnm bi ((n / 64:Nat):Int))).1) (n % 64)).toArray⟩,false⟩]) bi k=fb es (cutD cs bi n w.size) bi k:=by
      unfold fb
      rw [Y9 (fun e=>hkb (Vj e).symm)]
     rw [e1,hDb k hk]
     by_cases h1:k<n
     ·rw [if_pos h1,if_neg (by omega)]
     ·rw [if_neg h1,if_pos (by omega)]
   ·by_cases hjn:bnm bi ((n / 64:Nat):Int)=bnm bi (j:Int)
    ·rw [vg_eq hjn (YP hb (by omega))]
     intro h;cases h
    ·rw [Y9 hjn];exact hDe j hj
  ·rw [if_neg hv]
   refine ⟨fun k hk=>?_,hDe⟩
   rw [hDb k hk]
   by_cases h1:k<n
   ·rw [if_pos h1,if_neg (by omega)]
   ·rw [if_neg h1]
    by_cases hkb:k / 64=n / 64
    ·rw [if_neg (by omega)]
     have hb2:=hDb k hk
     unfold fb at hb2
     rw [hkb,if_neg (by omega),hDe (n / 64) (by omega) (by simpa using hv),Wt,XK] at hb2
     exact hb2.symm
    ·rw [if_pos (by omega)]
theorem FOK.resize (h:FOK es cs bi w) (hb:bchk bi=0) {n:Nat} {w':ByteArray} (hn:n≤4096) (hsz:w'.size=n) (hg:∀k,k<4096→w'.data.toList.getD k 0=if k<n then w.data.toList.getD k 0 else 0):FOK es (rszC es cs bi n w.size) bi w':=by
 obtain ⟨nd,h1,h2,h3,h4⟩:=h.nd
 have hle:=h.le
 have hs:w.data.toList.length=w.size:=by simp
 obtain ⟨_,hif⟩:=Yi hb h4 h1 h2
 unfold rszC
 rw [hif]
 have hck:=XG h1 (by omega) (by omega) (z:=(n:Int)) (by omega)
 have hbn:∀(cs':List Ch) (c:ByteArray) (j:Nat),vget es (cs'++[⟨nnm bi,c,false⟩]) (bnm bi (j:Int))=vget es cs' (bnm bi (j:Int)):=fun cs' c j=>Y9 V4
 have hfb:∀(cs':List Ch) (c:ByteArray) (k:Nat),fb es (cs'++[⟨nnm bi,c,false⟩]) bi k=fb es cs' bi k:=fun cs' c k=>by unfold fb;rw [hbn]
 rcases Nat.lt_trichotomy n w.size with hlt|heq|hgt
 ·rw [if_neg (by omega),if_pos hlt]
  obtain ⟨c1,c2⟩:=h.cut hb hlt
  refine ⟨⟨{nd with sz:=(n:Int)},hck,h2,by show (n:Int)=_;rw [hsz],YJ (Zu hb)⟩,by omega,fun k hk=>?_,fun j hj=>?_⟩
  ·rw [hfb,c1 k hk,hg k hk]
  ·rw [hbn];exact c2 j hj
 ·rw [if_pos heq]
  refine ⟨⟨nd,h1,h2,by rw [h3,hsz,heq],h4⟩,by omega,fun k hk=>?_,h.e⟩
  rw [h.b k hk,hg k hk]
  split
  ·rfl
  ·rw [Xz _ _ _ (by rw [hs];omega)]
 ·rw [if_neg (by omega),if_neg (by omega)]
  refine ⟨⟨{nd with sz:=(n:Int)},hck,h2,by show (n:Int)=_;rw [hsz],YJ (Zu hb)⟩,by omega,fun k hk=>?_,fun j hj=>?_⟩
  ·rw [hfb,h.b k hk,hg k hk]
   split
   ·rfl
   ·rw [Xz _ _ _ (by rw [hs];omega)]
  ·rw [hbn];exact h.e j hj
end
variable {bs:List Bi} {fs:List Fq} {m:List (ByteArray×Int)} {k:Nat}
section
open VQ
theorem ext7 (t:ByteArray) (a b:Nat):(t.extract a b).data.toList=(t.data.toList.drop a).take (b - a):=by
 rw [ByteArray.data_extract,Array.toList_extract,List.extract_eq_take_drop]
theorem vget_app {es:Al} {cs ds:List Ch} {n:Nm} (h:∀c ∈ ds,c.nm≠n):vget es (cs++ds) n=vget es cs n:=by
 revert h
 refine Xf (P:=fun ds=>(∀c ∈ ds,c.nm≠n)→vget es (cs++ds) n=vget es cs n) (by simp) (fun l c ih h=>?_) ds
 rw [←List.append_assoc,Y9 (h c (by simp))]
 exact ih fun d hd=>h d (by simp [hd])
structure FR (es:Al) (cs:List Ch) (b:Bi) (x:Fq):Prop where
 ck:ichk x.nd=0
 v:vget es cs (nnm b)=(iencS x.nd,true)
 f:x.nd.kd=1→x.nd.sz=(x.ct.size:Int)∧FOK es cs b x.ct
 z:x.nd.kd≠1→x.ct=⟨#[]⟩
 p:∀n:Nat,n<64→(vget es cs (bnm b (n:Int))).2=(mget (n:Int) x.bl).getD false
 q:∀n:Nat,n<64→(vget es cs (bnm b (n:Int))).2=true→64 * n<x.ct.size
theorem FOK.cg {es es':Al} {cs cs':List Ch} {b:Bi} {w:ByteArray} (h:FOK es cs b w) (h1:vget es' cs' (nnm b)=vget es cs (nnm b)) (h2:∀n:Int,vget es' cs' (bnm b n)=vget es cs (bnm b n)):FOK es' cs' b w:=by
 obtain ⟨⟨nd,a1,a2,a3,a4⟩,b1,c1,d1⟩:=h
 refine ⟨⟨nd,a1,a2,a3,by rw [h1];exact a4⟩,b1,fun k hk=>?_,fun j hj=>?_⟩
 ·unfold fb
  rw [h2]
  exact c1 k hk
 ·rw [h2];exact d1 j hj
theorem FR.cg {es es':Al} {cs cs':List Ch} {b:Bi} {x:Fq} (h:FR es cs b x) (h1:vget es' cs' (nnm b)=vget es cs (nnm b)) (h2:∀n:Int,vget es' cs' (bnm b n)=vget es cs (bnm b n)):FR es' cs' b x:=
 ⟨h.ck,by rw [h1];exact h.v,fun hk=>⟨(h.f hk).1,(h.f hk).2.cg h1 h2⟩,h.z,fun n hn=>by rw [h2];exact h.p n hn,fun n hn=>by rw [h2];exact h.q n hn⟩
structure R7 (es:Al) (cs:List Ch) (bs:List Bi) (fs:List Fq) (m:List (ByteArray×Int)) (k:Nat):Prop where
 len:bs.length≤k
 lf:fs.length=bs.length
 nd:bs.Nodup
 mr:∀b ∈ bs,∃j,j<3∧b.mkr=Zh j∧0≤b.nu∧b.nu<(mget (Zh j) m).getD 0
 ct:∀j,j<3→(0≤(mget (Zh j) m).getD 0∧(mget (Zh j) m).getD 0≤(k:Int))∧madeE es cs (Zh j)=(⟨(mget (Zh j) m).getD 0,0,0⟩,0)
 fl:∀(i:Nat) (b:Bi) (x:Fq),bs[i]? = some b→fs[i]? = some x→FR es cs b x
 no:∀b,b ∉ bs→(vget es cs (nnm b)).2=false∧∀n:Int,vget es cs (bnm b n)=(⟨#[]⟩,false)
 sz:∀n,(vget es cs n).1.size≤65536
theorem made_cg {es es':Al} {cs cs':List Ch} {who:ByteArray} (h:vget es' cs' (cnm who)=vget es cs (cnm who)):madeE es' cs' who=madeE es cs who:=by
 unfold madeE
 rw [h]
theorem R7.cg {es es':Al} {cs cs':List Ch} {bs:List Bi} {fs:List Fq} {m:List (ByteArray×Int)} {k:Nat} (h:R7 es cs bs fs m k) (hv:∀n,vget es' cs' n=vget es cs n):R7 es' cs' bs fs m k:=
 ⟨h.len,h.lf,h.nd,h.mr,fun j hj=>⟨(h.ct j hj).1,by rw [made_cg (hv _)];exact (h.ct j hj).2⟩,fun i b x h1 h2=>(h.fl i b x h1 h2).cg (hv _) fun n=>hv _,fun b hb=>⟨by rw [hv];exact (h.no b hb).1,fun n=>by rw [hv];exact (h.no b hb).2 n⟩,fun n=>by rw [hv];exact h.sz n⟩
section
theorem bchk_mk {b:Bi} {j:Nat} (h1:b.mkr=Zh j) (h2:0≤b.nu) (h3:b.nu≤1073741824):bchk b=0:=by
 unfold bchk
 rw [h1,if_neg (by simp [YX]),if_pos ⟨h2,h3⟩]
theorem R7.bc (h:R7 es cs bs fs m k) (hk:k≤1000) {b:Bi} (hb:b ∈ bs):bchk b=0:=by
 obtain ⟨j,hj,h1,h2,h3⟩:=h.mr b hb
 have:=(h.ct j hj).1
 exact bchk_mk h1 h2 (by omega)
theorem mk9 (j:Nat):(⟨#[57]⟩:ByteArray)≠Zh j:=by
 unfold Zh
 split
 ·intro h;have:=congrArg (fun s:ByteArray=>s.data.toList) h;simp [o1] at this
 ·split
  ·intro h;have:=congrArg (fun s:ByteArray=>s.data.toList) h;simp [mk2] at this
  ·intro h;have:=congrArg (fun s:ByteArray=>s.data.toList) h;simp [mk3] at this
theorem o9_valid:lvalid (⟨#[57]⟩:ByteArray).data.toList=true:=by decide +kernel
theorem W4 (h:R7 es cs bs fs m k) (hk:k≤1000) (wd:UInt8):bchk (bthF bs wd)=0∧((∃i x,bs[i]? = some (bthF bs wd)∧fs[i]? = some x∧fndI bs (bthF bs wd)=some i)∨(bthF bs wd ∉ bs∧fndI bs (bthF bs wd)=none)):=by
 have hw:=wd.toNat_lt
 cases hb:bs[wd.toNat]? with
 | some b=>
  have e:bthF bs wd=b:=by unfold bthF;rw [hb]
  rw [e]
  have hm:=List.mem_of_getElem? hb
  refine ⟨h.bc hk hm,.inl ?_⟩
  obtain ⟨hi,hbi⟩:=List.getElem?_eq_some_iff.1 hb
  refine ⟨wd.toNat,fs[wd.toNat]'(by rw [h.lf];exact hi),hb,List.getElem?_eq_getElem _,?_⟩
  cases hf:fndI bs b with
  | none=>exact absurd rfl (fnd_none hf hb)
  | some j=>
   obtain ⟨h1,h2⟩:=Wj hf
   have:=(List.getElem?_inj (by exact (List.getElem?_eq_some_iff.1 h1).1) h.nd).1 (h1.trans hb.symm)
   rw [this]
 | none=>
  have e:bthF bs wd=⟨⟨#[57]⟩,(wd.toNat:Int)⟩:=by unfold bthF;rw [hb]
  rw [e]
  have hn:(⟨⟨#[57]⟩,(wd.toNat:Int)⟩:Bi) ∉ bs:=fun hm=>by
   obtain ⟨j,_,h1,_⟩:=h.mr _ hm
   exact mk9 j h1
  refine ⟨?_,.inr ⟨hn,?_⟩⟩
  ·unfold bchk
   rw [if_neg (show ¬lvalid (⟨#[57]⟩:ByteArray).data.toList=false by rw [o9_valid];simp),if_pos (by constructor<;>dsimp only<;>omega)]
  ·cases hf:fndI bs ⟨⟨#[57]⟩,(wd.toNat:Int)⟩ with
   | none=>rfl
   | some j=>exact absurd (List.mem_of_getElem? (Wj hf).1) hn
theorem iget_in {b:Bi} {x:Fq} (hb:bchk b=0) (h:FR es cs b x):iget es cs b=(x.nd,0):=by
 rw [iget,if_neg (by simp [hb]),h.v]
 simp only [if_true]
 rw [idec_enc h.ck]
 rfl
theorem iget_out {b:Bi} (hb:bchk b=0) (h:(vget es cs (nnm b)).2=false):iget es cs b=(Ino.z,8):=by
 rw [iget,if_neg (by simp [hb]),h]
 rfl
theorem get_both (h:R7 es cs bs fs m k) (hk:k≤1000) (wd:UInt8):(ifile es cs (bthF bs wd)).2=(mGet bs fs (bthF bs wd)).2∧((mGet bs fs (bthF bs wd)).2=0→∃x,fs[(mGet bs fs (bthF bs wd)).1]? = some x∧bs[(mGet bs fs (bthF bs wd)).1]? = some (bthF bs wd)∧x.nd.kd=1∧(ifile es cs (bthF bs wd)).1=x.nd∧FR es cs (bthF bs wd) x):=by
 obtain ⟨hb,hc⟩:=W4 h hk wd
 generalize bthF bs wd=b at *
 unfold ifile mGet
 rw [if_neg (show ¬bchk b≠0 by simp [hb])]
 rcases hc with ⟨i,x,h1,h2,h3⟩|⟨h1,h3⟩
 ·have hf:=h.fl i b x h1 h2
  rw [iget_in hb hf,h3]
  dsimp only
  rw [h2]
  dsimp only
  rw [if_neg (show ¬(0:Int)≠0 by simp)]
  have hkd:=(Yc hf.ck).1
  by_cases k2:x.nd.kd=2
  ·rw [if_pos k2,if_pos k2]
   exact ⟨rfl,fun h=>by cases h⟩
  ·rw [if_neg k2,if_neg k2]
   by_cases k3:x.nd.kd=3
   ·rw [if_pos k3,if_pos k3]
    exact ⟨rfl,fun h=>by cases h⟩
   ·rw [if_neg k3,if_neg k3]
    exact ⟨rfl,fun _=>⟨x,h2,h1,by omega,rfl,hf⟩⟩
 ·rw [iget_out hb (h.no b h1).1,h3]
  dsimp only
  rw [if_pos (show (8:Int)≠0 by decide)]
  exact ⟨rfl,fun h=>by cases h⟩
theorem rd_both {b:Bi} {w:ByteArray} (h:FOK es cs b w) (f c:Nat):(⟨(rdB es cs b (pts (min f w.size) (min f w.size+min c (w.size - min f w.size)))).toArray⟩:ByteArray)=if (w.size:Int)≤(f:Int) then ⟨#[]⟩ else (w.extract f w.size).extract 0 (min c (w.size - f)):=by
 have hle:=h.le
 have hs:w.data.toList.length=w.size:=by simp
 rw [rdB_pts _ _ _ (Nat.le_refl _)]
 by_cases hf:(w.size:Int)≤(f:Int)
 ·rw [if_pos hf]
  have:min f w.size+min c (w.size - min f w.size) - min f w.size=0:=by omega
  rw [this];rfl
 ·rw [if_neg hf]
  refine WH ?_
  rw [ext7,List.drop_zero,Nat.sub_zero]
  rw [show (w.extract f w.size).data.toList=w.data.toList.drop f from ext_drop w f]
  have e1:min f w.size=f:=by omega
  rw [e1]
  refine List.ext_getElem ?_ fun j h1 h2=>?_
  ·simp [hs]
  ·simp only [List.getElem_map,List.getElem_range',List.getElem_take,List.getElem_drop]
   have hj:j<min c (w.size - f):=by simpa using h1
   rw [h.b _ (by omega),List.getD_eq_getElem?_getD,List.getElem?_eq_getElem (by rw [hs];omega)]
   simp
end
end
section
open VQ
theorem nnm_inj {a b:Bi} (h:nnm a=nnm b):a=b:=by
 obtain ⟨a1,a2⟩:=a
 obtain ⟨b1,b2⟩:=b
 simp [nnm] at h
 simp [h]
theorem bnm_injB {a b:Bi} {i j:Int} (h:bnm a i=bnm b j):a=b∧i=j:=by
 obtain ⟨a1,a2⟩:=a
 obtain ⟨b1,b2⟩:=b
 simp [bnm] at h
 simp [h]
theorem Vt {a:ByteArray} {b:Bi}:cnm a≠nnm b:=by simp [cnm,nnm]
theorem cnm_bnm {a:ByteArray} {b:Bi} {i:Int}:cnm a≠bnm b i:=by simp [cnm,bnm]
def OfB (b:Bi) (n:Nm):Prop:=n=nnm b∨∃i:Int,n=bnm b i
section
variable {cs':List Ch}
theorem R7.file (h:R7 es cs bs fs m k) {i:Nat} {b:Bi} {y:Fq} (hb:bs[i]? = some b) (hne:∀n,¬OfB b n→vget es cs' n=vget es cs n) (hy:FR es cs' b y) (hsz:∀n,(vget es cs' n).1.size≤65536):R7 es cs' bs (fs.set i y) m k:=by
 have hib:=(List.getElem?_eq_some_iff.1 hb).1
 have hot:∀b',b'≠b→vget es cs' (nnm b')=vget es cs (nnm b')∧∀n:Int,vget es cs' (bnm b' n)=vget es cs (bnm b' n):=fun b' hn=>
  ⟨hne _ (fun h=>by rcases h with h|⟨i,h⟩;exact hn (nnm_inj h);exact absurd h.symm bnm_nnm),fun n=>hne _ (fun h=>by rcases h with h|⟨i,h⟩;exact absurd h bnm_nnm;exact hn (bnm_injB h).1)⟩
 refine ⟨h.len,by rw [List.length_set];exact h.lf,h.nd,h.mr,fun j hj=>⟨(h.ct j hj).1,?_⟩,fun i' b' x' h1 h2=>?_,fun b' hb'=>?_,hsz⟩
 ·rw [made_cg (hne _ (fun h=>by rcases h with h|⟨i,h⟩;exact Vt h;exact cnm_bnm h))]
  exact (h.ct j hj).2
 ·by_cases hi:i'=i
  ·subst hi
   rw [hb] at h1
   cases h1
   rw [List.getElem?_set_self (by rw [h.lf];exact hib)] at h2
   cases h2
   exact hy
  ·rw [List.getElem?_set_ne (fun e=>hi e.symm)] at h2
   have hn:b'≠b:=fun e=>hi ((List.getElem?_inj (List.getElem?_eq_some_iff.1 h1).1 h.nd).1 (by rw [h1,hb,e]))
   exact (h.fl i' b' x' h1 h2).cg (hot b' hn).1 (hot b' hn).2
 ·have hn:b'≠b:=fun e=>hb' (e ▸ List.mem_of_getElem? hb)
  obtain ⟨g1,g2⟩:=h.no b' hb'
  exact ⟨by rw [(hot b' hn).1];exact g1,fun n=>by rw [(hot b' hn).2];exact g2 n⟩
theorem ofB_app {ds:List Ch} {b:Bi} (h:∀c ∈ ds,OfB b c.nm):∀n,¬OfB b n→vget es (cs++ds) n=vget es cs n:=fun _ hn=>vget_app fun c hc e=>hn (e ▸ h c hc)
theorem vsz_app {ds:List Ch} (hs:∀n,(vget es cs n).1.size≤65536) (h:∀c ∈ ds,c.val.size≤65536):∀n,(vget es (cs++ds) n).1.size≤65536:=by
 revert h
 refine Xf (P:=fun ds=>(∀c ∈ ds,c.val.size≤65536)→∀n,(vget es (cs++ds) n).1.size≤65536) (by simpa using hs) (fun l c ih h n=>?_) ds
 rw [←List.append_assoc]
 by_cases he:c.nm=n
 ·by_cases hn:nchk n=0
  ·rw [vg_eq he hn];exact h c (by simp)
  ·unfold vget
   rw [if_pos hn];exact Nat.zero_le _
 ·rw [Y9 he]
  exact ih (fun d hd=>h d (by simp [hd])) n
end
theorem zer_list (n:Nat):(zer n).data.toList=List.replicate n 0:=by simp [zer]
theorem wrC_list (c:ByteArray) (f:Nat) (s:ByteArray):(wrC c f s).data.toList=((c.data.toList++List.replicate (f - c.size) 0).take f++s.data.toList)++(c.data.toList++List.replicate (f - c.size) 0).drop (f+s.size):=by
 have hs:c.data.toList.length=c.size:=by simp
 have happ:∀a b:ByteArray,(a++b).data.toList=a.data.toList++b.data.toList:=fun a b=>by simp
 have h0:(⟨#[]⟩:ByteArray).data.toList=[]:=rfl
 have e2:(if c.size<f then c++zer (f - c.size) else c).data.toList=c.data.toList++List.replicate (f - c.size) 0:=by
  split
  ·rw [happ,zer_list]
  ·rw [show f - c.size=0 by omega];simp
 have e3:(if c.size<f then c++zer (f - c.size) else c).size=max c.size f:=by
  split
  ·rw [ByteArray.size_append,Ya];omega
  ·omega
 unfold wrC
 generalize (if c.size<f then c++zer (f - c.size) else c)=c2 at *
 rw [happ,happ,ext7,e2,List.drop_zero,Nat.sub_zero]
 congr 1
 split
 ·rw [ext7,e2,List.take_of_length_le]
  rw [List.length_drop,List.length_append,List.length_replicate,hs];omega
 ·rw [h0,List.drop_of_length_le]
  rw [List.length_append,List.length_replicate,hs];omega
theorem wrC_getD (c:ByteArray) (f:Nat) (s:ByteArray) (k:Nat):(wrC c f s).data.toList.getD k 0=if f≤k∧k<f+s.size then s.data.toList.getD (k - f) 0 else c.data.toList.getD k 0:=by
 have hs:c.data.toList.length=c.size:=by simp
 have hu:s.data.toList.length=s.size:=by simp
 rw [wrC_list]
 have hl:(c.data.toList++List.replicate (f - c.size) 0).length=max c.size f:=by rw [List.length_append,List.length_replicate,hs];omega
 have hg:∀j,(c.data.toList++List.replicate (f - c.size) 0).getD j 0=c.data.toList.getD j 0:=fun j=>by
  rw [Yt]
  split
  ·rfl
  ·rw [XK,Xz _ _ _ (by omega)]
 rw [Yt,List.length_append,List.length_take,hl,hu]
 by_cases h1:k<min f (max c.size f)+s.size
 ·rw [if_pos h1,Yt,List.length_take,hl]
  by_cases h2:k<min f (max c.size f)
  ·rw [if_pos h2,Ym _ _ _ _ (by omega),hg,if_neg (by omega)]
  ·rw [if_neg h2,if_pos (by omega),show k - min f (max c.size f)=k - f by omega]
 ·rw [if_neg h1,Xw,hg,if_neg (by omega),show f+s.size+(k - (min f (max c.size f)+s.size))=k by omega]
section
variable {b:Bi} {x:Fq}
theorem pr_fold {f:Nat} {s:ByteArray} (hb:bchk b=0):∀(n a t:Nat),t - a≤n→t≤4096→∀(q:List (Nm×Ch)×List Ch) (j:Nat),j<64→
  (vget es (wfold es b f s q (pts a t)).2 (bnm b (j:Int))).2=if a / 64≤j∧64 * j<t∧a<t then true else (vget es q.2 (bnm b (j:Int))).2
 | 0,a,t,hn,_,q,j,hj=>by
  rw [pts,if_neg (by omega),if_neg (by omega)];rfl
 | n+1,a,t,hn,ht,q,j,hj=>by
  rw [pts]
  split
  ·rename_i hlt
   show (vget es (wfold es b f s (wstep es b f s q ⟨a / 64,a - a / 64 * 64,min t (a / 64 * 64+64) - a / 64 * 64⟩) (pts (min t (a / 64 * 64+64)) t)).2 (bnm b (j:Int))).2=_
   rw [pr_fold hb n (min t (a / 64 * 64+64)) t (by omega) ht _ j hj]
   have hst:(wstep es b f s q ⟨a / 64,a - a / 64 * 64,min t (a / 64 * 64+64) - a / 64 * 64⟩).2=q.2++[⟨bnm b ((a / 64:Nat):Int),⟨(wnew es q.2 b f s ⟨a / 64,a - a / 64 * 64,min t (a / 64 * 64+64) - a / 64 * 64⟩).toArray⟩,false⟩]:=rfl
   rw [hst]
   by_cases hja:j=a / 64
   ·subst hja
    have hC:a / 64≤a / 64∧64 * (a / 64)<t∧a<t:=⟨Nat.le_refl _,by omega,hlt⟩
    rw [vg_eq rfl (YP hb (by omega)),if_pos hC]
    split<;>rfl
   ·rw [Y9 (fun e=>hja (Vj e).symm)]
    by_cases h1:min t (a / 64 * 64+64) / 64≤j∧64 * j<t∧min t (a / 64 * 64+64)<t
    ·rw [if_pos h1,if_pos (by omega)]
    ·rw [if_neg h1,if_neg (by omega)]
  ·rw [if_neg (by omega)];rfl
theorem blW_get (bl:List (Int×Bool)) (a:Nat) (j:Nat):∀n:Nat,mget (j:Int) (blW bl a n)=if a≤j∧j<a+n then some true else mget (j:Int) bl
 | 0=>by rw [if_neg (by omega)];rfl
 | n+1=>by
  rw [blW,Va,blW_get bl a j n]
  by_cases h:j=a+n
  ·rw [if_pos (by omega),if_pos (by omega)]
  ·rw [if_neg (by omega)]
   by_cases h2:a≤j∧j<a+n
   ·rw [if_pos h2,if_pos (by omega)]
   ·rw [if_neg h2,if_neg (by omega)]
theorem FR.write (h:FR es cs b x) (hk:x.nd.kd=1) (hb:bchk b=0) {f:Nat} {s:ByteArray} (hf:f≤4096) (hn:0<min s.size (4096 - f)):FR es ((iwQ es [] cs b f s).2++iwN es cs b f s) b (mWrF x f (mWrS s f)):=by
 obtain ⟨h1,h2⟩:=h.f hk
 have hle:=h2.le
 have hif:ifile es cs b=(x.nd,0):=(Yi hb h.v h.ck hk).2
 have hus:(mWrS s f).size=min s.size (4096 - f):=by unfold mWrS;rw [ByteArray.size_extract];omega
 have hul:(mWrS s f).data.toList=s.data.toList.take (min s.size (4096 - f)):=by unfold mWrS;rw [ext7,List.drop_zero,Nat.sub_zero]
 have hws:=wrC_size (c:=x.ct) (f:=f) (s:=mWrS s f)
 have hq:iwQ es [] cs b f s=wfold es b f s (igetR es [] cs b,cs) (pts f (f+min s.size (4096 - f))):=rfl
 have hbn:∀(j:Int),vget es ((iwQ es [] cs b f s).2++iwN es cs b f s) (bnm b j)=vget es (iwQ es [] cs b f s).2 (bnm b j):=fun j=>by
  unfold iwN
  split
  ·exact Y9 V4
  ·rw [List.append_nil]
 have hv:vget es ((iwQ es [] cs b f s).2++iwN es cs b f s) (nnm b)=(iencS {x.nd with sz:=((wrC x.ct f (mWrS s f)).size:Int)},true):=by
  unfold iwN
  rw [hif,hws,hus]
  by_cases hg:x.nd.sz<((f+min s.size (4096 - f):Nat):Int)
  ·rw [if_pos ⟨hn,hg⟩,YJ (Zu hb),show max x.ct.size (f+min s.size (4096 - f))=f+min s.size (4096 - f) by omega]
  ·rw [if_neg (fun h=>hg h.2),List.append_nil,hq,vg_fold,h.v,show max x.ct.size (f+min s.size (4096 - f))=x.ct.size by omega,←h1]
 have hF:=h2.write hb hf (w':=wrC x.ct f (mWrS s f)) (s:=s) [] (by rw [hws,hus,if_neg (by omega)]) (fun k hk=>by
  rw [wrC_getD,hus,hul]
  split
  ·rw [Ym _ _ _ _ (by omega)]
  ·rfl)
 refine ⟨XG h.ck (by omega) (by omega) (by omega),hv,fun _=>⟨rfl,hF⟩,fun hne=>absurd hk hne,fun j hj=>?_,fun j hj hp=>?_⟩
 ·rw [hbn,hq,pr_fold hb _ _ _ (Nat.le_refl _) (by omega) _ _ hj]
  show _=(mget (j:Int) (blW x.bl (f / 64) ((f+(mWrS s f).size - 1) / 64+1 - f / 64))).getD false
  rw [blW_get,hus]
  by_cases hc:f / 64≤j∧64 * j<f+min s.size (4096 - f)∧f<f+min s.size (4096 - f)
  ·rw [if_pos hc,if_pos (by omega)];rfl
  ·rw [if_neg hc,if_neg (by omega)]
   exact h.p j hj
 ·rw [hbn,hq,pr_fold hb _ _ _ (Nat.le_refl _) (by omega) _ _ hj] at hp
  show 64 * j<(wrC x.ct f (mWrS s f)).size
  rw [hws,hus]
  split at hp
  ·omega
  ·have:=h.q j hj hp
   omega
theorem pts_len7:∀(n a t:Nat),t - a≤n→(pts a t).length≤(t+63) / 64 - a / 64
 | 0,a,t,hn=>by rw [pts,if_neg (by omega)];exact Nat.zero_le _
 | n+1,a,t,hn=>by
  rw [pts]
  split
  ·rename_i hlt
   have ih:=pts_len7 n (min t (a / 64 * 64+64)) t (by omega)
   rw [List.length_cons]
   by_cases h:t≤a / 64 * 64+64
   ·rw [show min t (a / 64 * 64+64)=t by omega] at ih ⊢
    rw [pts,if_neg (by omega)]
    show 0+1≤_
    omega
   ·omega
  ·exact Nat.zero_le _
theorem pts_nil (a:Nat):pts a a=[]:=by rw [pts,if_neg (by omega)]
theorem write_nm {f:Nat} {s:ByteArray} (hf:f≤4096) (hb:bchk b=0):∃ds,(iwQ es [] cs b f s).2++iwN es cs b f s=cs++ds∧(∀c ∈ ds,OfB b c.nm∧nchk c.nm=0∧c.val.size≤65536∧(c.abs=true→c.val=⟨#[]⟩))∧ds.length≤65:=by
 have hpt:=Xn (f+min s.size (4096 - f) - f) f (f+min s.size (4096 - f)) (Nat.le_refl _)
 have hpl:=pts_len7 (f+min s.size (4096 - f) - f) f (f+min s.size (4096 - f)) (Nat.le_refl _)
 have hex:∀(l:List Pp),(∀p ∈ l,p.fr<p.to∧p.to≤64∧p.bl<64)→∀(q:List (Nm×Ch)×List Ch),∃ds,(wfold es b f s q l).2=q.2++ds∧(∀c ∈ ds,OfB b c.nm∧nchk c.nm=0∧c.val.size≤65536∧(c.abs=true→c.val=⟨#[]⟩))∧ds.length=l.length:=by
  intro l
  induction l with
  | nil=>intro _ q;exact ⟨[],by simp [wfold],(fun c hc=>by cases hc),rfl⟩
  | cons p l ih=>
   intro hp q
   obtain ⟨ds,h1,h2,h3⟩:=ih (fun r hr=>hp r (by simp [hr])) (wstep es b f s q p)
   have hst:(wstep es b f s q p).2=q.2++[⟨bnm b p.bl,⟨(wnew es q.2 b f s p).toArray⟩,false⟩]:=rfl
   have hpp:=hp p (by simp)
   refine ⟨⟨bnm b p.bl,⟨(wnew es q.2 b f s p).toArray⟩,false⟩::ds,?_,fun c hc=>?_,by simp [h3]⟩
   ·show (wfold es b f s (wstep es b f s q p) l).2=_
    rw [h1,hst,List.append_assoc];rfl
   ·rcases List.mem_cons.1 hc with rfl|hc
    ·refine ⟨.inr ⟨_,rfl⟩,YP hb (by omega),?_,fun h=>by cases h⟩
     show (List.toArray _).size≤_
     rw [List.size_toArray,X2 (by omega)];omega
    ·exact h2 c hc
 obtain ⟨ds,h1,h2,h3⟩:=hex (pts f (f+min s.size (4096 - f))) (fun p hp=>by have:=hpt p hp;omega) (igetR es [] cs b,cs)
 refine ⟨ds++iwN es cs b f s,by rw [iwQ,h1,List.append_assoc],fun c hc=>?_,?_⟩
 ·rcases List.mem_append.1 hc with hc|hc
  ·exact h2 c hc
  ·unfold iwN at hc
   split at hc
   ·rw [List.mem_singleton.1 hc]
    exact ⟨.inl rfl,Zu hb,Nat.le_trans (Zs _) (by omega),fun h=>by cases h⟩
   ·cases hc
 ·rw [List.length_append,h3]
  have:(iwN es cs b f s).length≤1:=by unfold iwN;split<;>simp
  omega
end
end
section
open VQ
theorem rzC_size (c:ByteArray) (n:Nat):(rzC c n).size=n:=by
 unfold rzC
 rw [ByteArray.size_append,Ya,ByteArray.size_extract];omega
theorem rzC_getD (c:ByteArray) (n k:Nat):(rzC c n).data.toList.getD k 0=if k<n then c.data.toList.getD k 0 else 0:=by
 have hs:c.data.toList.length=c.size:=by simp
 have happ:∀a b:ByteArray,(a++b).data.toList=a.data.toList++b.data.toList:=fun a b=>by simp
 unfold rzC
 rw [happ,zer_list,ext7,List.drop_zero,Nat.sub_zero,Yt,List.length_take,hs]
 by_cases h1:k<min (min n c.size) c.size
 ·rw [if_pos h1,Ym _ _ _ _ (by omega),if_pos (by omega)]
 ·rw [if_neg h1,XK]
  split
  ·rw [Xz _ _ _ (by omega)]
  ·rfl
theorem blZ_get (bl:List (Int×Bool)) (n:Nat) (j:Nat):∀K:Nat,mget (j:Int) (blZ bl n K)=if j<K∧n≤64 * j then some false else mget (j:Int) bl
 | 0=>by rw [if_neg (by omega)];rfl
 | K+1=>by
  rw [blZ]
  by_cases hk:n≤64 * K
  ·rw [if_pos hk,Va,blZ_get bl n j K]
   by_cases h:K=j
   ·subst h
    rw [if_pos rfl,if_pos (by omega)]
   ·rw [if_neg (by omega)]
    by_cases h2:j<K∧n≤64 * j
    ·rw [if_pos h2,if_pos (by omega)]
    ·rw [if_neg h2,if_neg (by omega)]
  ·rw [if_neg hk,blZ_get bl n j K]
   by_cases h2:j<K∧n≤64 * j
   ·rw [if_pos h2,if_pos (by omega)]
   ·rw [if_neg h2,if_neg (by omega)]
section
variable {b:Bi} {x:Fq}
theorem pr_cut (hb:bchk b=0) (n sz:Nat) (hs:sz≤4096) (j:Nat) (hj:j<64):(vget es (cutC es cs b n sz) (bnm b (j:Int))).2=if (n+63) / 64≤j∧j<(n+63) / 64+((sz+63) / 64 - (n+63) / 64) then false else (vget es cs (bnm b (j:Int))).2:=by
 have hD:∀i:Nat,i<64→vget es (cutD cs b n sz) (bnm b (i:Int))=if (n+63) / 64≤i∧i<(n+63) / 64+((sz+63) / 64 - (n+63) / 64) then (⟨#[]⟩,false) else vget es cs (bnm b (i:Int)):=fun i hi=>by
  rw [cutD,vg_dls hb _ _ i hi]
 have hD2:(vget es (cutD cs b n sz) (bnm b (j:Int))).2=if (n+63) / 64≤j∧j<(n+63) / 64+((sz+63) / 64 - (n+63) / 64) then false else (vget es cs (bnm b (j:Int))).2:=by
  rw [hD j hj]
  split<;>rfl
 unfold cutC
 by_cases h64:n % 64=0
 ·rw [if_pos h64];exact hD2
 ·rw [if_neg h64]
  by_cases hv:(vget es (cutD cs b n sz) (bnm b ((n / 64:Nat):Int))).2=true
  ·rw [if_pos hv]
   by_cases hjn:n / 64=j
   ·rw [vg_eq (by rw [hjn]) (YP hb (by omega)),←hD2,←hjn,hv]
    rfl
   ·rw [Y9 (fun e=>hjn (Vj e))]
    exact hD2
  ·rw [if_neg hv];exact hD2
theorem FR.resize (h:FR es cs b x) (hk:x.nd.kd=1) (hb:bchk b=0) {n:Nat} (hn:n≤4096):FR es (rszC es cs b n x.ct.size) b (mRzF x n):=by
 obtain ⟨h1,h2⟩:=h.f hk
 have hle:=h2.le
 have hif:ifile es cs b=(x.nd,0):=(Yi hb h.v h.ck hk).2
 have hF:=h2.resize hb hn (w':=rzC x.ct n) (rzC_size _ _) (fun k _=>rzC_getD _ _ k)
 have hv:vget es (rszC es cs b n x.ct.size) (nnm b)=(iencS {x.nd with sz:=(n:Int)},true):=by
  unfold rszC
  rw [hif]
  by_cases he:n=x.ct.size
  ·rw [if_pos he,h.v,he,←h1]
  ·rw [if_neg he,YJ (Zu hb)]
 have hp:∀j:Nat,j<64→(vget es (rszC es cs b n x.ct.size) (bnm b (j:Int))).2=if n≤64 * j then false else (vget es cs (bnm b (j:Int))).2:=fun j hj=>by
  have hq:=h.q j hj
  have hold:n ≥ x.ct.size→(vget es cs (bnm b (j:Int))).2=if n≤64 * j then false else (vget es cs (bnm b (j:Int))).2:=fun hge=>by
   split
   ·cases hv:(vget es cs (bnm b (j:Int))).2 with
    | false=>rfl
    | true=>have:=hq hv;omega
   ·rfl
  unfold rszC
  by_cases he:n=x.ct.size
  ·rw [if_pos he];exact hold (by omega)
  ·rw [if_neg he,Y9 V4]
   by_cases hlt:n<x.ct.size
   ·rw [if_pos hlt,pr_cut hb n x.ct.size (by omega) j hj]
    by_cases hc:(n+63) / 64≤j∧j<(n+63) / 64+((x.ct.size+63) / 64 - (n+63) / 64)
    ·rw [if_pos hc,if_pos (by omega)]
    ·rw [if_neg hc]
     split
     ·cases hv:(vget es cs (bnm b (j:Int))).2 with
      | false=>rfl
      | true=>have:=hq hv;omega
     ·rfl
   ·rw [if_neg hlt];exact hold (by omega)
 refine ⟨XG h.ck (by omega) (by omega) (by omega),hv,fun _=>⟨?_,hF⟩,fun hne=>absurd hk hne,fun j hj=>?_,fun j hj hp2=>?_⟩
 ·show (n:Int)=((rzC x.ct n).size:Int)
  rw [rzC_size]
 ·rw [hp j hj]
  show _=(mget (j:Int) (blZ x.bl n 64)).getD false
  rw [blZ_get]
  by_cases hc:n≤64 * j
  ·rw [if_pos hc,if_pos ⟨hj,hc⟩];rfl
  ·rw [if_neg hc,if_neg (fun h=>hc h.2)]
   exact h.p j hj
 ·rw [hp j hj] at hp2
  show 64 * j<(rzC x.ct n).size
  rw [rzC_size]
  split at hp2
  ·cases hp2
  ·omega
theorem resize_nm (hb:bchk b=0) (n sz:Nat) (hs:sz≤4096):∃ds,rszC es cs b n sz=cs++ds∧(∀c ∈ ds,OfB b c.nm∧nchk c.nm=0∧c.val.size≤65536∧(c.abs=true→c.val=⟨#[]⟩))∧ds.length≤66:=by
 have hd:∀c ∈ dls b ((n+63) / 64) ((sz+63) / 64 - (n+63) / 64),OfB b c.nm∧nchk c.nm=0∧c.val.size≤65536∧(c.abs=true→c.val=⟨#[]⟩):=fun c hc=>by
  obtain ⟨i,hi,rfl⟩:=List.mem_map.1 hc
  rw [List.mem_range'_1] at hi
  exact ⟨.inr ⟨_,rfl⟩,YP hb (by omega),Nat.zero_le _,fun _=>rfl⟩
 have hdl:(dls b ((n+63) / 64) ((sz+63) / 64 - (n+63) / 64)).length≤64:=by simp [dls];omega
 have hc:n<sz→∃ds,cutC es cs b n sz=cs++ds∧(∀c ∈ ds,OfB b c.nm∧nchk c.nm=0∧c.val.size≤65536∧(c.abs=true→c.val=⟨#[]⟩))∧ds.length≤65:=fun hlt=>by
  unfold cutC
  split
  ·exact ⟨_,rfl,hd,by omega⟩
  ·split
   ·refine ⟨_,List.append_assoc _ _ _,fun c hc=>?_,by rw [List.length_append,List.length_singleton];omega⟩
    rcases List.mem_append.1 hc with hc|hc
    ·exact hd c hc
    ·rw [List.mem_singleton.1 hc]
     refine ⟨.inr ⟨_,rfl⟩,YP hb (by omega),?_,fun h=>by cases h⟩
     show (List.toArray _).size≤_
     have:=YU (vget es (cutD cs b n sz) (bnm b ((n / 64:Nat):Int))).1
     rw [List.size_toArray,clrB_len (by omega)];omega
   ·exact ⟨_,rfl,hd,by omega⟩
 unfold rszC
 by_cases he:n=sz
 ·rw [if_pos he]
  exact ⟨[],by simp,(fun c hc=>by cases hc),Nat.zero_le _⟩
 ·rw [if_neg he]
  have hnn:∀c ∈ [(⟨nnm b,iencS {(ifile es cs b).1 with sz:=(n:Int)},false⟩:Ch)],OfB b c.nm∧nchk c.nm=0∧c.val.size≤65536∧(c.abs=true→c.val=⟨#[]⟩):=fun c hc=>by
   rw [List.mem_singleton.1 hc]
   exact ⟨.inl rfl,Zu hb,Nat.le_trans (Zs _) (by omega),fun h=>by cases h⟩
  by_cases hlt:n<sz
  ·rw [if_pos hlt]
   obtain ⟨ds,e1,e2,e3⟩:=hc hlt
   refine ⟨ds++[_],by rw [e1,List.append_assoc],fun c hc=>?_,by rw [List.length_append,List.length_singleton];omega⟩
   rcases List.mem_append.1 hc with hc|hc
   ·exact e2 c hc
   ·exact hnn c hc
  ·rw [if_neg hlt]
   exact ⟨_,rfl,hnn,by simp⟩
theorem FR.set (h:FR es cs b x) (hb:bchk b=0) {nd:Ino} (hn:ichk nd=0) (hk:x.nd.kd=nd.kd):FR es (cs++[⟨nnm b,iencS {nd with sz:=x.nd.sz},false⟩]) b {x with nd:={nd with sz:=x.nd.sz}}:=by
 have hbn:∀i:Int,vget es (cs++[⟨nnm b,iencS {nd with sz:=x.nd.sz},false⟩]) (bnm b i)=vget es cs (bnm b i):=fun i=>Y9 V4
 have hv:vget es (cs++[⟨nnm b,iencS {nd with sz:=x.nd.sz},false⟩]) (nnm b)=(iencS {nd with sz:=x.nd.sz},true):=YJ (Zu hb)
 have hc:=ichk_set h.ck hn hk
 refine ⟨hc,hv,fun h1=>?_,fun h1=>h.z (by rw [hk];exact h1),fun j hj=>by rw [hbn];exact h.p j hj,fun j hj=>by rw [hbn];exact h.q j hj⟩
 have h1:nd.kd=1:=h1
 obtain ⟨g1,g2⟩:=h.f (by omega)
 refine ⟨g1,⟨⟨_,hc,h1,g1,hv⟩,g2.le,fun k hk=>?_,fun j hj=>by rw [hbn];exact g2.e j hj⟩⟩
 unfold fb
 rw [hbn]
 exact g2.b k hk
end
end
section
open VQ
section
theorem R7.succ (h:R7 es cs bs fs m k):R7 es cs bs fs m (k+1):=
 ⟨Nat.le_succ_of_le h.len,h.lf,h.nd,h.mr,fun j hj=>⟨⟨(h.ct j hj).1.1,by have:=(h.ct j hj).1.2;omega⟩,(h.ct j hj).2⟩,h.fl,h.no,h.sz⟩
theorem cnm_inj {a b:ByteArray} (h:cnm a=cnm b):a=b:=by simpa [cnm] using h
theorem R7.make (h:R7 es cs bs fs m k) (hk:k≤1000) {j:Nat} (hj:j<3) {nd:Ino} (hn:ichk nd=0) (hz:nd.sz=0) (r:Nat) :
  R7 es (cs++[⟨cnm (Zh j),cvs ⟨(mget (Zh j) m).getD 0+1,0,0⟩,false⟩]++[⟨nnm ⟨Zh j,(mget (Zh j) m).getD 0⟩,iencS nd,false⟩]) (bs++[⟨Zh j,(mget (Zh j) m).getD 0⟩]) (fs++[⟨nd,⟨#[]⟩,r,[]⟩]) (mset (Zh j) ((mget (Zh j) m).getD 0+1) m) (k+1):=by
 obtain ⟨⟨v0,v1⟩,v2⟩:=h.ct j hj
 obtain ⟨v,hv⟩:∃v,(mget (Zh j) m).getD 0=v:=⟨_,rfl⟩
 rw [hv] at v0 v1 v2 ⊢
 obtain ⟨b',hb'⟩:∃b':Bi,⟨Zh j,v⟩=b':=⟨_,rfl⟩
 rw [hb']
 have hbc:bchk b'=0:=by rw [←hb'];exact bchk_mk rfl v0 (by show v≤1073741824;omega)
 have hnb:b' ∉ bs:=fun hm=>by
  obtain ⟨j0,hj0,e1,e2,e3⟩:=h.mr b' hm
  rw [←hb'] at e1 e3
  have e1:Zh j=Zh j0:=e1
  rw [←e1,hv] at e3
  have e3:v<v:=e3
  omega
 have hgm:∀j0,j0<3→mget (Zh j0) (mset (Zh j) (v+1) m)=if j=j0 then some (v+1) else mget (Zh j0) m:=fun j0 h0=>by
  rw [Va]
  by_cases he:j=j0
  ·rw [if_pos he,if_pos (by rw [he])]
  ·rw [if_neg he,if_neg (fun e=>he (VW hj h0 e))]
 obtain ⟨cs',hcs⟩:∃cs',cs++[⟨cnm (Zh j),cvs ⟨v+1,0,0⟩,false⟩]++[⟨nnm b',iencS nd,false⟩]=cs':=⟨_,rfl⟩
 rw [hcs]
 have hvn:∀n,n≠cnm (Zh j)→n≠nnm b'→vget es cs' n=vget es cs n:=fun n h1 h2=>by
  rw [←hcs,Y9 (fun e=>h2 e.symm),Y9 (fun e=>h1 e.symm)]
 have hvb:vget es cs' (nnm b')=(iencS nd,true):=by rw [←hcs];exact YJ (Zu hbc)
 have hvc:vget es cs' (cnm (Zh j))=(cvs ⟨v+1,0,0⟩,true):=by
  rw [←hcs,Y9 (fun e=>Vt e.symm)]
  exact YJ (W8 (YX j))
 have hblk:∀(a:Bi) (i:Int),vget es cs' (bnm a i)=vget es cs (bnm a i):=fun a i=>hvn _ (fun e=>cnm_bnm e.symm) bnm_nnm
 refine ⟨?_,?_,?_,fun b hb=>?_,fun j0 h0=>?_,fun i b x h1 h2=>?_,fun b hb=>?_,?_⟩
 ·have:=h.len;simp;omega
 ·have:=h.lf;simp;omega
 ·rw [List.nodup_append]
  refine ⟨h.nd,List.nodup_cons.2 ⟨by simp,List.nodup_nil⟩,fun a ha c hc e=>?_⟩
  rw [List.mem_singleton.1 hc] at e
  exact hnb (e ▸ ha)
 ·rcases List.mem_append.1 hb with hb|hb
  ·obtain ⟨j0,hj0,e1,e2,e3⟩:=h.mr b hb
   refine ⟨j0,hj0,e1,e2,?_⟩
   rw [hgm j0 hj0]
   by_cases he:j=j0
   ·subst he
    rw [if_pos rfl]
    rw [hv] at e3
    show b.nu<v+1
    omega
   ·rw [if_neg he];exact e3
  ·rw [List.mem_singleton.1 hb,←hb']
   refine ⟨j,hj,rfl,v0,?_⟩
   rw [hgm j hj,if_pos rfl]
   show v<v+1
   omega
 ·rw [hgm j0 h0]
  by_cases he:j=j0
  ·subst he
   rw [if_pos rfl]
   refine ⟨⟨by show 0≤v+1;omega,by show v+1≤((k+1:Nat):Int);omega⟩,?_⟩
   unfold madeE
   rw [if_pos (YX j),hvc]
   simp only [if_true]
   rw [enc_cdec (ct_ok (by omega) (by omega))]
   rfl
  ·rw [if_neg he]
   obtain ⟨⟨w0,w1⟩,w2⟩:=h.ct j0 h0
   refine ⟨⟨w0,by omega⟩,?_⟩
   rw [made_cg (hvn _ (fun e=>he (VW h0 hj (cnm_inj e)).symm) Vt)]
   exact w2
 ·by_cases hi:i<bs.length
  ·rw [List.getElem?_append_left hi] at h1
   rw [List.getElem?_append_left (by rw [h.lf];exact hi)] at h2
   have hm:=List.mem_of_getElem? h1
   exact (h.fl i b x h1 h2).cg (hvn _ (fun e=>Vt e.symm) (fun e=>hnb (nnm_inj e ▸ hm))) fun n=>hblk b n
  ·rw [List.getElem?_append_right (by omega)] at h1
   rw [List.getElem?_append_right (by have:=h.lf;omega)] at h2
   have hi0:i=bs.length:=by
    have:=(List.getElem?_eq_some_iff.1 h1).1
    simp at this;omega
   rw [hi0,Nat.sub_self] at h1
   rw [hi0,h.lf,Nat.sub_self] at h2
   cases h1
   cases h2
   have hno:=(h.no b' hnb).2
   have hbk:∀n:Int,vget es cs' (bnm b' n)=(⟨#[]⟩,false):=fun n=>by rw [hblk];exact hno n
   refine ⟨hn,hvb,fun hk1=>⟨hz,⟨⟨nd,hn,hk1,hz,hvb⟩,Nat.zero_le _,fun q hq=>?_,fun i hi=>by rw [hbk];intro _;rfl⟩⟩,fun _=>rfl,fun n hn=>by rw [hbk];rfl,fun n hn=>by rw [hbk];intro hh;cases hh⟩
   unfold fb
   rw [hbk,Wt,XK]
   rfl
 ·have h1:b ∉ bs:=fun hm=>hb (List.mem_append_left _ hm)
  have h2:b≠b':=fun e=>hb (by rw [e];exact List.mem_append_right _ (List.mem_singleton.2 rfl))
  obtain ⟨g1,g2⟩:=h.no b h1
  exact ⟨by rw [hvn _ (fun e=>Vt e.symm) (fun e=>h2 (nnm_inj e))];exact g1,fun n=>by rw [hblk];exact g2 n⟩
 ·rw [←hcs,List.append_assoc]
  refine vsz_app h.sz fun c hc=>?_
  have h1:=Wd (ct_ok (z:=v+1) (by omega) (by omega))
  have h2:=Zs nd
  simp only [List.cons_append,List.nil_append,List.mem_cons,List.not_mem_nil,or_false] at hc
  rcases hc with rfl|rfl
  ·dsimp only;omega
  ·dsimp only;omega
end
def Gd7 (cs:List Ch):Prop:=(∀c ∈ cs,(nchk c.nm=0∧c.val.size≤65536∧(c.abs=true→c.val=⟨#[]⟩))∧ShN c.nm)∧cs.length≤70
theorem ofB_sh {b:Bi} {n:Nm} (h:OfB b n) (hb:b.mkr.size≤1000):ShN n:=by
 rcases h with rfl|⟨i,rfl⟩<;>exact ⟨hb,Nat.zero_le _⟩
section
theorem R7.bsz (h:R7 es [] bs fs m k):∀b ∈ bs,b.mkr.size≤3:=fun b hb=>by
 obtain ⟨j,_,e,_⟩:=h.mr b hb
 rw [e];exact XF j
theorem XB:Gd7 []:=⟨(fun c hc=>by cases hc),Nat.zero_le _⟩
theorem read7 (h:R7 es [] bs fs m k) (hk:k≤500) (wd:UInt8) (f c:Int):((qRead (bthF bs wd) f c).run es []).1=mRead bs fs (bthF bs wd) f c∧((qRead (bthF bs wd) f c).run es []).2.2=[]:=by
 obtain ⟨g1,g2⟩:=get_both h (by omega) wd
 unfold qRead mRead
 rw [run_bind,YQ,←g1]
 dsimp only
 by_cases he:(ifile es [] (bthF bs wd)).2≠0
 ·rw [if_pos he,if_pos he];exact ⟨rfl,rfl⟩
 ·rw [if_neg he,if_neg he]
  obtain ⟨x,e1,e2,e3,e4,e5⟩:=g2 (by rw [←g1];omega)
  by_cases hn:f<0∨c<0
  ·rw [if_pos hn,if_pos hn];exact ⟨rfl,rfl⟩
  ·rw [if_neg hn,if_neg hn,e1,e4,run_bind,Xx]
   obtain ⟨z1,z2⟩:=e5.f e3
   obtain ⟨f',rfl⟩:∃k:Nat,f=(k:Int):=⟨f.toNat,by omega⟩
   obtain ⟨c',rfl⟩:∃k:Nat,c=(k:Int):=⟨c.toNat,by omega⟩
   have hr:=rd_both z2 f' c'
   rw [z1]
   simp only [run,Int.toNat_natCast,List.nil_append]
   refine ⟨?_,trivial⟩
   rw [hr]
   split<;>rfl
theorem write7 (h:R7 es [] bs fs m k) (hk:k≤500) (wd:UInt8) (f:Int) (s:ByteArray):((qWrite (bthF bs wd) f s).run es []).1=(mWrite bs fs (bthF bs wd) f s).1∧R7 es ((qWrite (bthF bs wd) f s).run es []).2.2 bs (mWrite bs fs (bthF bs wd) f s).2 m k∧Gd7 ((qWrite (bthF bs wd) f s).run es []).2.2:=by
 obtain ⟨g1,g2⟩:=get_both h (by omega) wd
 have hbz:=YC h.bsz wd
 have hbc:=(W4 h (by omega) wd).1
 unfold qWrite mWrite
 rw [run_bind,YQ,←g1]
 dsimp only
 by_cases he:(ifile es [] (bthF bs wd)).2≠0
 ·rw [if_pos he,if_pos he];exact ⟨rfl,h,XB⟩
 ·rw [if_neg he,if_neg he]
  obtain ⟨x,e1,e2,e3,e4,e5⟩:=g2 (by rw [←g1];omega)
  by_cases hn:f<0∨4096<f
  ·rw [if_pos hn,if_pos hn];exact ⟨rfl,h,XB⟩
  ·rw [if_neg hn,if_neg hn]
   by_cases h4:f=4096∧isE s=false
   ·rw [if_pos h4,if_pos h4];exact ⟨rfl,h,XB⟩
   ·rw [if_neg h4,if_neg h4]
    obtain ⟨f',rfl⟩:∃k:Nat,f=(k:Int):=⟨f.toNat,by omega⟩
    simp only [Int.toNat_natCast]
    have hus:(mWrS s f').size=min s.size (4096 - f'):=by unfold mWrS;rw [ByteArray.size_extract];omega
    have hq:=qWrL_run (es:=es) (bi:=bthF bs wd) f' s (pts f' (f'+min s.size (4096 - f'))) [] (igetR es [] [] (bthF bs wd))
    rw [run_bind]
    generalize hG:(qWrL (bthF bs wd) f' s (pts f' (f'+min s.size (4096 - f')))).run es []=G at *
    have hq2:(iwQ es [] [] (bthF bs wd) f' s).2=G.2.2:=by unfold iwQ;rw [hq]
    by_cases h0:min s.size (4096 - f')=0
    ·have hE:isE (mWrS s f')=true:=by rw [isE_eq];exact decide_eq_true (ba_zero (by omega))
     rw [if_pos hE,h0,if_neg (by omega)]
     rw [h0,Nat.add_zero,pts_nil] at hG
     subst hG
     exact ⟨rfl,h,XB⟩
    ·have hE:¬isE (mWrS s f')=true:=fun hE=>by
      rw [isE_eq] at hE
      have:=of_decide_eq_true hE
      rw [this] at hus
      have h00:(⟨#[]⟩:ByteArray).size=0:=rfl
      omega
     rw [if_neg hE,e1,e4]
     dsimp only
     have hFR:=e5.write e3 hbc (f:=f') (s:=s) (by omega) (by omega)
     obtain ⟨ds,d1,d2,d3⟩:=write_nm (es:=es) (cs:=[]) (b:=bthF bs wd) (f:=f') (s:=s) (by omega) hbc
     have hif:(ifile es [] (bthF bs wd)).1=x.nd:=e4
     have hrun:(VQ.run es (if 0<min s.size (4096 - f')∧x.nd.sz<((f'+min s.size (4096 - f'):Nat):Int) then VQ.set (nnm (bthF bs wd)) (iencS {x.nd with sz:=((f'+min s.size (4096 - f'):Nat):Int)}) (VQ.ret (((min s.size (4096 - f'):Nat):Int),(0:Int))) else VQ.ret (((min s.size (4096 - f'):Nat):Int),0)) G.2.2)=((((min s.size (4096 - f'):Nat):Int),0),[],(iwQ es [] [] (bthF bs wd) f' s).2++iwN es [] (bthF bs wd) f' s):=by
      unfold iwN
      rw [hif,hq2]
      by_cases hg:0<min s.size (4096 - f')∧x.nd.sz<((f'+min s.size (4096 - f'):Nat):Int)
      ·rw [if_pos hg,if_pos hg];rfl
      ·rw [if_neg hg,if_neg hg,List.append_nil];rfl
     rw [hrun]
     refine ⟨by rw [hus],?_,?_⟩
     ·dsimp only
      rw [d1] at hFR ⊢
      exact h.file e2 (ofB_app fun c hc=>(d2 c hc).1) hFR (vsz_app h.sz fun c hc=>(d2 c hc).2.2.1)
     ·dsimp only
      rw [d1,List.nil_append]
      exact ⟨fun c hc=>⟨(d2 c hc).2,ofB_sh (d2 c hc).1 hbz⟩,by omega⟩
theorem resize7 (h:R7 es [] bs fs m k) (hk:k≤500) (wd:UInt8) (n:Int):((qResize (bthF bs wd) n).run es []).1=(mResize bs fs (bthF bs wd) n).1∧R7 es ((qResize (bthF bs wd) n).run es []).2.2 bs (mResize bs fs (bthF bs wd) n).2 m k∧Gd7 ((qResize (bthF bs wd) n).run es []).2.2:=by
 obtain ⟨g1,g2⟩:=get_both h (by omega) wd
 have hbz:=YC h.bsz wd
 have hbc:=(W4 h (by omega) wd).1
 unfold qResize mResize
 rw [run_bind,YQ,←g1]
 dsimp only
 by_cases he:(ifile es [] (bthF bs wd)).2≠0
 ·rw [if_pos he,if_pos he];exact ⟨rfl,h,XB⟩
 ·rw [if_neg he,if_neg he]
  obtain ⟨x,e1,e2,e3,e4,e5⟩:=g2 (by rw [←g1];omega)
  by_cases hn:n<0∨4096<n
  ·rw [if_pos hn,if_pos hn];exact ⟨rfl,h,XB⟩
  ·rw [if_neg hn,if_neg hn,e1,e4]
   dsimp only
   obtain ⟨n',rfl⟩:∃k:Nat,n=(k:Int):=⟨n.toNat,by omega⟩
   obtain ⟨z1,z2⟩:=e5.f e3
   have hle:=z2.le
   have hFR:=e5.resize e3 hbc (n:=n') (by omega)
   obtain ⟨ds,d1,d2,d3⟩:=resize_nm (es:=es) (cs:=[]) hbc n' x.ct.size (by omega)
   have hrun:∃N,(VQ.run es (if (n':Int)=x.nd.sz then VQ.ret (0:Int) else (if (n':Int)<x.nd.sz then qCut (bthF bs wd) (n':Int).toNat x.nd.sz.toNat else VQ.ret ()).bind fun _=>VQ.set (nnm (bthF bs wd)) (iencS {x.nd with sz:=(n':Int)}) (VQ.ret 0)) [])=(0,N,rszC es [] (bthF bs wd) n' x.ct.size):=by
    unfold rszC
    rw [z1,show (ifile es [] (bthF bs wd)).1=x.nd from e4]
    by_cases h1:(n':Int)=(x.ct.size:Int)
    ·rw [if_pos h1,if_pos (by omega)];exact ⟨_,rfl⟩
    ·rw [if_neg h1,if_neg (show ¬n'=x.ct.size by omega),run_bind]
     by_cases h2:(n':Int)<(x.ct.size:Int)
     ·rw [if_pos h2,if_pos (by omega)]
      simp only [Int.toNat_natCast]
      rw [qCut_run]
      exact ⟨_,rfl⟩
     ·rw [if_neg h2,if_neg (by omega)]
      exact ⟨_,rfl⟩
   obtain ⟨N,hrun⟩:=hrun
   rw [hrun]
   refine ⟨rfl,?_,?_⟩
   ·dsimp only
    rw [d1] at hFR ⊢
    simp only [Int.toNat_natCast]
    exact h.file e2 (ofB_app fun c hc=>(d2 c hc).1) hFR (vsz_app h.sz fun c hc=>(d2 c hc).2.2.1)
   ·dsimp only
    rw [d1,List.nil_append]
    exact ⟨fun c hc=>⟨(d2 c hc).2,ofB_sh (d2 c hc).1 hbz⟩,by omega⟩
theorem set7 (h:R7 es [] bs fs m k) (hk:k≤500) (wd:UInt8) (nd:Ino):((qSet (bthF bs wd) nd).run es []).1=(mSet bs fs (bthF bs wd) nd).1∧R7 es ((qSet (bthF bs wd) nd).run es []).2.2 bs (mSet bs fs (bthF bs wd) nd).2 m k∧Gd7 ((qSet (bthF bs wd) nd).run es []).2.2:=by
 obtain ⟨hbc,hc⟩:=W4 h (by omega) wd
 have hbz:=YC h.bsz wd
 unfold qSet mSet
 by_cases h0:ichk nd≠0
 ·rw [if_pos h0,if_pos h0];exact ⟨rfl,h,XB⟩
 ·rw [if_neg h0,if_neg h0,if_neg (show ¬bchk (bthF bs wd)≠0 by omega),run_bind,V1]
  dsimp only
  rcases hc with ⟨i,x,h1,h2,h3⟩|⟨h1,h3⟩
  ·have hf:=h.fl i _ x h1 h2
   rw [iget_in hbc hf,h3]
   dsimp only
   rw [h2,if_neg (show ¬(0:Int)≠0 by simp)]
   dsimp only
   by_cases hd:x.nd.kd≠nd.kd
   ·rw [if_pos hd,if_pos hd];exact ⟨rfl,h,XB⟩
   ·rw [if_neg hd,if_neg hd]
    have hFR:=hf.set hbc (nd:=nd) (by omega) (by omega)
    have hsz:=Zs {nd with sz:=x.nd.sz}
    refine ⟨rfl,?_,?_⟩
    ·exact h.file h1 (ofB_app fun c hc=>by rw [List.mem_singleton.1 hc];exact .inl rfl) hFR (vsz_app h.sz fun c hc=>by rw [List.mem_singleton.1 hc];dsimp only;omega)
    ·show Gd7 ([]++[_])
     rw [List.nil_append]
     exact ⟨fun c hc=>by rw [List.mem_singleton.1 hc];exact ⟨⟨Zu hbc,by dsimp only;omega,fun h=>by cases h⟩,ofB_sh (.inl rfl) hbz⟩,by simp⟩
  ·rw [iget_out hbc (h.no _ h1).1,h3]
   dsimp only
   rw [if_pos (show (8:Int)≠0 by decide)]
   exact ⟨rfl,h,XB⟩
theorem make7 (h:R7 es [] bs fs m k) (hk:k≤500) {j:Nat} (hj:j<3) (nd:Ino) (r:Nat):((qMake (Zh j) nd).run es []).1=((mMake bs m (Zh j) nd).b,(mMake bs m (Zh j) nd).e)∧R7 es ((qMake (Zh j) nd).run es []).2.2 (mMake bs m (Zh j) nd).bs (mMakeF fs nd r) (mMake bs m (Zh j) nd).m (k+1)∧Gd7 ((qMake (Zh j) nd).run es []).2.2:=by
 obtain ⟨⟨v0,v1⟩,v2⟩:=h.ct j hj
 have hsz:=XF j
 rw [V8]
 unfold mMake mMakeF
 by_cases h1:ichk nd≠0
 ·have e1:mkE es [] (Zh j) nd=(Bi.z,ichk nd):=by rw [mkE,if_pos h1]
  rw [mkC,e1]
  dsimp only
  rw [if_neg h1,if_pos h1,if_pos h1]
  exact ⟨rfl,h.succ,XB⟩
 ·by_cases h2:nd.sz≠0
  ·have e1:mkE es [] (Zh j) nd=(Bi.z,2):=by rw [mkE,if_neg h1,if_pos h2]
   rw [mkC,e1]
   dsimp only
   rw [if_neg (show ¬(2:Int)=0 by decide),if_neg h1,if_pos h2,if_neg h1,if_pos h2]
   exact ⟨rfl,h.succ,XB⟩
  ·have e1:mkE es [] (Zh j) nd=nbE es [] (Zh j):=by rw [mkE,if_neg h1,if_neg h2]
   have e2:nbE es [] (Zh j)=(⟨Zh j,(mget (Zh j) m).getD 0⟩,0):=by
    rw [nbE,v2]
    dsimp only
    rw [if_neg (show ¬(0:Int)≠0 by simp),if_neg (by omega)]
   have e3:nbC es [] (Zh j)=[]++[⟨cnm (Zh j),cvs ⟨(mget (Zh j) m).getD 0+1,0,0⟩,false⟩]:=by rw [nbC,e2,v2];rfl
   rw [mkC,e1,e2,e3]
   dsimp only
   rw [if_pos rfl,if_neg h1,if_neg h2,if_neg h1,if_neg h2]
   have hM:=h.make (by omega) hj (nd:=nd) (by omega) (by omega) r
   refine ⟨rfl,hM,?_⟩
   have w1:=Wd (ct_ok (z:=(mget (Zh j) m).getD 0+1) (by omega) (by omega))
   have w2:=Zs nd
   have hbc:bchk ⟨Zh j,(mget (Zh j) m).getD 0⟩=0:=bchk_mk rfl v0 (by dsimp only;omega)
   refine ⟨fun c hc=>?_,by simp⟩
   simp only [List.nil_append,List.cons_append,List.mem_cons,List.not_mem_nil,or_false] at hc
   rcases hc with rfl|rfl
   ·exact ⟨⟨W8 (YX j),by dsimp only;omega,fun h=>by cases h⟩,by show (Zh j).size≤_;omega,Nat.zero_le _⟩
   ·exact ⟨⟨Zu hbc,by dsimp only;omega,fun h=>by cases h⟩,by show (Zh j).size≤_;omega,Nat.zero_le _⟩
end
end
theorem fok0 {i:Nat} (h:i<2):FOK es27 [] (Y3 i) ⟨#[]⟩:=by
 refine ⟨⟨nd27 i,(nd27_ok (i:=i) (by omega)).2.1,?_,?_,es27_n (by omega)⟩,by decide,fun k hk=>?_,fun j hj=>?_⟩
 ·match i,h with
  | 0,_=>rfl
  | 1,_=>rfl
 ·match i,h with
  | 0,_=>rfl
  | 1,_=>rfl
 ·unfold fb
  rw [es27_b,Wt,XK];rfl
 ·rw [es27_b];intro _;rfl
def szN (x:Int):Nat:=(min (max x 0) 4096).toNat
theorem app_data (a b:ByteArray):(a++b).data.toList=a.data.toList++b.data.toList:=by simp
theorem wfold_pts (es:Al) (bi:Bi) (f:Nat) (s:ByteArray) (rs:List (Nm×Ch)) (cs:List Ch):((iwQ es rs cs bi f s).2++iwN es cs bi f s).length≤cs.length+s.size+1:=by
 have h1:=WC (f+min s.size (4096 - f) - f) f (f+min s.size (4096 - f)) (Nat.le_refl _)
 have h2:(iwN es cs bi f s).length≤1:=by unfold iwN;split<;>simp
 simp only [List.length_append,iwQ,X4]
 omega
theorem nodup_sub {α:Type} [DecidableEq α]:∀(l m:List α),l.Nodup→(∀x ∈ l,x ∈ m)→l.length≤m.length
 | [],m,_,_=>Nat.zero_le _
 | a::l,m,hn,hs=>by
  have ha:a ∈ m:=hs a (by simp)
  have h1:=nodup_sub l (m.erase a) (List.nodup_cons.1 hn).2 fun x hx=>(List.mem_erase_of_ne (fun e=>(List.nodup_cons.1 hn).1 (by rw [e] at hx;exact hx))).2 (hs x (by simp [hx]))
  rw [List.length_erase_of_mem ha] at h1
  have:0<m.length:=List.length_pos_of_mem ha
  simp only [List.length_cons];omega
theorem X6 {es:Al} {cs:List Ch} (h:∀c ∈ cs,c.abs=false) (n:Nm):vget (applyE es (vwr cs)) [] n=vget es cs n:=by
 unfold vget
 split
 ·rfl
 ·show ((getO n (applyE es (vwr cs))).getD ⟨#[]⟩,(getO n (applyE es (vwr cs))).isSome)=_
  rw [X5]
  cases hc:vcall cs n with
  | none=>rfl
  | some c=>
   have:=h c (We hc).2
   simp [this]
theorem FOK.after {es:Al} {cs:List Ch} {bi:Bi} {w:ByteArray} (h:FOK es cs bi w) (ha:∀c ∈ cs,c.abs=false):FOK (applyE es (vwr cs)) [] bi w:=by
 refine ⟨?_,h.le,fun k hk=>?_,fun j hj=>?_⟩
 ·obtain ⟨nd,h1,h2,h3,h4⟩:=h.nd
  exact ⟨nd,h1,h2,h3,by rw [X6 ha];exact h4⟩
 ·unfold fb
  rw [X6 ha]
  exact h.b k hk
 ·rw [X6 ha]
  exact h.e j hj
def NmP (bi:Bi) (f t:Nat) (n:Nm):Prop:=n=nnm bi∨∃j:Nat,f / 64≤j∧j * 64<t∧n=bnm bi (j:Int)
theorem nmp_len {bi:Bi} {f t:Nat} {cs:List Ch} (ht:t≤f+400) (h:∀c ∈ cs,NmP bi f t c.nm):(lastL cs).length≤12:=by
 have h1:((lastL cs).map (·.1)).length≤(nnm bi::(List.range' (f / 64) 8).map fun j:Nat=>bnm bi (j:Int)).length:=by
  refine nodup_sub _ _ (Yh cs) fun x hx=>?_
  obtain ⟨p,hp,rfl⟩:=List.mem_map.1 hx
  have h3:=(Vz (lastL cs) (Yh cs) p.1 p.2).2 hp
  obtain ⟨c,_,h4⟩:=(XS p.1 cs).1 p.2 h3
  obtain ⟨h5,h6⟩:=We h4
  rcases h c h6 with h7|⟨j,j1,j2,h7⟩
  ·rw [←h5,h7];simp
  ·rw [←h5,h7]
   refine List.mem_cons_of_mem _ (List.mem_map.2 ⟨j,List.mem_range'_1.2 ⟨j1,by omega⟩,rfl⟩)
 simp only [List.length_map,List.length_cons,List.length_range'] at h1
 omega
theorem wfold_mem {es:Al} {bi:Bi} {f:Nat} {s:ByteArray}:∀(l:List Pp) (q:List (Nm×Ch)×List Ch),(∀p ∈ l,p.fr<p.to∧p.to≤64)→∀c ∈ (wfold es bi f s q l).2,c ∈ q.2∨∃p ∈ l,c.nm=bnm bi (p.bl:Int)∧c.val.size=64∧c.abs=false
 | [],_,_,c,hc=>.inl hc
 | p::l,q,hl,c,hc=>by
  rcases wfold_mem l (wstep es bi f s q p) (fun r hr=>hl r (by simp [hr])) c hc with h|⟨r,hr,h⟩
  ·have hst:(wstep es bi f s q p).2=q.2++[⟨bnm bi p.bl,⟨(wnew es q.2 bi f s p).toArray⟩,false⟩]:=rfl
   rw [hst] at h
   rcases List.mem_append.1 h with h|h
   ·exact .inl h
   ·rw [List.mem_singleton.1 h]
    have h1:=hl p (by simp)
    refine .inr ⟨p,by simp,rfl,?_,rfl⟩
    show (List.toArray _).size=64
    rw [List.size_toArray,X2 (by omega)]
  ·exact .inr ⟨r,by simp [hr],h⟩
def wP (F:Nat) (t:ByteArray) (a:Nat):ByteArray:=if a=0 then ⟨#[]⟩ else zer F++t.extract 0 a
theorem ext0 (t:ByteArray) (a b:Nat):(t.extract a b).data.toList=(t.data.toList.drop a).take (b - a):=by
 rw [ByteArray.data_extract,Array.toList_extract,List.extract_eq_take_drop]
theorem wP_size {F:Nat} {t:ByteArray} {a:Nat} (h:a≤t.size):(wP F t a).size=if a=0 then 0 else F+a:=by
 unfold wP
 split
 ·rfl
 ·rw [ByteArray.size_append,Ya,ByteArray.size_extract];omega
theorem wP_getD {F:Nat} {t:ByteArray} {a:Nat} (h:a≤t.size) (k:Nat):(wP F t a).data.toList.getD k 0=if F≤k∧k<F+a then t.data.toList.getD (k - F) 0 else 0:=by
 have hs:t.data.toList.length=t.size:=by simp
 unfold wP
 split
 ·rw [if_neg (by omega)];rfl
 ·have hz:(zer F).data.toList=List.replicate F 0:=rfl
  rw [app_data,ext0,hz,Yt,List.length_replicate,List.drop_zero,Nat.sub_zero]
  by_cases h1:k<F
  ·rw [if_pos h1,XK,if_neg (by omega)]
  ·rw [if_neg h1]
   by_cases h2:k<F+a
   ·rw [if_pos ⟨by omega,h2⟩,Ym _ _ _ _ (by omega)]
   ·rw [if_neg (by omega),Xz _ _ _ (by simp;omega)]
structure PtX where
 i:Nat
 a:Nat
 s:Nat
 v:Nat
 es:Al
 rs:List (Nm×Ch)
 cs:List Ch
structure PtI (F:Nat) (t:ByteArray) (pl:Nat) (q:PtX):Prop where
 hi:q.i≤min pl 10+1
 ha:q.a≤t.size
 he:q.i≤min pl 10∨q.a=t.size
 f:FOK q.es q.cs (Y3 0) (wP F t q.a)
 c:∀c ∈ q.cs,FitC c∧NmP (Y3 0) F (F+t.size) c.nm
 l:q.cs.length≤500 * q.i
 el:q.es.length≤12+12 * q.i
theorem es27_len:es27.length≤12:=by
 have h1:=VF [] (vwr (cs27 4))
 rw [WG] at h1
 have:=cs27_len
 show (applyE [] (vwr (cs27 4))).length≤12
 simp only [List.length_nil] at h1;omega
theorem PtI.init {F:Nat} {t:ByteArray} {pl s v:Nat}:PtI F t pl ⟨0,0,s,v,es27,[],[]⟩:=
 ⟨Nat.zero_le _,Nat.zero_le _,.inl (Nat.zero_le _),(by show FOK es27 [] (Y3 0) (wP F t 0);rw [wP,if_pos rfl];exact fok0 (by omega)),(fun c hc=>by cases hc),Nat.zero_le _,es27_len⟩
section
variable {F:Nat} {t:ByteArray} {pl:Nat} {q:PtX}
theorem PtI.write (h:PtI F t pl q) (ht:t.size≤400) (hF:F+t.size≤4096) {n:Nat} (hn:q.a+n≤t.size) (hi:q.i≤min pl 10) (hl:q.i<min pl 10∨q.a+n=t.size) :
  PtI F t pl ⟨q.i+1,q.a+n,q.s,q.v,q.es,(iwQ q.es q.rs q.cs (Y3 0) (F+q.a) (t.extract q.a (q.a+n))).1,(iwQ q.es q.rs q.cs (Y3 0) (F+q.a) (t.extract q.a (q.a+n))).2++iwN q.es q.cs (Y3 0) (F+q.a) (t.extract q.a (q.a+n))⟩:=by
 have hb:=V9 0 (by omega)
 have hs:t.data.toList.length=t.size:=by simp
 have hx:(t.extract q.a (q.a+n)).size=n:=by rw [ByteArray.size_extract];omega
 have hlen:=wfold_pts q.es (Y3 0) (F+q.a) (t.extract q.a (q.a+n)) q.rs q.cs
 have hmn:min (t.extract q.a (q.a+n)).size (4096 - (F+q.a))=n:=by rw [hx];omega
 have hq:=h.l
 have hel:=h.el
 refine ⟨?_,?_,?_,?_,fun c hc=>?_,?_,?_⟩
 ·show q.i+1≤_;omega
 ·exact hn
 ·show q.i+1≤min pl 10∨q.a+n=t.size
  rcases hl with h1|h1
  ·left;omega
  ·right;exact h1
 ·have h1:=wP_size (F:=F) h.ha
  have h2:=wP_size (F:=F) hn
  refine h.f.write hb (by omega) q.rs ?_ fun k hk=>?_
  ·rw [hmn,h1,h2]
   by_cases h0:n=0
   ·subst h0;rw [if_pos rfl];rfl
   ·rw [if_neg h0,if_neg (by omega)]
    split<;>omega
  ·rw [hmn,wP_getD hn,wP_getD h.ha,ext0,show q.a+n - q.a=n by omega]
   by_cases h3:F+q.a≤k∧k<F+q.a+n
   ·rw [if_pos (by omega),if_pos h3,Ym _ _ _ _ (by omega),Xw]
    congr 1;omega
   ·rw [if_neg h3]
    by_cases h4:F≤k∧k<F+q.a
    ·rw [if_pos (by omega),if_pos h4]
    ·rw [if_neg (by omega),if_neg h4]
 ·have hmk:=XF 0
  rcases List.mem_append.1 hc with hc|hc
  ·rw [iwQ,hmn] at hc
   have hpt:∀p ∈ pts (F+q.a) (F+q.a+n),F+q.a≤p.bl * 64+p.fr∧p.fr<p.to∧p.to≤64∧p.bl * 64+p.to≤F+q.a+n:=Xn (F+q.a+n - (F+q.a)) _ _ (Nat.le_refl _)
   rcases wfold_mem _ _ (fun p hp=>⟨(hpt p hp).2.1,(hpt p hp).2.2.1⟩) c hc with hc|⟨p,hp,e1,e2,e3⟩
   ·exact h.c c hc
   ·have h5:=hpt p hp
    refine ⟨⟨by rw [e1];exact YP hb (by omega),by omega,e3,by rw [e1];show (Zh 0).size≤_;omega,by rw [e1];exact Nat.zero_le _⟩,.inr ⟨p.bl,by omega,by omega,e1⟩⟩
  ·unfold iwN at hc
   split at hc
   ·rw [List.mem_singleton.1 hc]
    exact ⟨WB (Zu hb) (Nat.le_trans (Zs _) (by omega)) rfl (by show (Zh 0).size≤_;omega) (Nat.zero_le _),.inl rfl⟩
   ·cases hc
 ·show ((iwQ _ _ _ _ _ _).2++_).length≤500 * (q.i+1)
  rw [hx] at hlen;omega
 ·show q.es.length≤12+12 * (q.i+1);omega
theorem PtI.after (h:PtI F t pl q) (ht:t.size≤400) (s v:Nat) (hel:q.es.length≤12 * q.i):PtI F t pl ⟨q.i,q.a,s,v,applyE q.es (vwr q.cs),[],[]⟩:=by
 have hl:=nmp_len (bi:=Y3 0) (f:=F) (t:=F+t.size) (by omega) (fun c hc=>(h.c c hc).2)
 refine ⟨h.hi,h.ha,h.he,h.f.after (fun c hc=>(h.c c hc).1.abs),(fun c hc=>by cases hc),Nat.zero_le _,?_⟩
 have h1:=VF q.es (vwr q.cs)
 rw [WG] at h1
 show (applyE q.es (vwr q.cs)).length≤12+12 * q.i
 omega
end
section
open VQ
section
theorem op_both (h:R7 es [] bs fs m k) (hk:k≤500) (o:Op7) (r:Nat):((qOp bs o).run es []).1=mDoR bs fs m o∧R7 es ((qOp bs o).run es []).2.2 (mDoB bs m o) (mDoF bs fs o r) (mDoM bs m o) (k+1)∧Gd7 ((qOp bs o).run es []).2.2:=by
 have hl:=Nat.mod_lt o.k.toNat (show 0<6 by decide)
 unfold qOp mDoR mDoB mDoF mDoM
 generalize o.k.toNat % 6=j at *
 rcases (show j=0∨j=1∨j=2∨j=3∨j=4∨j=5 by omega) with rfl|rfl|rfl|rfl|rfl|rfl
 ·simp (decide:=true) only [if_true,if_false,run_bind,run]
  obtain ⟨g1,g2⟩:=read7 h hk o.w o.f o.c
  rw [g1,g2]
  exact ⟨rfl,h.succ,XB⟩
 ·simp (decide:=true) only [if_true,if_false,run_bind,run]
  obtain ⟨g1,g2,g3⟩:=write7 h hk o.w o.f o.t
  rw [g1]
  exact ⟨rfl,g2.succ,g3⟩
 ·simp (decide:=true) only [if_true,if_false,run_bind,run]
  obtain ⟨g1,g2,g3⟩:=resize7 h hk o.w o.c
  rw [g1]
  exact ⟨rfl,g2.succ,g3⟩
 ·simp (decide:=true) only [if_true,if_false,run_bind,run]
  obtain ⟨g1,g2,g3⟩:=set7 h hk o.w o.n
  rw [g1]
  exact ⟨rfl,g2.succ,g3⟩
 ·simp (decide:=true) only [if_true,if_false,run_bind,run]
  obtain ⟨g1,g2⟩:=read7 h hk o.w 0 4096
  rw [g1,g2]
  exact ⟨rfl,h.succ,XB⟩
 ·simp (decide:=true) only [if_true,if_false,run_bind,run]
  obtain ⟨g1,g2,g3⟩:=make7 h hk (show o.w.toNat % 3<3 by omega) o.n r
  rw [g1]
  exact ⟨rfl,g2,g3⟩
theorem vget_afterD (hs:Srt es) {cs:List Ch} (h:Gd7 cs) (n:Nm):vget (applyD es (vwr cs)) [] n=vget es cs n:=by
 unfold vget
 split
 ·rfl
 ·show ((getO n (applyD es (vwr cs))).getD ⟨#[]⟩,(getO n (applyD es (vwr cs))).isSome)=_
  rw [getO_afterD hs]
  cases hc:vcall cs n with
  | none=>rfl
  | some c=>
   dsimp only
   by_cases ha:c.abs=true
   ·rw [if_pos ha,(h.1 c (We hc).2).1.2.2 ha,ha];rfl
   ·rw [if_neg ha,show c.abs=false by simpa using ha];rfl
theorem Gd7.fit {cs:List Ch} (h:Gd7 cs):(lastL cs).length≤200∧∀c ∈ cs,FitD c:=by
 refine ⟨Nat.le_trans (W7 cs) (by have:=h.2;omega),fun c hc=>?_⟩
 obtain ⟨⟨a1,a2,a3⟩,a4,a5⟩:=h.1 c hc
 exact ⟨a1,a2,by omega,by omega⟩
theorem Gd7.len {cs:List Ch} (h:Gd7 cs):(applyD es (vwr cs)).length≤es.length+70:=by
 have h1:=applyD_len es (vwr cs)
 rw [WG] at h1
 have:=W7 cs
 have:=h.2
 omega
theorem R7.doh (h:R7 es [] bs fs m k) (hk:k≤500) (h0:0<bs.length) {q:Mq} (hq:q.OK bs.length fs.length):DoH q bs fs m:=by
 refine ⟨by have:=h.len;omega,h.lf,hq,h0,fun x hx=>?_,h.bsz,fun j hj=>⟨(h.ct j hj).1.1,by have:=(h.ct j hj).1.2;omega⟩⟩
 obtain ⟨i,hi,rfl⟩:=List.mem_iff_getElem.1 hx
 have hb:i<bs.length:=by rw [←h.lf];exact hi
 have hf:=h.fl i bs[i] fs[i] (List.getElem?_eq_getElem hb) (List.getElem?_eq_getElem hi)
 by_cases hkd:fs[i].nd.kd=1
 ·exact (hf.f hkd).2.le
 ·rw [hf.z hkd];exact Nat.zero_le _
theorem mDoB_len (o:Op7):bs.length≤(mDoB bs m o).length:=by
 unfold mDoB
 split
 ·unfold mMake
  split
  ·exact Nat.le_refl _
  ·split
   ·exact Nat.le_refl _
   ·simp
 ·exact Nat.le_refl _
end
theorem r7_nil:R7 [] [] [] [] [] 0:=by
 refine ⟨Nat.le_refl _,rfl,List.nodup_nil,(fun b hb=>by cases hb),fun j hj=>⟨⟨Int.le_refl 0,Int.le_refl 0⟩,?_⟩,(fun i b x h=>by cases h),fun b _=>⟨by rw [XX],fun n=>XX _⟩,fun n=>by rw [XX];exact Nat.zero_le _⟩
 rw [madeE,if_pos (YX j),XX]
 rfl
def F0 (i:Nat) (fs:List Fq):Prop:=∃rs:List Nat,rs.length=i∧fs=(List.range i).map fun j=>⟨nd27 j,⟨#[]⟩,rs.getD j 0,[]⟩
theorem f0_nil:F0 0 []:=⟨[],rfl,rfl⟩
theorem f0_succ {i:Nat} {fs:List Fq} (h:F0 i fs) (r:Nat):F0 (i+1) (fs++[⟨nd27 i,⟨#[]⟩,r,[]⟩]):=by
 obtain ⟨rs,h1,h2⟩:=h
 refine ⟨rs++[r],by simp [h1],?_⟩
 rw [List.range_succ,List.map_append,h2]
 congr 1
 ·refine List.map_congr_left fun j hj=>?_
  have hj:=List.mem_range.1 hj
  rw [Yt,if_pos (by omega)]
 ·show [(⟨nd27 i,⟨#[]⟩,r,[]⟩:Fq)]=[⟨nd27 i,⟨#[]⟩,(rs++[r]).getD i 0,[]⟩]
  rw [Yt,if_neg (by omega),h1,Nat.sub_self]
  rfl
theorem f0_len {i:Nat} {fs:List Fq} (h:F0 i fs):fs.length=i:=by
 obtain ⟨rs,h1,h2⟩:=h
 rw [h2];simp
theorem r7_start:∀(i:Nat),i≤4→∀fs,F0 i fs→R7 [] (cs27 i) (YD i) fs (ms27 i) i
 | 0,_,fs,h=>by
  have:=f0_len h
  rw [List.length_eq_zero_iff.1 this]
  exact r7_nil
 | i+1,hi,fs,h=>by
  obtain ⟨rs,h1,h2⟩:=h
  have hF:F0 i ((List.range i).map fun j=>⟨nd27 j,⟨#[]⟩,rs.getD j 0,[]⟩):=⟨rs.take i,by rw [List.length_take];omega,List.map_congr_left fun j hj=>by
   have hj:=List.mem_range.1 hj
   rw [Ym _ _ _ _ hj]⟩
  have ih:=r7_start i (by omega) _ hF
  obtain ⟨d0,d1,d2⟩:=nd27_ok (i:=i) (by omega)
  have hM:=ih.make (by omega) (j:=i % 2) (by omega) d1 d2 (rs.getD i 0)
  rw [(ns27_ok (i:=i) (by omega)).2.2] at hM
  have e1:fs=((List.range i).map fun j=>⟨nd27 j,⟨#[]⟩,rs.getD j 0,[]⟩)++[(⟨nd27 i,⟨#[]⟩,rs.getD i 0,[]⟩:Fq)]:=by
   rw [h2,List.range_succ,List.map_append];rfl
  have e3:YD i++[⟨Zh (i % 2),((i / 2:Nat):Int)⟩]=YD (i+1):=by simp only [YD,List.range_succ,List.map_append,List.map_cons,List.map_nil];rfl
  rw [←e1,e3] at hM
  exact hM
theorem r7_begin {fs:List Fq} (h:F0 4 fs):R7 es27 [] (YD 4) fs (ms27 4) 4:=
 (r7_start 4 (Nat.le_refl _) fs h).cg fun n=>X6 (fun c hc=>(cs27_fit 4 (Nat.le_refl _) c hc).abs) n
theorem srt_es27:Srt es27:=by
 unfold es27
 have:∀(l:List Ch) (es:Al),Srt es→Srt (applyE es l):=by
  intro l
  induction l with
  | nil=>intro es h;exact h
  | cons c l ih=>intro es h;exact ih _ (srt_ins _ _ _ h)
 exact this _ _ List.Pairwise.nil
end
section
open VQ
abbrev MoR (bm:Nat) (o1:Option Addr×Nat) (o2:Option Addr×Nat) (rm:Nat) (bs:List Bi) (fs:List Fq) (m:List (ByteArray×Int)):List HP:=
 [Pt bm (.cells #[.slice o1.1 bs.length o1.2,.slice o2.1 fs.length o2.2,.map (some rm)] 62),Row 68 2 o1.1 bs.length o1.2 (bs.flatMap bcf),Row 73 9 o2.1 fs.length o2.2 (fs.flatMap flq),CM rm m fs]
def Mo1 (bm:Nat) (bs:List Bi) (fs:List Fq) (m:List (ByteArray×Int)):HP:=fun h=>∃q:(Option Addr×Nat)×(Option Addr×Nat)×Nat,Sep (MoR bm q.1 q.2.1 q.2.2 bs fs m) h
set_option maxHeartbeats 2000000 in
theorem make1_ok (bm:Nat) (bs:List Bi) (fs:List Fq) (m:List (ByteArray×Int)) (who:ByteArray) (nd:Ino) (v:Int) (h1:ichk nd=0) (h2:nd.sz=0) (hv:(mget who m).getD 0=v) (hv0:0≤v) (hv1:v≤1000000) (_hl:bs.length≤1000) (_hlf:fs.length≤1000) :
  Enters 97∧Spec prog 97 #[.pointer (some ⟨bm,0,none⟩),.string who,nd.v] [] [Mo1 bm bs fs m]
   ⟨Nat,fun _=>.tuple #[Bi.v ⟨who,v⟩,.int .i64 0],fun _=>True,fun _=>[],fun r=>[Mo1 bm (bs++[⟨who,v⟩]) (fs++[⟨nd,⟨#[]⟩,r,[]⟩]) (mset who (v+1) m)]⟩:=by
 have n1:=VG nd
 rw [h1] at n1
 obtain ⟨a1,a2,a3,a4,a5,a6,a7⟩:=nd
 dsimp only at h2
 subst h2
 simp only [Ino.v] at n1 ⊢
 have hg:∀o,mget who m=o→(o.map ziv).getD (.int .i64 0) = .int .i64 v:=fun o ho=>by
  rw [ho] at hv
  cases o with
  | none=>rw [←hv];rfl
  | some x=>rw [←hv];rfl
 have hg':=hg _ rfl
 have w1:IntKind.i64.wrap (v+1)=v+1:=wrapi (by omega) (by omega)
 refine ZV [_,_,_] func97 ntmps97 fun G w hp=>?_
 refine Z4 (X:=(Option Addr×Nat)×(Option Addr×Nat)×Nat) (Lx:=fun q=>MoR bm q.1 q.2.1 q.2.2 bs fs m) (p:=fun _=>True) (r:=Mo1 bm bs fs m) .here (fun h hh=>by obtain ⟨q,hq⟩:=hh;exact ⟨q,trivial,hq⟩) (fun q _=>?_)
 obtain ⟨⟨ob,cb⟩,⟨of,cf⟩,rm⟩:=q
 dsimp only
 refine Z4 (X:=Unit) (Lx:=fun _=>[Mp Y2 ziv rm m,fun h=>Sep (fs.map BlF) h]) (p:=fun _=>True) (r:=CM rm m fs) (by repeat (first|exact Sel.here|apply Sel.there)) (fun h hh=>⟨(),trivial,cm_two.1 hh⟩) (fun _ _=>?_)
 repeat' (first|refine ZH ?_|refine ZI ?_|refine ZK ?_|refine ZG ?_|refine ZM ?_|refine ZJ ?_|refine ZN ?_|refine ZP (fun b=>?_)|refine ZO (fun b=>?_)|refine ZA ?_|refine ZB ?_|refine ZL ?_|refine ZX ?_|refine ZY ?_|refine Zf ?_|refine Za ?_|refine Zb ?_|refine Zc (fun b=>?_)|refine Zd (fun b=>?_)|refine Ze ?_|refine ZZ ?_|refine ZE (n1) (fun _ _=>?_)|refine l_call0 (n1) (fun _ _=>?_)|refine ZS (n1) (fun _ _=>?_)|refine l_mgetQ key_ln who _ rfl ?_|rw [hg']|rw [w1]|refine l_mset (V:=ziv) key_ln who (v+1) ?_|refine r_app1 (fun o' cap'=>?_)|refine r_mkm (K:=ziv) (kt:=3) (et:=4) key_zi blv (fun r=>?_)|(refine ZC (fun hc=>?_) (fun hc=>?_)<;>(try simp at hc)<;>(try omega))|(refine ZQ (fun hc=>?_) (fun hc=>?_)<;>(try simp at hc)<;>(try omega))|refine ZD 8 [Row 68 _ _ _ _ _] [(0,0),(1,0),(2,0),(3,0),(4,0),(5,0),(6,1),(7,4),(8,0),(9,0)] [10] ?_|refine ZD 9 [Row 73 _ _ _ _ _] [(0,0),(1,0),(2,0),(3,0),(4,0),(5,0),(6,4),(7,0),(8,1),(9,4),(10,0),(11,0)] [12] ?_|(refine ZF (fun hc=>?_) (fun hc=>?_)<;>(try simp at hc)<;>(try omega)))
 rename_i o1 c1
 obtain ⟨nb,hnb⟩:∃nb,(⟨who,v⟩:Bi)=nb:=⟨_,rfl⟩
 obtain ⟨nf,hnf⟩:∃nf,(⟨⟨a1,a2,a3,a4,0,a6,a7⟩,⟨#[]⟩,r,[]⟩:Fq)=nf:=⟨_,rfl⟩
 have l1:(bs++[nb]).length=bs.length+1:=by simp
 have l2:(fs++[nf]).length=fs.length+1:=by simp
 refine k_say (P:=Row 68 2 o1 (bs.length+1) c1 (bs.flatMap bcf++bcf (⟨who,v⟩:Bi))) (P':=Row 68 2 o1 (bs++[nb]).length c1 ((bs++[nb]).flatMap bcf)) (by rw [l1,hnb,List.flatMap_append];simp) ?_
 refine k_say (P:=Row 73 9 o' (fs.length+1) cap' (fs.flatMap flq++flq (⟨⟨a1,a2,a3,a4,0,a6,a7⟩,⟨#[]⟩,r,[]⟩:Fq))) (P':=Row 73 9 o' (fs++[nf]).length cap' ((fs++[nf]).flatMap flq)) (by rw [l2,hnf,List.flatMap_append];simp) ?_
 refine Zr (r:=CM rm (mset who (v+1) m) (fs++[nf])) (Lx:=[Mp Y2 ziv rm (mset who (v+1) m),Mp ziv blv r [],fun h=>Sep (fs.map BlF) h]) (fun h hh=>(cm_mid (pre:=fs) (post:=[]) (e:=nf)).2 (by rw [←hnf,List.append_nil];exact hh)) ?_
 refine k_say (P:=Pt bm (.cells #[.slice o1 (bs.length+1) c1,.slice o' (fs.length+1) cap',.map (some rm)] 62)) (P':=Pt bm (.cells #[.slice o1 (bs++[nb]).length c1,.slice o' (fs++[nf]).length cap',.map (some rm)] 62)) (by rw [l1,l2]) ?_
 refine Zr (r:=Mo1 bm (bs++[nb]) (fs++[nf]) (mset who (v+1) m)) (Lx:=MoR bm (o1,c1) (o',cap') rm (bs++[nb]) (fs++[nf]) (mset who (v+1) m)) (fun h hh=>⟨((o1,c1),(o',cap'),rm),hh⟩) ?_
 subst hnb
 subst hnf
 exact ZT r rfl trivial
theorem mo1_new {bm rm:Nat} (h:H) (hh:Sep [Pt bm (.cells #[.slice none 0 0,.slice none 0 0,.map (some rm)] 62),Mp Y2 ziv rm []] h):Mo1 bm [] [] [] h:=by
 obtain ⟨h1,h2,d,s1,s2,hx,hr⟩:=hh
 refine ⟨((none,0),(none,0),rm),h1,h2,d,s1,s2,hx,emp,h2,(fun _=>.inl rfl),(fun _ _ e=>by cases e),Sub.refl _,Yf _ _ _,emp,h2,(fun _=>.inl rfl),(fun _ _ e=>by cases e),Sub.refl _,Yf _ _ _,?_⟩
 obtain ⟨h3,h4,d2,t1,t2,hy,_⟩:=hr
 exact ⟨h3,h4,d2,t1,t2,cm_two.2 ⟨h3,emp,(fun _=>.inr rfl),Sub.refl _,(fun _ _ e=>by cases e),hy,emp,emp,(fun _=>.inl rfl),(fun _ _ e=>by cases e),(fun _ _ e=>by cases e),trivial,trivial⟩,trivial⟩
def St7:Post:=⟨Nat×Nat×Mq×List Fq,fun x=>.tuple #[.pointer (some ⟨x.1,0,none⟩),.pointer (some ⟨x.2.1,0,none⟩),.bool true],fun x=>F0 4 x.2.2.2∧x.2.2.1.OK (YD 4).length x.2.2.2.length,fun x=>[St (some ⟨x.1,0,none⟩) es27],fun x=>MoL x.2.1 x.2.2.1 (YD 4) x.2.2.2 (ms27 4)⟩
set_option maxHeartbeats 4000000 in
theorem start7_ok:Enters 47∧Spec prog 47 #[] [Usg] [] St7:=by
 refine ZV [] func47 ntmps47 fun G w hp=>?_
 repeat' (first|refine ZH ?_|refine ZI ?_|refine ZK ?_|refine ZG ?_|refine ZM ?_|refine ZJ ?_|refine ZN ?_|refine ZP (fun b=>?_)|refine ZO (fun b=>?_)|refine ZA ?_|refine ZB ?_|refine ZL ?_|refine ZX ?_|refine ZY ?_|refine Zf ?_|refine Za ?_|refine Zb ?_|refine Zc (fun b=>?_)|refine Zd (fun b=>?_)|refine Ze ?_|refine ZZ ?_|refine ZE (YK) (fun _ _=>?_)|refine l_call0 (YK) (fun _ _=>?_)|refine ZS (YK) (fun _ _=>?_)|refine ZE (Zx _) (fun _ _=>?_)|refine l_call0 (Zx _) (fun _ _=>?_)|refine ZS (Zx _) (fun _ _=>?_)|refine l_mkm (K:=Y2) (kt:=23) (et:=3) key_ln ziv (fun rm=>?_)|(refine ZC (fun hc=>?_) (fun hc=>?_)<;>(try simp at hc))|(refine ZQ (fun hc=>?_) (fun hc=>?_)<;>(try simp at hc))|refine ZD 7 [] [(0,0),(2,0),(3,0),(6,0),(7,0),(8,0),(9,0),(1,4),(4,0),(5,0),(10,4),(11,0),(12,0),(13,0),(14,1),(15,4),(16,0)] [] ?_|refine ZD 8 [] [(0,0),(2,0),(3,0),(6,0),(7,0),(8,0),(9,0),(1,4),(4,0),(5,0),(10,4),(11,0),(12,0),(13,0),(14,1),(15,4),(16,0)] [] ?_|(refine ZF (fun hc=>?_) (fun hc=>?_)<;>(try simp at hc)))
 rename_i bm s0 _ v0 _
 refine Zr (r:=Mo1 bm [] [] []) (Lx:=[Pt bm (.cells #[.slice none 0 0,.slice none 0 0,.map (some rm)] 62),Mp Y2 ziv rm []]) (fun h hh=>mo1_new h hh) ?_
 refine YT (X:={q:Nat×List (Nm×Ch)×List Fq // q.1≤4∧F0 q.1 q.2.2}) (fun q=>[(3,.pointer (some ⟨bm,0,none⟩)),(4,.pointer (some ⟨v0,0,none⟩)),(5,.slice (some ⟨b,0,none⟩) 4 4),(6,.int .i64 (q.1.1:Int))]) (fun _=>[St (some ⟨s0,0,none⟩) [],Usg]) (fun q=>[Vw v0 (some ⟨s0,0,none⟩) q.1.2.1 (cs27 q.1.1),Mo1 bm (YD q.1.1) q.1.2.2 (ms27 q.1.1),Ax 64 inf b nds27 ([],(0,0))]) (fun q=>4 - q.1.1) ⟨(0,[],[]),by decide,f0_nil⟩ ⟨rfl,rfl,rfl,rfl,trivial⟩ ?_ (hr:=Sels.cons (by repeat (first|exact Sel.here|apply Sel.there)) (Sels.cons (by repeat (first|exact Sel.here|apply Sel.there)) (Sels.cons (by repeat (first|exact Sel.here|apply Sel.there)) Sels.nil)))
 rintro ⟨⟨i,rs,fs⟩,hi,hF⟩
 dsimp only at hi hF ⊢
 have hfl:=f0_len hF
 by_cases hlt:i<4
 ·obtain ⟨n1,n2,n3⟩:=ns27_ok hlt
  obtain ⟨d0,d1,d2⟩:=nd27_ok hlt
  have hB:=bi27 i hi
  obtain ⟨g1,g2⟩:=hB.made (by omega) n1
  obtain ⟨e1,e2⟩:=BI.step d1 d2 hB (by omega) n1
  have hm:=XF (i % 2)
  have m1:=make_ok v0 (some ⟨s0,0,none⟩) [] rs (cs27 i) (Zh (i % 2)) (nd27 i) (by omega) g1 (by have:=hB.cl;omega)
  rw [e1,e2] at m1
  have m2:=make1_ok bm (YD i) fs (ms27 i) (Zh (i % 2)) (nd27 i) ((i / 2:Nat):Int) d1 d2 n3 (by omega) (by omega) (by simp [YD];omega) (by omega)
  have hFs:=f0_succ hF
  have e3:YD i++[⟨Zh (i % 2),((i / 2:Nat):Int)⟩]=YD (i+1):=by simp only [YD,List.range_succ,List.map_append,List.map_cons,List.map_nil];rfl
  rw [e3] at m2
  have w5:(i:Int).tmod 2=((i % 2:Nat):Int):=by rw [Int.tmod_eq_emod_of_nonneg (Int.natCast_nonneg _)];exact (Int.natCast_emod _ 2).symm
  have w6:IntKind.i64.wrap (((i % 2:Nat):Int))=((i % 2:Nat):Int):=wrapi (by omega) (by omega)
  have hk:=mk2_get (i:=i)
  have hk3:i % 2<3:=by omega
  generalize mkR [] rs (cs27 i) (Zh (i % 2)) (nd27 i)=rs2 at *
  have e4:cs27 (i+1)=cs27 i++[⟨cnm (Zh (i % 2)),cvs ⟨((i / 2:Nat):Int)+1,0,0⟩,false⟩]++[⟨nnm ⟨Zh (i % 2),((i / 2:Nat):Int)⟩,iencS (nd27 i),false⟩]:=rfl
  rw [←e4] at m1
  have e5:ms27 (i+1)=mset (Zh (i % 2)) (((i / 2:Nat):Int)+1) (ms27 i):=rfl
  rw [←e5] at m2
  generalize nd27 i=nd at *
  generalize hn27:nds27=l27 at *
  obtain ⟨a1,a2,a3,a4,a5,a6,a7⟩:=nd
  simp only [Ino.v,Bi.v] at m1 m2
  repeat' (first|refine l_sneq (b:=true) ?_ (he:=eqBi ⟨Zh (i % 2),((i / 2:Nat):Int)⟩)|refine ZH ?_|refine ZI ?_|refine ZK ?_|refine ZG ?_|refine ZM ?_|refine ZJ ?_|refine ZN ?_|refine ZP (fun b=>?_)|refine ZO (fun b=>?_)|refine ZA ?_|refine ZB ?_|refine ZX ?_|refine ZY ?_|refine Zf ?_|refine Za ?_|refine Zb ?_|refine Zc (fun b=>?_)|refine Zd (fun b=>?_)|refine Ze ?_|refine ZZ ?_|refine ZE (YL) (fun _ _=>?_)|refine l_call0 (YL) (fun _ _=>?_)|refine ZS (YL) (fun _ _=>?_)|refine ZE (m1) (fun _ _=>?_)|refine l_call0 (m1) (fun _ _=>?_)|refine ZS (m1) (fun _ _=>?_)|refine ZE (m2) (fun _ _=>?_)|refine l_call0 (m2) (fun _ _=>?_)|refine ZS (m2) (fun _ _=>?_)|rw [w5]|rw [w6]|refine XL (m:=3) (i % 2) hk3 ?_|refine XL (m:=4) i hlt ?_|refine Zp 1 (i % 2) 0 hk ?_|refine Zl 7 i 0 d0 ?_|(refine ZC (fun hc=>?_) (fun hc=>?_)<;>(try simp at hc)<;>(try omega))|(refine ZQ (fun hc=>?_) (fun hc=>?_)<;>(try simp at hc)<;>(try omega))|refine ZD 7 [Vw _ _ _ _] [(0,0),(2,0),(3,0),(6,0),(7,0),(8,0),(9,0),(1,4),(4,0),(5,3),(10,4),(11,0),(12,0),(13,0),(14,1),(15,4),(16,0)] [] ?_|refine ZD 8 [Mo1 _ _ _ _] [(0,0),(2,0),(3,0),(6,0),(7,0),(8,0),(9,0),(1,4),(4,0),(5,3),(10,4),(11,0),(12,0),(13,0),(14,1),(15,4),(16,0)] [] ?_|(refine ZF (fun hc=>?_) (fun hc=>?_)<;>(try simp at hc)<;>(try omega)))
  rw [wrapi (z:=(i:Int)+1) (by omega) (by omega)]
  subst hn27
  rename_i r _
  exact Zi ⟨(i+1,rs2,_),by dsimp only;omega,hFs r⟩ (by show 4 - (i+1)<4 - i;omega) ⟨rfl,rfl,rfl,rfl,trivial⟩
 ·obtain rfl:i=4:=by omega
  have n4:=vwAfter_ok v0 s0 [] rs (cs27 4) (Nat.le_trans cs27_len (by decide)) (cs27_fit 4 (by omega)) (by simp)
  rw [show applyE [] (vwr (cs27 4))=es27 from rfl] at n4
  have hb4:(YD 4).length=4:=rfl
  generalize hcs:cs27 4=c4 at *
  generalize hms:ms27 4=m4 at *
  refine Z4 (X:=(Option Addr×Nat)×(Option Addr×Nat)×Nat) (Lx:=fun q=>MoR bm q.1 q.2.1 q.2.2 (YD 4) fs m4) (p:=fun _=>True) (r:=Mo1 bm (YD 4) fs m4) (.there .here) (fun h hh=>by obtain ⟨q,hq⟩:=hh;exact ⟨q,trivial,hq⟩) (fun q _=>?_)
  obtain ⟨⟨ob,cb⟩,⟨of,cf⟩,rm'⟩:=q
  dsimp only
  refine Z4 (X:=Nat×(List Value×(Nat×Nat))) (Lx:=fun x=>[Ax 68 bcf x.1 (YD 4) x.2]) (p:=fun x=>ob=some ⟨x.1,0,none⟩∧(YD 4).length * 2+x.2.1.length=cb * 2∧AxOK ((YD 4).length * 2) x.2) (r:=Row 68 2 ob (YD 4).length cb ((YD 4).flatMap bcf)) (by repeat (first|exact Sel.here|apply Sel.there)) (fun h hh=>row_ax (f:=bcf) (fun _=>rfl) (by omega) hh) (fun x hx=>?_)
  obtain ⟨rfl,x2,x3⟩:=hx
  refine Z4 (X:=Nat×(List Value×(Nat×Nat))) (Lx:=fun y=>[Ax 73 flq y.1 fs y.2]) (p:=fun y=>of=some ⟨y.1,0,none⟩∧fs.length * 9+y.2.1.length=cf * 9∧AxOK (fs.length * 9) y.2) (r:=Row 73 9 of fs.length cf (fs.flatMap flq)) (by repeat (first|exact Sel.here|apply Sel.there)) (fun h hh=>row_ax (f:=flq) (fun _=>rfl) (by omega) hh) (fun y hy=>?_)
  obtain ⟨rfl,y2,y3⟩:=hy
  repeat' (first|refine ZH ?_|refine ZI ?_|refine ZK ?_|refine ZG ?_|refine ZM ?_|refine ZJ ?_|refine ZN ?_|refine ZP (fun b=>?_)|refine ZO (fun b=>?_)|refine ZA ?_|refine ZB ?_|refine ZL ?_|refine ZX ?_|refine ZY ?_|refine Zf ?_|refine Za ?_|refine Zb ?_|refine Zc (fun b=>?_)|refine Zd (fun b=>?_)|refine Ze ?_|refine ZZ ?_|refine ZE (n4) (fun _ _=>?_)|refine l_call0 (n4) (fun _ _=>?_)|refine ZS (n4) (fun _ _=>?_)|(refine ZC (fun hc=>?_) (fun hc=>?_)<;>(try simp at hc)<;>(try omega))|(refine ZQ (fun hc=>?_) (fun hc=>?_)<;>(try simp at hc)<;>(try omega))|refine ZD 7 [] [(0,0),(2,0),(3,0),(6,0),(7,0),(8,0),(9,0),(1,4),(4,0),(5,0),(10,4),(11,0),(12,0),(13,0),(14,1),(15,4),(16,0)] [] ?_|refine ZD 8 [] [(0,0),(2,0),(3,0),(6,0),(7,0),(8,0),(9,0),(1,4),(4,0),(5,0),(10,4),(11,0),(12,0),(13,0),(14,1),(15,4),(16,0)] [] ?_|(refine ZF (fun hc=>?_) (fun hc=>?_)<;>(try simp at hc)<;>(try omega)))
  rename_i s1 _
  subst hms
  exact ZT (post:=St7) (s1,bm,⟨x.1,cb,x.2,y.1,cf,y.2,rm'⟩,fs) rfl ⟨hF,x2,x3,y2,y3⟩
end
section
open VQ
def cut7 (o:Op7):Op7:={o with t:=cutS o.t 500,n:={o.n with tg:=cutS o.n.tg 300}}
theorem cut7_ok (o:Op7):Enters 19∧Spec prog 19 #[o.v] [] [] (RetV (cut7 o).v):=by
 refine ZV [_] func19 ntmps19 fun G w hp=>?_
 repeat' (first|refine ZH ?_|refine ZI ?_|refine ZK ?_|refine ZG ?_|refine ZM ?_|refine ZJ ?_|refine ZN ?_|refine ZP (fun b=>?_)|refine ZO (fun b=>?_)|refine ZA ?_|refine ZB ?_|refine ZL ?_|refine l_cutS 500 ?_|refine l_cutS 300 ?_|(refine ZC (fun hc=>?_) (fun hc=>?_)<;>(try simp at hc))|(refine ZF (fun hc=>?_) (fun hc=>?_)<;>(try simp at hc)))
 exact ZT () rfl trivial
theorem eqRz7 (a:Rz7):eqC eqS 20 79 a.v a.v=some true:=by
 obtain ⟨a1,a2,⟨a3,a4⟩,a5⟩:=a
 show some ((a1.toList == a1.toList) && ((a2 == a2) && (((a3.toList == a3.toList) && ((a4 == a4) && true)) && ((a5 == a5) && true))))=_
 simp
structure Af7 where
 s:Nat
 q:Mq
 es:Al
 bs:List Bi
 fs:List Fq
 m:List (ByteArray×Int)
structure Af7.OK (x:Af7) (k:Nat):Prop where
 r:R7 x.es [] x.bs x.fs x.m (4+k)
 srt:Srt x.es
 len:x.es.length≤12+70 * k
 q:x.q.OK x.bs.length x.fs.length
 b0:0<x.bs.length
def AfP:Post:=⟨Nat×Af7,fun x=>.tuple #[.pointer (some ⟨x.2.s,0,none⟩),.pointer (some ⟨x.1,0,none⟩),.bool true],fun x=>∃k,k≤12∧x.2.OK k,fun x=>[St (some ⟨x.2.s,0,none⟩) x.2.es],fun x=>MoL x.1 x.2.q x.2.bs x.2.fs x.2.m⟩
abbrev OpS (o:Option Addr) (cap:Nat) (l:List Op7):Pf:=Sl 76 op7f o cap l
theorem Af7.OK.next {x:Af7} {k:Nat} (h:x.OK k) (hk:k≤12) (o:Op7):((qOp x.bs o).run x.es []).1=mDoR x.bs x.fs x.m o∧DoH x.q x.bs x.fs x.m∧Gd7 ((qOp x.bs o).run x.es []).2.2∧
  ∀(s:Nat) (y:Mq×Nat),y.1.OK (mDoB x.bs x.m o).length (mDoF x.bs x.fs o y.2).length→Af7.OK ⟨s,y.1,applyD x.es (vwr ((qOp x.bs o).run x.es []).2.2),mDoB x.bs x.m o,mDoF x.bs x.fs o y.2,mDoM x.bs x.m o⟩ (k+1):=by
 have hb:=fun r=>op_both h.r (by omega) o r
 obtain ⟨g1,_,g3⟩:=hb 0
 refine ⟨g1,h.r.doh (by omega) h.b0 h.q,g3,fun s y hy=>⟨?_,UD _ _ h.srt,?_,hy,Nat.lt_of_lt_of_le h.b0 (mDoB_len o)⟩⟩
 ·exact (hb y.2).2.1.cg fun n=>vget_afterD h.srt g3 n
 ·have:=g3.len (es:=x.es)
  have:=h.len
  dsimp only
  omega
theorem Af7.OK.sml {x:Af7} {k:Nat} (h:x.OK k):(∀n,(vget x.es [] n).1.size≤65536)∧∀b ∈ x.bs,b.mkr.size≤3:=⟨h.r.sz,h.r.bsz⟩
set_option maxHeartbeats 4000000 in
theorem after7_ok (o:Option Addr) (cap:Nat) (l:List Op7):Enters 14∧Spec prog 14 #[.slice o l.length cap] [OpS o cap l,Usg] [] AfP:=by
 have n0:=start7_ok
 unfold St7 at n0
 refine ZV [_] func14 ntmps14 fun G w hp=>?_
 repeat' (first|refine ZH ?_|refine ZI ?_|refine ZK ?_|refine ZG ?_|refine ZM ?_|refine ZJ ?_|refine ZN ?_|refine ZP (fun b=>?_)|refine ZO (fun b=>?_)|refine ZA ?_|refine ZB ?_|refine ZE (n0) (fun _ _=>?_)|refine l_call0 (n0) (fun _ _=>?_)|(refine ZC (fun hc=>?_) (fun hc=>?_)<;>(try simp at hc)<;>(try omega))|(refine ZF (fun hc=>?_) (fun hc=>?_)<;>(try simp at hc)<;>(try omega)))
 rename_i x hx
 obtain ⟨s0,bm,q0,fs0⟩:=x
 obtain ⟨hF,hq0⟩:=hx
 dsimp only at hF hq0 ⊢
 refine YT (X:={x:Nat×Af7 // x.1≤12∧x.1≤l.length∧x.2.OK x.1}) (fun x=>[(0,.slice o l.length cap),(2,.pointer (some ⟨x.1.2.s,0,none⟩)),(3,.pointer (some ⟨bm,0,none⟩)),(4,.bool true),(5,.int .i64 (x.1.1:Int))]) (fun x=>[St (some ⟨x.1.2.s,0,none⟩) x.1.2.es,OpS o cap l,Usg]) (fun x=>MoL bm x.1.2.q x.1.2.bs x.1.2.fs x.1.2.m) (fun x=>l.length - x.1.1)
  ⟨(0,⟨s0,q0,es27,YD 4,fs0,ms27 4⟩),Nat.zero_le _,Nat.zero_le _,r7_begin hF,srt_es27,es27_len,hq0,by show 0<(YD 4).length;decide⟩ ⟨rfl,rfl,rfl,rfl,rfl,trivial⟩ ?_
 rintro ⟨⟨i,x⟩,hi,hil,hx⟩
 dsimp only at hi hil hx ⊢
 by_cases hlt:i<l.length∧i<12
 ·obtain ⟨c,hgt⟩:∃c,l[i]? = some c:=⟨_,List.getElem?_eq_getElem hlt.1⟩
  have hl1:=hlt.1
  have hl2:=hlt.2
  have m0:=cut7_ok c
  have hct:(cut7 c).t.size≤500:=cutS_size _ _
  generalize cut7 c=o2 at *
  obtain ⟨g1,g2,g3,g4⟩:=hx.next hi o2
  obtain ⟨z1,z2⟩:=hx.sml
  have hlen:=hx.len
  obtain ⟨s,q,es,bs,fs,m⟩:=x
  dsimp only at *
  have n2:=fun vb=>UH vb (some ⟨s,0,none⟩) es q bs o2 ⟨hct,z2⟩ z1
  have n3:=do27_ok bm q bs fs m o2 hct g2
  have n4:=fun vb rs=>vwAfterD_ok vb s es rs ((qOp bs o2).run es []).2.2 g3.fit.1 g3.fit.2 (by omega)
  rw [g1] at n2
  have he:=eqRz7 (mDoR bs fs m o2)
  generalize (qOp bs o2).run es []=G at *
  obtain ⟨G1,G2,G3⟩:=G
  dsimp only at *
  generalize mDoR bs fs m o2=RR at *
  have wi:IntKind.i64.wrap ((i:Int)+1)=((i+1:Nat):Int):=by rw [wrapi (by omega) (by omega)];omega
  obtain ⟨r1,r2,⟨r3,r4⟩,r5⟩:=RR
  obtain ⟨c1,c2,c3,c4,c5,⟨d1,d2,d3,d4,d5,d6,d7⟩⟩:=c
  obtain ⟨e1,e2,e3,e4,e5,⟨f1,f2,f3,f4,f5,f6,f7⟩⟩:=o2
  simp only [Op7.v,Rz7.v] at n2 n3 m0 he
  repeat' (first|refine ZH ?_|refine ZI ?_|refine ZK ?_|refine ZG ?_|refine ZM ?_|refine ZJ ?_|refine ZN ?_|refine ZP (fun b=>?_)|refine ZO (fun b=>?_)|refine ZA ?_|refine ZB ?_|refine ZX ?_|refine ZY ?_|refine Zf ?_|refine Za ?_|refine Zb ?_|refine Zc (fun b=>?_)|refine Zd (fun b=>?_)|refine Ze ?_|refine ZZ ?_|refine ZE (Zx _) (fun _ _=>?_)|refine l_call0 (Zx _) (fun _ _=>?_)|refine ZS (Zx _) (fun _ _=>?_)|refine V0 (Zx _) (fun _ _=>?_)|refine ZE (m0) (fun _ _=>?_)|refine l_call0 (m0) (fun _ _=>?_)|refine ZS (m0) (fun _ _=>?_)|refine V0 (m0) (fun _ _=>?_)|refine ZE (n2 _) (fun _ _=>?_)|refine l_call0 (n2 _) (fun _ _=>?_)|refine ZS (n2 _) (fun _ _=>?_)|refine V0 (n2 _) (fun _ _=>?_)|refine ZE (n3) (fun _ _=>?_)|refine l_call0 (n3) (fun _ _=>?_)|refine ZS (n3) (fun _ _=>?_)|refine V0 (n3) (fun _ _=>?_)|refine ZE (n4 _ _) (fun _ _=>?_)|refine l_call0 (n4 _ _) (fun _ _=>?_)|refine ZS (n4 _ _) (fun _ _=>?_)|refine V0 (n4 _ _) (fun _ _=>?_)|rw [wi]|refine r_ixe (es:=l) (f:=op7f) i _ hgt (fun b off=>?_)|refine r_ldC ?_|refine l_seq (b:=true) ?_ (he:=he)|(refine ZC (fun hc=>?_) (fun hc=>?_)<;>(try simp at hc)<;>(try omega))|(refine ZQ (fun hc=>?_) (fun hc=>?_)<;>(try simp at hc)<;>(try omega))|refine ZD 6 [Vw _ _ _ _,MdP _ _ _ _,BiX _ _,FlX _ _,CM _ _ _] [(0,0),(1,0),(2,0),(3,0),(5,0),(6,0),(7,0),(8,0),(11,0),(12,0),(13,0),(14,0),(15,0),(4,3),(9,5),(10,4),(16,5),(17,4),(18,1),(19,1),(20,4),(21,4)] [] ?_|(refine ZF (fun hc=>?_) (fun hc=>?_)<;>(try simp at hc)<;>(try omega)))
  rename_i y hy _ s' _
  exact Zi ⟨(i+1,⟨s',y.1,_,_,_,_⟩),by dsimp only;omega,by dsimp only;omega,g4 s' y hy⟩ (by show l.length - (i+1)<l.length - i;omega) ⟨rfl,rfl,rfl,rfl,rfl,trivial⟩
 ·repeat' (first|refine ZH ?_|refine ZI ?_|refine ZK ?_|refine ZG ?_|refine ZM ?_|refine ZJ ?_|refine ZN ?_|refine ZP (fun b=>?_)|refine ZO (fun b=>?_)|refine ZA ?_|refine ZB ?_|refine ZL ?_|refine ZX ?_|refine ZY ?_|refine Zf ?_|refine Za ?_|refine Zb ?_|refine Zc (fun b=>?_)|refine Zd (fun b=>?_)|refine Ze ?_|refine ZZ ?_|(refine ZC (fun hc=>?_) (fun hc=>?_)<;>(try simp at hc)<;>(try omega))|(refine ZQ (fun hc=>?_) (fun hc=>?_)<;>(try simp at hc)<;>(try omega))|refine ZD 6 [] [(0,0),(1,0),(2,0),(3,0),(4,0),(5,0),(6,0),(7,0),(8,0),(11,0),(12,0),(13,0),(14,0),(15,0),(9,4),(10,4),(16,4),(17,4),(18,1),(19,1)] [20,21] ?_|(refine ZF (fun hc=>?_) (fun hc=>?_)<;>(try simp at hc)<;>(try omega)))
  all_goals exact ZT (post:=AfP) (bm,x) rfl ⟨i,hi,hx⟩
end
variable {H:Type}
section
open Go.ChangeShapes Go.WideShapes Go.ChangeAt
structure Kept (W W':World):Prop where
 os:W'.os=W.os
 output:W'.output=W.output
 heap:∀(b:Nat) (o:Obj),W.heap[b]? = some o→W'.heap[b]? = some o
theorem Kept.but {W W':World} (h:Kept W W') (may:MemPlace→Prop):W.keptBut W' may:=by
 refine ⟨h.os,h.output,fun i hi=>?_⟩
 have h1:W.heap[i]? = some W.heap[i]:=Array.getElem?_eq_getElem hi
 have h2:=h.heap i _ h1
 rw [h1,h2]
 split
 ·rename_i c t fr c' t' fr' e1 e2
  rw [e1] at e2
  injection e2 with e2
  injection e2 with a1 a2 a3
  subst a1 a2 a3
  exact ⟨rfl,rfl,rfl,fun _ _=>rfl⟩
 ·rename_i es clock es' clock' e1 e2
  rw [e1] at e2
  injection e2 with e2
  injection e2 with a1 a2
  subst a1 a2
  exact .inr ⟨rfl,rfl⟩
 ·rfl
theorem calls_law {f:FuncId} {args:Array Value} {F:List Pf} {v:Value} (h:Spec prog f args F [] (RetV v)) (W:World) (hF:∀x ∈ F,x.p fun b=>W.heap[b]?) :
  Calls prog f args W fun e W'=>e = .returned v∧Kept W W':=by
 have hs:Sat emp W (fun b=>W.heap[b]?) F [] W:=⟨fun b=>W.heap[b]?,emp,fun _ _ e=>e,(fun _ _ e=>by cases e),(fun _ _ e=>by cases e),fun _=>.inr rfl,fun _=>.inr rfl,fun _=>.inr rfl,Sub.refl _,hF,trivial,Same.refl _⟩
 refine (h _ _ _ hs).mono ?_
 rintro e W' ⟨_,rfl,_,hp',hr,st⟩
 exact ⟨rfl,st.same.os,st.same.output,fun b o hb=>st.inp b o (st.sub b o hb)⟩
def contig (P:Program):Nat→List Field→Option Nat
 | o,[]=>some o
 | o,f::fs=>if f.offset=o then contig P (o+P.cellsOf f.type) fs else none
def plainT (P:Program):Nat→TypeId→Bool
 | 0,_=>false
 | k+1,t=>match P.underlying t with
  | some .bool=>true
  | some (.int _)=>true
  | some .string=>true
  | some (.struct fs)=>(fs.toList.all fun f=>plainT P k f.type) && (contig P 0 fs.toList == some (P.cellsOf t))
  | some (.array n e)=>plainT P k e && (P.cellsOf t == n * P.cellsOf e)
  | _=>false
variable {enc:TypeId×Value→H} {P:Program}
theorem XT {α β:Type} {f g:α→Option β}:∀{l:List α} {r:List β},(∀a ∈ l,∀x,f a=some x→g a=some x)→l.mapM f=some r→l.mapM g=some r
 | [],r,_,h=>h
 | a::l,r,hfg,h=>by
  rw [List.mapM_cons] at h ⊢
  simp only [Option.bind_eq_bind,Option.bind_eq_some_iff,Option.pure_def,Option.some.injEq] at h ⊢
  obtain ⟨x,hx,xs,hxs,rfl⟩:=h
  exact ⟨x,hfg a (by simp) x hx,xs,XT (fun b hb=>hfg b (by simp [hb])) hxs,rfl⟩
theorem mapM_all {α β:Type} {f:α→Option β} {p:β→Prop}:∀{l:List α} {r:List β},(∀a ∈ l,∀x,f a=some x→p x)→l.mapM f=some r→∀x ∈ r,p x
 | [],r,_,h=>by simp at h;subst h;simp
 | a::l,r,hfg,h=>by
  rw [List.mapM_cons] at h
  simp only [Option.bind_eq_bind,Option.bind_eq_some_iff,Option.pure_def,Option.some.injEq] at h
  obtain ⟨x,hx,xs,hxs,rfl⟩:=h
  intro y hy
  rcases List.mem_cons.1 hy with rfl|hy
  ·exact hfg a (by simp) y hx
  ·exact mapM_all (fun b hb=>hfg b (by simp [hb])) hxs y hy
theorem WF {β γ:Type} {f:β→List γ}:∀{l:List β},(∀x ∈ l,f x=[])→l.flatMap f=[]
 | [],_=>rfl
 | a::l,h=>by rw [List.flatMap_cons,h a (by simp),WF (fun x hx=>h x (by simp [hx]))];rfl
theorem WA:∀(n k:Nat) (t:TypeId) (w:World) (base:Nat) (sp:Nat→Bool) (hd:Bool) (cs:List Value) (x:DataW H×List MemPlace),plainT P k t=true→DataW.trod enc P w base sp hd n t cs=some x→
  x.2=[]∧∀w' base' sp' hd',DataW.trod enc P w' base' sp' hd' n t cs=some x
 | 0,_,_,_,_,_,_,_,_,_,h=>by simp [DataW.trod] at h
 | n+1,0,_,_,_,_,_,_,_,hp,_=>by simp [plainT] at hp
 | n+1,k+1,t,w,base,sp,hd,cs,x,hp,h=>by
  unfold plainT at hp
  split at hp
  ·rename_i hu
   obtain ⟨b,rfl,rfl⟩:=DataW.trod_bool hu h
   exact ⟨rfl,fun _ _ _ _=>by simp [DataW.trod,hu]⟩
  ·rename_i hu
   obtain ⟨z,rfl,rfl,hz⟩:=DataW.trod_int hu h
   exact ⟨rfl,fun _ _ _ _=>by simp [DataW.trod,hu,hz]⟩
  ·rename_i hu
   obtain ⟨s,rfl,rfl,hs⟩:=DataW.trod_string hu h
   exact ⟨rfl,fun _ _ _ _=>by simp [DataW.trod,hu,hs]⟩
  ·rename_i fs hu
   rw [Bool.and_eq_true,List.all_eq_true] at hp
   simp only [DataW.trod,hu] at h ⊢
   split at h
   ·rename_i hl
    simp only [Option.map_eq_some_iff] at h
    obtain ⟨xs,hxs,rfl⟩:=h
    have ih:∀f ∈ fs.toList,∀y,DataW.trod enc P w base sp hd n f.type ((cs.drop f.offset).take (P.cellsOf f.type))=some y→y.2=[]∧∀w' base' sp' hd',DataW.trod enc P w' base' sp' hd' n f.type ((cs.drop f.offset).take (P.cellsOf f.type))=some y:=fun f hf y hy=>
     WA n k f.type w base sp hd _ y (hp.1 f hf) hy
    refine ⟨WF (mapM_all (fun f hf y hy=>(ih f hf y hy).1) hxs),fun w' base' sp' hd'=>?_⟩
    rw [if_pos hl,XT (fun f hf y hy=>(ih f hf y hy).2 w' base' sp' hd') hxs]
    rfl
   ·cases h
  ·rename_i m e hu
   rw [Bool.and_eq_true] at hp
   simp only [DataW.trod,hu] at h ⊢
   split at h
   ·rename_i hl
    simp only [Option.map_eq_some_iff] at h
    obtain ⟨xs,hxs,rfl⟩:=h
    have ih:∀i ∈ List.range m,∀y,DataW.trod enc P w base sp hd n e ((cs.drop (i * P.cellsOf e)).take (P.cellsOf e))=some y→y.2=[]∧∀w' base' sp' hd',DataW.trod enc P w' base' sp' hd' n e ((cs.drop (i * P.cellsOf e)).take (P.cellsOf e))=some y:=fun i _ y hy=>
     WA n k e w base sp hd _ y hp.1 hy
    refine ⟨WF (mapM_all (fun i hi y hy=>(ih i hi y hy).1) hxs),fun w' base' sp' hd'=>?_⟩
    rw [if_pos hl,XT (fun i hi y hy=>(ih i hi y hy).2 w' base' sp' hd') hxs]
    rfl
   ·cases h
  ·cases hp
theorem Ys {α β:Type} {f:α→Option β}:∀{l:List α} {r:List β},l.mapM f=some r→∀(i:Nat) (a:α),l[i]? = some a→∃b,r[i]? = some b∧f a=some b
 | [],r,_,i,a,hi=>by simp at hi
 | c::l,r,h,i,a,hi=>by
  rw [List.mapM_cons] at h
  simp only [Option.bind_eq_bind,Option.bind_eq_some_iff,Option.pure_def,Option.some.injEq] at h
  obtain ⟨x,hx,xs,hxs,rfl⟩:=h
  cases i with
  | zero=>simp at hi;subst hi;exact ⟨x,by simp,hx⟩
  | succ i=>simpa using Ys hxs i a (by simpa using hi)
theorem cover:∀(fs:List Field) (o total:Nat) (cs cs':List Value),contig P o fs=some total→cs.length=total→cs'.length=total→
  (∀f ∈ fs,(cs.drop f.offset).take (P.cellsOf f.type)=(cs'.drop f.offset).take (P.cellsOf f.type))→cs.drop o=cs'.drop o
 | [],o,total,cs,cs',h,h1,h2,_=>by
  simp only [contig,Option.some.injEq] at h
  rw [List.drop_eq_nil_of_le (by omega),List.drop_eq_nil_of_le (by omega)]
 | f::fs,o,total,cs,cs',h,h1,h2,hp=>by
  unfold contig at h
  split at h
  ·rename_i ho
   have ih:=cover fs (o+P.cellsOf f.type) total cs cs' h h1 h2 fun g hg=>hp g (by simp [hg])
   have h3:=hp f (by simp)
   rw [ho] at h3
   rw [←List.take_append_drop (P.cellsOf f.type) (cs.drop o),←List.take_append_drop (P.cellsOf f.type) (cs'.drop o),List.drop_drop,List.drop_drop,h3,ih]
  ·cases h
theorem trod_inj {H':Type} {enc':TypeId×Value→H'}:∀(n n' k:Nat) (t:TypeId) (w w':World) (base base':Nat) (sp sp':Nat→Bool) (hd hd':Bool) (cs cs':List Value) (x x':DataW H×List MemPlace),plainT P k t=true→
  DataW.trod enc P w base sp hd n t cs=some x→DataW.trod enc P w' base' sp' hd' n' t cs'=some x'→x.1=x'.1→cs=cs'
 | 0,_,_,_,_,_,_,_,_,_,_,_,_,_,_,_,_,h,_,_=>by simp [DataW.trod] at h
 | _+1,0,_,_,_,_,_,_,_,_,_,_,_,_,_,_,_,_,h,_=>by simp [DataW.trod] at h
 | n+1,n'+1,0,_,_,_,_,_,_,_,_,_,_,_,_,_,hp,_,_,_=>by simp [plainT] at hp
 | n+1,n'+1,k+1,t,w,w',base,base',sp,sp',hd,hd',cs,cs',x,x',hp,h,h',he=>by
  unfold plainT at hp
  split at hp
  ·rename_i hu
   obtain ⟨b,rfl,rfl⟩:=DataW.trod_bool hu h
   obtain ⟨b',rfl,rfl⟩:=DataW.trod_bool hu h'
   simp at he;subst he;rfl
  ·rename_i hu
   obtain ⟨z,rfl,rfl,hz⟩:=DataW.trod_int hu h
   obtain ⟨z',rfl,rfl,hz'⟩:=DataW.trod_int hu h'
   simp at he;subst he;rfl
  ·rename_i hu
   obtain ⟨s,rfl,rfl,hs⟩:=DataW.trod_string hu h
   obtain ⟨s',rfl,rfl,hs'⟩:=DataW.trod_string hu h'
   simp at he
   rw [WH (by rw [he]:s.data.toList=s'.data.toList)]
  ·rename_i fs hu
   rw [Bool.and_eq_true,List.all_eq_true,beq_iff_eq] at hp
   simp only [DataW.trod,hu] at h h'
   split at h
   ·rename_i hl
    split at h'
    ·rename_i hl'
     simp only [Option.map_eq_some_iff] at h h'
     obtain ⟨xs,hxs,rfl⟩:=h
     obtain ⟨xs',hxs',rfl⟩:=h'
     simp only [DataW.agg.injEq] at he
     have:=cover fs.toList 0 _ cs cs' hp.2 hl hl' fun f hf=>by
      obtain ⟨i,hi,rfl⟩:=List.mem_iff_getElem.1 hf
      have hi':=List.getElem?_eq_getElem hi
      obtain ⟨y,hy1,hy2⟩:=Ys hxs i _ hi'
      obtain ⟨y',hy1',hy2'⟩:=Ys hxs' i _ hi'
      have hyy:y.1=y'.1:=by
       have h1:(xs.map (·.1))[i]? = some y.1:=by simp [hy1]
       have h2:(xs'.map (·.1))[i]? = some y'.1:=by simp [hy1']
       rw [he] at h1
       exact Option.some.inj (h1.symm.trans h2)
      exact trod_inj (enc':=enc') n n' k _ w w' base base' sp sp' hd hd' _ _ y y' (hp.1 _ hf) hy2 hy2' hyy
     simpa using this
    ·cases h'
   ·cases h
  ·rename_i m e hu
   rw [Bool.and_eq_true,beq_iff_eq] at hp
   simp only [DataW.trod,hu] at h h'
   split at h
   ·rename_i hl
    split at h'
    ·rename_i hl'
     simp only [Option.map_eq_some_iff] at h h'
     obtain ⟨xs,hxs,rfl⟩:=h
     obtain ⟨xs',hxs',rfl⟩:=h'
     simp only [DataW.agg.injEq] at he
     have hpart:∀i,i<m→(cs.drop (i * P.cellsOf e)).take (P.cellsOf e)=(cs'.drop (i * P.cellsOf e)).take (P.cellsOf e):=fun i hi=>by
      have hi':(List.range m)[i]? = some i:=by simp [hi]
      obtain ⟨y,hy1,hy2⟩:=Ys hxs i _ hi'
      obtain ⟨y',hy1',hy2'⟩:=Ys hxs' i _ hi'
      have hyy:y.1=y'.1:=by
       have h1:(xs.map (·.1))[i]? = some y.1:=by simp [hy1]
       have h2:(xs'.map (·.1))[i]? = some y'.1:=by simp [hy1']
       rw [he] at h1
       exact Option.some.inj (h1.symm.trans h2)
      exact trod_inj (enc':=enc') n n' k _ w w' base base' sp sp' hd hd' _ _ y y' hp.1 hy2 hy2' hyy
     apply List.ext_getElem?
     intro j
     by_cases hj:j<m * P.cellsOf e
     ·have hc:0<P.cellsOf e:=Nat.pos_of_ne_zero fun h0=>by rw [h0] at hj;simp at hj
      have h1:=congrArg (fun l=>l[j % P.cellsOf e]?) (hpart (j / P.cellsOf e) (Nat.div_lt_of_lt_mul (by rw [Nat.mul_comm];exact hj)))
      simp only [List.getElem?_take,List.getElem?_drop,if_pos (Nat.mod_lt j hc)] at h1
      rw [show j / P.cellsOf e * P.cellsOf e+j % P.cellsOf e=j by rw [Nat.mul_comm];exact Nat.div_add_mod j _] at h1
      exact h1
     ·rw [List.getElem?_eq_none (by omega),List.getElem?_eq_none (by omega)]
    ·cases h'
   ·cases h
  ·cases hp
theorem post_kept {f:Func} {s:ChangeSpec} {apart fresh handsOn again:Bool} {W W':World} {args:Array Value} {v:Value} {ds gs:List (DataW H)} {before pa pv:List MemPlace}
  (hW:DataW.Whole enc P f.params.toList s.vars apart W args.toList ds gs before)
  (hres:∀(b:Nat) (sp:Nat→Bool) (hd:Bool),DataW.TrodAll enc P W' b sp hd f.resultTypes.toList (v.resultList f.resultTypes.size) (s.fn H (ds++gs)).results [])
  (hargs:∀sp:Nat→Bool,(∀b<W.heap.size,sp b=true)→DataW.TrodAll enc P W' 0 sp true f.params.toList args.toList (s.fn H (ds++gs)).args pa)
  (hvars:∀sp:Nat→Bool,(∀b<W.heap.size,sp b=true)→DataW.TrodVars enc P W' sp s.vars (s.fn H (ds++gs)).vars pv)
  (hps:before=pa++pv) (hk:Kept W W')
  (hok:∀(j:Nat) (t:TypeId) (r:Value),f.resultTypes[j]? = some t→(v.resultList f.resultTypes.size)[j]? = some r→Value.okWide P W' .any 0 t r) :
  s.post enc P f apart fresh handsOn again W args v W':=by
 have hlt:=hW.lt
 refine ⟨ds,gs,before,[],pa,pv,hW,hres _ _ _,hargs _ (fun b hb=>by simpa using hb),hvars _ (fun b hb=>by simpa using hb),World.keptBut_mono (fun p hp=>⟨hp,?_⟩) (hk.but (· ∈ before)),fun _=>?_⟩
 ·rw [hps,List.mem_append] at hp
  exact Or.inr hp
 ·obtain ⟨_,_,_,_,_,hz,hn⟩:=hW
  refine ⟨hok,_,_,([]++pa)++pv,⟨[]++pa,pv,trodAll_append (hargs _ (fun _ _=>rfl)) (hres _ _ _),hvars _ (fun _ _=>rfl),rfl,?_,?_⟩,?_⟩
  ·intro b off hp
   have hm:MemPlace.cell b off ∈ before:=by rw [hps];simpa using hp
   have h1:=hz b off hm
   have h2:b<W.heap.size:=hlt _ hm
   have h4:W.heap[b]? = some W.heap[b]:=Array.getElem?_eq_getElem h2
   have h3:=hk.heap b _ h4
   unfold World.frozen? at h1 ⊢
   dsimp only at h1 ⊢
   rw [h4] at h1
   rw [h3]
   exact h1
  ·intro ha
   have:=hn ha
   rw [hps] at this
   simpa using this
  ·intro p hp _
   rw [hps]
   simpa using hp
def laidU : List (String × DataW Unit) := [("replevin/object.usages", Rows.laid_replevin_object_usages)]
theorem gUsg : prog.globalNamed "replevin/object.usages" = some 0 := by kernel_rfl
theorem tUsg:(prog.globals[0]?).map (·.type)=some 279:=by kernel_rfl
theorem plUsg:plainT prog 5 279=true:=by decide +kernel
theorem rdUsg (w:World):DataW.trod (fun _=>()) prog w 0 (fun _=>true) false 8 279 (usages.flatMap uf)=some (Rows.laid_replevin_object_usages,[]):=by kernel_rfl
theorem UR {W:World} (h:laidMetH prog laidU W):Usg.p fun b=>W.heap[b]?:=by
 rw [MakeChecks.laidMetH_plain _ _ _ (by kernel_rfl)] at h
 obtain ⟨ps,⟨g0,t0,cs0,f0,p0,q0,hg0,ht0,hv0,hd0,_,_⟩,_,_⟩:=h
 obtain rfl:=Option.some.inj (gUsg.symm.trans hg0)
 obtain rfl:=Option.some.inj (tUsg.symm.trans ht0)
 have hcs:cs0.toList=usages.flatMap uf:=trod_inj (enc':=fun _=>()) _ _ _ _ W W _ _ _ _ _ _ _ _ _ _ plUsg hd0 (rdUsg W) rfl
 unfold World.var? at hv0
 rw [hg0] at hv0
 simp only [Option.bind_some] at hv0
 split at hv0
 ·rename_i cs t fr hb
  obtain rfl:=Option.some.inj hv0
  exact ⟨t,fr,by rw [←hcs];simpa using hb⟩
 ·cases hv0
inductive SK where
 | b
 | i (k:IntKind)
 | s
def sksF (g:TypeId→Option (List SK)):List Field→Option (List SK)
 | []=>some []
 | f::fs=>match g f.type,sksF g fs with
  | some a,some r=>some (a++r)
  | _,_=>none
def sks (P:Program):Nat→TypeId→Option (List SK)
 | 0,_=>none
 | k+1,t=>match P.underlying t with
  | some .bool=>some [.b]
  | some (.int ik)=>some [.i ik]
  | some .string=>some [.s]
  | some (.struct fs)=>sksF (sks P k) fs.toList
  | some (.array n e)=>(sks P k e).map fun l=>(List.replicate n l).flatten
  | _=>none
def CellOK (M:Nat):SK→Value→Prop
 | .b,v=>∃b,v = .bool b
 | .i k,v=>∃z,v = .int k z∧(Lit.int k z).wf=true
 | .s,v=>∃s:ByteArray,v = .string s∧s.size≤M
def CellsOK (M:Nat):List SK→List Value→Prop
 | [],[]=>True
 | k::ks,v::vs=>CellOK M k v∧CellsOK M ks vs
 | _,_=>False
theorem Xe {M:Nat}:∀{a b:List SK} {x y:List Value},CellsOK M a x→CellsOK M b y→CellsOK M (a++b) (x++y)
 | [],_,[],_,_,h=>h
 | _::_,_,_::_,_,⟨h1,h2⟩,h=>⟨h1,Xe h2 h⟩
theorem X9 {M M':Nat} (hM:M≤M'):∀{a:List SK} {x:List Value},CellsOK M a x→CellsOK M' a x
 | [],[],_=>trivial
 | k::_,_::_,⟨h1,h2⟩=>⟨by
   cases k with
   | b=>exact h1
   | i k=>exact h1
   | s=>obtain ⟨s,hs,hl⟩:=h1;exact ⟨s,hs,Nat.le_trans hl hM⟩,X9 hM h2⟩
theorem VY:∀{l:List (DataW H)} {d:DataW H},d ∈ l→Rows.uptoBulk d≤Rows.uptoBulkAll l
 | c::l,d,h=>by
  rcases List.mem_cons.1 h with rfl|h
  ·simp only [Rows.uptoBulkAll];omega
  ·have:=VY h
   simp only [Rows.uptoBulkAll];omega
theorem sksF_ok {M:Nat} {g:TypeId→Option (List SK)}:∀(fs:List Field) (o total:Nat) (cs:List Value) (ks:List SK),contig P o fs=some total→cs.length=total→sksF g fs=some ks→
  (∀f ∈ fs,∀k,g f.type=some k→CellsOK M k ((cs.drop f.offset).take (P.cellsOf f.type)))→CellsOK M ks (cs.drop o)
 | [],o,total,cs,ks,h,h1,h2,_=>by
  simp only [contig,Option.some.injEq] at h
  simp only [sksF,Option.some.injEq] at h2
  rw [←h2,List.drop_eq_nil_of_le (by omega)];trivial
 | f::fs,o,total,cs,ks,h,h1,h2,hp=>by
  unfold contig at h
  split at h
  ·rename_i ho
   unfold sksF at h2
   split at h2
   ·rename_i a r ha hr
    obtain rfl:=Option.some.inj h2
    have ih:=sksF_ok fs (o+P.cellsOf f.type) total cs r h h1 hr fun g hg=>hp g (by simp [hg])
    have h3:=hp f (by simp) a ha
    rw [ho] at h3
    rw [←List.take_append_drop (P.cellsOf f.type) (cs.drop o),List.drop_drop]
    exact Xe h3 ih
   ·cases h2
  ·cases h
theorem arr_cells {M c:Nat} {l:List SK}:∀(m:Nat) (cs:List Value),cs.length=m * c→(∀i,i<m→CellsOK M l ((cs.drop (i * c)).take c))→CellsOK M (List.replicate m l).flatten cs
 | 0,cs,h,_=>by
  have:cs=[]:=List.length_eq_zero_iff.1 (by omega)
  subst this;trivial
 | m+1,cs,h,hp=>by
  have h0:=hp 0 (by omega)
  rw [Nat.zero_mul,List.drop_zero] at h0
  have hl:cs.length=m * c+c:=by rw [h,Nat.succ_mul]
  have ih:=arr_cells (M:=M) (c:=c) (l:=l) m (cs.drop c) (by rw [List.length_drop];omega) fun i hi=>by
   have:=hp (i+1) (by omega)
   rw [List.drop_drop,show c+i * c=(i+1) * c by rw [Nat.succ_mul];omega]
   exact this
  rw [List.replicate_succ,List.flatten_cons,←List.take_append_drop c cs]
  exact Xe h0 ih
theorem WE:∀(n k:Nat) (t:TypeId) (w:World) (base:Nat) (sp:Nat→Bool) (hd:Bool) (cs:List Value) (x:DataW H×List MemPlace) (ks:List SK),plainT P k t=true→sks P k t=some ks→DataW.trod enc P w base sp hd n t cs=some x→CellsOK (Rows.uptoBulk x.1) ks cs
 | 0,_,_,_,_,_,_,_,_,_,_,_,h=>by simp [DataW.trod] at h
 | n+1,0,_,_,_,_,_,_,_,_,hp,_,_=>by simp [plainT] at hp
 | n+1,k+1,t,w,base,sp,hd,cs,x,ks,hp,hk,h=>by
  unfold plainT at hp
  unfold sks at hk
  split at hp
  ·rename_i hu
   rw [hu] at hk
   obtain rfl:=Option.some.inj hk
   obtain ⟨b,rfl,rfl⟩:=DataW.trod_bool hu h
   exact ⟨⟨b,rfl⟩,trivial⟩
  ·rename_i hu
   rw [hu] at hk
   obtain rfl:=Option.some.inj hk
   obtain ⟨z,rfl,rfl,hz⟩:=DataW.trod_int hu h
   exact ⟨⟨z,rfl,hz⟩,trivial⟩
  ·rename_i hu
   rw [hu] at hk
   obtain rfl:=Option.some.inj hk
   obtain ⟨s,rfl,rfl,hs⟩:=DataW.trod_string hu h
   refine ⟨⟨s,rfl,?_⟩,trivial⟩
   have hsz:s.data.toList.length=s.size:=by simp
   simp only [Rows.uptoBulk];omega
  ·rename_i fs hu
   rw [hu] at hk
   rw [Bool.and_eq_true,List.all_eq_true,beq_iff_eq] at hp
   simp only [DataW.trod,hu] at h
   split at h
   ·rename_i hl
    simp only [Option.map_eq_some_iff] at h
    obtain ⟨xs,hxs,rfl⟩:=h
    have:=sksF_ok (M:=Rows.uptoBulk (.agg (xs.map (·.1)))) (g:=sks P k) fs.toList 0 _ cs ks hp.2 hl hk fun f hf k' hk'=>by
     obtain ⟨i,hi,rfl⟩:=List.mem_iff_getElem.1 hf
     obtain ⟨y,hy1,hy2⟩:=Ys hxs i _ (List.getElem?_eq_getElem hi)
     refine X9 ?_ (WE n k _ w base sp hd _ y k' (hp.1 _ hf) hk' hy2)
     have hm:y.1 ∈ xs.map (·.1):=List.mem_map.2 ⟨y,List.mem_of_getElem? hy1,rfl⟩
     have:=VY hm
     simp only [Rows.uptoBulk];omega
    simpa using this
   ·cases h
  ·rename_i m e hu
   rw [hu] at hk
   rw [Bool.and_eq_true,beq_iff_eq] at hp
   simp only [DataW.trod,hu] at h
   split at h
   ·rename_i hl
    simp only [Option.map_eq_some_iff] at h hk
    obtain ⟨xs,hxs,rfl⟩:=h
    obtain ⟨l,hl2,rfl⟩:=hk
    refine arr_cells m cs (by rw [hl,hp.2]) fun i hi=>?_
    have hi':(List.range m)[i]? = some i:=by simp [hi]
    obtain ⟨y,hy1,hy2⟩:=Ys hxs i _ hi'
    refine X9 ?_ (WE n k _ w base sp hd _ y l hp.1 hl2 hy2)
    have hm:y.1 ∈ xs.map (·.1):=List.mem_map.2 ⟨y,List.mem_of_getElem? hy1,rfl⟩
    have:=VY hm
    simp only [Rows.uptoBulk];omega
   ·cases h
  ·cases hp
end
section
open Go.ChangeShapes Go.WideShapes Go.ChangeAt
theorem cells_at {W:World} {a:Addr} {n:Nat} {cs:List Value} (h:W.cells? 0 a n=some cs) (hn:0<n) :
  a.spot=none∧∃(c:Array Value) (fz:Nat×Nat×Nat),W.heap[a.block]? = some (.cells c fz.1 fz.2)∧cs.length=n∧∀j,j<n→c[a.off+j]? = cs[j]?:=by
 unfold World.cells? at h
 rw [if_pos (Nat.zero_le _)] at h
 have hl:cs.length=n:=by
  have:∀{α β:Type} {f:α→Option β} {l:List α} {r:List β},l.mapM f=some r→r.length=l.length:=fun {α β f} l=>by
   induction l with
   | nil=>intro r h;simp at h;subst h;rfl
   | cons x l ih=>
    intro r h
    rw [List.mapM_cons] at h
    simp only [Option.bind_eq_bind,Option.bind_eq_some_iff,Option.pure_def,Option.some.injEq] at h
    obtain ⟨y,_,ys,hys,rfl⟩:=h
    simp [ih hys]
  simpa using this h
 have hget:∀j,j<n→∃v,cs[j]? = some v∧W.cell? (a.add j)=some v:=fun j hj=>Ys h j j (by simp [hj])
 obtain ⟨v0,_,h0⟩:=hget 0 hn
 have ha0:a.add 0=a:=by simp [Addr.add]
 rw [ha0] at h0
 unfold World.cell? at h0
 split at h0
 ·rename_i c T fz hb
  split at h0
  ·cases h0
  ·rename_i hsp
   have hsp:a.spot=none:=by simpa using hsp
   refine ⟨hsp,c,(T,fz),hb,hl,fun j hj=>?_⟩
   obtain ⟨v,hv1,hv2⟩:=hget j hj
   rw [hv1]
   obtain ⟨ab,ao,asp⟩:=a
   dsimp only at hsp hb ⊢
   subst hsp
   rw [Yw rfl] at hv2
   unfold World.cell? at hv2
   dsimp only at hv2
   rw [hb] at hv2
   simpa using hv2
 ·cases h0
theorem Kept.cell {W W':World} (h:Kept W W') {a:Addr} {v:Value} (hc:W.cell? a=some v):W'.cell? a=some v:=by
 unfold World.cell? at hc ⊢
 split at hc
 ·rename_i c T fz hb
  rw [h.heap _ _ hb]
  exact hc
 ·cases hc
theorem Kept.cells {W W':World} (h:Kept W W') {a:Addr} {n:Nat} {cs:List Value} (hc:W.cells? 0 a n=some cs):W'.cells? 0 a n=some cs:=by
 unfold World.cells? at hc ⊢
 rw [if_pos (Nat.zero_le _)] at hc ⊢
 exact XT (fun i _ x hx=>h.cell hx) hc
variable {enc:TypeId×Value→H} {P:Program}
theorem UN:∀(l:List (DataW H)),l.length≤Rows.uptoBulkAll l
 | []=>by simp [Rows.uptoBulkAll]
 | d::l=>by
  have:=UN l
  have h1:1≤Rows.uptoBulk d:=by
   cases d with
   | lit x=>cases x<;>simp only [Rows.uptoBulk]<;>omega
   | _=>simp only [Rows.uptoBulk];omega
  simp only [Rows.uptoBulkAll,List.length_cons];omega
theorem UW {α:Type} {p:Nat→α→Prop}:∀(n:Nat),(∀i,i<n→∃y,p i y)→∃es:List α,es.length=n∧∀i y,es[i]? = some y→p i y
 | 0,_=>⟨[],rfl,by simp⟩
 | n+1,h=>by
  obtain ⟨es,hl,he⟩:=UW n fun i hi=>h i (by omega)
  obtain ⟨y,hy⟩:=h n (by omega)
  refine ⟨es++[y],by simp [hl],fun i z hz=>?_⟩
  by_cases hi:i<n
  ·exact he i z (by rwa [List.getElem?_append_left (by omega)] at hz)
  ·rw [List.getElem?_append_right (by omega)] at hz
   have h0:i - es.length=0:=by
    have:=(List.getElem?_eq_some_iff.1 hz).1
    simp at this;omega
   rw [h0] at hz
   simp at hz
   subst hz
   rw [show i=n by omega];exact hy
theorem drop_flat {α:Type} {fa:α→List Value} {sz:Nat} (hsz:∀e,(fa e).length=sz) (l:List Value):∀(es:List α) (off:Nat),(∀i e,es[i]? = some e→∀j,j<sz→l[off+i * sz+j]? = (fa e)[j]?)→l.drop off=es.flatMap fa++l.drop (off+es.length * sz)
 | [],off,_=>by simp
 | e::es,off,h=>by
  have h1:(l.drop off).take sz=fa e:=by
   apply List.ext_getElem?
   intro j
   rw [List.getElem?_take,List.getElem?_drop]
   split
   ·rename_i hj
    have:=h 0 e rfl j hj
    simpa using this
   ·rename_i hj
    rw [List.getElem?_eq_none (by rw [hsz];omega)]
  have ih:=drop_flat hsz l es (off+sz) fun i e' he j hj=>by
   have:=h (i+1) e' (by simpa using he) j hj
   rw [←this];congr 1;rw [Nat.add_mul];omega
  rw [←List.take_append_drop sz (l.drop off),h1,List.drop_drop,ih,List.flatMap_cons,List.append_assoc,List.length_cons]
  congr 3;rw [Nat.add_mul];omega
theorem mapM_len {α β:Type} {f:α→Option β} {l:List α}:∀{r:List β},l.mapM f=some r→r.length=l.length:=by
 induction l with
 | nil=>intro r h;simp at h;subst h;rfl
 | cons x l ih=>
  intro r h
  rw [List.mapM_cons] at h
  simp only [Option.bind_eq_bind,Option.bind_eq_some_iff,Option.pure_def,Option.some.injEq] at h
  obtain ⟨y,_,ys,hys,rfl⟩:=h
  simp [ih hys]
theorem open_slC {α:Type} {fa:α→List Value} {Q:α→Nat→Prop} {t e k:Nat} {W:World} {v:Value} {d:DataW H} {p:List MemPlace} (T:Nat) (hu:P.underlying t=some (.slice e)) (hpl:plainT P k e=true) (hc0:0<P.cellsOf e) (hsz:∀y,(fa y).length=P.cellsOf e)
  (hopen:∀(n:Nat) (cs:List Value) (x:DataW H×List MemPlace),DataW.trod enc P W 0 (fun _=>true) true n e cs=some x→∃y,cs=fa y∧Q y (Rows.uptoBulk x.1)) (hmono:∀y M M',Q y M→M≤M'→Q y M')
  (hv:∃a len cap,v = .slice a len cap) (h:DataW.Trod enc P W 0 (fun _=>true) true t v d p) :
  ∃(o:Option Addr) (cap:Nat) (es:List α),v = .slice o es.length cap∧(Sl T fa o cap es).p (fun b=>W.heap[b]?)∧es.length≤Rows.uptoBulk d∧(∀y ∈ es,Q y (Rows.uptoBulk d))∧
   ∀(W':World) (sp:Nat→Bool),Kept W W'→(∀b<W.heap.size,sp b=true)→DataW.Trod enc P W' 0 sp true t v d p:=by
 obtain ⟨a,len,cap,rfl⟩:=hv
 obtain ⟨n,hn⟩:=h
 cases n with
 | zero=>simp [DataW.trod] at hn
 | succ n=>
  have hcl:(Value.slice a len cap).cells.toList=[.slice a len cap]:=rfl
  rw [hcl] at hn
  cases a with
  | none=>
   have h0:len=0∧cap=0:=by
    unfold DataW.trod at hn
    rw [hu] at hn
    split at hn<;>simp_all
   obtain ⟨rfl,rfl⟩:=h0
   have hd:d = .nil∧p=[]:=by
    simp [DataW.trod,hu] at hn
    exact ⟨hn.1.symm,hn.2⟩
   obtain ⟨rfl,rfl⟩:=hd
   exact ⟨none,0,[],rfl,⟨by simp,.inl rfl⟩,by simp,by simp,fun W' sp _ _=>⟨n+1,by rw [hcl];simp [DataW.trod,hu]⟩⟩
  | some a=>
   simp only [DataW.trod,hu] at hn
   split at hn
   ·rename_i hb
    simp only [Option.bind_eq_some_iff,if_true,Option.map_eq_some_iff] at hn
    obtain ⟨elems,he,rest,hr,hx⟩:=hn
    simp only [Prod.mk.injEq] at hx
    obtain ⟨rfl,rfl⟩:=hx
    have hle:=mapM_len he
    rw [List.length_range] at hle
    have hbulk:∀x ∈ elems,Rows.uptoBulk x.1≤Rows.uptoBulk (DataW.slice (elems.map (·.1)) (rest.map (·.1))):=fun x hx=>by
     have:=VY (List.mem_map.2 ⟨x,hx,rfl⟩:x.1 ∈ elems.map (·.1))
     simp only [Rows.uptoBulk];omega
    obtain ⟨es,hel,hes⟩:=UW (p:=fun i y=>∃x,x ∈ elems∧W.cells? 0 (a.add (i * P.cellsOf e)) (P.cellsOf e)=some (fa y)∧Q y (Rows.uptoBulk x.1)) len fun i hi=>by
     obtain ⟨x,hx1,hx2⟩:=Ys he i i (by simp [hi])
     simp only [Option.bind_eq_some_iff] at hx2
     obtain ⟨cs,hcs,htr⟩:=hx2
     obtain ⟨y,rfl,hy⟩:=hopen n cs x htr
     exact ⟨y,x,List.mem_of_getElem? hx1,hcs,hy⟩
    refine ⟨some a,cap,es,by rw [hel],⟨by omega,?_⟩,?_,?_,?_⟩
    ·by_cases hl0:es=[]
     ·exact .inl hl0
     ·right
      have hpos:0<es.length:=List.length_pos_iff.2 hl0
      obtain ⟨x0,_,hc1,_⟩:=hes 0 es[0] (List.getElem?_eq_getElem hpos)
      have ha0:a.add (0 * P.cellsOf e)=a:=by simp [Addr.add]
      rw [ha0] at hc1
      obtain ⟨hsp,c,fz,hblk,_,hcell⟩:=cells_at hc1 hc0
      obtain ⟨ab,ao,asp⟩:=a
      dsimp only at hsp hblk hcell
      subst hsp
      have hlt:ao<c.size:=by
       have h1:=hcell 0 hc0
       have h2:(fa es[0])[0]?≠none:=by
        rw [List.getElem?_eq_getElem (by rw [hsz];exact hc0)];simp
       rw [←h1] at h2
       exact Nat.lt_of_not_le fun h=>h2 (by simpa using Array.getElem?_eq_none_iff.2 h)
      have hdrop:=drop_flat hsz c.toList es ao fun i y hy j hj=>by
       obtain ⟨x,_,hci,_⟩:=hes i y hy
       rw [Yw rfl] at hci
       obtain ⟨_,c',fz',hblk',_,hcell'⟩:=cells_at hci hc0
       dsimp only at hblk' hcell'
       rw [hblk] at hblk'
       injection hblk' with hblk'
       injection hblk' with e1
       subst e1
       rw [←hcell' j hj];simp
      refine ⟨ab,c,fz,c.toList.take ao,c.toList.drop (ao+es.length * P.cellsOf e),?_,hblk,?_⟩
      ·rw [List.length_take,Nat.min_eq_left (by simpa using Nat.le_of_lt hlt)]
      ·rw [←hdrop,List.take_append_drop]
    ·have:=UN (elems.map (·.1))
     simp only [List.length_map] at this
     simp only [Rows.uptoBulk];omega
    ·intro y hy
     obtain ⟨i,hi,rfl⟩:=List.mem_iff_getElem.1 hy
     obtain ⟨x,hx,_,hq⟩:=hes i _ (List.getElem?_eq_getElem hi)
     exact hmono _ _ _ hq (hbulk x hx)
    ·intro W' sp hk hsp
     have hel1:∀i x,((W.cells? 0 (a.add (i * P.cellsOf e)) (P.cellsOf e)).bind (DataW.trod enc P W 0 (fun _=>true) true n e))=some x→((W'.cells? 0 (a.add (i * P.cellsOf e)) (P.cellsOf e)).bind (DataW.trod enc P W' 0 sp true n e))=some x:=fun i x hx=>by
      simp only [Option.bind_eq_some_iff] at hx ⊢
      obtain ⟨cs,hcs,htr⟩:=hx
      exact ⟨cs,hk.cells hcs,(WA n _ _ W 0 _ _ _ _ hpl htr).2 W' 0 sp true⟩
     refine ⟨n+1,?_⟩
     rw [hcl]
     simp only [DataW.trod,hu]
     rw [if_pos hb]
     simp only [Option.bind_eq_some_iff,Option.map_eq_some_iff]
     refine ⟨elems,XT (fun i _ x hx=>hel1 i x hx) he,rest,?_,rfl⟩
     by_cases hcap:cap=len
     ·have hrest:rest=[]:=by
       subst hcap
       simp at hr
       exact hr
      subst hrest
      subst hcap
      split<;>simp
     ·have hlt:a.block<W.heap.size:=by
       obtain ⟨x,_,hx2⟩:=Ys hr 0 0 (by rw [List.getElem?_range (by omega)])
       simp only [Option.bind_eq_some_iff] at hx2
       obtain ⟨cs,hcs,_⟩:=hx2
       obtain ⟨_,c,fz,hblk,_⟩:=cells_at hcs hc0
       have h1:=(Array.getElem?_eq_some_iff.1 hblk).1
       have h2:(a.add ((len+0) * P.cellsOf e)).block=a.block:=by unfold Addr.add;split<;>rfl
       rwa [h2] at h1
      rw [if_pos (hsp _ hlt)]
      exact XT (fun j _ x hx=>hel1 (len+j) x hx) hr
   ·cases hn
theorem open_sl {α:Type} {fa:α→List Value} {Q:α→Nat→Prop} {t e k:Nat} {W:World} {base:Nat} {v:Value} {d:DataW H} {p:List MemPlace} (T:Nat) (hu:P.underlying t=some (.slice e)) (hpl:plainT P k e=true) (hc0:0<P.cellsOf e) (hsz:∀y,(fa y).length=P.cellsOf e)
  (hopen:∀(n:Nat) (cs:List Value) (x:DataW H×List MemPlace),DataW.trod enc P W 0 (fun _=>true) true n e cs=some x→∃y,cs=fa y∧Q y (Rows.uptoBulk x.1)) (hmono:∀y M M',Q y M→M≤M'→Q y M')
  (hv:Value.okWide P W .any base t v) (h:DataW.Trod enc P W 0 (fun _=>true) true t v d p) :
  ∃(o:Option Addr) (cap:Nat) (es:List α),v = .slice o es.length cap∧(Sl T fa o cap es).p (fun b=>W.heap[b]?)∧es.length≤Rows.uptoBulk d∧(∀y ∈ es,Q y (Rows.uptoBulk d))∧
   ∀(W':World) (sp:Nat→Bool),Kept W W'→(∀b<W.heap.size,sp b=true)→DataW.Trod enc P W' 0 sp true t v d p:=
 open_slC T hu hpl hc0 hsz hopen hmono (okWide_slice hu hv) h
end
section
open Go.ChangeShapes Go.WideShapes Go.ChangeAt
theorem own:ownKnob prog.godebug=none:=by kernel_rfl
theorem u8_of {n:Int} (h:(Lit.int .u8 n).wf=true):∃c:UInt8,n=(c.toNat:Int):=by
 have h1:0≤n∧n<256:=by
  simp [Lit.wf,IntKind.min,IntKind.max,IntKind.bits,IntKind.signed] at h
  omega
 exact ⟨UInt8.ofNat n.toNat,by simp;omega⟩
noncomputable def laidWorld (os:Os):World:=
 {World.holding prog os ⟨#[],#[],[]⟩ with heap:=(World.holding prog os ⟨#[],#[],[]⟩).heap.modify 0 fun
   | .cells _ t frozen=>.cells (usages.flatMap uf).toArray t frozen
   | o=>o}
theorem XI {M:Nat} {k:IntKind} {ks:List SK} {cs:List Value} (h:CellsOK M (.i k::ks) cs):∃z cs',cs = .int k z::cs'∧(Lit.int k z).wf=true∧CellsOK M ks cs':=by
 obtain _|⟨v,cs⟩:=cs
 ·exact h.elim
 ·obtain ⟨⟨z,rfl,hz⟩,h⟩:=h
  exact ⟨z,cs,rfl,hz,h⟩
theorem cells_s {M:Nat} {ks:List SK} {cs:List Value} (h:CellsOK M (.s::ks) cs):∃(s:ByteArray) (cs':List Value),cs = .string s::cs'∧s.size≤M∧CellsOK M ks cs':=by
 obtain _|⟨v,cs⟩:=cs
 ·exact h.elim
 ·obtain ⟨⟨z,rfl,hz⟩,h⟩:=h
  exact ⟨z,cs,rfl,hz,h⟩
theorem cells_nil {M:Nat} {cs:List Value} (h:CellsOK M [] cs):cs=[]:=by
 cases cs
 ·rfl
 ·exact h.elim
section
variable {enc:TypeId×Value→H} {W:World} {base:Nat} {v:Value} {d:DataW H} {p:List MemPlace}
theorem aggS {t:TypeId} {fs:Array Field} (hu:prog.underlying t=some (.struct fs)) (hv:Value.okWide prog W .any base t v):∃cs,v = .agg cs:=
 let ⟨cs,h,_⟩:=okWide_struct hu hv
 ⟨cs,h⟩
theorem open_agg {t:TypeId} {ks:List SK} (hpl:plainT prog 5 t=true) (hsk:sks prog 5 t=some ks) (hag:∃cs,v = .agg cs) (h:DataW.Trod enc prog W 0 (fun _=>true) true t v d p) :
  ∃cs:List Value,v = .agg cs.toArray∧CellsOK (Rows.uptoBulk d) ks cs∧p=[]∧∀w' base' sp' hd',DataW.Trod enc prog w' base' sp' hd' t v d []:=by
 obtain ⟨cs,rfl⟩:=hag
 obtain ⟨n,hn⟩:=h
 have hc:=WE n 5 _ W 0 _ _ _ _ _ hpl hsk hn
 obtain ⟨hp,hr⟩:=WA n 5 _ W 0 _ _ _ _ hpl hn
 dsimp only at hp
 subst hp
 exact ⟨cs.toList,rfl,hc,rfl,fun w' base' sp' hd'=>⟨n,hr w' base' sp' hd'⟩⟩
end
end
section
open Go.ChangeShapes Go.WideShapes Go.ChangeAt

end
section
open Go.ChangeShapes Go.WideShapes Go.ChangeAt
section
variable {enc:TypeId×Value→H} {W:World} {base:Nat} {v:Value} {d:DataW H} {p:List MemPlace}
theorem plOp7:plainT prog 5 76=true:=by decide +kernel
theorem skOp7:sks prog 5 76=some [.i .u8,.i .u8,.i .i64,.i .i64,.s,.i .i64,.i .i64,.i .i64,.i .i64,.i .i64,.i .i64,.s]:=by kernel_rfl
theorem open_o7 {M:Nat} {cs:List Value} (h:CellsOK M [.i .u8,.i .u8,.i .i64,.i .i64,.s,.i .i64,.i .i64,.i .i64,.i .i64,.i .i64,.i .i64,.s] cs):∃c:Op7,cs=op7f c∧c.t.size≤M:=by
 obtain ⟨z1,cs,rfl,h1,h⟩:=XI h
 obtain ⟨z2,cs,rfl,h2,h⟩:=XI h
 obtain ⟨z3,cs,rfl,_,h⟩:=XI h
 obtain ⟨z4,cs,rfl,_,h⟩:=XI h
 obtain ⟨s5,cs,rfl,h5,h⟩:=cells_s h
 obtain ⟨y1,cs,rfl,_,h⟩:=XI h
 obtain ⟨y2,cs,rfl,_,h⟩:=XI h
 obtain ⟨y3,cs,rfl,_,h⟩:=XI h
 obtain ⟨y4,cs,rfl,_,h⟩:=XI h
 obtain ⟨y5,cs,rfl,_,h⟩:=XI h
 obtain ⟨y6,cs,rfl,_,h⟩:=XI h
 obtain ⟨s7,cs,rfl,_,h⟩:=cells_s h
 obtain rfl:=cells_nil h
 obtain ⟨c1,rfl⟩:=u8_of h1
 obtain ⟨c2,rfl⟩:=u8_of h2
 exact ⟨⟨c1,c2,z3,z4,s5,⟨y1,y2,y3,y4,y5,y6,s7⟩⟩,rfl,h5⟩
theorem open_ops7 (hv:Value.okWide prog W .any base 51 v) (h:DataW.Trod enc prog W 0 (fun _=>true) true 51 v d p) :
  ∃(o:Option Addr) (cap:Nat) (es:List Op7),v = .slice o es.length cap∧(Sl 76 op7f o cap es).p (fun b=>W.heap[b]?)∧es.length≤Rows.uptoBulk d∧(∀y ∈ es,y.t.size≤Rows.uptoBulk d)∧
   ∀(W':World) (sp:Nat→Bool),Kept W W'→(∀b<W.heap.size,sp b=true)→DataW.Trod enc prog W' 0 sp true 51 v d p:=
 open_sl (fa:=op7f) (Q:=fun y M=>y.t.size≤M) _ underlying51 plOp7 (by decide +kernel) (fun _=>show 12=_ by decide +kernel) (fun n cs x hx=>open_o7 (WE n 5 _ W 0 _ _ _ _ _ plOp7 skOp7 hx)) (fun _ _ _ h1 h2=>Nat.le_trans h1 h2) hv h
theorem open_op7 (hv:Value.okWide prog W .any base 76 v) (h:DataW.Trod enc prog W 0 (fun _=>true) true 76 v d p) :
  ∃o:Op7,v=o.v∧p=[]∧∀w' base' sp' hd',DataW.Trod enc prog w' base' sp' hd' 76 v d []:=by
 obtain ⟨cs,rfl,h,hp,hr⟩:=open_agg plOp7 skOp7 (aggS underlying76 hv) h
 obtain ⟨o,ho,_⟩:=open_o7 h
 refine ⟨o,?_,hp,hr⟩
 have:cs.toArray=(op7f o).toArray:=by rw [ho]
 first
  | (show Value.agg _=Value.agg _;congr 1)
  | exact congrArg Value.agg this
end
end
end Go.Proofs.YtdkndahndgkmnaaGreatDoor
