/-
  The state in which the statements of layer 27 begin: start.
  Rules for texts that are joined.
  The contract of consequence.Compare.
  Contracts of the statements' own functions: names, out, build.
  The model of layer 27 in memory; find, get, read.
  The model of layer 27: read, zeros, write.
  The model of layer 27: resize, set, make.
  The model of layer 27: make, birth, do.
  A name is taken out of a search tree, and out of the sorted list that it holds; no program in sight.
  The contracts of package state: Without, in general.
  The contracts of packages state and view: Without, Apply and After, where some changes take names out.
  What a function does with a view: it reads, sets and deletes objects. A state that has what was read gives the same.
  Slices that stay: the beginning of one, and one appended to another.
  A writer that may have failed; Encode of what does not fit.
  Contracts of strings.Builder: copyCheck, Write, String.
  Contracts of the package inode: Read, Contents.
  Contracts of the package inode: Contents, cut, Resize where it succeeds.
  Contracts of the package inode: cut, Resize where it succeeds.
  The functions of package inode as what they do with a view: programs of reads, sets and deletes; no program in sight.
  The contracts of package inode over any view, with all errors: Read, Contents, Write, Resize, Set, Make.
  The model of layer 27: do. What an operation does in a view: perform.
  What a view holds of a file: how Write, Resize and Read see its bytes.
  When a view and the model of layer 27 hold the same; no program in sight.
  Operations of layer 27 in a view and in the model: one file changes; write.
  Operations of layer 27 in a view and in the model: resize, set, make.
  Operations of layer 27 in a view and in the model: make; every operation gives the same.
  The law InodeSizes, walked.
  Conditions: those that each theorem states.
-/
import Derived.Test.YtdkndahndgkmnaaGreatDoorT3
import Derived.Test.YtdkndahndgkmnaaGreatDoorT2
import Derived.Test.YtdkndahndgkmnaaGreatDoorT1
import Derived.Lib.Builder
import Derived.Lib.UnsafeStr
import Derived.Laws.Externs
set_option maxRecDepth 10000
namespace Go.Proofs.YtdkndahndgkmnaaGreatDoor
open Go.RowKit Go.Proofs.Tryz
def nds27:List Ino:=[⟨1,0,0,511,0,1,⟨#[]⟩⟩,⟨1,5,0,0,0,0,⟨#[]⟩⟩,⟨2,0,0,0,0,0,⟨#[]⟩⟩,⟨3,0,0,0,0,0,⟨#[97,47,98]⟩⟩]
def nd27 (i:Nat):Ino:=nds27.getD i ndF
def XF (i:Nat):Bi:=⟨Zg (i % 2),((i / 2:Nat):Int)⟩
def YI (i:Nat):List Bi:=(List.range i).map XF
def ns27 (i:Nat):List Int:=[(((i+1) / 2:Nat):Int),((i / 2:Nat):Int),0]
def cs27:Nat→List Ch
 | 0=>[]
 | i+1=>cs27 i++[⟨cnm (Zg (i % 2)),cvs ⟨((i / 2:Nat):Int)+1,0,0⟩,false⟩]++[⟨nnm (XF i),iencS (nd27 i),false⟩]
def ms27:Nat→List (ByteArray×Int)
 | 0=>[]
 | i+1=>mset (Zg (i % 2)) (((i / 2:Nat):Int)+1) (ms27 i)
theorem nd27_ok {i:Nat} (h:i<4):nds27[i]? = some (nd27 i)∧ichk (nd27 i)=0∧(nd27 i).sz=0:=by
 have h1:isE ⟨#[]⟩=true:=by simp [isE]
 have h2:isE ⟨#[97,47,98]⟩=false:=by simp [isE,Z0]
 match i,h with
 | 0,_=>refine ⟨rfl,?_,rfl⟩;show ichk ⟨1,0,0,511,0,1,⟨#[]⟩⟩=0;unfold ichk ifit;dsimp only;rw [if_neg (by omega),if_neg (by omega),if_neg (by simp [h1]),if_pos (by decide)]
 | 1,_=>refine ⟨rfl,?_,rfl⟩;show ichk ⟨1,5,0,0,0,0,⟨#[]⟩⟩=0;unfold ichk ifit;dsimp only;rw [if_neg (by omega),if_neg (by omega),if_neg (by simp [h1]),if_pos (by decide)]
 | 2,_=>refine ⟨rfl,?_,rfl⟩;show ichk ⟨2,0,0,0,0,0,⟨#[]⟩⟩=0;unfold ichk ifit;dsimp only;rw [if_neg (by omega),if_neg (by omega),if_neg (by simp [h1]),if_pos (by decide)]
 | 3,_=>
  refine ⟨rfl,?_,rfl⟩
  show ichk ⟨3,0,0,0,0,0,⟨#[97,47,98]⟩⟩=0
  have h3:tchk ⟨#[97,47,98]⟩=0:=by
   unfold tchk
   rw [if_neg (by simp [h2]),if_neg (by decide),if_neg (by simp [badt])]
  unfold ichk ifit
  dsimp only
  rw [if_neg (by omega),if_neg (by omega),if_neg (by simp),if_neg (by decide),h3]
theorem ns27_ok {i:Nat} (h:i<4):(ns27 i)[i % 2]? = some ((i / 2:Nat):Int)∧(ns27 i).set (i % 2) (((i / 2:Nat):Int)+1)=ns27 (i+1)∧(mget (Zg (i % 2)) (ms27 i)).getD 0=((i / 2:Nat):Int):=by
 match i,h with
 | 0,_=>exact ⟨rfl,rfl,rfl⟩
 | 1,_=>exact ⟨rfl,rfl,by decide +kernel⟩
 | 2,_=>exact ⟨rfl,rfl,by decide +kernel⟩
 | 3,_=>exact ⟨rfl,rfl,by decide +kernel⟩
theorem bi27:∀i,i≤4→BI i (cs27 i) (ns27 i) []
 | 0,_=>BI.init
 | i+1,h=>by
  have ih:=bi27 i (by omega)
  obtain ⟨n1,n2,_⟩:=ns27_ok (i:=i) (by omega)
  obtain ⟨d1,d2,d3⟩:=nd27_ok (i:=i) (by omega)
  have hn:=BI.next d2 d3 ih (by omega) n1 (by omega) true
  rw [n2,(BI.step d2 d3 ih (by omega) n1).2] at hn
  exact ⟨hn.len,hn.cl,hn.g,fun b u hb=>by cases hb⟩
theorem cs27_len:(lastL (cs27 4)).length≤12:=Nat.le_trans (VC _) (by simp [cs27])
theorem UQ (i:Nat) (h:i≤4):bchk (XF i)=0:=by
 unfold bchk XF
 rw [if_neg (by simp [YO]),if_pos (by dsimp only;omega)]
theorem cs27_fit:∀i,i≤4→∀c ∈ cs27 i,FitC c
 | 0,_,c,hc=>by cases hc
 | i+1,h,c,hc=>by
  have hs:=XD (i % 2)
  have h1:=W2 (ct_ok (z:=((i / 2:Nat):Int)+1) (by omega) (by omega))
  have h2:=Zw (nd27 i)
  simp only [cs27,List.mem_append,List.mem_singleton] at hc
  rcases hc with (hc|rfl)|rfl
  ·exact cs27_fit i (by omega) c hc
  ·exact Wg (Wb (YO _)) (by dsimp only;omega) rfl (by show (Zg (i % 2)).size≤_;omega) (Nat.zero_le _)
  ·exact Wg (Zx (UQ i (by omega))) (by dsimp only;omega) rfl (by show (Zg (i % 2)).size≤_;omega) (Nat.zero_le _)
def es27:Al:=applyE [] (vwr (cs27 4))
theorem vcall27_n {i:Nat} (h:i<4):vcall (cs27 4) (nnm (XF i))=some ⟨nnm (XF i),iencS (nd27 i),false⟩:=by
 have hc:∀(a b:Bi),nnm a=nnm b↔a=b:=fun a b=>⟨fun h=>by obtain ⟨a1,a2⟩:=a;obtain ⟨b1,b2⟩:=b;simp [nnm] at h;simp [h],fun h=>by rw [h]⟩
 have hk:∀(w:ByteArray) (b:Bi),¬cnm w=nnm b:=fun w b=>by simp [cnm,nnm]
 simp only [cs27,YT,hc,hk,if_false]
 match i,h with
 | 0,_=>rw [if_neg (by decide),if_neg (by decide),if_neg (by decide),if_pos rfl]
 | 1,_=>rw [if_neg (by decide),if_neg (by decide),if_pos rfl]
 | 2,_=>rw [if_neg (by decide),if_pos rfl]
 | 3,_=>rw [if_pos rfl]
theorem vcall27_b (b:Bi) (k:Int):vcall (cs27 4) (bnm b k)=none:=by
 have h1:∀a,¬nnm a=bnm b k:=fun a=>by simp [bnm,nnm]
 have h2:∀w,¬cnm w=bnm b k:=fun w=>by simp [bnm,cnm]
 simp only [cs27,YT,h1,h2,if_false]
 rfl
theorem es27_n {i:Nat} (h:i<4):vget es27 [] (nnm (XF i))=(iencS (nd27 i),true):=by
 have h1:getO (nnm (XF i)) es27=some (iencS (nd27 i)):=by rw [es27,Wo,vcall27_n h]
 unfold vget
 rw [if_neg (by simp [Zx (UQ i (by omega))])]
 show ((getO (nnm (XF i)) es27).getD ⟨#[]⟩,(getO (nnm (XF i)) es27).isSome)=_
 rw [h1];rfl
theorem es27_b (b:Bi) (k:Int):vget es27 [] (bnm b k)=(⟨#[]⟩,false):=by
 have h1:getO (bnm b k) es27=none:=by rw [es27,Wo,vcall27_b];rfl
 unfold vget
 split
 ·rfl
 ·show ((getO (bnm b k) es27).getD ⟨#[]⟩,(getO (bnm b k) es27).isSome)=_
  rw [h1];rfl
theorem mk2_get {i:Nat}:([o1,mk2,mk3]:List ByteArray)[i % 2]? = some (Zg (i % 2)):=WW (by omega)
def St27:Post:=⟨Nat×Nat×Option Addr×Nat×Value×Value,fun q=>.tuple #[.pointer (some ⟨q.1,0,none⟩),.pointer (some ⟨q.2.1,0,none⟩),.bool true],fun _=>True,
 fun q=>[St (some ⟨q.1,0,none⟩) es27,Blk q.2.1 (.cells #[.slice q.2.2.1 4 q.2.2.2.1,q.2.2.2.2.1,q.2.2.2.2.2] 62),Sl 68 bcf q.2.2.1 q.2.2.2.1 (YI 4)],fun _=>[]⟩
theorem bsz (a:Array UInt8):(ByteArray.mk a).size=a.size:=rfl
variable {n:Nat} {C:Cx} {Q:Exit→Act→World→Prop} {E E':List (Nat×Value)} {F F' F1 Fs F0:List Pf} {R R' R0 Rs N N' A:List HP} {k k':List Fr} {ops l:List Oper} {L L':List (Nat×Nat)} {Tl:List Nat} {i d:Nat} {t ty0:TypeId} {x y:Operand} {pos:String} {aft:Array Edge} {gd:Option (Nat×Bool)}
section
variable {t2:TypeId}
theorem run_cat {a b:ByteArray} {ac:Act} {w:World} (h:a.size+b.size≤9223372036854775807) (ha:Agree n C.ds (look E) ac) (hx:ev E x=some (.string a)) (hy:ev E y=some (.string b)) :
  (execOp ac.eval ⟨some d,.binOp .add t x y t2,ty0,pos,aft,gd⟩).run prog w = .ok (.value (.string (a++b))) w:=by
 have h1:¬(((a.size+b.size:Nat):Int) > IntKind.i64.max):=by
  have:IntKind.i64.max=9223372036854775807:=by decide
  omega
 have hg:(eqGuard .add t x y (.string a) (.string b)).run prog w = .ok () w:=by simp [eqGuard]
 have hb:(binOp .add t (.string a) (.string b)).run prog w = .ok (.string (a++b)) w:=by
  simp only [binOp,Op.stringOp]
  rw [if_neg h1];rfl
 simp only [execOp,ha.ev (x:=x) (by rw [ZQ];exact hx),ha.ev (x:=y) (by rw [ZQ];exact hy),Sem.run_bind,hg,Result.andThen,hb,Sem.run_pure]
theorem l_cat {a b:ByteArray} (nx:Wl n C ops.toArray k Q l ((d,.string (a++b))::E) F R) (hw:wantL ops E ⟨some d,.binOp .add t x y t2,ty0,pos,aft,gd⟩=some true:=by rfl) (hn:Nat.blt d n=true:=by rfl)
  (hx:ev E x=some (.string a):=by rfl) (hy:ev E y=some (.string b):=by rfl) (h:a.size+b.size≤9223372036854775807:=by simp only [ByteArray.size_append,bsz,List.size_toArray,List.length_cons,List.length_nil,List.length_append]<;>omega) :
  Wl n C ops.toArray k Q (⟨some d,.binOp .add t x y t2,ty0,pos,aft,gd⟩::l) E F R:=
 l_q (fun _ _ ha=>run_cat h ha hx hy) nx (by intro c h;cases h) hw hn
theorem r_cat {a b:ByteArray} (nx:Wr n C ops k Q Tl Fs R L ((d,.string (a++b))::E) F N) (ho:nth ops i=some ⟨some d,.binOp .add t x y t2,ty0,pos,aft,gd⟩:=by rfl) (hw:wantL ops E ⟨some d,.binOp .add t x y t2,ty0,pos,aft,gd⟩=some true:=by rfl)
  (hx:ev E x=some (.string a):=by rfl) (hy:ev E y=some (.string b):=by rfl) (h:a.size+b.size≤9223372036854775807:=by simp only [ByteArray.size_append,bsz,List.size_toArray,List.length_cons,List.length_nil,List.length_append]<;>omega) :
  Wr n C ops k Q Tl Fs R ((i,0)::L) E F N:=
 r_q (fun _ _ ha=>run_cat h ha hx hy) nx ho hw
end
section
variable {n:Nat} {C:Cx} {Q:Exit→Act→World→Prop} {E E':List (Nat×Value)} {F F' F1 Fs F0:List Pf} {R R' R0 Rs N N' A:List HP} {k k':List Fr} {ops l:List Oper} {i d:Nat} {t ty0:TypeId} {x y z:Operand} {pos:String} {aft:Array Edge} {gd:Option (Nat×Bool)} {α β:Type} [DecidableEq α] {K:α→Value} {V:β→Value}
end
def En.v (e:En):Value:=.agg #[.string e.who,.int .i64 e.nu,.int .i64 e.tk,.int .i64 e.o.ch,.string e.o.tg,.string e.o.tx,.int .i64 e.o.us]
abbrev Sd:=ByteArray×Int
def sdv (s:Sd):Value:=.agg #[.string s.1,.int .i64 s.2]
def En.sd (e:En):Sd:=(e.who,e.nu)
def bv (b:Bool):Value:=.bool b
theorem V1 {α β:Type} [DecidableEq α] (a:α) (v:β):∀(m:List (α×β)) (b:α),mget b (mset a v m)=if a=b then some v else mget b m
 | [],b=>by
  by_cases h:a=b
  ·subst h;simp [mset,mget]
  ·have:b≠a:=fun e=>h e.symm
   simp [mset,mget,h,this]
 | (c,u)::m,b=>by
  have ih:=V1 a v m b
  unfold mset
  by_cases hac:a=c
  ·subst hac
   rw [if_pos rfl,mget,mget]
   by_cases hab:a=b
   ·subst hab;simp
   ·have:b≠a:=fun e=>hab e.symm
    simp [hab,this]
  ·rw [if_neg hac,mget,mget,ih]
   by_cases hab:a=b
   ·subst hab;simp [hac]
   ·simp [hab]
structure Cq where
 kind:Int
 who:ByteArray
 nu:Int
 place:Int
 old:Ou
 oldAt:Int
 new:Ou
 newAt:Int
 deriving DecidableEq
def cqf (c:Cq):List Value:=[.int .i64 c.kind,.string c.who,.int .i64 c.nu,.int .i64 c.place,.int .i64 c.old.ch,.string c.old.tg,.string c.old.tx,.int .i64 c.old.us,.int .i64 c.oldAt,.int .i64 c.new.ch,.string c.new.tg,.string c.new.tx,.int .i64 c.new.us,.int .i64 c.newAt]
def con1 (all:List En) (x:Lf) (p:Nat):Cq:=
 if x.e ∈ all then ⟨1,x.e.who,x.e.nu,p,x.e.o,x.e.tk,x.e.o,x.e.tk⟩
 else match all.find? fun y=>y.sd=x.e.sd with
  | some y=>⟨3,x.e.who,x.e.nu,p,x.e.o,x.e.tk,y.o,y.tk⟩
  | none=>⟨2,x.e.who,x.e.nu,p,x.e.o,x.e.tk,Ou.z,0⟩
def knw (all:List En) (x:Lf):List En:=
 (if x.e ∈ all then [] else match all.find? fun y=>y.sd=x.e.sd with|some y=>[y]|none=>[])++[x.e]
def cons1 (all:List En) (ls:List Lf):List Cq:=ls.mapIdx fun p x=>con1 all x p
def con2 (y:En):Cq:=⟨4,y.who,y.nu,-1,Ou.z,0,y.o,y.tk⟩
def cons2 (known:List En) (ys:List En):List Cq:=(ys.filter fun y=>decide (y ∉ known)).map con2
def consE (all:List En) (ls:List Lf):List Cq:=cons1 all ls++cons2 (ls.flatMap (knw all)) all
structure C1 (all:List En) where
 i:Nat
 m1:List (En×Bool)
 m2:List (Sd×En)
 hi:i≤all.length
 h1:∀e,mget e m1=if e ∈ all.take i then some true else none
 h2:∀s,mget s m2=(all.take i).find? fun y=>y.sd=s
structure C2 (all:List En) (ls:List Lf) where
 j:Nat
 o:Option Addr
 cap:Nat
 m3:List (En×Bool)
 hj:j≤ls.length
 h3:∀e,mget e m3=if e ∈ (ls.take j).flatMap (knw all) then some true else none
structure C3 (all:List En) where
 i:Nat
 o:Option Addr
 cap:Nat
 hi:i≤all.length
section
variable {v:Value}
theorem run_sslice {s:ByteArray} {z:Int} {rs:TRow} {w:World} (hi:Nat) (hle:hi≤s.size) (hts:lookT tab t=some rs) (hrs:rs.k = .str) (hz:z=(hi:Int)):(Instr.sliceAt t (.string s) none (some (.int .i64 z)) none).run prog w = .ok (.string (s.extract 0 hi)) w:=by
 subst hz
 have hu:=Y2 (w:=w) hts hrs
 have hb:(Instr.sliceBound (.int .i64 (hi:Int)) s.size .sliceAlen).run prog w = .ok hi w:=by
  simp only [Instr.sliceBound,asIntOf,Sem.run_bind,Sem.run_pure,Result.andThen]
  rw [if_pos ⟨by omega,by omega⟩]
  simp
 simp [Instr.sliceAt,Instr.slice,Instr.sliceBounds,Sem.run_bind,hu,Result.andThen,hb]
end
structure It where
 who:UInt8
 nu:UInt8
 tk:UInt8
 ch:UInt8
 tx:ByteArray
def itf (x:It):List Value:=[.int .u8 x.who.toNat,.int .u8 x.nu.toNat,.int .u8 x.tk.toNat,.int .u8 x.ch.toNat,.string x.tx]
def It.v (x:It):Value:=.agg #[.int .u8 x.who.toNat,.int .u8 x.nu.toNat,.int .u8 x.tk.toNat,.int .u8 x.ch.toNat,.string x.tx]
def nm0:ByteArray:=⟨#[49]⟩
def nm1:ByteArray:=⟨#[49,46,50]⟩
def nm2:ByteArray:=⟨#[51]⟩
def who3 (j:Nat):ByteArray:=if j=0 then nm0 else if j=1 then nm1 else nm2
def ito (x:It):Ou:=⟨1+(x.ch.toNat % 4:Nat),⟨#[116]⟩,x.tx.extract 0 (min x.tx.size 20),5⟩
def itn (x:It):Nm:=⟨18,who3 (x.who.toNat % 3),(x.nu.toNat % 4:Nat),(x.tk.toNat % 8:Nat),⟨#[]⟩⟩
def itl (x:It) (p:Nat):Lf:=⟨⟨who3 (x.who.toNat % 3),(x.nu.toNat % 4:Nat),(x.tk.toNat % 8:Nat),ito x⟩,(9+p:Nat),(p / 5:Nat)⟩
def stF (es:Al) (l:List It):Al:=l.foldl (fun es x=>insO (itn x) (oencS (ito x)) es) es
def ldF (l:List It):List Lf:=l.mapIdx fun p x=>itl x p
structure B1 (now:List It) where
 i:Nat
 q:Option Addr
 es:Al
 h1:i≤now.length∧i≤20
 h2:es=stF [] (now.take i)
 h3:es.length≤i
structure B2 (left:List It) where
 i:Nat
 h1:i≤left.length∧i≤20
variable {b:Nat}
section
variable {off:Nat} {v:Value}
theorem Yv {T sz m cap:Nat} {z:Int} {rs tr:TRow} (j:Nat) (hlt:j<m) (nx:Wl n C ops.toArray k Q l ((d,.pointer (some ⟨b,j * sz,none⟩))::E) F R)
  (hw:wantL ops E ⟨some d,.indexAddr t x y,ty0,pos,aft,gd⟩=some true:=by rfl) (hn:Nat.blt d n=true:=by rfl) (hx:ev E x=some (.slice (some ⟨b,0,none⟩) m cap):=by rfl) (hy:ev E y=some (.int .i64 z):=by rfl)
  (hts:lookT tab t=some rs:=by rfl) (hrs:rs.k = .slice T:=by rfl) (hT:lookT tab T=some tr:=by rfl) (hsz:tr.size=sz:=by rfl) (hz:z=(j:Int):=by first|rfl|omega):Wl n C ops.toArray k Q (⟨some d,.indexAddr t x y,ty0,pos,aft,gd⟩::l) E F R:=
 l_q (fun a w ha=>by
  have hr1:=XY (o:=some ⟨b,0,none⟩) (m:=m) (cap:=cap) (w:=w) hts hrs hT hsz hz hlt (p:=⟨b,j * sz,none⟩) (by simp [Y9 rfl])
  simp only [execOp,ha.ev (x:=x) (by rw [ZQ];exact hx),ha.ev (x:=y) (by rw [ZQ];exact hy),Sem.run_bind,Result.andThen,hr1,Sem.run_pure]) nx (by intro c h;cases h) hw hn
theorem l_sHi {s:ByteArray} {z:Int} {rs:TRow} (hi:Nat) (hle:hi≤s.size) (nx:Wl n C ops.toArray k Q l ((d,.string (s.extract 0 hi))::E) F R)
  (hw:wantL ops E ⟨some d,.slice t x none (some y) none,ty0,pos,aft,gd⟩=some true:=by rfl) (hn:Nat.blt d n=true:=by rfl) (hx:ev E x=some (.string s):=by rfl) (hy:ev E y=some (.int .i64 z):=by rfl)
  (hts:lookT tab t=some rs:=by rfl) (hrs:rs.k = .str:=by rfl) (hz:z=(hi:Int):=by first|rfl|omega):Wl n C ops.toArray k Q (⟨some d,.slice t x none (some y) none,ty0,pos,aft,gd⟩::l) E F R:=
 l_q (fun a w ha=>by
  simp only [execOp,Option.map_some,Option.map_none,ha.ev (x:=x) (by rw [ZQ];exact hx),ha.ev (x:=y) (by rw [ZQ];exact hy),Sem.run_bind,run_sslice (w:=w) hi hle hts hrs hz,Result.andThen,Sem.run_pure]) nx (by intro c h;cases h) hw hn
theorem r_sHi {s:ByteArray} {z:Int} {rs:TRow} (hi:Nat) (hle:hi≤s.size) (nx:Wr n C ops k Q Tl Fs R L ((d,.string (s.extract 0 hi))::E) F N)
  (ho:nth ops i=some ⟨some d,.slice t x none (some y) none,ty0,pos,aft,gd⟩:=by rfl) (hw:wantL ops E ⟨some d,.slice t x none (some y) none,ty0,pos,aft,gd⟩=some true:=by rfl) (hx:ev E x=some (.string s):=by rfl) (hy:ev E y=some (.int .i64 z):=by rfl)
  (hts:lookT tab t=some rs:=by rfl) (hrs:rs.k = .str:=by rfl) (hz:z=(hi:Int):=by first|rfl|omega):Wr n C ops k Q Tl Fs R ((i,0)::L) E F N:=
 r_q (fun a w ha=>by
  simp only [execOp,Option.map_some,Option.map_none,ha.ev (x:=x) (by rw [ZQ];exact hx),ha.ev (x:=y) (by rw [ZQ];exact hy),Sem.run_bind,run_sslice (w:=w) hi hle hts hrs hz,Result.andThen,Sem.run_pure]) nx ho hw
theorem l_sEn {s:ByteArray} {z:Int} {rs:TRow} (lo:Nat) (hle:lo≤s.size) (nx:Wl n C ops.toArray k Q l ((d,.string (s.extract lo s.size))::E) F R)
  (hw:wantL ops E ⟨some d,.slice t x (some y) none none,ty0,pos,aft,gd⟩=some true:=by rfl) (hn:Nat.blt d n=true:=by rfl) (hx:ev E x=some (.string s):=by rfl) (hy:ev E y=some (.int .i64 z):=by rfl)
  (hts:lookT tab t=some rs:=by rfl) (hrs:rs.k = .str:=by rfl) (hz:z=(lo:Int):=by first|rfl|omega):Wl n C ops.toArray k Q (⟨some d,.slice t x (some y) none none,ty0,pos,aft,gd⟩::l) E F R:=
 l_q (fun a w ha=>by
  simp only [execOp,Option.map_some,Option.map_none,ha.ev (x:=x) (by rw [ZQ];exact hx),ha.ev (x:=y) (by rw [ZQ];exact hy),Sem.run_bind,run_send (w:=w) lo hle hts hrs hz,Result.andThen,Sem.run_pure]) nx (by intro c h;cases h) hw hn
end
structure Fq where
 nd:Ino
 ct:ByteArray
 mr:Nat
 bl:List (Int×Bool)
def flq (f:Fq):List Value:=[.int .i64 f.nd.kd,.int .i64 f.nd.ow,.int .i64 f.nd.gr,.int .i64 f.nd.md,.int .i64 f.nd.sz,.int .i64 f.nd.lk,.string f.nd.tg,.string f.ct,.map (some f.mr)]
def BlF (f:Fq):HP:=Mp ziv blv f.mr f.bl
def CM (rm:Nat) (m:List (ByteArray×Int)) (fs:List Fq):HP:=fun h=>Sep (Mp Yl ziv rm m::fs.map BlF) h
theorem cm_mid {rm:Nat} {m:List (ByteArray×Int)} {pre post:List Fq} {e:Fq} {h:H}:CM rm m (pre++e::post) h↔Sep [Mp Yl ziv rm m,BlF e,fun h=>Sep ((pre++post).map BlF) h] h:=by
 have hp:(Mp Yl ziv rm m::(pre++e::post).map BlF).Perm ([Mp Yl ziv rm m,BlF e]++(pre++post).map BlF):=by
  refine List.Perm.cons _ ?_
  rw [List.map_append,List.map_cons,List.map_append]
  exact List.perm_middle
 constructor
 ·intro hh
  obtain ⟨h1,h2,d,s1,s2,ha,hb⟩:=YS (Sep.perm hp hh)
  exact YP (A:=[Mp Yl ziv rm m,BlF e]) (R:=[fun h=>Sep ((pre++post).map BlF) h]) d s1 s2 ha ⟨h2,emp,(fun _=>.inr rfl),Sub.refl _,(fun _ _ e=>by cases e),hb,trivial⟩
 ·intro hh
  obtain ⟨h1,h2,d,s1,s2,ha,k1,k2,_,t1,_,hb,_⟩:=YS (A:=[Mp Yl ziv rm m,BlF e]) hh
  exact Sep.perm hp.symm (YP d s1 s2 ha (Sep.sub hb t1))
theorem cm_two {rm:Nat} {m:List (ByteArray×Int)} {fs:List Fq} {h:H}:CM rm m fs h↔Sep [Mp Yl ziv rm m,fun h=>Sep (fs.map BlF) h] h:=by
 constructor
 ·intro hh
  obtain ⟨h1,h2,d,s1,s2,ha,hb⟩:=YS (A:=[Mp Yl ziv rm m]) (R:=fs.map BlF) hh
  exact YP (A:=[Mp Yl ziv rm m]) (R:=[fun h=>Sep (fs.map BlF) h]) d s1 s2 ha ⟨h2,emp,(fun _=>.inr rfl),Sub.refl _,(fun _ _ e=>by cases e),hb,trivial⟩
 ·intro hh
  obtain ⟨h1,h2,d,s1,s2,ha,k1,k2,_,t1,_,hb,_⟩:=YS (A:=[Mp Yl ziv rm m]) hh
  exact YP (A:=[Mp Yl ziv rm m]) (R:=fs.map BlF) d s1 s2 ha (Sep.sub hb t1)
theorem split_at {α:Type} {fs:List α} {i:Nat} {f:α} (hf:fs[i]? = some f):fs=fs.take i++f::fs.drop (i+1)∧∀g,fs.set i g=fs.take i++g::fs.drop (i+1):=by
 obtain ⟨hi,hf⟩:=List.getElem?_eq_some_iff.1 hf
 refine ⟨?_,fun g=>?_⟩
 ·rw [←hf,←List.drop_eq_getElem_cons hi,List.take_append_drop]
 ·rw [List.set_eq_take_append_cons_drop,if_pos hi]
abbrev CMr (fs:List Fq) (i:Nat):HP:=fun h=>Sep ((fs.take i++fs.drop (i+1)).map BlF) h
theorem cm_open {rm:Nat} {m:List (ByteArray×Int)} {fs:List Fq} {i:Nat} {f:Fq} (hf:fs[i]? = some f) {h:H} (hh:CM rm m fs h):Sep [Mp Yl ziv rm m,BlF f,CMr fs i] h:=by
 rw [(split_at hf).1] at hh
 exact cm_mid.1 hh
theorem cm_shut {rm:Nat} {m:List (ByteArray×Int)} {fs:List Fq} {i:Nat} {f g:Fq} (hf:fs[i]? = some f) {h:H} (hh:Sep [Mp Yl ziv rm m,BlF g,CMr fs i] h):CM rm m (fs.set i g) h:=by
 rw [(split_at hf).2 g]
 exact cm_mid.2 hh
structure Mq where
 bb:Nat
 cb:Nat
 bq:List Value×(Nat×Nat)
 bf:Nat
 cf:Nat
 fq:List Value×(Nat×Nat)
 rm:Nat
structure Mq.OK (q:Mq) (nb nf:Nat):Prop where
 b1:nb * 2+q.bq.1.length=q.cb * 2
 b3:AxOK (nb * 2) q.bq
 f1:nf * 9+q.fq.1.length=q.cf * 9
 f3:AxOK (nf * 9) q.fq
abbrev MdP (bm:Nat) (q:Mq) (nb nf:Nat):HP:=Pt bm (.cells #[.slice (some ⟨q.bb,0,none⟩) nb q.cb,.slice (some ⟨q.bf,0,none⟩) nf q.cf,.map (some q.rm)] 62)
abbrev BiX (q:Mq) (bs:List Bi):HP:=Ax 68 bcf q.bb bs q.bq
abbrev FlX (q:Mq) (fs:List Fq):HP:=Ax 73 flq q.bf fs q.fq
def fndI (bs:List Bi) (b:Bi):Option Nat:=bs.findIdx? fun x=>decide (x=b)
theorem fnd_none {bs:List Bi} {b:Bi} (h:fndI bs b=none) {j:Nat} {x:Bi} (hx:bs[j]? = some x):x≠b:=fun e=>by
 have:=(List.findIdx?_eq_none_iff.1 h) x (List.mem_of_getElem? hx)
 simp [e] at this
theorem WI {bs:List Bi} {b:Bi} {k:Nat} (h:fndI bs b=some k):bs[k]? = some b∧∀{j:Nat} {x:Bi},j<k→bs[j]? = some x→x≠b:=by
 obtain ⟨hk,h1,h2⟩:=List.findIdx?_eq_some_iff_getElem.1 h
 simp only [decide_eq_true_eq] at h1
 refine ⟨by rw [List.getElem?_eq_getElem hk,h1],fun hj hx e=>?_⟩
 have h3:=h2 _ hj
 obtain ⟨hjl,hx⟩:=List.getElem?_eq_some_iff.1 hx
 rw [hx,e] at h3
 simp at h3
abbrev fndV (x:Option Nat):Value:=match x with
 | some i=>.int .i64 (i:Int)
 | none=>.int .i64 (-1)
section
variable (bm:Nat) (q:Mq) (bs:List Bi) (fs:List Fq) (bi:Bi)
set_option maxHeartbeats 2000000 in
theorem UO (nf:Nat) (hl:bs.length≤1000):Enters 71∧Spec prog 71 #[.pointer (some ⟨bm,0,none⟩),bi.v] [] [MdP bm q bs.length nf,BiX q bs]
  ⟨Unit,fun _=>fndV (fndI bs bi),fun _=>True,fun _=>[],fun _=>[MdP bm q bs.length nf,BiX q bs]⟩:=by
 cases hf:fndI bs bi with
 | none=>
  refine ZM [_,_] func71 ntmps71 fun G w hp=>?_
  repeat' (first|refine ZE ?_|refine ZD ?_|refine ZF ?_|refine ZR (fun b=>?_)|fail)
  generalize b=bb2 at *
  refine Z8 (X:={i:Nat // i≤bs.length}) (fun i=>[(0,.pointer (some ⟨bm,0,none⟩)),(3,.pointer (some ⟨bb2,0,none⟩)),(5,.int .i64 (i.1:Int))]) (fun _=>[]) (fun _=>[MdP bm q bs.length nf,BiX q bs,Pt bb2 (.cells #[.string bi.mkr,.int .i64 bi.nu] 68)]) (fun i=>bs.length - i.1) ⟨0,Nat.zero_le _⟩ ⟨rfl,rfl,rfl,trivial⟩ ?_
  rintro ⟨i,hi⟩
  dsimp only
  by_cases hlt:i<bs.length
  ·obtain ⟨x,hx⟩:∃x,bs[i]? = some x:=⟨_,List.getElem?_eq_getElem hlt⟩
   have he:=eqBi2 x bi
   rw [decide_eq_false (fnd_none hf hx)] at he
   simp only [Bi.v] at he
   repeat' (first|refine ZE ?_|refine ZD ?_|refine ZF ?_|refine ZS ?_|refine ZB ?_|refine ZT ?_|refine Zf ?_|refine ZU ?_|refine Y1 (m:=bs.length) i hlt ?_|refine Zc 2 i 0 hx ?_|refine r_seq (b:=false) ?_ (he:=he)|refine ZA 4 [] [(0,0),(1,0),(2,0),(3,0),(4,0),(5,0),(6,0),(7,0),(8,0)] [] ?_|(refine ZG (fun hc=>?_) (fun hc=>?_)<;>(try simp at hc)<;>(try omega))|fail)
   rw [wrapi (z:=(i:Int)+1) (by omega) (by omega)]
   exact Zb ⟨i+1,by omega⟩ (by show bs.length - (i+1)<bs.length - i;omega) ⟨rfl,rfl,rfl,trivial⟩
  ·obtain rfl:i=bs.length:=by omega
   repeat' (first|refine ZE ?_|refine ZD ?_|refine ZF ?_|refine ZS ?_|refine ZW ?_|(refine ZG (fun hc=>?_) (fun hc=>?_)<;>(try simp at hc)<;>(try omega))|fail)
   exact ZK () rfl trivial
 | some k=>
  obtain ⟨hk,hj⟩:=WI hf
  have hkl:=(List.getElem?_eq_some_iff.1 hk).1
  refine ZM [_,_] func71 ntmps71 fun G w hp=>?_
  repeat' (first|refine ZE ?_|refine ZD ?_|refine ZF ?_|refine ZR (fun b=>?_)|fail)
  generalize b=bb2 at *
  refine Z8 (X:={i:Nat // i≤k}) (fun i=>[(0,.pointer (some ⟨bm,0,none⟩)),(3,.pointer (some ⟨bb2,0,none⟩)),(5,.int .i64 (i.1:Int))]) (fun _=>[]) (fun _=>[MdP bm q bs.length nf,BiX q bs,Pt bb2 (.cells #[.string bi.mkr,.int .i64 bi.nu] 68)]) (fun i=>bs.length - i.1) ⟨0,Nat.zero_le _⟩ ⟨rfl,rfl,rfl,trivial⟩ ?_
  rintro ⟨i,hi⟩
  dsimp only
  by_cases hlt:i<k
  ·obtain ⟨x,hx⟩:∃x,bs[i]? = some x:=⟨_,List.getElem?_eq_getElem (show i<bs.length by omega)⟩
   have hil:i<bs.length:=by omega
   have he:=eqBi2 x bi
   rw [decide_eq_false (hj hlt hx)] at he
   simp only [Bi.v] at he
   repeat' (first|refine ZE ?_|refine ZD ?_|refine ZF ?_|refine ZS ?_|refine ZB ?_|refine ZT ?_|refine Zf ?_|refine ZU ?_|refine Y1 (m:=bs.length) i hil ?_|refine Zc 2 i 0 hx ?_|refine r_seq (b:=false) ?_ (he:=he)|refine ZA 4 [] [(0,0),(1,0),(2,0),(3,0),(4,0),(5,0),(6,0),(7,0),(8,0)] [] ?_|(refine ZG (fun hc=>?_) (fun hc=>?_)<;>(try simp at hc)<;>(try omega))|fail)
   rw [wrapi (z:=(i:Int)+1) (by omega) (by omega)]
   exact Zb ⟨i+1,by omega⟩ (by show bs.length - (i+1)<bs.length - i;omega) ⟨rfl,rfl,rfl,trivial⟩
  ·obtain rfl:i=k:=by omega
   have he:=eqBi2 bi bi
   rw [decide_eq_true rfl] at he
   simp only [Bi.v] at he
   repeat' (first|refine ZE ?_|refine ZD ?_|refine ZF ?_|refine ZS ?_|refine ZH ?_|refine ZT ?_|refine Zf ?_|refine ZU ?_|refine Y1 (m:=bs.length) i hkl ?_|refine Zc 2 i 0 hk ?_|refine r_seq (b:=true) ?_ (he:=he)|refine ZA 4 [] [(0,0),(1,0),(2,0),(3,0),(4,0),(5,0),(6,0),(7,0),(8,0)] [] ?_|(refine ZG (fun hc=>?_) (fun hc=>?_)<;>(try simp at hc)<;>(try omega))|fail)
   exact Ym (Yx (YD () rfl trivial))
def mGet (bs:List Bi) (fs:List Fq) (bi:Bi):Nat×Int:=if bchk bi≠0 then (0,bchk bi) else match fndI bs bi with
 | none=>(0,8)
 | some i=>match fs[i]? with
  | none=>(0,8)
  | some f=>if f.nd.kd=2 then (0,15) else if f.nd.kd=3 then (0,11) else (i,0)
theorem Y8 {bs:List Bi} {fs:List Fq} {bi:Bi} (h:(mGet bs fs bi).2=0):bchk bi=0∧fndI bs bi=some (mGet bs fs bi).1∧∃f,fs[(mGet bs fs bi).1]? = some f∧f.nd.kd≠2∧f.nd.kd≠3:=by
 unfold mGet at h ⊢
 by_cases h0:bchk bi≠0
 ·rw [if_pos h0] at h;exact absurd h h0
 ·rw [if_neg h0] at h ⊢
  refine ⟨by omega,?_⟩
  cases hf:fndI bs bi with
  | none=>rw [hf] at h;cases h
  | some i=>
   rw [hf] at h
   dsimp only at h ⊢
   cases hg:fs[i]? with
   | none=>rw [hg] at h;cases h
   | some f=>
    rw [hg] at h
    dsimp only at h ⊢
    by_cases h2:f.nd.kd=2
    ·rw [if_pos h2] at h;cases h
    ·rw [if_neg h2] at h ⊢
     by_cases h3:f.nd.kd=3
     ·rw [if_pos h3] at h;cases h
     ·rw [if_neg h3]
      exact ⟨rfl,f,hg,h2,h3⟩
set_option maxHeartbeats 2000000 in
theorem YY (hl:bs.length≤1000) (hlf:fs.length=bs.length) (hw:bi.mkr.size≤1000):Enters 72∧Spec prog 72 #[.pointer (some ⟨bm,0,none⟩),bi.v] [] [MdP bm q bs.length fs.length,BiX q bs,FlX q fs]
  ⟨Unit,fun _=>.tuple #[.int .i64 ((mGet bs fs bi).1:Int),.int .i64 (mGet bs fs bi).2],fun _=>True,fun _=>[],fun _=>[MdP bm q bs.length fs.length,BiX q bs,FlX q fs]⟩:=by
 have n1:=WA bi (by omega)
 have n2:=UO bm q bs bi fs.length hl
 obtain ⟨G,hG⟩:∃G,mGet bs fs bi=G:=⟨_,rfl⟩
 rw [hG]
 unfold mGet at hG
 by_cases h0:bchk bi≠0
 ·rw [if_pos h0] at hG
  subst hG
  generalize bchk bi=e at *
  refine ZM [_,_] func72 ntmps72 fun G w hp=>?_
  repeat' (first|refine ZE ?_|refine ZD ?_|refine ZF ?_|refine ZS ?_|refine ZR (fun b=>?_)|refine ZC (n1) (fun _ _=>?_)|(refine ZG (fun hc=>?_) (fun hc=>?_)<;>(try simp at hc)<;>(try omega))|fail)
  exact ZK () rfl trivial
 ·rw [if_neg h0] at hG
  rw [show bchk bi=0 by omega] at n1
  cases hf:fndI bs bi with
  | none=>
   rw [hf] at hG n2
   have hG:((0:Nat),(8:Int))=G:=hG
   subst hG
   refine ZM [_,_] func72 ntmps72 fun G w hp=>?_
   repeat' (first|refine ZE ?_|refine ZD ?_|refine ZF ?_|refine ZS ?_|refine ZR (fun b=>?_)|refine ZH ?_|refine ZB ?_|refine ZC (n1) (fun _ _=>?_)|refine ZC (n2) (fun _ _=>?_)|fail)
   exact ZK () rfl trivial
  | some i=>
   rw [hf] at hG n2
   have hi:=(List.getElem?_eq_some_iff.1 (WI hf).1).1
   have hif:i<fs.length:=by omega
   obtain ⟨f,hg⟩:∃f,fs[i]? = some f:=⟨_,List.getElem?_eq_getElem hif⟩
   dsimp only at hG
   rw [hg] at hG
   dsimp only at hG
   by_cases h2:f.nd.kd=2
   ·rw [if_pos h2] at hG
    subst hG
    refine ZM [_,_] func72 ntmps72 fun G w hp=>?_
    repeat' (first|refine ZE ?_|refine ZD ?_|refine ZF ?_|refine ZS ?_|refine ZR (fun b=>?_)|refine ZB ?_|refine ZC (n1) (fun _ _=>?_)|refine ZC (n2) (fun _ _=>?_)|refine Yv (m:=fs.length) (sz:=9) i hif ?_|refine Zn 9 i 0 hg ?_|(refine ZG (fun hc=>?_) (fun hc=>?_)<;>(try simp at hc)<;>(try omega))|fail)
    exact ZK () rfl trivial
   ·rw [if_neg h2] at hG
    by_cases h3:f.nd.kd=3
    ·rw [if_pos h3] at hG
     subst hG
     refine ZM [_,_] func72 ntmps72 fun G w hp=>?_
     repeat' (first|refine ZE ?_|refine ZD ?_|refine ZF ?_|refine ZS ?_|refine ZR (fun b=>?_)|refine ZB ?_|refine ZC (n1) (fun _ _=>?_)|refine ZC (n2) (fun _ _=>?_)|refine Yv (m:=fs.length) (sz:=9) i hif ?_|refine Zn 9 i 0 hg ?_|(refine ZG (fun hc=>?_) (fun hc=>?_)<;>(try simp at hc)<;>(try omega))|fail)
     exact ZK () rfl trivial
    ·rw [if_neg h3] at hG
     subst hG
     refine ZM [_,_] func72 ntmps72 fun G w hp=>?_
     repeat' (first|refine ZE ?_|refine ZD ?_|refine ZF ?_|refine ZS ?_|refine ZR (fun b=>?_)|refine ZB ?_|refine ZC (n1) (fun _ _=>?_)|refine ZC (n2) (fun _ _=>?_)|refine Yv (m:=fs.length) (sz:=9) i hif ?_|refine Zn 9 i 0 hg ?_|(refine ZG (fun hc=>?_) (fun hc=>?_)<;>(try simp at hc)<;>(try omega))|fail)
     exact ZK () rfl trivial
end
theorem ba_zero {s:ByteArray} (h:s.size=0):s=⟨#[]⟩:=by
 obtain ⟨d⟩:=s
 have h:d.size=0:=h
 rw [Array.size_eq_zero_iff.1 h]
section
theorem k_say {P P':HP} (h:P=P') (t:Wk n C k Q E F (P'::R0)) (hs:Sel P R R0:=by (repeat (first|exact Sel.here|apply Sel.there));first|done|fail):Wk n C k Q E F R:=by
 subst h
 exact fun a w ha hsat=>t a w ha (hsat.sel hs)
end
theorem fm_set {α β:Type} {f:α→List β} {A B:α} (h:f A=f B):∀(l:List α) (i:Nat),(l.set i A).flatMap f=(l.set i B).flatMap f
 | [],_=>rfl
 | x::l,0=>by simp [h]
 | x::l,i+1=>by simp [fm_set h l i]
theorem flx_bl {q:Mq} {fs:List Fq} {i:Nat} {A B:Fq} (h:flq A=flq B):FlX q (fs.set i A)=FlX q (fs.set i B):=by
 unfold FlX Ax
 rw [fm_set h]
theorem flx_bl2 {q:Mq} {fs:List Fq} {i:Nat} {A A2 B:Fq} (h:flq A2=flq B):FlX q ((fs.set i A).set i A2)=FlX q (fs.set i B):=by
 rw [List.set_set]
 exact flx_bl h
theorem zerosI_ok (z:Int) (hz:z≤100000):Enters 52∧Spec prog 52 #[.int .i64 z] [] [] (RetV (.string (zer z.toNat))):=by
 have hm:(if z<0 then (0:Int) else z)=((z.toNat:Nat):Int):=by split<;>omega
 have hn:z.toNat≤100000:=by omega
 generalize z.toNat=n at *
 refine ZM [_] func52 ntmps52 fun G w hp=>?_
 repeat' (first|refine ZE ?_|refine ZD ?_|refine ZL ?_|refine ZF ?_|refine ZS ?_|refine ZO ?_|refine ZV ?_|refine ZR (fun b=>?_)|refine ZX (fun b=>?_)|refine ZH ?_|refine ZB ?_|refine ZW ?_|rw [hm]|refine l_mks bf (0:UInt8) n 1 (by omega) (by omega) (fun b6=>?_)|(refine ZJ (fun hc=>?_) (fun hc=>?_)<;>(try simp at hc))|(refine ZG (fun hc=>?_) (fun hc=>?_)<;>(try simp at hc)))
 refine l_by (T:=5) (b:=b6) (cs:=((List.replicate n (0:UInt8)).flatMap bf).toArray) (Lb:=List.replicate n 0) (by rw [Xw]) ?_
 refine l_b2sB (m:=n) (Lb:=List.replicate n 0) ?_ (by simp)
 repeat' (first|refine ZE ?_|refine ZD ?_|refine ZL ?_|refine ZF ?_|refine ZS ?_|refine ZO ?_|refine ZV ?_|refine ZR (fun b=>?_)|refine ZX (fun b=>?_)|refine ZH ?_|refine ZB ?_|refine ZW ?_|(refine ZJ (fun hc=>?_) (fun hc=>?_)<;>(try simp at hc))|(refine ZG (fun hc=>?_) (fun hc=>?_)<;>(try simp at hc)))
 exact ZK () rfl trivial
section
variable (bm:Nat) (q:Mq) (bs:List Bi) (fs:List Fq) (bi:Bi)
def mRead (bs:List Bi) (fs:List Fq) (bi:Bi) (f c:Int):ByteArray×Int:=if (mGet bs fs bi).2≠0 then (⟨#[]⟩,(mGet bs fs bi).2) else if f<0∨c<0 then (⟨#[]⟩,2) else match fs[(mGet bs fs bi).1]? with
 | none=>(⟨#[]⟩,0)
 | some x=>if (x.ct.size:Int)≤f then (⟨#[]⟩,0) else ((x.ct.extract f.toNat x.ct.size).extract 0 (min c.toNat (x.ct.size - f.toNat)),0)
set_option maxHeartbeats 2000000 in
theorem read27_ok (f c:Int) (hl:bs.length≤1000) (hlf:fs.length=bs.length) (hct:∀x ∈ fs,x.ct.size≤4096) (hw:bi.mkr.size≤1000) :
  Enters 98∧Spec prog 98 #[.pointer (some ⟨bm,0,none⟩),bi.v,.int .i64 f,.int .i64 c] [] [MdP bm q bs.length fs.length,BiX q bs,FlX q fs]
  ⟨Unit,fun _=>.tuple #[.string (mRead bs fs bi f c).1,.int .i64 (mRead bs fs bi f c).2],fun _=>True,fun _=>[],fun _=>[MdP bm q bs.length fs.length,BiX q bs,FlX q fs]⟩:=by
 have n1:=YY bm q bs fs bi hl hlf hw
 unfold mRead
 have hgo:=Y8 (bs:=bs) (fs:=fs) (bi:=bi)
 generalize mGet bs fs bi=g at *
 obtain ⟨i,e⟩:=g
 dsimp only at *
 by_cases he:e≠0
 ·rw [if_pos he]
  refine ZM [_,_,_,_] func98 ntmps98 fun G w hp=>?_
  repeat' (first|refine ZE ?_|refine ZD ?_|refine ZL ?_|refine ZF ?_|refine ZS ?_|refine ZO ?_|refine ZV ?_|refine ZR (fun b=>?_)|refine ZX (fun b=>?_)|refine ZH ?_|refine ZB ?_|refine ZW ?_|refine ZC (n1) (fun _ _=>?_)|refine l_call0 (n1) (fun _ _=>?_)|(refine ZJ (fun hc=>?_) (fun hc=>?_)<;>(try simp at hc)<;>(try omega))|(refine ZG (fun hc=>?_) (fun hc=>?_)<;>(try simp at hc)<;>(try omega)))
  exact ZK () rfl trivial
 ·obtain rfl:e=0:=by omega
  rw [if_neg he]
  obtain ⟨-,-,x,hx,-,-⟩:=hgo rfl
  have hil:=(List.getElem?_eq_some_iff.1 hx).1
  have hxs:=hct x (List.mem_of_getElem? hx)
  by_cases hn:f<0∨c<0
  ·rw [if_pos hn]
   refine ZM [_,_,_,_] func98 ntmps98 fun G w hp=>?_
   repeat' (first|refine ZE ?_|refine ZD ?_|refine ZL ?_|refine ZF ?_|refine ZS ?_|refine ZO ?_|refine ZV ?_|refine ZR (fun b=>?_)|refine ZX (fun b=>?_)|refine ZH ?_|refine ZB ?_|refine ZW ?_|refine ZC (n1) (fun _ _=>?_)|refine l_call0 (n1) (fun _ _=>?_)|(refine ZJ (fun hc=>?_) (fun hc=>?_)<;>(try simp at hc)<;>(try omega))|(refine ZG (fun hc=>?_) (fun hc=>?_)<;>(try simp at hc)<;>(try omega)))
   all_goals exact ZK () rfl trivial
  ·rw [if_neg hn,hx]
   dsimp only
   by_cases hb:(x.ct.size:Int)≤f
   ·rw [if_pos hb]
    refine ZM [_,_,_,_] func98 ntmps98 fun G w hp=>?_
    repeat' (first|refine ZE ?_|refine ZD ?_|refine ZL ?_|refine ZF ?_|refine ZS ?_|refine ZO ?_|refine ZV ?_|refine ZR (fun b=>?_)|refine ZX (fun b=>?_)|refine ZH ?_|refine ZB ?_|refine ZW ?_|refine ZC (n1) (fun _ _=>?_)|refine l_call0 (n1) (fun _ _=>?_)|refine Yv (m:=fs.length) (sz:=9) i hil ?_|refine Zn 9 i 7 hx ?_|(refine ZJ (fun hc=>?_) (fun hc=>?_)<;>(try simp at hc)<;>(try omega))|(refine ZG (fun hc=>?_) (fun hc=>?_)<;>(try simp at hc)<;>(try omega)))
    exact ZK () rfl trivial
   ·rw [if_neg hb]
    obtain ⟨f',rfl⟩:∃k:Nat,f=(k:Int):=⟨f.toNat,by omega⟩
    obtain ⟨c',rfl⟩:∃k:Nat,c=(k:Int):=⟨c.toNat,by omega⟩
    simp only [Int.toNat_natCast]
    have hes:(x.ct.extract f' x.ct.size).size=x.ct.size - f':=by rw [ByteArray.size_extract];omega
    have w1:IntKind.i64.wrap ((x.ct.size:Int) - (f':Int))=((x.ct.size - f':Nat):Int):=by rw [wrapi (by omega) (by omega)];omega
    have w2:(if ((x.ct.size - f':Nat):Int)<(c':Int) then ((x.ct.size - f':Nat):Int) else (c':Int))=((min c' (x.ct.size - f'):Nat):Int):=by split<;>omega
    refine ZM [_,_,_,_] func98 ntmps98 fun G w hp=>?_
    repeat' (first|refine ZE ?_|refine ZD ?_|refine ZL ?_|refine ZF ?_|refine ZS ?_|refine ZO ?_|refine ZV ?_|refine ZR (fun b=>?_)|refine ZX (fun b=>?_)|refine ZH ?_|refine ZB ?_|refine ZW ?_|refine ZC (n1) (fun _ _=>?_)|refine l_call0 (n1) (fun _ _=>?_)|rw [w1]|rw [w2]|refine Yv (m:=fs.length) (sz:=9) i hil ?_|refine Zn 9 i 7 hx ?_|refine l_sEn (s:=x.ct) f' (by omega) ?_|refine l_sHi (s:=x.ct.extract f' x.ct.size) (min c' (x.ct.size - f')) (by omega) ?_|(refine ZJ (fun hc=>?_) (fun hc=>?_)<;>(try simp at hc)<;>(try omega))|(refine ZG (fun hc=>?_) (fun hc=>?_)<;>(try simp at hc)<;>(try omega)))
    exact ZK () rfl trivial
def wrC (c:ByteArray) (f:Nat) (s:ByteArray):ByteArray:=((if c.size<f then c++zer (f - c.size) else c).extract 0 f++s)++(if f+s.size<max c.size f then (if c.size<f then c++zer (f - c.size) else c).extract (f+s.size) (max c.size f) else ⟨#[]⟩)
theorem wrC_size {c:ByteArray} {f:Nat} {s:ByteArray}:(wrC c f s).size=max c.size (f+s.size):=by
 unfold wrC
 have hz:=Yd (f - c.size)
 by_cases h:c.size<f
 ·simp only [if_pos h]
  split
  ·simp only [ByteArray.size_append,ByteArray.size_extract,hz];omega
  ·simp only [ByteArray.size_append,ByteArray.size_extract,hz]
   have:(⟨#[]⟩:ByteArray).size=0:=rfl
   omega
 ·simp only [if_neg h]
  split
  ·simp only [ByteArray.size_append,ByteArray.size_extract];omega
  ·simp only [ByteArray.size_append,ByteArray.size_extract]
   have:(⟨#[]⟩:ByteArray).size=0:=rfl
   omega
def blW (bl:List (Int×Bool)) (a:Nat):Nat→List (Int×Bool)
 | 0=>bl
 | k+1=>mset ((a+k:Nat):Int) true (blW bl a k)
def mWrS (s:ByteArray) (f:Nat):ByteArray:=s.extract 0 (min s.size (4096 - f))
def mWrF (x:Fq) (f:Nat) (s:ByteArray):Fq:={x with nd:={x.nd with sz:=((wrC x.ct f s).size:Int)},ct:=wrC x.ct f s,bl:=blW x.bl (f / 64) ((f+s.size - 1) / 64+1 - f / 64)}
def mWrite (bs:List Bi) (fs:List Fq) (bi:Bi) (f:Int) (s:ByteArray):(Int×Int)×List Fq:=if (mGet bs fs bi).2≠0 then ((0,(mGet bs fs bi).2),fs) else if f<0∨4096<f then ((0,2),fs) else if f=4096∧isE s=false then ((0,26),fs) else
 if isE (mWrS s f.toNat)=true then ((0,0),fs) else match fs[(mGet bs fs bi).1]? with
 | none=>((0,0),fs)
 | some x=>((((mWrS s f.toNat).size:Int),0),fs.set (mGet bs fs bi).1 (mWrF x f.toNat (mWrS s f.toNat)))
set_option maxHeartbeats 8000000 in
theorem write27_ok (m:List (ByteArray×Int)) (f:Int) (s:ByteArray) (hs:s.size≤1000000) (hl:bs.length≤1000) (hlf:fs.length=bs.length) (hct:∀x ∈ fs,x.ct.size≤4096) (hw:bi.mkr.size≤1000) (hq:q.OK bs.length fs.length) :
  Enters 99∧Spec prog 99 #[.pointer (some ⟨bm,0,none⟩),bi.v,.int .i64 f,.string s] [] [MdP bm q bs.length fs.length,BiX q bs,FlX q fs,CM q.rm m fs]
  ⟨Unit,fun _=>.tuple #[.int .i64 (mWrite bs fs bi f s).1.1,.int .i64 (mWrite bs fs bi f s).1.2],fun _=>True,fun _=>[],fun _=>[MdP bm q bs.length fs.length,BiX q bs,FlX q (mWrite bs fs bi f s).2,CM q.rm m (mWrite bs fs bi f s).2]⟩:=by
 have n1:=YY bm q bs fs bi hl hlf hw
 unfold mWrite
 have hgo:=Y8 (bs:=bs) (fs:=fs) (bi:=bi)
 generalize mGet bs fs bi=g at *
 obtain ⟨i,e⟩:=g
 dsimp only at *
 by_cases he:e≠0
 ·simp only [if_pos he]
  refine ZM [_,_,_,_] func99 ntmps99 fun G w hp=>?_
  repeat' (first|refine ZE ?_|refine ZD ?_|refine ZL ?_|refine ZF ?_|refine ZS ?_|refine ZO ?_|refine ZV ?_|refine ZR (fun b=>?_)|refine ZX (fun b=>?_)|refine ZH ?_|refine ZB ?_|refine ZW ?_|refine ZT ?_|refine ZZ ?_|refine Zf ?_|refine Za ?_|refine Zd ?_|refine Zj (fun b=>?_)|refine Zm (fun b=>?_)|refine Zk ?_|refine ZU ?_|refine ZC (n1) (fun _ _=>?_)|refine l_call0 (n1) (fun _ _=>?_)|refine ZN (n1) (fun _ _=>?_)|(refine ZJ (fun hc=>?_) (fun hc=>?_)<;>(try simp at hc)<;>(try omega))|(refine ZP (fun hc=>?_) (fun hc=>?_)<;>(try simp at hc)<;>(try omega))|refine ZA 17 [] [(0,0),(1,0),(2,0),(3,0),(4,0),(5,0),(6,0),(7,0),(8,0),(9,0),(10,0),(11,0),(12,0),(13,0)] [14] ?_|refine ZA 22 [] [(0,0),(1,0),(2,0),(3,0),(4,0),(5,0),(6,0),(7,0),(8,0),(9,0),(10,0),(11,0),(12,0),(13,0),(14,0),(15,0),(16,0)] [17] ?_|(refine ZG (fun hc=>?_) (fun hc=>?_)<;>(try simp at hc)<;>(try omega)))
  exact ZK () rfl trivial
 ·obtain rfl:e=0:=by omega
  simp only [if_neg he]
  obtain ⟨-,-,x,hx,-,-⟩:=hgo rfl
  have hil:=(List.getElem?_eq_some_iff.1 hx).1
  have hxs:=hct x (List.mem_of_getElem? hx)
  by_cases hn:f<0∨4096<f
  ·simp only [if_pos hn]
   refine ZM [_,_,_,_] func99 ntmps99 fun G w hp=>?_
   repeat' (first|refine ZE ?_|refine ZD ?_|refine ZL ?_|refine ZF ?_|refine ZS ?_|refine ZO ?_|refine ZV ?_|refine ZR (fun b=>?_)|refine ZX (fun b=>?_)|refine ZH ?_|refine ZB ?_|refine ZW ?_|refine ZT ?_|refine ZZ ?_|refine Zf ?_|refine Za ?_|refine Zd ?_|refine Zj (fun b=>?_)|refine Zm (fun b=>?_)|refine Zk ?_|refine ZU ?_|refine ZC (n1) (fun _ _=>?_)|refine l_call0 (n1) (fun _ _=>?_)|refine ZN (n1) (fun _ _=>?_)|(refine ZJ (fun hc=>?_) (fun hc=>?_)<;>(try simp at hc)<;>(try omega))|(refine ZP (fun hc=>?_) (fun hc=>?_)<;>(try simp at hc)<;>(try omega))|refine ZA 17 [] [(0,0),(1,0),(2,0),(3,0),(4,0),(5,0),(6,0),(7,0),(8,0),(9,0),(10,0),(11,0),(12,0),(13,0)] [14] ?_|refine ZA 22 [] [(0,0),(1,0),(2,0),(3,0),(4,0),(5,0),(6,0),(7,0),(8,0),(9,0),(10,0),(11,0),(12,0),(13,0),(14,0),(15,0),(16,0)] [17] ?_|(refine ZG (fun hc=>?_) (fun hc=>?_)<;>(try simp at hc)<;>(try omega)))
   all_goals exact ZK () rfl trivial
  ·simp only [if_neg hn]
   by_cases h4:f=4096∧isE s=false
   ·simp only [if_pos h4]
    obtain ⟨rfl,hE⟩:=h4
    have hE2:(s.toList == ByteArray.toList ⟨#[]⟩)=false:=hE
    refine ZM [_,_,_,_] func99 ntmps99 fun G w hp=>?_
    repeat' (first|refine ZE ?_|refine ZD ?_|refine ZL ?_|refine ZF ?_|refine ZS ?_|refine ZO ?_|refine ZV ?_|refine ZR (fun b=>?_)|refine ZX (fun b=>?_)|refine ZH ?_|refine ZB ?_|refine ZW ?_|refine ZT ?_|refine ZZ ?_|refine Zf ?_|refine Za ?_|refine Zd ?_|refine Zj (fun b=>?_)|refine Zm (fun b=>?_)|refine Zk ?_|refine ZU ?_|refine ZC (n1) (fun _ _=>?_)|refine l_call0 (n1) (fun _ _=>?_)|refine ZN (n1) (fun _ _=>?_)|rw [hE2]|(refine ZJ (fun hc=>?_) (fun hc=>?_)<;>(try simp at hc)<;>(try omega))|(refine ZP (fun hc=>?_) (fun hc=>?_)<;>(try simp at hc)<;>(try omega))|refine ZA 17 [] [(0,0),(1,0),(2,0),(3,0),(4,0),(5,0),(6,0),(7,0),(8,0),(9,0),(10,0),(11,0),(12,0),(13,0)] [14] ?_|refine ZA 22 [] [(0,0),(1,0),(2,0),(3,0),(4,0),(5,0),(6,0),(7,0),(8,0),(9,0),(10,0),(11,0),(12,0),(13,0),(14,0),(15,0),(16,0)] [17] ?_|(refine ZG (fun hc=>?_) (fun hc=>?_)<;>(try simp at hc)<;>(try omega)))
    all_goals exact ZK () rfl trivial
   ·simp only [if_neg h4]
    obtain ⟨f',rfl⟩:∃k:Nat,f=(k:Int):=⟨f.toNat,by omega⟩
    simp only [Int.toNat_natCast]
    have w1:IntKind.i64.wrap (4096 - (f':Int))=((4096 - f':Nat):Int):=by rw [wrapi (by omega) (by omega)];omega
    have w2:(if ((4096 - f':Nat):Int)<(s.size:Int) then ((4096 - f':Nat):Int) else (s.size:Int))=((min s.size (4096 - f'):Nat):Int):=by split<;>omega
    have hus:(mWrS s f').size=min s.size (4096 - f'):=by unfold mWrS;rw [ByteArray.size_extract];omega
    have hE4:(f':Int)=4096→(s.toList == ByteArray.toList ⟨#[]⟩)=true:=fun h=>by
     cases hE:isE s with
     | true=>exact hE
     | false=>exact absurd ⟨h,hE⟩ h4
    have hue:s.extract 0 (min s.size (4096 - f'))=mWrS s f':=rfl
    generalize mWrS s f'=u at *
    by_cases hE:isE u=true
    ·simp only [if_pos hE]
     have hE3:(u.toList == ByteArray.toList ⟨#[]⟩)=true:=hE
     refine ZM [_,_,_,_] func99 ntmps99 fun G w hp=>?_
     repeat' (first|refine ZE ?_|refine ZD ?_|refine ZL ?_|refine ZF ?_|refine ZS ?_|refine ZO ?_|refine ZV ?_|refine ZR (fun b=>?_)|refine ZX (fun b=>?_)|refine ZH ?_|refine ZB ?_|refine ZW ?_|refine ZT ?_|refine ZZ ?_|refine Zf ?_|refine Za ?_|refine Zd ?_|refine Zj (fun b=>?_)|refine Zm (fun b=>?_)|refine Zk ?_|refine ZU ?_|refine ZC (n1) (fun _ _=>?_)|refine l_call0 (n1) (fun _ _=>?_)|refine ZN (n1) (fun _ _=>?_)|rw [w1]|rw [w2]|rw [hE4 (by omega)]|refine l_sHi (s:=s) (min s.size (4096 - f')) (by omega) ?_|rw [hue]|rw [hE3]|(refine ZJ (fun hc=>?_) (fun hc=>?_)<;>(try simp at hc)<;>(try omega))|(refine ZP (fun hc=>?_) (fun hc=>?_)<;>(try simp at hc)<;>(try omega))|refine ZA 17 [] [(0,0),(1,0),(2,0),(3,0),(4,0),(5,0),(6,0),(7,0),(8,0),(9,0),(10,0),(11,0),(12,0),(13,0)] [14] ?_|refine ZA 22 [] [(0,0),(1,0),(2,0),(3,0),(4,0),(5,0),(6,0),(7,0),(8,0),(9,0),(10,0),(11,0),(12,0),(13,0),(14,0),(15,0),(16,0)] [17] ?_|(refine ZG (fun hc=>?_) (fun hc=>?_)<;>(try simp at hc)<;>(try omega)))
     all_goals exact ZK () rfl trivial
    ·simp only [if_neg hE]
     rw [hx]
     dsimp only
     have hE3:(u.toList == ByteArray.toList ⟨#[]⟩)=false:=by
      show isE u=false
      simpa using hE
     have hu1:1≤u.size:=by
      have:u.size≠0:=fun h=>hE (by rw [isE_eq];exact decide_eq_true (ba_zero h))
      omega
     have hf5:¬(f':Int)=4096:=by omega
     have hzr:=Yd (f' - x.ct.size)
     obtain ⟨c2,hc2⟩:∃c2,(if x.ct.size<f' then x.ct++zer (f' - x.ct.size) else x.ct)=c2:=⟨_,rfl⟩
     have hc2s:c2.size=max x.ct.size f':=by
      rw [←hc2]
      split
      ·rw [ByteArray.size_append,hzr];omega
      ·omega
     obtain ⟨r2,hr2⟩:∃r2,(if f'+u.size<c2.size then c2.extract (f'+u.size) c2.size else ⟨#[]⟩)=r2:=⟨_,rfl⟩
     have hr2s:r2.size≤4096:=by
      rw [←hr2]
      split
      ·rw [ByteArray.size_extract];omega
      ·exact Nat.zero_le _
     have hes:(c2.extract 0 f').size=f':=by rw [ByteArray.size_extract];omega
     have hwc:wrC x.ct f' u=(c2.extract 0 f'++u)++r2:=by
      unfold wrC
      rw [hc2,←hc2s,hr2]
     have hws:=wrC_size (c:=x.ct) (f:=f') (s:=u)
     have w3:IntKind.i64.wrap ((f':Int) - (x.ct.size:Int))=(f':Int) - (x.ct.size:Int):=wrapi (by omega) (by omega)
     have w4:IntKind.i64.wrap ((f':Int)+(u.size:Int))=((f'+u.size:Nat):Int):=by rw [wrapi (by omega) (by omega)];omega
     have w5:IntKind.i64.wrap (((f'+u.size:Nat):Int) - 1)=((f'+u.size - 1:Nat):Int):=by rw [wrapi (by omega) (by omega)];omega
     have w6:((f'+u.size - 1:Nat):Int).tdiv 64=(((f'+u.size - 1) / 64:Nat):Int):=by rw [Int.tdiv_eq_ediv_of_nonneg (Int.natCast_nonneg _)];exact (Int.natCast_ediv _ 64).symm
     have w7:IntKind.i64.wrap ((((f'+u.size - 1) / 64:Nat):Int))=(((f'+u.size - 1) / 64:Nat):Int):=wrapi (by omega) (by omega)
     have w8:(f':Int).tdiv 64=((f' / 64:Nat):Int):=by rw [Int.tdiv_eq_ediv_of_nonneg (Int.natCast_nonneg _)];exact (Int.natCast_ediv _ 64).symm
     have w9:IntKind.i64.wrap (((f' / 64:Nat):Int))=((f' / 64:Nat):Int):=wrapi (by omega) (by omega)
     have nz:=zerosI_ok ((f':Int) - (x.ct.size:Int)) (by omega)
     have hzn:((f':Int) - (x.ct.size:Int)).toNat=f' - x.ct.size:=by omega
     rw [hzn] at nz
     have hx1:∀g,(fs.set i g)[i]? = some g:=fun g=>by rw [List.getElem?_set_self hil]
     have hls:∀g,(fs.set i g).length=fs.length:=fun g=>List.length_set
     have hfin:mWrF x f' u={({x with ct:=(c2.extract 0 f'++u)++r2}:Fq) with nd:={x.nd with sz:=((((c2.extract 0 f'++u)++r2).size:Nat):Int)},bl:=blW x.bl (f' / 64) ((f'+u.size - 1) / 64+1 - f' / 64)}:=by unfold mWrF;rw [hwc]
     rw [hfin]
     rw [hwc] at hws
     generalize hW:(c2.extract 0 f'++u)++r2=W at *
     have hf3:=hq.f3
     have hf4:∀g,AxOK ((fs.set i g).length * 9) q.fq:=fun g=>by rw [hls];exact hf3
     refine ZM [_,_,_,_] func99 ntmps99 fun G w hp=>?_
     refine Vc 11 (Y:=Unit) (fun _=>[(0,.pointer (some ⟨bm,0,none⟩)),(2,.int .i64 (f':Int)),(3,.string u),(10,.int .i64 (i:Int)),(12,.string c2),(13,.string r2)]) (fun _=>[]) (fun _=>[MdP bm q bs.length fs.length,BiX q bs,FlX q fs,CM q.rm m fs]) ?_ ?_
     ·rintro ⟨⟩
      dsimp only
      repeat' (first|refine ZE ?_|refine ZD ?_|refine ZL ?_|refine ZF ?_|refine ZS ?_|refine ZO ?_|refine ZV ?_|refine ZR (fun b=>?_)|refine ZX (fun b=>?_)|refine ZH ?_|refine ZB ?_|refine ZT ?_|refine ZZ ?_|refine Zf ?_|refine Za ?_|refine Zd ?_|refine Zj (fun b=>?_)|refine Zm (fun b=>?_)|refine Zk ?_|refine ZU ?_|rw [w8]|rw [w9]|refine r_sHi (s:=c2) f' (by omega) ?_|refine r_cat (a:=c2.extract 0 f') (b:=u) ?_ (h:=by omega)|refine r_cat (a:=c2.extract 0 f'++u) (b:=r2) ?_ (h:=by rw [ByteArray.size_append];omega)|rw [hW]|refine Y1 (m:=fs.length) (sz:=9) i hil ?_|refine Z3 9 i 7 {x with ct:=W} hx hf3 ?_|(refine ZJ (fun hc=>?_) (fun hc=>?_)<;>(try simp at hc)<;>(try omega))|(refine ZP (fun hc=>?_) (fun hc=>?_)<;>(try simp at hc)<;>(try omega))|refine ZA 17 [FlX _ _] [(0,0),(1,0),(2,0),(3,0),(4,0),(5,0),(6,0),(7,0),(8,0),(9,0),(10,0),(11,0),(12,0),(13,0),(14,4)] [] ?_|refine ZA 22 [] [(0,0),(1,0),(2,0),(3,0),(4,0),(5,0),(6,0),(7,0),(8,0),(9,0),(10,0),(11,0),(12,0),(13,0),(14,0),(15,0),(16,0)] [17] ?_|(refine ZG (fun hc=>?_) (fun hc=>?_)<;>(try simp at hc)<;>(try omega)))
      refine Z6 (X:=Unit) (Lx:=fun _=>[Mp Yl ziv q.rm m,BlF x,CMr fs i]) (p:=fun _=>True) (r:=CM q.rm m fs) (by repeat (first|exact Sel.here|apply Sel.there)) (fun h hh=>⟨(),trivial,cm_open hx hh⟩) (fun _ _=>?_)
      refine Z8 (X:={k:Nat // k≤(f'+u.size - 1) / 64+1 - f' / 64}) (fun k=>[(0,.pointer (some ⟨bm,0,none⟩)),(2,.int .i64 (f':Int)),(3,.string u),(10,.int .i64 (i:Int)),(14,.int .i64 ((f' / 64+k.1:Nat):Int))]) (fun _=>[]) (fun k=>[MdP bm q bs.length fs.length,BiX q bs,FlX q (fs.set i {x with ct:=W}),Mp Yl ziv q.rm m,Mp ziv blv x.mr (blW x.bl (f' / 64) k.1),CMr fs i]) (fun k=>(f'+u.size - 1) / 64+1 - f' / 64 - k.1) ⟨0,Nat.zero_le _⟩ ⟨rfl,rfl,rfl,rfl,rfl,trivial⟩ ?_
      rintro ⟨k,hk⟩
      dsimp only
      by_cases hlt:k<(f'+u.size - 1) / 64+1 - f' / 64
      ·have v1:IntKind.i64.wrap (((f' / 64+k:Nat):Int)+1)=((f' / 64+(k+1):Nat):Int):=by rw [wrapi (by omega) (by omega)];omega
       repeat' (first|refine ZE ?_|refine ZD ?_|refine ZL ?_|refine ZF ?_|refine ZS ?_|refine ZO ?_|refine ZV ?_|refine ZR (fun b=>?_)|refine ZX (fun b=>?_)|refine ZH ?_|refine ZB ?_|refine ZT ?_|refine ZZ ?_|refine Zf ?_|refine Za ?_|refine Zd ?_|refine Zj (fun b=>?_)|refine Zm (fun b=>?_)|refine Zk ?_|refine ZU ?_|rw [w4]|rw [w5]|rw [w6]|rw [w7]|rw [v1]|refine Yv (m:=fs.length) (sz:=9) i hil ?_|refine Zn 9 i 8 (hx1 _) ?_|refine l_mset (V:=blv) key_zi ((f' / 64+k:Nat):Int) true ?_|(refine ZJ (fun hc=>?_) (fun hc=>?_)<;>(try simp at hc)<;>(try omega))|(refine ZP (fun hc=>?_) (fun hc=>?_)<;>(try simp at hc)<;>(try omega))|refine ZA 17 [] [(0,0),(1,0),(2,0),(3,0),(4,0),(5,0),(6,0),(7,0),(8,0),(9,0),(10,0),(11,0),(12,0),(13,0)] [14] ?_|refine ZA 22 [] [(0,0),(1,0),(2,0),(3,0),(4,0),(5,0),(6,0),(7,0),(8,0),(9,0),(10,0),(11,0),(12,0),(13,0),(14,0),(15,0),(16,0)] [17] ?_|(refine ZG (fun hc=>?_) (fun hc=>?_)<;>(try simp at hc)<;>(try omega)))
       exact Zb ⟨k+1,by omega⟩ (by show (f'+u.size - 1) / 64+1 - f' / 64 - (k+1)<(f'+u.size - 1) / 64+1 - f' / 64 - k;omega) ⟨rfl,rfl,rfl,rfl,rfl,trivial⟩
      ·obtain rfl:k=(f'+u.size - 1) / 64+1 - f' / 64:=by omega
       generalize blW x.bl (f' / 64) ((f'+u.size - 1) / 64+1 - f' / 64)=bl2 at *
       repeat' (first|refine ZE ?_|refine ZD ?_|refine ZL ?_|refine ZF ?_|refine ZS ?_|refine ZO ?_|refine ZV ?_|refine ZR (fun b=>?_)|refine ZX (fun b=>?_)|refine ZH ?_|refine ZB ?_|refine ZW ?_|refine ZT ?_|refine ZZ ?_|refine Zf ?_|refine Za ?_|refine Zd ?_|refine Zj (fun b=>?_)|refine Zm (fun b=>?_)|refine Zk ?_|refine ZU ?_|rw [w4]|rw [w5]|rw [w6]|rw [w7]|refine Y1 (m:=fs.length) (sz:=9) i hil ?_|refine Ze 9 i 7 (hx1 _) ?_|refine Z3 9 i 4 {({x with ct:=W}:Fq) with nd:={x.nd with sz:=(W.size:Int)}} (hx1 _) (hf4 _) ?_|(refine ZJ (fun hc=>?_) (fun hc=>?_)<;>(try simp at hc)<;>(try omega))|(refine ZP (fun hc=>?_) (fun hc=>?_)<;>(try simp at hc)<;>(try omega))|refine ZA 17 [] [(0,0),(1,0),(2,0),(3,0),(4,0),(5,0),(6,0),(7,0),(8,0),(9,0),(10,0),(11,0),(12,0),(13,0)] [14] ?_|refine ZA 22 [FlX _ _] [(0,0),(1,0),(2,0),(3,0),(4,0),(5,0),(6,0),(7,0),(8,0),(9,0),(10,0),(11,0),(12,3),(13,0),(14,0),(15,0),(16,0),(17,4)] [] ?_|(refine ZG (fun hc=>?_) (fun hc=>?_)<;>(try simp at hc)<;>(try omega)))
       refine Zs (r:=CM q.rm m (fs.set i {({x with ct:=W}:Fq) with nd:={x.nd with sz:=(W.size:Int)},bl:=bl2})) (Lx:=[Mp Yl ziv q.rm m,Mp ziv blv x.mr bl2,CMr fs i]) (fun h hh=>cm_shut hx hh) ?_
       refine k_say (P:=FlX q ((fs.set i {x with ct:=W}).set i {({x with ct:=W}:Fq) with nd:={x.nd with sz:=(W.size:Int)}})) (flx_bl2 (B:={({x with ct:=W}:Fq) with nd:={x.nd with sz:=(W.size:Int)},bl:=bl2}) rfl) ?_
       exact ZK () rfl trivial
     ·intro hx9
      by_cases hfc:x.ct.size<f'
      ·rw [if_pos hfc] at hc2
       subst hc2
       rw [if_neg (by omega)] at hr2
       subst hr2
       have hsz:(x.ct++zer (f' - x.ct.size)).size=f':=by omega
       have w10:(((x.ct++zer (f' - x.ct.size)).size:Nat):Int)=(f':Int):=by rw [hsz]
       repeat' (first|refine XJ ?_|refine Xb hx9 () ⟨rfl,rfl,rfl,rfl,rfl,rfl,trivial⟩|refine ZE ?_|refine ZD ?_|refine ZL ?_|refine ZF ?_|refine ZS ?_|refine ZO ?_|refine ZV ?_|refine ZR (fun b=>?_)|refine ZX (fun b=>?_)|refine ZH ?_|refine ZB ?_|refine ZT ?_|refine ZZ ?_|refine Zf ?_|refine Za ?_|refine Zd ?_|refine Zj (fun b=>?_)|refine Zm (fun b=>?_)|refine Zk ?_|refine ZU ?_|refine ZC (n1) (fun _ _=>?_)|refine l_call0 (n1) (fun _ _=>?_)|refine ZN (n1) (fun _ _=>?_)|refine ZC (nz) (fun _ _=>?_)|refine l_call0 (nz) (fun _ _=>?_)|refine ZN (nz) (fun _ _=>?_)|refine l_cat (a:=x.ct) (b:=zer (f' - x.ct.size)) ?_ (h:=by omega)|rw [w1]|rw [w2]|rw [hE4 (by omega)]|refine l_sHi (s:=s) (min s.size (4096 - f')) (by omega) ?_|rw [hue]|rw [hE3]|refine Yv (m:=fs.length) (sz:=9) i hil ?_|refine Zn 9 i 7 hx ?_|rw [w3]|rw [w4]|rw [w10]|(refine ZJ (fun hc=>?_) (fun hc=>?_)<;>(try simp at hc)<;>(try omega))|(refine ZP (fun hc=>?_) (fun hc=>?_)<;>(try simp at hc)<;>(try omega))|refine ZA 17 [] [(0,0),(1,0),(2,0),(3,0),(4,0),(5,0),(6,0),(7,0),(8,0),(9,0),(10,0),(11,0),(12,0),(13,0)] [14] ?_|refine ZA 22 [] [(0,0),(1,0),(2,0),(3,0),(4,0),(5,0),(6,0),(7,0),(8,0),(9,0),(10,0),(11,0),(12,0),(13,0),(14,0),(15,0),(16,0)] [17] ?_|(refine ZG (fun hc=>?_) (fun hc=>?_)<;>(try simp at hc)<;>(try omega)))
      ·rw [if_neg hfc] at hc2
       subst hc2
       by_cases hfr:f'+u.size<x.ct.size
       ·rw [if_pos hfr] at hr2
        subst hr2
        repeat' (first|refine XJ ?_|refine Xb hx9 () ⟨rfl,rfl,rfl,rfl,rfl,rfl,trivial⟩|refine ZE ?_|refine ZD ?_|refine ZL ?_|refine ZF ?_|refine ZS ?_|refine ZO ?_|refine ZV ?_|refine ZR (fun b=>?_)|refine ZX (fun b=>?_)|refine ZH ?_|refine ZB ?_|refine ZT ?_|refine ZZ ?_|refine Zf ?_|refine Za ?_|refine Zd ?_|refine Zj (fun b=>?_)|refine Zm (fun b=>?_)|refine Zk ?_|refine ZU ?_|refine ZC (n1) (fun _ _=>?_)|refine l_call0 (n1) (fun _ _=>?_)|refine ZN (n1) (fun _ _=>?_)|refine ZC (nz) (fun _ _=>?_)|refine l_call0 (nz) (fun _ _=>?_)|refine ZN (nz) (fun _ _=>?_)|refine l_cat (a:=x.ct) (b:=zer (f' - x.ct.size)) ?_ (h:=by omega)|rw [w1]|rw [w2]|rw [hE4 (by omega)]|refine l_sHi (s:=s) (min s.size (4096 - f')) (by omega) ?_|rw [hue]|rw [hE3]|refine Yv (m:=fs.length) (sz:=9) i hil ?_|refine Zn 9 i 7 hx ?_|rw [w3]|rw [w4]|refine l_sEn (s:=x.ct) (f'+u.size) (by omega) ?_|(refine ZJ (fun hc=>?_) (fun hc=>?_)<;>(try simp at hc)<;>(try omega))|(refine ZP (fun hc=>?_) (fun hc=>?_)<;>(try simp at hc)<;>(try omega))|refine ZA 17 [] [(0,0),(1,0),(2,0),(3,0),(4,0),(5,0),(6,0),(7,0),(8,0),(9,0),(10,0),(11,0),(12,0),(13,0)] [14] ?_|refine ZA 22 [] [(0,0),(1,0),(2,0),(3,0),(4,0),(5,0),(6,0),(7,0),(8,0),(9,0),(10,0),(11,0),(12,0),(13,0),(14,0),(15,0),(16,0)] [17] ?_|(refine ZG (fun hc=>?_) (fun hc=>?_)<;>(try simp at hc)<;>(try omega)))
       ·rw [if_neg hfr] at hr2
        subst hr2
        repeat' (first|refine XJ ?_|refine Xb hx9 () ⟨rfl,rfl,rfl,rfl,rfl,rfl,trivial⟩|refine ZE ?_|refine ZD ?_|refine ZL ?_|refine ZF ?_|refine ZS ?_|refine ZO ?_|refine ZV ?_|refine ZR (fun b=>?_)|refine ZX (fun b=>?_)|refine ZH ?_|refine ZB ?_|refine ZT ?_|refine ZZ ?_|refine Zf ?_|refine Za ?_|refine Zd ?_|refine Zj (fun b=>?_)|refine Zm (fun b=>?_)|refine Zk ?_|refine ZU ?_|refine ZC (n1) (fun _ _=>?_)|refine l_call0 (n1) (fun _ _=>?_)|refine ZN (n1) (fun _ _=>?_)|refine ZC (nz) (fun _ _=>?_)|refine l_call0 (nz) (fun _ _=>?_)|refine ZN (nz) (fun _ _=>?_)|refine l_cat (a:=x.ct) (b:=zer (f' - x.ct.size)) ?_ (h:=by omega)|rw [w1]|rw [w2]|rw [hE4 (by omega)]|refine l_sHi (s:=s) (min s.size (4096 - f')) (by omega) ?_|rw [hue]|rw [hE3]|refine Yv (m:=fs.length) (sz:=9) i hil ?_|refine Zn 9 i 7 hx ?_|rw [w3]|rw [w4]|(refine ZJ (fun hc=>?_) (fun hc=>?_)<;>(try simp at hc)<;>(try omega))|(refine ZP (fun hc=>?_) (fun hc=>?_)<;>(try simp at hc)<;>(try omega))|refine ZA 17 [] [(0,0),(1,0),(2,0),(3,0),(4,0),(5,0),(6,0),(7,0),(8,0),(9,0),(10,0),(11,0),(12,0),(13,0)] [14] ?_|refine ZA 22 [] [(0,0),(1,0),(2,0),(3,0),(4,0),(5,0),(6,0),(7,0),(8,0),(9,0),(10,0),(11,0),(12,0),(13,0),(14,0),(15,0),(16,0)] [17] ?_|(refine ZG (fun hc=>?_) (fun hc=>?_)<;>(try simp at hc)<;>(try omega)))
end
section
variable (bm:Nat) (q:Mq) (bs:List Bi) (fs:List Fq) (bi:Bi)
def rzC (c:ByteArray) (n:Nat):ByteArray:=c.extract 0 (min n c.size)++zer (n - c.size)
def blZ (bl:List (Int×Bool)) (n:Nat):Nat→List (Int×Bool)
 | 0=>bl
 | k+1=>if n≤64 * k then mset (k:Int) false (blZ bl n k) else blZ bl n k
def mRzF (x:Fq) (n:Nat):Fq:={x with nd:={x.nd with sz:=(n:Int)},ct:=rzC x.ct n,bl:=blZ x.bl n 64}
def mResize (bs:List Bi) (fs:List Fq) (bi:Bi) (n:Int):Int×List Fq:=if (mGet bs fs bi).2≠0 then ((mGet bs fs bi).2,fs) else if n<0∨4096<n then (2,fs) else match fs[(mGet bs fs bi).1]? with
 | none=>(0,fs)
 | some x=>(0,fs.set (mGet bs fs bi).1 (mRzF x n.toNat))
set_option maxHeartbeats 8000000 in
theorem resize27_ok (m:List (ByteArray×Int)) (n:Int) (hl:bs.length≤1000) (hlf:fs.length=bs.length) (hct:∀x ∈ fs,x.ct.size≤4096) (hw:bi.mkr.size≤1000) (hq:q.OK bs.length fs.length) :
  Enters 100∧Spec prog 100 #[.pointer (some ⟨bm,0,none⟩),bi.v,.int .i64 n] [] [MdP bm q bs.length fs.length,BiX q bs,FlX q fs,CM q.rm m fs]
  ⟨Unit,fun _=>.int .i64 (mResize bs fs bi n).1,fun _=>True,fun _=>[],fun _=>[MdP bm q bs.length fs.length,BiX q bs,FlX q (mResize bs fs bi n).2,CM q.rm m (mResize bs fs bi n).2]⟩:=by
 have n1:=YY bm q bs fs bi hl hlf hw
 unfold mResize
 have hgo:=Y8 (bs:=bs) (fs:=fs) (bi:=bi)
 generalize mGet bs fs bi=g at *
 obtain ⟨i,e⟩:=g
 dsimp only at *
 by_cases he:e≠0
 ·simp only [if_pos he]
  refine ZM [_,_,_] func100 ntmps100 fun G w hp=>?_
  repeat' (first|refine ZE ?_|refine ZD ?_|refine ZF ?_|refine ZS ?_|refine ZR (fun b=>?_)|refine ZC (n1) (fun _ _=>?_)|(refine ZG (fun hc=>?_) (fun hc=>?_)<;>(try simp at hc)<;>(try omega))|fail)
  exact ZK () rfl trivial
 ·obtain rfl:e=0:=by omega
  simp only [if_neg he]
  obtain ⟨-,-,x,hx,-,-⟩:=hgo rfl
  have hil:=(List.getElem?_eq_some_iff.1 hx).1
  have hxs:=hct x (List.mem_of_getElem? hx)
  by_cases hn:n<0∨4096<n
  ·simp only [if_pos hn]
   refine ZM [_,_,_] func100 ntmps100 fun G w hp=>?_
   repeat' (first|refine ZE ?_|refine ZD ?_|refine ZL ?_|refine ZF ?_|refine ZS ?_|refine ZR (fun b=>?_)|refine ZH ?_|refine ZB ?_|refine ZC (n1) (fun _ _=>?_)|(refine ZJ (fun hc=>?_) (fun hc=>?_)<;>(try simp at hc)<;>(try omega))|(refine ZG (fun hc=>?_) (fun hc=>?_)<;>(try simp at hc)<;>(try omega))|fail)
   all_goals exact ZK () rfl trivial
  ·simp only [if_neg hn]
   rw [hx]
   dsimp only
   obtain ⟨n',rfl⟩:∃k:Nat,n=(k:Int):=⟨n.toNat,by omega⟩
   simp only [Int.toNat_natCast]
   have w1:IntKind.i64.wrap ((n':Int) - (x.ct.size:Int))=(n':Int) - (x.ct.size:Int):=wrapi (by omega) (by omega)
   have w2:(if (x.ct.size:Int)<(n':Int) then (x.ct.size:Int) else (n':Int))=((min n' x.ct.size:Nat):Int):=by split<;>omega
   have nz:=zerosI_ok ((n':Int) - (x.ct.size:Int)) (by omega)
   have hzn:((n':Int) - (x.ct.size:Int)).toNat=n' - x.ct.size:=by omega
   rw [hzn] at nz
   have hzr:=Yd (n' - x.ct.size)
   have hes:(x.ct.extract 0 (min n' x.ct.size)).size=min n' x.ct.size:=by rw [ByteArray.size_extract];omega
   have hx1:∀g,(fs.set i g)[i]? = some g:=fun g=>by rw [List.getElem?_set_self hil]
   have hls:∀g,(fs.set i g).length=fs.length:=fun g=>List.length_set
   unfold mRzF
   have hW:x.ct.extract 0 (min n' x.ct.size)++zer (n' - x.ct.size)=rzC x.ct n':=rfl
   generalize rzC x.ct n'=W at *
   have hf3:=hq.f3
   have hf4:∀g,AxOK ((fs.set i g).length * 9) q.fq:=fun g=>by rw [hls];exact hf3
   refine ZM [_,_,_] func100 ntmps100 fun G w hp=>?_
   repeat' (first|refine ZE ?_|refine ZD ?_|refine ZL ?_|refine ZF ?_|refine ZS ?_|refine ZR (fun b=>?_)|refine ZB ?_|refine ZT ?_|refine Zf ?_|refine ZU ?_|refine ZC (n1) (fun _ _=>?_)|refine ZN (nz) (fun _ _=>?_)|rw [w1]|rw [w2]|refine Yv (m:=fs.length) (sz:=9) i hil ?_|refine Zn 9 i 7 hx ?_|refine r_sHi (s:=x.ct) (min n' x.ct.size) (by omega) ?_|refine r_cat (a:=x.ct.extract 0 (min n' x.ct.size)) (b:=zer (n' - x.ct.size)) ?_ (h:=by omega)|rw [hW]|refine Y1 (m:=fs.length) (sz:=9) i hil ?_|refine Z3 9 i 7 {x with ct:=W} hx hf3 ?_|refine ZA 7 [FlX _ _] [(0,0),(1,0),(2,0),(3,0),(4,0),(5,0),(6,0),(7,0),(8,0),(9,0),(10,0),(11,0),(12,0),(13,0),(14,0),(15,4),(16,0),(17,0),(18,0),(19,4)] [] ?_|(refine ZG (fun hc=>?_) (fun hc=>?_)<;>(try simp at hc)<;>(try omega))|fail)
   refine Z6 (X:=Unit) (Lx:=fun _=>[Mp Yl ziv q.rm m,BlF x,CMr fs i]) (p:=fun _=>True) (r:=CM q.rm m fs) (by repeat (first|exact Sel.here|apply Sel.there)) (fun h hh=>⟨(),trivial,cm_open hx hh⟩) (fun _ _=>?_)
   refine Z8 (X:={k:Nat // k≤64}) (fun k=>[(0,.pointer (some ⟨bm,0,none⟩)),(2,.int .i64 (n':Int)),(7,.int .i64 (i:Int)),(10,.int .i64 (k.1:Int))]) (fun _=>[]) (fun k=>[MdP bm q bs.length fs.length,BiX q bs,FlX q (fs.set i {x with ct:=W}),Mp Yl ziv q.rm m,Mp ziv blv x.mr (blZ x.bl n' k.1),CMr fs i]) (fun k=>64 - k.1) ⟨0,Nat.zero_le _⟩ ⟨rfl,rfl,rfl,rfl,trivial⟩ ?_
   rintro ⟨k,hk⟩
   dsimp only
   by_cases hlt:k<64
   ·have v1:IntKind.i64.wrap ((k:Int)+1)=((k+1:Nat):Int):=by rw [wrapi (by omega) (by omega)];omega
    have v2:IntKind.i64.wrap (64 * (k:Int))=((64 * k:Nat):Int):=by rw [wrapi (by omega) (by omega)];omega
    by_cases hg:n'≤64 * k
    ·have hb:blZ x.bl n' (k+1)=mset (k:Int) false (blZ x.bl n' k):=by rw [blZ,if_pos hg]
     repeat' (first|refine ZE ?_|refine ZD ?_|refine ZF ?_|refine ZS ?_|rw [v1]|rw [v2]|refine Yv (m:=fs.length) (sz:=9) i hil ?_|refine Zn 9 i 8 (hx1 _) ?_|refine l_mset (V:=blv) key_zi (k:Int) false ?_|(refine ZG (fun hc=>?_) (fun hc=>?_)<;>(try simp at hc)<;>(try omega))|fail)
     rw [←hb]
     exact Zb ⟨k+1,by omega⟩ (by show 64 - (k+1)<64 - k;omega) ⟨rfl,rfl,rfl,rfl,trivial⟩
    ·have hb:blZ x.bl n' (k+1)=blZ x.bl n' k:=by rw [blZ,if_neg hg]
     repeat' (first|refine ZE ?_|refine ZD ?_|refine ZF ?_|rw [v1]|rw [v2]|(refine ZG (fun hc=>?_) (fun hc=>?_)<;>(try simp at hc)<;>(try omega))|fail)
     rw [←hb]
     exact Zb ⟨k+1,by omega⟩ (by show 64 - (k+1)<64 - k;omega) ⟨rfl,rfl,rfl,rfl,trivial⟩
   ·obtain rfl:k=64:=by omega
    generalize blZ x.bl n' 64=bl2 at *
    repeat' (first|refine ZE ?_|refine ZD ?_|refine ZF ?_|refine ZS ?_|refine ZB ?_|refine ZW ?_|refine Yv (m:=fs.length) (sz:=9) i hil ?_|refine Zv 9 i 4 {({x with ct:=W}:Fq) with nd:={x.nd with sz:=(n':Int)}} (hx1 _) (hf4 _) ?_|fail)
    refine Zs (r:=CM q.rm m (fs.set i {({x with ct:=W}:Fq) with nd:={x.nd with sz:=(n':Int)},bl:=bl2})) (Lx:=[Mp Yl ziv q.rm m,Mp ziv blv x.mr bl2,CMr fs i]) (fun h hh=>cm_shut hx hh) ?_
    refine k_say (P:=FlX q ((fs.set i {x with ct:=W}).set i {({x with ct:=W}:Fq) with nd:={x.nd with sz:=(n':Int)}})) (flx_bl2 (B:={({x with ct:=W}:Fq) with nd:={x.nd with sz:=(n':Int)},bl:=bl2}) rfl) ?_
    exact ZK () rfl trivial
def mSet (bs:List Bi) (fs:List Fq) (bi:Bi) (nd:Ino):Int×List Fq:=if ichk nd≠0 then (ichk nd,fs) else if bchk bi≠0 then (bchk bi,fs) else match fndI bs bi with
 | none=>(8,fs)
 | some i=>match fs[i]? with
  | none=>(8,fs)
  | some x=>if x.nd.kd≠nd.kd then (11,fs) else (0,fs.set i {x with nd:={nd with sz:=x.nd.sz}})
set_option maxHeartbeats 8000000 in
theorem set27_ok (nd:Ino) (hl:bs.length≤1000) (hlf:fs.length=bs.length) (hw:bi.mkr.size≤1000) (hq:q.OK bs.length fs.length) :
  Enters 101∧Spec prog 101 #[.pointer (some ⟨bm,0,none⟩),bi.v,nd.v] [] [MdP bm q bs.length fs.length,BiX q bs,FlX q fs]
  ⟨Unit,fun _=>.int .i64 (mSet bs fs bi nd).1,fun _=>True,fun _=>[],fun _=>[MdP bm q bs.length fs.length,BiX q bs,FlX q (mSet bs fs bi nd).2]⟩:=by
 have n0:=Xp nd
 have n1:=WA bi (by omega)
 have n2:=UO bm q bs bi fs.length hl
 unfold mSet
 by_cases h0:ichk nd≠0
 ·simp only [if_pos h0]
  generalize ichk nd=e at *
  refine ZM [_,_,_] func101 ntmps101 fun G w hp=>?_
  repeat' (first|refine ZE ?_|refine ZD ?_|refine ZF ?_|refine ZS ?_|refine ZR (fun b=>?_)|refine ZC (n0) (fun _ _=>?_)|(refine ZG (fun hc=>?_) (fun hc=>?_)<;>(try simp at hc)<;>(try omega))|fail)
  exact ZK () rfl trivial
 ·simp only [if_neg h0]
  rw [show ichk nd=0 by omega] at n0
  by_cases h1:bchk bi≠0
  ·simp only [if_pos h1]
   generalize bchk bi=e at *
   obtain ⟨c1,c2,c3,c4,c5,c6,c7⟩:=nd
   simp only [Ino.v] at *
   refine ZM [_,_,_] func101 ntmps101 fun G w hp=>?_
   repeat' (first|refine ZE ?_|refine ZD ?_|refine ZF ?_|refine ZS ?_|refine ZR (fun b=>?_)|refine ZB ?_|refine ZC (n0) (fun _ _=>?_)|refine ZC (n1) (fun _ _=>?_)|(refine ZG (fun hc=>?_) (fun hc=>?_)<;>(try simp at hc)<;>(try omega))|fail)
   exact ZK () rfl trivial
  ·simp only [if_neg h1]
   rw [show bchk bi=0 by omega] at n1
   cases hf:fndI bs bi with
   | none=>
    rw [hf] at n2
    obtain ⟨c1,c2,c3,c4,c5,c6,c7⟩:=nd
    simp only [Ino.v] at *
    refine ZM [_,_,_] func101 ntmps101 fun G w hp=>?_
    repeat' (first|refine ZE ?_|refine ZD ?_|refine ZF ?_|refine ZS ?_|refine ZR (fun b=>?_)|refine ZH ?_|refine ZB ?_|refine ZC (n0) (fun _ _=>?_)|refine ZC (n1) (fun _ _=>?_)|refine ZC (n2) (fun _ _=>?_)|fail)
    exact ZK () rfl trivial
   | some i=>
    rw [hf] at n2
    have hib:=(List.getElem?_eq_some_iff.1 (WI hf).1).1
    have hil:i<fs.length:=by omega
    obtain ⟨x,hx⟩:∃x,fs[i]? = some x:=⟨_,List.getElem?_eq_getElem hil⟩
    dsimp only
    rw [hx]
    dsimp only
    have hf3:=hq.f3
    obtain ⟨c1,c2,c3,c4,c5,c6,c7⟩:=nd
    simp only [Ino.v] at *
    by_cases h2:x.nd.kd≠c1
    ·simp only [if_pos h2]
     have hb:(x.nd.kd != c1)=true:=by simpa using h2
     refine ZM [_,_,_] func101 ntmps101 fun G w hp=>?_
     repeat' (first|refine ZE ?_|refine ZD ?_|refine ZF ?_|refine ZS ?_|refine ZR (fun b=>?_)|refine ZH ?_|refine ZB ?_|refine ZT ?_|refine Zf ?_|refine ZU ?_|refine ZC (n0) (fun _ _=>?_)|refine ZC (n1) (fun _ _=>?_)|refine ZC (n2) (fun _ _=>?_)|refine Y1 (m:=fs.length) (sz:=9) i hil ?_|refine Zc 9 i 0 hx ?_|rw [hb]|refine ZA 10 [] [(0,0),(1,0),(2,0),(3,0),(4,0),(5,0),(6,0),(7,0),(8,0),(9,0),(10,0),(11,0)] [] ?_|fail)
     exact ZK () rfl trivial
    ·simp only [if_neg h2]
     have hb:(x.nd.kd != c1)=false:=by simpa using h2
     refine ZM [_,_,_] func101 ntmps101 fun G w hp=>?_
     repeat' (first|refine ZE ?_|refine ZD ?_|refine ZF ?_|refine ZS ?_|refine ZV ?_|refine ZR (fun b=>?_)|refine ZB ?_|refine ZT ?_|refine Zf ?_|refine ZU ?_|refine ZC (n0) (fun _ _=>?_)|refine ZC (n1) (fun _ _=>?_)|refine ZC (n2) (fun _ _=>?_)|refine Y1 (m:=fs.length) (sz:=9) i hil ?_|refine Zc 9 i 0 hx ?_|rw [hb]|refine Yv (m:=fs.length) (sz:=9) i hil ?_|refine Zn 9 i 4 hx ?_|refine Z3 9 i 0 {x with nd:=⟨c1,c2,c3,c4,x.nd.sz,c6,c7⟩} hx hf3 ?_|refine ZA 10 [] [(0,0),(1,0),(2,0),(3,0),(4,0),(5,0),(6,0),(7,0),(8,0),(9,0),(10,0),(11,0)] [] ?_|refine ZA 13 [FlX _ _] [(0,0),(1,0),(2,0),(3,0),(4,0),(5,0),(6,0),(7,0),(8,4)] [] ?_|fail)
     exact ZK () rfl trivial
end
section
variable {off:Nat} {cs:Array Value} {ty:TypeId} {fzn:Nat×Nat} {v:Value}
theorem Vs {T sz:Nat} {o:Option Addr} {m cap i:Nat} {w:World} {rs tr:TRow} (hts:lookT tab t=some rs) (hrs:rs.k = .slice T) (hT:lookT tab T=some tr) (hsz:tr.size=sz) {z:Int} {kd:IntKind} (hz:z=(i:Int)) (hi:i<m) {p:Addr} (ho:o.map (·.add (i * sz))=some p) :
  (Instr.indexAt t (.slice o m cap) (.int kd z)).run prog w = .ok (.pointer (some p)) w:=by
 obtain ⟨d1,hd1,hk1⟩:=Zq.und hts
 rw [hrs] at hk1
 have hu1:(underlying t).run prog w = .ok (.slice T) w:=by
  cases d1<;>simp [chkKind] at hk1
  subst hk1
  simp [underlying,hd1,go_sem]
 have hs1:=Zq.sizeOf hT w
 rw [hsz] at hs1
 cases o with
 | none=>cases ho
 | some a=>
  subst hz
  simp only [Option.map_some,Option.some.injEq] at ho
  unfold Instr.indexAt
  simp only [asIntOf,Sem.run_bind,Sem.run_pure,Result.andThen,hu1]
  have hc:(0:Int)≤(i:Int)∧(i:Int)<((m:Nat):Int):=⟨by omega,by omega⟩
  rw [if_pos hc]
  simp only [Sem.run_bind,hs1,Result.andThen,Sem.run_pure,Int.toNat_natCast,ho]
theorem r_ixK7 {T sz m cap:Nat} {z:Int} {kd:IntKind} {rs tr:TRow} (j:Nat) (hlt:j<m) (nx:Wr n C ops k Q Tl Fs R L ((d,.pointer (some ⟨b,j * sz,none⟩))::E) F N)
  (ho:nth ops i=some ⟨some d,.indexAddr t x y,ty0,pos,aft,gd⟩:=by rfl) (hw:wantL ops E ⟨some d,.indexAddr t x y,ty0,pos,aft,gd⟩=some true:=by rfl) (hx:ev E x=some (.slice (some ⟨b,0,none⟩) m cap):=by rfl) (hy:ev E y=some (.int kd z):=by rfl)
  (hts:lookT tab t=some rs:=by rfl) (hrs:rs.k = .slice T:=by rfl) (hT:lookT tab T=some tr:=by rfl) (hsz:tr.size=sz:=by rfl) (hz:z=(j:Int):=by first|rfl|omega):Wr n C ops k Q Tl Fs R ((i,0)::L) E F N:=
 r_q (fun a w ha=>by
  have hr1:=Vs (kd:=kd) (o:=some ⟨b,0,none⟩) (m:=m) (cap:=cap) (w:=w) hts hrs hT hsz hz hlt (p:=⟨b,j * sz,none⟩) (by simp [Y9 rfl])
  simp only [execOp,ha.ev (x:=x) (by rw [ZQ];exact hx),ha.ev (x:=y) (by rw [ZQ];exact hy),Sem.run_bind,Result.andThen,hr1,Sem.run_pure]) nx ho hw
theorem l_ixK7 {T sz m cap:Nat} {z:Int} {kd:IntKind} {rs tr:TRow} (j:Nat) (hlt:j<m) (nx:Wl n C ops.toArray k Q l ((d,.pointer (some ⟨b,j * sz,none⟩))::E) F R)
  (hw:wantL ops E ⟨some d,.indexAddr t x y,ty0,pos,aft,gd⟩=some true:=by rfl) (hn:Nat.blt d n=true:=by rfl) (hx:ev E x=some (.slice (some ⟨b,0,none⟩) m cap):=by rfl) (hy:ev E y=some (.int kd z):=by rfl)
  (hts:lookT tab t=some rs:=by rfl) (hrs:rs.k = .slice T:=by rfl) (hT:lookT tab T=some tr:=by rfl) (hsz:tr.size=sz:=by rfl) (hz:z=(j:Int):=by first|rfl|omega):Wl n C ops.toArray k Q (⟨some d,.indexAddr t x y,ty0,pos,aft,gd⟩::l) E F R:=
 l_q (fun a w ha=>by
  have hr1:=Vs (kd:=kd) (o:=some ⟨b,0,none⟩) (m:=m) (cap:=cap) (w:=w) hts hrs hT hsz hz hlt (p:=⟨b,j * sz,none⟩) (by simp [Y9 rfl])
  simp only [execOp,ha.ev (x:=x) (by rw [ZQ];exact hx),ha.ev (x:=y) (by rw [ZQ];exact hy),Sem.run_bind,Result.andThen,hr1,Sem.run_pure]) nx (by intro c h;cases h) hw hn
end
structure Op7 where
 k:UInt8
 w:UInt8
 f:Int
 c:Int
 t:ByteArray
 n:Ino
def op7f (o:Op7):List Value:=[.int .u8 o.k.toNat,.int .u8 o.w.toNat,.int .i64 o.f,.int .i64 o.c,.string o.t,.int .i64 o.n.kd,.int .i64 o.n.ow,.int .i64 o.n.gr,.int .i64 o.n.md,.int .i64 o.n.sz,.int .i64 o.n.lk,.string o.n.tg]
def Op7.v (o:Op7):Value:=.agg #[.int .u8 o.k.toNat,.int .u8 o.w.toNat,.int .i64 o.f,.int .i64 o.c,.string o.t,.int .i64 o.n.kd,.int .i64 o.n.ow,.int .i64 o.n.gr,.int .i64 o.n.md,.int .i64 o.n.sz,.int .i64 o.n.lk,.string o.n.tg]
structure Rz7 where
 tx:ByteArray
 n:Int
 b:Bi
 e:Int
 deriving DecidableEq
def Rz7.v (r:Rz7):Value:=.agg #[.string r.tx,.int .i64 r.n,.string r.b.mkr,.int .i64 r.b.nu,.int .i64 r.e]
def bthF (bs:List Bi) (w:UInt8):Bi:=match bs[w.toNat]? with
 | some b=>b
 | none=>⟨⟨#[57]⟩,(w.toNat:Int)⟩
section
variable (bm:Nat) (q:Mq) (bs:List Bi) (fs:List Fq)
set_option maxHeartbeats 1000000 in
theorem Zp (wd:UInt8):Enters 58∧Spec prog 58 #[.slice (some ⟨q.bb,0,none⟩) bs.length q.cb,.int .u8 wd.toNat] [] [BiX q bs]
  ⟨Unit,fun _=>(bthF bs wd).v,fun _=>True,fun _=>[],fun _=>[BiX q bs]⟩:=by
 have hw:=wd.toNat_lt
 have w1:IntKind.i64.wrap (wd.toNat:Int)=(wd.toNat:Int):=wrapi (by omega) (by omega)
 unfold bthF
 by_cases h:wd.toNat<bs.length
 ·obtain ⟨x,hx⟩:∃x,bs[wd.toNat]? = some x:=⟨_,List.getElem?_eq_getElem h⟩
  rw [hx]
  refine ZM [_,_] func58 ntmps58 fun G w hp=>?_
  repeat' (first|refine ZE ?_|refine ZD ?_|refine ZF ?_|refine ZV ?_|refine ZR (fun b=>?_)|rw [w1]|refine l_ixK7 (m:=bs.length) (sz:=2) wd.toNat h ?_|refine Zn 2 wd.toNat 0 hx ?_|(refine ZG (fun hc=>?_) (fun hc=>?_)<;>(try simp at hc)<;>(try omega))|fail)
  exact ZK () rfl trivial
 ·rw [List.getElem?_eq_none (by omega)]
  refine ZM [_,_] func58 ntmps58 fun G w hp=>?_
  repeat' (first|refine ZE ?_|refine ZD ?_|refine ZF ?_|refine ZV ?_|refine ZR (fun b=>?_)|rw [w1]|(refine ZG (fun hc=>?_) (fun hc=>?_)<;>(try simp at hc)<;>(try omega))|fail)
  exact ZK () rfl trivial
theorem row_ax {α:Type} {T sz cap:Nat} {f:α→List Value} {o:Option Addr} {es:List α} {h:H} (hf:∀e,(f e).length=sz) (hm:0<es.length) (hh:Row T sz o es.length cap (es.flatMap f) h) :
  ∃x:Nat×(List Value×(Nat×Nat)),(o=some ⟨x.1,0,none⟩∧es.length * sz+x.2.1.length=cap * sz∧AxOK (es.length * sz) x.2)∧Sep [Ax T f x.1 es x.2] h:=by
 rcases hh with ⟨_,h3,_,_⟩|⟨bb,rest,fz,h1,hb,hxl,hcl,hmc,hfz⟩
 ·omega
 ·have e:=Zy (f:=f) (sz:=sz) hf es
  rw [List.length_append,e] at hcl hfz
  exact ⟨(bb,rest,fz),⟨h1,hcl,hfz⟩,h,emp,(fun _=>.inr rfl),Sub.refl _,(fun _ _ e=>by cases e),hb,trivial⟩
theorem ax_row {α:Type} {T sz cap b:Nat} {f:α→List Value} {es:List α} {x:List Value×(Nat×Nat)} (hf:∀e,(f e).length=sz) (hz:0<sz) (hc:es.length * sz+x.1.length=cap * sz) (hx:AxOK (es.length * sz) x) (h:H) (hh:Sep [Ax T f b es x] h):Row T sz (some ⟨b,0,none⟩) es.length cap (es.flatMap f) h:=
 WD (q:=(b,x)) ⟨rfl,Zy (f:=f) (sz:=sz) hf es,by rw [List.length_append,Zy (f:=f) (sz:=sz) hf];exact hc,by
  have:es.length * sz≤cap * sz:=by omega
  exact Nat.le_of_mul_le_mul_right this hz,by rw [List.length_append,Zy (f:=f) (sz:=sz) hf];exact hx⟩ h hh
structure Mk7 where
 b:Bi
 e:Int
 bs:List Bi
 m:List (ByteArray×Int)
def mMake (bs:List Bi) (m:List (ByteArray×Int)) (who:ByteArray) (nd:Ino):Mk7:=if ichk nd≠0 then ⟨Bi.z,ichk nd,bs,m⟩ else if nd.sz≠0 then ⟨Bi.z,2,bs,m⟩ else ⟨⟨who,(mget who m).getD 0⟩,0,bs++[⟨who,(mget who m).getD 0⟩],mset who ((mget who m).getD 0+1) m⟩
def mMakeF (fs:List Fq) (nd:Ino) (r:Nat):List Fq:=if ichk nd≠0 then fs else if nd.sz≠0 then fs else fs++[⟨nd,⟨#[]⟩,r,[]⟩]
abbrev MoL (bm:Nat) (q:Mq) (bs:List Bi) (fs:List Fq) (m:List (ByteArray×Int)):List HP:=[MdP bm q bs.length fs.length,BiX q bs,FlX q fs,CM q.rm m fs]
set_option maxHeartbeats 4000000 in
theorem make27_ok (m:List (ByteArray×Int)) (who:ByteArray) (nd:Ino) (hv0:0≤(mget who m).getD 0) (hv1:(mget who m).getD 0≤1000000) (hl:bs.length≤1000) (hlf:fs.length=bs.length) (hq:q.OK bs.length fs.length) (hb0:0<bs.length) :
  Enters 97∧Spec prog 97 #[.pointer (some ⟨bm,0,none⟩),.string who,nd.v] [] (MoL bm q bs fs m)
   ⟨Mq×Nat,fun _=>.tuple #[(mMake bs m who nd).b.v,.int .i64 (mMake bs m who nd).e],fun x=>x.1.OK (mMake bs m who nd).bs.length (mMakeF fs nd x.2).length,fun _=>[],fun x=>MoL bm x.1 (mMake bs m who nd).bs (mMakeF fs nd x.2) (mMake bs m who nd).m⟩:=by
 have n1:=Xp nd
 unfold mMake mMakeF
 by_cases h1:ichk nd≠0
 ·simp only [if_pos h1]
  generalize ichk nd=e at *
  refine ZM [_,_,_] func97 ntmps97 fun G w hp=>?_
  repeat' (first|refine ZE ?_|refine ZD ?_|refine ZF ?_|refine ZS ?_|refine ZV ?_|refine ZR (fun b=>?_)|refine ZC (n1) (fun _ _=>?_)|(refine ZG (fun hc=>?_) (fun hc=>?_)<;>(try simp at hc)<;>(try omega))|fail)
  exact ZK (q,0) rfl hq
 ·simp only [if_neg h1]
  rw [show ichk nd=0 by omega] at n1
  obtain ⟨a1,a2,a3,a4,a5,a6,a7⟩:=nd
  simp only [Ino.v] at n1 ⊢
  by_cases h2:a5≠0
  ·simp only [if_pos h2]
   refine ZM [_,_,_] func97 ntmps97 fun G w hp=>?_
   repeat' (first|refine ZE ?_|refine ZD ?_|refine ZF ?_|refine ZS ?_|refine ZV ?_|refine ZR (fun b=>?_)|refine ZB ?_|refine ZC (n1) (fun _ _=>?_)|(refine ZG (fun hc=>?_) (fun hc=>?_)<;>(try simp at hc)<;>(try omega))|fail)
   exact ZK (q,0) rfl hq
  ·obtain rfl:a5=0:=by omega
   simp only [if_neg h2]
   obtain ⟨v,hv⟩:∃v,(mget who m).getD 0=v:=⟨_,rfl⟩
   rw [hv] at hv0 hv1 ⊢
   have hg:∀o,mget who m=o→(o.map ziv).getD (.int .i64 0) = .int .i64 v:=fun o ho=>by
    rw [ho] at hv
    cases o with
    | none=>rw [←hv];rfl
    | some x=>rw [←hv];rfl
   have hg':=hg _ rfl
   have w1:IntKind.i64.wrap (v+1)=v+1:=wrapi (by omega) (by omega)
   refine ZM [_,_,_] func97 ntmps97 fun G w hp=>?_
   refine Z6 (X:=Unit) (Lx:=fun _=>[Mp Yl ziv q.rm m,fun h=>Sep (fs.map BlF) h]) (p:=fun _=>True) (r:=CM q.rm m fs) (by repeat (first|exact Sel.here|apply Sel.there)) (fun h hh=>⟨(),trivial,cm_two.1 hh⟩) (fun _ _=>?_)
   refine Zs (r:=Row 68 2 (some ⟨q.bb,0,none⟩) bs.length q.cb (bs.flatMap bcf)) (Lx:=[BiX q bs]) (fun h hh=>ax_row (f:=bcf) (es:=bs) (x:=q.bq) (fun _=>rfl) (by decide) hq.b1 hq.b3 h hh) ?_
   refine Zs (r:=Row 73 9 (some ⟨q.bf,0,none⟩) fs.length q.cf (fs.flatMap flq)) (Lx:=[FlX q fs]) (fun h hh=>ax_row (f:=flq) (es:=fs) (x:=q.fq) (fun _=>rfl) (by decide) hq.f1 hq.f3 h hh) ?_
   repeat' (first|refine ZE ?_|refine ZD ?_|refine ZF ?_|refine ZS ?_|refine ZV ?_|refine ZR (fun b=>?_)|refine ZB ?_|refine ZT ?_|refine Zf ?_|refine Zm (fun b=>?_)|refine ZU ?_|refine ZC (n1) (fun _ _=>?_)|refine l_mgetQ key_ln who _ rfl ?_|rw [hg']|rw [w1]|refine l_mset (V:=ziv) key_ln who (v+1) ?_|refine r_app1 (fun o' cap'=>?_)|refine r_mkm (K:=ziv) (kt:=3) (et:=4) key_zi blv (fun r=>?_)|refine ZA 8 [Row 68 _ _ _ _ _] [(0,0),(1,0),(2,0),(3,0),(4,0),(5,0),(6,1),(7,4),(8,0),(9,0)] [10] ?_|refine ZA 9 [Row 73 _ _ _ _ _] [(0,0),(1,0),(2,0),(3,0),(4,0),(5,0),(6,4),(7,0),(8,1),(9,4),(10,0),(11,0)] [12] ?_|fail)
   rename_i o1 c1
   obtain ⟨nb,hnb⟩:∃nb,(⟨who,v⟩:Bi)=nb:=⟨_,rfl⟩
   obtain ⟨nf,hnf⟩:∃nf,(⟨⟨a1,a2,a3,a4,0,a6,a7⟩,⟨#[]⟩,r,[]⟩:Fq)=nf:=⟨_,rfl⟩
   have l1:(bs++[nb]).length=bs.length+1:=by simp
   have l2:(fs++[nf]).length=fs.length+1:=by simp
   refine k_say (P:=Row 68 2 o1 (bs.length+1) c1 (bs.flatMap bcf++bcf (⟨who,v⟩:Bi))) (P':=Row 68 2 o1 (bs++[nb]).length c1 ((bs++[nb]).flatMap bcf)) (by rw [l1,hnb,List.flatMap_append];simp) ?_
   refine k_say (P:=Row 73 9 o' (fs.length+1) cap' (fs.flatMap flq++flq (⟨⟨a1,a2,a3,a4,0,a6,a7⟩,⟨#[]⟩,r,[]⟩:Fq))) (P':=Row 73 9 o' (fs++[nf]).length cap' ((fs++[nf]).flatMap flq)) (by rw [l2,hnf,List.flatMap_append];simp) ?_
   refine Z6 (X:=Nat×(List Value×(Nat×Nat))) (Lx:=fun x=>[Ax 68 bcf x.1 (bs++[nb]) x.2]) (p:=fun x=>o1=some ⟨x.1,0,none⟩∧(bs++[nb]).length * 2+x.2.1.length=c1 * 2∧AxOK ((bs++[nb]).length * 2) x.2) (r:=Row 68 2 o1 (bs++[nb]).length c1 ((bs++[nb]).flatMap bcf)) (by repeat (first|exact Sel.here|apply Sel.there)) (fun h hh=>row_ax (f:=bcf) (fun _=>rfl) (by omega) hh) (fun x hx=>?_)
   obtain ⟨rfl,x2,x3⟩:=hx
   refine Z6 (X:=Nat×(List Value×(Nat×Nat))) (Lx:=fun y=>[Ax 73 flq y.1 (fs++[nf]) y.2]) (p:=fun y=>o'=some ⟨y.1,0,none⟩∧(fs++[nf]).length * 9+y.2.1.length=cap' * 9∧AxOK ((fs++[nf]).length * 9) y.2) (r:=Row 73 9 o' (fs++[nf]).length cap' ((fs++[nf]).flatMap flq)) (by repeat (first|exact Sel.here|apply Sel.there)) (fun h hh=>row_ax (f:=flq) (fun _=>rfl) (by omega) hh) (fun y hy=>?_)
   obtain ⟨rfl,y2,y3⟩:=hy
   refine Zs (r:=CM q.rm (mset who (v+1) m) (fs++[nf])) (Lx:=[Mp Yl ziv q.rm (mset who (v+1) m),Mp ziv blv r [],fun h=>Sep (fs.map BlF) h]) (fun h hh=>(cm_mid (pre:=fs) (post:=[]) (e:=nf)).2 (by rw [←hnf,List.append_nil];exact hh)) ?_
   refine k_say (P:=MdP bm ⟨x.1,c1,x.2,y.1,cap',y.2,q.rm⟩ (bs.length+1) (fs.length+1)) (P':=MdP bm ⟨x.1,c1,x.2,y.1,cap',y.2,q.rm⟩ (bs++[nb]).length (fs++[nf]).length) (by rw [l1,l2]) ?_
   subst hnb
   subst hnf
   exact ZK (⟨x.1,c1,x.2,y.1,cap',y.2,q.rm⟩,r) rfl ⟨x2,x3,y2,y3⟩
end
namespace Tr
def mn:Tr→Nm→ByteArray→Nm×ByteArray
 | nil,a,v=>(a,v)
 | node l b u _,_,_=>mn l b u
def hd:Tr→Option (Nm×ByteArray)
 | nil=>none
 | node l b u _=>some (mn l b u)
def del:Tr→Nm→Tr
 | nil,_=>nil
 | node l b u r,a=>if cmpO a b<0 then bal (del l a) b u r else if 0<cmpO a b then bal l b u (del r a) else match hd r with
  | none=>l
  | some x=>bal l x.1 x.2 (del r x.1)
theorem mn_els:∀(l:Tr) (a:Nm) (v:ByteArray) (ys:Al),∃zs,l.els++(a,v)::ys=mn l a v::zs
 | nil,a,v,ys=>⟨ys,rfl⟩
 | node l b u r,a,v,ys=>by
  obtain ⟨zs,h⟩:=mn_els l b u (r.els++(a,v)::ys)
  exact ⟨zs,by show (l.els++(b,u)::r.els)++(a,v)::ys=_;rw [List.append_assoc];exact h⟩
theorem hd_none:∀{r:Tr},hd r=none→r=nil
 | nil,_=>rfl
theorem hd_some:∀{r:Tr} {x:Nm×ByteArray},hd r=some x→∃zs,r.els=x::zs
 | node l b u r,x,h=>by
  cases h
  exact mn_els l b u r.els
end Tr
def delO (a:Nm):Al→Al
 | []=>[]
 | (b,u)::l=>if cmpO a b=0 then l else (b,u)::delO a l
theorem delO_none {a:Nm}:∀{xs:Al},(∀x ∈ xs,cmpO a x.1≠0)→delO a xs=xs
 | [],_=>rfl
 | (b,u)::xs,h=>by
  rw [delO,if_neg (h (b,u) (by simp)),delO_none fun x hx=>h x (by simp [hx])]
theorem delO_no {a:Nm}:∀{xs:Al},getO a xs=none→delO a xs=xs
 | [],_=>rfl
 | (b,u)::xs,h=>by
  rw [getO] at h
  split at h
  ·cases h
  ·rename_i hc
   rw [delO,if_neg hc,delO_no h]
theorem delO_app {a:Nm} {ys:Al}:∀{xs:Al},(∀x ∈ xs,cmpO a x.1≠0)→delO a (xs++ys)=xs++delO a ys
 | [],_=>rfl
 | (b,u)::xs,h=>by
  show delO a ((b,u)::(xs++ys))=_
  rw [delO,if_neg (h (b,u) (by simp)),delO_app fun x hx=>h x (by simp [hx])]
  rfl
theorem delO_left {a:Nm} {ys:Al} (hy:∀y ∈ ys,cmpO a y.1≠0):∀{xs:Al},delO a (xs++ys)=delO a xs++ys
 | []=>delO_none hy
 | (b,u)::xs=>by
  show delO a ((b,u)::(xs++ys))=_
  rw [delO,delO,delO_left hy]
  split<;>rfl
theorem WH (a:Nm):∀xs:Al,(delO a xs).Sublist xs
 | []=>.slnil
 | (b,u)::xs=>by
  rw [delO]
  split
  ·exact .cons _ (List.Sublist.refl _)
  ·exact .cons_cons _ (WH a xs)
theorem srt_del {a:Nm} {l:Al} (h:Srt l):Srt (delO a l):=List.Pairwise.sublist (WH a l) h
theorem delO_len (a:Nm) (l:Al):(delO a l).length≤l.length:=(WH a l).length_le
theorem ab_sub:∀{xs ys:Al},xs.Sublist ys→Tr.ab xs≤Tr.ab ys:=by
 intro xs ys h
 induction h with
 | slnil=>exact Nat.le_refl _
 | cons a _ ih=>
  simp only [Tr.ab,List.map_cons,List.sum_cons] at ih ⊢;omega
 | cons_cons a _ ih=>
  simp only [Tr.ab,List.map_cons,List.sum_cons] at ih ⊢;omega
theorem W9:∀(t:Tr) (a:Nm),Srt t.els→(Tr.del t a).els=delO a t.els
 | .nil,_,_=>rfl
 | .node l b u r,a,h=>by
  obtain ⟨h1,h2,h3,h4⟩:=Xh h
  have il:=W9 l a h1
  have ir:=fun a=>W9 r a h2
  unfold Tr.del
  show _=delO a (l.els++(b,u)::r.els)
  by_cases hl:cmpO a b<0
  ·rw [if_pos hl,Tr.els_bal,il]
   refine (delO_left fun y hy=>?_).symm
   rcases List.mem_cons.1 hy with rfl|hy
   ·exact fun e=>by dsimp only at e;omega
   ·have:=YN hl (h4 y hy);omega
  ·rw [if_neg hl]
   by_cases hg:0<cmpO a b
   ·rw [if_pos hg,Tr.els_bal,ir]
    rw [delO_app fun x hx=>?_]
    ·rw [delO,if_neg (by omega)]
    ·have h5:cmpO b a<0:=(Z1 b a).2 hg
     have h6:=YN (h3 x hx) h5
     have:=(Z1 _ _).1 h6
     omega
   ·rw [if_neg hg]
    obtain rfl:=(Z4 a b).1 (by omega)
    rw [delO_app fun x hx=>?_]
    ·rw [delO,if_pos (by omega)]
     cases hh:Tr.hd r with
     | none=>
      rw [Tr.hd_none hh]
      show l.els=l.els++[]
      rw [List.append_nil]
     | some x=>
      obtain ⟨zs,hz⟩:=Tr.hd_some hh
      dsimp only
      rw [Tr.els_bal,ir,hz,delO,if_pos (by exact (Z4 _ _).2 rfl)]
    ·have:=(Z1 _ _).1 (h3 x hx)
     omega
theorem getO_del {a n:Nm}:∀{l:Al},Srt l→getO n (delO a l)=if n=a then none else getO n l
 | [],_=>by split<;>rfl
 | (b,u)::l,h=>by
  have hp:=List.pairwise_cons.1 h
  rw [delO]
  by_cases h0:cmpO a b=0
  ·rw [if_pos h0]
   obtain rfl:=(Z4 a b).1 h0
   by_cases hn:n=a
   ·subst hn
    rw [if_pos rfl,XC fun x hx=>?_]
    have:=hp.1 x hx
    dsimp only at this
    omega
   ·rw [if_neg hn,getO,if_neg fun e=>hn ((Z4 n a).1 e)]
  ·rw [if_neg h0,getO,getO,getO_del hp.2]
   by_cases hn:n=a
   ·subst hn
    rw [if_pos rfl,if_pos rfl,if_neg h0]
   ·rw [if_neg hn,if_neg hn]
theorem sz_del {t:Tr} (a:Nm) (hs:Srt t.els):(Tr.del t a).sz≤t.sz:=by
 rw [Tr.sz_els,Tr.sz_els t,W9 t a hs];exact delO_len _ _
theorem by_del {t:Tr} (a:Nm) (hs:Srt t.els):(Tr.del t a).by_≤t.by_:=by
 rw [Tr.by_els,Tr.by_els t,W9 t a hs];exact ab_sub (WH _ _)
theorem hd_by {r:Tr} {x:Nm×ByteArray} (h:Tr.hd r=some x) (hs:Srt r.els):x.2.size+(Tr.del r x.1).by_=r.by_∧1+(Tr.del r x.1).sz=r.sz:=by
 obtain ⟨zs,hz⟩:=Tr.hd_some h
 have e:(Tr.del r x.1).els=zs:=by rw [W9 r _ hs,hz,delO,if_pos ((Z4 _ _).2 rfl)]
 refine ⟨?_,?_⟩
 ·rw [Tr.by_els,Tr.by_els r,e,hz];simp [Tr.ab]
 ·rw [Tr.sz_els,Tr.sz_els r,e,hz];simp;omega
theorem get_left {l r:Tr} {a b:Nm} {u:ByteArray} (h:Srt (Tr.node l b u r).els) (hl:cmpO a b<0) (hg:getO a (Tr.node l b u r).els≠none):getO a l.els≠none:=fun e=>hg (by
 obtain ⟨_,_,h3,h4⟩:=Xh h
 show getO a (l.els++(b,u)::r.els)=none
 rw [X7,e,getO,if_neg (by omega),XC fun y hy=>by have:=YN hl (h4 y hy);omega]
 rfl)
theorem get_right {l r:Tr} {a b:Nm} {u:ByteArray} (h:Srt (Tr.node l b u r).els) (hl:0<cmpO a b) (hg:getO a (Tr.node l b u r).els≠none):getO a r.els≠none:=fun e=>hg (by
 obtain ⟨_,_,h3,h4⟩:=Xh h
 show getO a (l.els++(b,u)::r.els)=none
 rw [X7,XC fun x hx=>by
  have h5:cmpO b a<0:=(Z1 b a).2 (by omega)
  have h6:=YN (h3 x hx) h5
  have:=(Z1 _ _).1 h6
  omega,getO,if_neg (by omega),e]
 rfl)
theorem get_hd {r:Tr} {x:Nm×ByteArray} (h:Tr.hd r=some x):getO x.1 r.els≠none:=by
 obtain ⟨zs,hz⟩:=Tr.hd_some h
 rw [hz]
 obtain ⟨b,u⟩:=x
 rw [getO,if_pos ((Z4 _ _).2 rfl)]
 exact fun e=>by cases e
structure MX (x:Nm×ByteArray) where
 q:Option Addr
 l:Tr
 b:Nm
 u:ByteArray
 r:Tr
 h:Tr.mn l b u=x
abbrev WoPost (t:Tr):Post:=⟨Option Addr,fun q=>.pointer q,fun _=>True,fun q=>[TrF q t],fun _=>[]⟩
set_option maxHeartbeats 4000000 in
theorem without_ok:∀(t:Tr) (a:Nm) (p:Option Addr),a.owner.size≤1099511627770→Okt t→Srt t.els→getO a t.els≠none→
  Enters 125∧Spec prog 125 #[.pointer p,a.v] [TrF p t] [] (WoPost (Tr.del t a)):=by
 intro t
 induction t with
 | nil=>intro a p _ _ _ hg;exact absurd rfl hg
 | node l nm u r ihl ihr=>
  intro a p ha hok hs hg
  have h1:=hok.s
  have h2:=hok.b
  simp only [Tr.sz] at h1
  simp only [Tr.by_] at h2
  obtain ⟨sl,sr,_,_⟩:=Xh hs
  have s1:=sz_del a sl
  have s2:=sz_del a sr
  have b1:=by_del a sl
  have b2:=by_del a sr
  have c1:=XW a nm ha hok.m
  refine ZM [_,_] func125 ntmps125 fun G w hp=>?_
  refine k_tr (p:=p) (l:=l) (r:=r) (a:=nm) (v:=u) (fun bb pl pr hp=>?_)
  subst hp
  generalize hput:Tr.del (.node l nm u r) a=T
  unfold Tr.del at hput
  by_cases hl:cmpO a nm<0
  ·rw [if_pos hl] at hput
   subst hput
   have n1:=ihl a pl ha hok.l sl (get_left hs hl hg)
   repeat' (first|refine ZE ?_|refine ZD ?_|refine ZF ?_|refine ZR (fun b=>?_)|refine ZT ?_|refine Zf ?_|refine Za ?_|refine ZU ?_|refine ZN (c1) (fun _ _=>?_)|refine ZN (n1) (fun _ _=>?_)|refine ZN (Xt _ _ pr (Tr.del l a) r nm u (by omega) (by omega)) (fun _ _=>?_)|refine ZA 1 [] [(0,0),(1,0),(2,0),(3,0),(4,0),(5,4),(6,0)] [] ?_|refine ZA 3 [] [(0,0),(1,0),(2,0),(3,0),(4,0),(6,0),(7,0),(8,0),(9,0),(10,0),(5,4),(11,4),(12,0)] [] ?_|(refine ZG (fun hc=>?_) (fun hc=>?_)<;>(try simp at hc)<;>(try omega))|fail)
   rename_i q _
   exact ZK (post:=WoPost _) (some ⟨q,0,none⟩) rfl trivial
  ·rw [if_neg hl] at hput
   by_cases hgt:0<cmpO a nm
   ·rw [if_pos hgt] at hput
    subst hput
    have n1:=ihr a pr ha hok.r sr (get_right hs hgt hg)
    repeat' (first|refine ZE ?_|refine ZD ?_|refine ZF ?_|refine ZR (fun b=>?_)|refine ZT ?_|refine Zf ?_|refine Za ?_|refine ZU ?_|refine ZN (c1) (fun _ _=>?_)|refine ZN (n1) (fun _ _=>?_)|refine ZN (Xt pl _ _ l (Tr.del r a) nm u (by omega) (by omega)) (fun _ _=>?_)|refine ZA 1 [] [(0,0),(1,0),(2,0),(3,0),(4,0),(5,4),(6,0)] [] ?_|refine ZA 5 [] [(0,0),(1,0),(2,0),(3,0),(4,0),(5,0),(6,0),(7,0),(8,0),(9,0),(10,4),(11,4),(12,0)] [] ?_|(refine ZG (fun hc=>?_) (fun hc=>?_)<;>(try simp at hc)<;>(try omega))|fail)
    rename_i q _
    exact ZK (post:=WoPost _) (some ⟨q,0,none⟩) rfl trivial
   ·rw [if_neg hgt] at hput
    cases r with
    | nil=>
     have hput:l=T:=hput
     subst hput
     refine k_trn (p:=pr) fun hp=>?_
     subst hp
     repeat' (first|refine ZE ?_|refine ZD ?_|refine ZF ?_|refine ZO ?_|refine ZR (fun b=>?_)|refine ZH ?_|refine ZT ?_|refine Zf ?_|refine Za ?_|refine ZU ?_|refine ZN (c1) (fun _ _=>?_)|refine ZA 1 [] [(0,0),(1,0),(2,0),(3,0),(4,0),(5,4),(6,0)] [] ?_|(refine ZG (fun hc=>?_) (fun hc=>?_)<;>(try simp at hc)<;>(try omega))|fail)
     exact ZK (post:=WoPost _) pl rfl trivial
    | node rl rb ru rr=>
     have hh:Tr.hd (.node rl rb ru rr)=some (Tr.mn rl rb ru):=rfl
     have hput:Tr.bal l (Tr.mn rl rb ru).1 (Tr.mn rl rb ru).2 (Tr.del (.node rl rb ru rr) (Tr.mn rl rb ru).1)=T:=hput
     have hx1:=get_hd hh
     obtain ⟨hx2,hx3⟩:=hd_by hh sr
     have hxo:(Tr.mn rl rb ru).1.owner.size≤1099511627770:=by
      obtain ⟨zs,hz⟩:=Tr.hd_some hh
      exact hok.r.o (Tr.mn rl rb ru) (by rw [hz];exact List.mem_cons_self)
     have n1:=ihr (Tr.mn rl rb ru).1 pr hxo hok.r sr hx1
     generalize hX:Tr.mn rl rb ru=x at *
     obtain ⟨xa,xv⟩:=x
     dsimp only at *
     subst hput
     refine k_tr (p:=pr) (l:=rl) (r:=rr) (a:=rb) (v:=ru) (fun d2 pl2 pr2 hp2=>?_)
     subst hp2
     repeat' (first|refine ZE ?_|refine ZD ?_|refine ZF ?_|refine ZO ?_|refine ZR (fun b=>?_)|refine ZB ?_|refine ZT ?_|refine Zf ?_|refine Za ?_|refine ZU ?_|refine ZN (c1) (fun _ _=>?_)|refine ZA 1 [] [(0,0),(1,0),(2,0),(3,0),(4,0),(5,4),(6,0)] [] ?_|(refine ZG (fun hc=>?_) (fun hc=>?_)<;>(try simp at hc)<;>(try omega))|fail)
     refine Z8 (X:=MX (xa,xv)) (fun x=>[(0,.pointer (some ⟨bb,0,none⟩)),(6,.pointer x.q)]) (fun x=>[TrF x.q (.node x.l x.b x.u x.r),Blk bb (ndc pl (some ⟨d2,0,none⟩) nm u (Tr.node l nm u (.node rl rb ru rr)).ht (Tr.node l nm u (.node rl rb ru rr)).sz (Tr.node l nm u (.node rl rb ru rr)).by_),TrF pl l,TrF (some ⟨d2,0,none⟩) (.node rl rb ru rr)]) (fun _=>[]) (fun x=>x.l.sz) ⟨some ⟨d2,0,none⟩,rl,rb,ru,rr,hX⟩ ⟨rfl,rfl,trivial⟩ ?_
     rintro ⟨q,ml,mb,mu,mr,hm⟩
     dsimp only
     refine k_tr (p:=q) (l:=ml) (r:=mr) (a:=mb) (v:=mu) (fun b3 pl3 pr3 hp3=>?_)
     subst hp3
     cases ml with
     | nil=>
      cases hm
      refine k_trn (p:=pl3) fun hp=>?_
      subst hp
      repeat' (first|refine ZE ?_|refine ZD ?_|refine ZF ?_|refine ZO ?_|refine ZB ?_|refine ZW ?_|refine ZT ?_|refine Za ?_|refine ZU ?_|refine ZN (n1) (fun _ _=>?_)|refine ZN (Xt pl _ _ l (Tr.del (.node rl rb ru rr) xa) xa xv (by omega) (by omega)) (fun _ _=>?_)|refine ZA 11 [] [(0,0),(1,0),(2,0),(3,0),(4,0),(5,0),(6,0),(7,0),(8,0),(9,0),(10,0),(11,0),(12,0),(13,4),(14,4),(15,0)] [] ?_|fail)
      rename_i q _
      exact ZK (post:=WoPost _) (some ⟨q,0,none⟩) rfl trivial
     | node nl nb nu nr=>
      refine k_tr (p:=pl3) (l:=nl) (r:=nr) (a:=nb) (v:=nu) (fun b4 pl4 pr4 hp4=>?_)
      subst hp4
      repeat' (first|refine ZE ?_|refine ZD ?_|refine ZF ?_|refine ZO ?_|refine ZH ?_|fail)
      exact Zb ⟨some ⟨b4,0,none⟩,nl,nb,nu,nr,hm⟩ (by simp only [Tr.sz];omega) ⟨rfl,rfl,trivial⟩
theorem stOK_del {es:Al} {a:Nm} (h:StOK es):StOK (delO a es):=
 ⟨srt_del h.srt,Nat.le_trans (delO_len _ _) h.len,fun x hx=>h.own x ((WH _ _).subset hx),fun x hx=>h.val x ((WH _ _).subset hx)⟩
theorem Un (bs:Nat) (es:Al) (a:Nm) (ha:a.owner.size≤1099511627770) (hat:a.text.size≤1099511627776) (hc:nchk a=0) :
  Enters 62∧Spec prog 62 #[.pointer (some ⟨bs,0,none⟩),a.v] [St (some ⟨bs,0,none⟩) es,Usg] []
   ⟨Nat,fun b=>.tuple #[.pointer (some ⟨b,0,none⟩),.int .i64 0],fun _=>True,fun b=>[St (some ⟨b,0,none⟩) (delO a es)],fun _=>[]⟩:=by
 have hchk:=XI a (by omega) hat
 rw [hc] at hchk
 by_cases h:getO a es=none
 ·refine ZM [_,_] func62 ntmps62 fun G w hp=>?_
  rw [delO_no h]
  refine k_mk (F1:=[St (some ⟨bs,0,none⟩) es]) (f:=St (some ⟨bs,0,none⟩) es) (fun hp hF=>hF _ (by simp)) ?_
  refine k_st (ps:=some ⟨bs,0,none⟩) (es:=es) (fun b p t hp he hok=>?_)
  cases hp
  have hfd:=WQ a t (he ▸ hok.srt)
  have n1:=find_none ha p (StOK.okt (he ▸ hok)) (by rw [hfd,he];exact h)
  repeat' (first|refine ZE ?_|refine ZD ?_|refine ZF ?_|refine ZS ?_|refine ZR (fun b=>?_)|refine ZH ?_|refine ZB ?_|refine ZT ?_|refine Zf ?_|refine Za ?_|refine ZU ?_|refine ZC (hchk) (fun _ _=>?_)|refine ZN (n1) (fun _ _=>?_)|refine ZA 5 [] [(0,0),(1,0),(2,0),(3,0),(4,0),(5,4),(6,0),(7,0)] [] ?_|fail)
  exact ZK bs rfl trivial
 ·refine ZM [_,_] func62 ntmps62 fun G w hp=>?_
  refine k_st (ps:=some ⟨bs,0,none⟩) (es:=es) (fun b p t hp he hok=>?_)
  cases hp
  have hokt:Okt t:=StOK.okt (he ▸ hok)
  have hfd:=WQ a t (he ▸ hok.srt)
  have hX:Tr.find a t=some ((getO a es).getD ⟨#[]⟩):=by
   rw [hfd,he]
   cases hg:getO a es with
   | none=>exact absurd hg h
   | some v0=>rfl
  have n1:=find_some ha p hokt hX
  have n2:=without_ok t a p ha hokt (he ▸ hok.srt) (by rw [he];exact h)
  have hels:(Tr.del t a).els=delO a es:=by rw [W9 t a (he ▸ hok.srt),he]
  have hok2:=stOK_del (a:=a) hok
  repeat' (first|refine ZE ?_|refine ZD ?_|refine ZF ?_|refine ZS ?_|refine ZR (fun b=>?_)|refine ZB ?_|refine ZT ?_|refine Zf ?_|refine Za ?_|refine Zj (fun b=>?_)|refine ZU ?_|refine ZC (hchk) (fun _ _=>?_)|refine ZN (n1) (fun _ _=>?_)|refine ZN (n2) (fun _ _=>?_)|refine ZA 5 [] [(0,0),(1,0),(2,0),(3,0),(4,0),(5,4),(6,0),(7,0)] [] ?_|refine ZA 7 [] [(0,0),(1,0),(2,0),(3,0),(4,0),(5,4),(6,0),(7,1),(8,0),(9,0)] [] ?_|fail)
  rename_i q _
  refine k_fz (b:=b) ?_
  refine k_mk (F1:=[Blk b (.cells #[.pointer q] 156),TrF q (Tr.del t a)]) (f:=St (some ⟨b,0,none⟩) (delO a es)) (fun hp hF=>⟨Tr.del t a,hels,hok2,b,_,rfl,hF (Blk b (.cells #[.pointer q] 156)) (by simp),hF (TrF q (Tr.del t a)) (by simp)⟩) ?_
  exact ZK b rfl trivial
structure FitD (c:Ch):Prop where
 ok:nchk c.nm=0
 val:c.val.size≤65536
 own:c.nm.owner.size≤1099511627770
 txt:c.nm.text.size≤1099511627776
def stepD (es:Al) (c:Ch):Al:=if c.abs=true then delO c.nm es else insO c.nm c.val es
def applyD (es:Al) (l:List Ch):Al:=l.foldl stepD es
theorem Ui (es:Al) (l:List Ch) (c:Ch):applyD es (l++[c])=stepD (applyD es l) c:=by simp [applyD]
theorem applyD_len (es:Al) (l:List Ch):(applyD es l).length≤es.length+l.length:=by
 refine Xs (P:=fun l=>(applyD es l).length≤es.length+l.length) (by simp [applyD]) (fun l c ih=>?_) l
 rw [Ui]
 have h1:=V8 c.nm c.val (applyD es l)
 have h2:=delO_len c.nm (applyD es l)
 unfold stepD
 split<;>simp<;>omega
theorem srt_step {es:Al} (h:Srt es) (c:Ch):Srt (stepD es c):=by
 unfold stepD
 split
 ·exact srt_del h
 ·exact srt_ins _ _ _ h
theorem srt_apply:∀(l:List Ch) (es:Al),Srt es→Srt (applyD es l)
 | [],_,h=>h
 | c::l,es,h=>srt_apply l (stepD es c) (srt_step h c)
theorem getO_step {es:Al} (h:Srt es) (c:Ch) (n:Nm):getO n (stepD es c)=if n=c.nm then (if c.abs=true then none else some c.val) else getO n es:=by
 unfold stepD
 split
 ·rw [getO_del h]
 ·rw [V2]
theorem UX (n:Nm):∀(l:List Ch) (es:Al),Srt es→(l.map (·.nm)).Nodup→getO n (applyD es l)=match l.find? (fun c=>decide (c.nm=n)) with|some c=>if c.abs=true then none else some c.val|none=>getO n es
 | [],es,_,_=>rfl
 | c::l,es,hs,h=>by
  simp only [List.map_cons,List.nodup_cons] at h
  show getO n (applyD (stepD es c) l)=_
  rw [UX n l _ (srt_step hs c) h.2,List.find?_cons]
  by_cases hc:c.nm=n
  ·have hn:l.find? (fun c=>decide (c.nm=n))=none:=List.find?_eq_none.2 fun x hx=>by
    simp only [decide_eq_true_eq]
    intro e
    exact h.1 (List.mem_map.2 ⟨x,hx,e.trans hc.symm⟩)
   rw [hn]
   simp only [hc,decide_true]
   rw [getO_step hs,if_pos hc.symm]
  ·simp only [hc,decide_false]
   cases l.find? (fun c=>decide (c.nm=n)) with
   | some c'=>rfl
   | none=>dsimp only;rw [getO_step hs,if_neg (fun e=>hc e.symm)]
theorem getO_afterD {es:Al} (hs:Srt es) (cs:List Ch) (n:Nm):getO n (applyD es (vwr cs))=match vcall cs n with|some c=>if c.abs=true then none else some c.val|none=>getO n es:=by
 rw [UX n _ es hs (UH cs),find_vwr]
set_option maxHeartbeats 1000000 in
theorem apply3_ok (bs:Nat) (es:Al) (o:Option Addr) (cap:Nat) (l:List Ch) (hf:∀c ∈ l,FitD c) (hl:es.length+l.length≤65536) :
  Enters 22∧Spec prog 22 #[.pointer (some ⟨bs,0,none⟩),.slice o l.length cap] [St (some ⟨bs,0,none⟩) es,Sl 108 chf o cap l,Usg] []
   ⟨Nat,fun b=>.tuple #[.pointer (some ⟨b,0,none⟩),.int .i64 0],fun _=>True,fun b=>[St (some ⟨b,0,none⟩) (applyD es l)],fun _=>[]⟩:=by
 refine ZM [_,_] func22 ntmps22 fun G w hp=>?_
 repeat' (first|refine ZE ?_|refine ZD ?_|refine ZF ?_|refine ZB ?_|fail)
 refine Z8 (X:={t:Nat×Nat // t.1≤l.length}) (fun t=>[(0,.pointer (some ⟨t.1.2,0,none⟩)),(11,.slice o l.length cap),(12,.int .i64 (l.length:Int)),(13,.int .i64 (t.1.1:Int))]) (fun t=>[St (some ⟨t.1.2,0,none⟩) (applyD es (l.take t.1.1)),Sl 108 chf o cap l,Usg]) (fun _=>[]) (fun t=>l.length - t.1.1)
  ⟨(0,bs),by simp⟩ ⟨rfl,rfl,rfl,rfl,trivial⟩ ?_
 rintro ⟨⟨i,b1⟩,hi⟩
 dsimp only at hi ⊢
 by_cases hlt:i<l.length
 ·have hgt:=List.getElem?_eq_getElem hlt
  obtain ⟨c,hcc⟩:∃c,l[i]=c:=⟨_,rfl⟩
  rw [hcc] at hgt
  have hm:c ∈ l:=by rw [←hcc];exact List.getElem_mem hlt
  have fc:=hf c hm
  have hst:applyD es (l.take (i+1))=stepD (applyD es (l.take i)) c:=by rw [List.take_succ_eq_append_getElem hlt,hcc,Ui]
  have wi:IntKind.i64.wrap ((i:Int)+1)=((i+1:Nat):Int):=by rw [wrapi (by omega) (by omega)];omega
  cases ea:c.abs with
  | true=>
   have n1:=Un b1 (applyD es (l.take i)) c.nm fc.own fc.txt fc.ok
   repeat' (first|refine ZE ?_|refine ZD ?_|refine ZF ?_|refine ZS ?_|refine ZV ?_|refine ZR (fun b=>?_)|refine ZH ?_|refine ZB ?_|refine ZC (n1) (fun _ _=>?_)|refine l_ixe i c hgt (fun b off=>?_)|refine XV ?_|rw [ea]|rw [wi]|(refine ZG (fun hc=>?_) (fun hc=>?_)<;>(try simp at hc)<;>(try omega))|fail)
   rename_i b2 _
   have hs2:applyD es (l.take (i+1))=delO c.nm (applyD es (l.take i)):=by rw [hst];unfold stepD;rw [if_pos ea]
   exact Zb ⟨(i+1,b2),by show i+1≤_;omega⟩ (by show l.length - (i+1)<l.length - i;omega) ⟨rfl,rfl,rfl,rfl,trivial⟩ (hf:=by dsimp only;rw [hs2];(repeat (first|exact trivial|exact Sel.here|apply Sel.there|apply EntF.cons)))
  | false=>
   have he:withE (applyD es (l.take i)) c.nm c.val=0:=by
    have h1:=applyD_len es (l.take i)
    have h2:(l.take i).length=i:=by simp;omega
    have h3:=fc.ok
    have h4:=fc.val
    unfold withE
    rw [if_neg (by simp [h3]),if_neg (by omega),if_neg (fun h=>by omega)]
   have n1:=Vy (some ⟨b1,0,none⟩) (applyD es (l.take i)) c.nm c.val fc.own fc.txt
   rw [he] at n1
   repeat' (first|refine ZE ?_|refine ZD ?_|refine ZF ?_|refine ZS ?_|refine ZV ?_|refine ZR (fun b=>?_)|refine ZB ?_|refine ZC (n1) (fun _ _=>?_)|refine l_ixe i c hgt (fun b off=>?_)|refine XV ?_|rw [ea]|rw [wi]|(refine ZG (fun hc=>?_) (fun hc=>?_)<;>(try simp at hc)<;>(try omega))|fail)
   rename_i q _
   refine XQ (X:=Nat) (Fx:=fun b=>[St (some ⟨b,0,none⟩) (applyD es (l.take (i+1)))]) (p:=fun b=>q=some ⟨b,0,none⟩) (f:=StR q 0 (insO c.nm c.val (applyD es (l.take i)))) .here (fun h hh=>?_) (fun b2 hb2=>?_)
   ·have hh':(St q (insO c.nm c.val (applyD es (l.take i)))).p h:=hh
    obtain ⟨tr,g1,g2,b3,p3,g3,g4⟩:=hh'
    subst g3
    refine ⟨b3,rfl,fun g hg=>?_⟩
    obtain rfl:=List.mem_singleton.1 hg
    rw [hst]
    unfold stepD
    rw [if_neg (by rw [ea];simp)]
    exact ⟨tr,g1,g2,b3,p3,rfl,g4⟩
   ·subst hb2
    exact Zb ⟨(i+1,b2),by show i+1≤_;omega⟩ (by show l.length - (i+1)<l.length - i;omega) ⟨rfl,rfl,rfl,rfl,trivial⟩
 ·repeat' (first|refine ZE ?_|refine ZD ?_|refine ZF ?_|refine ZW ?_|(refine ZG (fun hc=>?_) (fun hc=>?_)<;>(try simp at hc)<;>(try omega))|fail)
  obtain rfl:i=l.length:=by omega
  rw [List.take_length]
  exact ZK b1 rfl trivial
theorem vcs_fitD {cs:List Ch} (h:∀c ∈ cs,FitD c):∀c ∈ vwr cs,FitD c:=fun c hc=>by
 have h1:=(Yh _).mem_iff.1 hc
 obtain ⟨p,hp1,hp2⟩:=List.mem_map.1 h1
 rw [←hp2]
 exact h _ (List.mem_of_getElem? (Xg hp1).1)
set_option maxHeartbeats 1000000 in
theorem vwAfterD_ok (b bs:Nat) (es:Al) (rs:List (Nm×Ch)) (cs:List Ch) (hl:(lastL cs).length≤200) (hf:∀c ∈ cs,FitD c) (hes:es.length≤65000) :
  Enters 49∧Spec prog 49 #[.pointer (some ⟨b,0,none⟩)] [St (some ⟨bs,0,none⟩) es,Usg] [Vw b (some ⟨bs,0,none⟩) rs cs]
   ⟨Nat,fun q=>.tuple #[.pointer (some ⟨q,0,none⟩),.int .i64 0],fun _=>True,fun q=>[St (some ⟨q,0,none⟩) (applyD es (vwr cs))],fun _=>[Vw b (some ⟨bs,0,none⟩) rs cs]⟩:=by
 have n1:=fun (r1 r2:Nat) (o:Option Addr) (cap:Nat)=>Vk b (some ⟨bs,0,none⟩) r1 r2 o cap cs hl (fun c hc=>(hf c hc).own)
 have hw:=Wm cs
 have n2:=fun (q:Option Addr×Nat)=>apply3_ok bs es q.1 q.2 (vwr cs) (vcs_fitD hf) (by omega)
 refine ZM [_] func49 ntmps49 fun G w hp=>?_
 refine k_vw fun q=>?_
 obtain ⟨r1,r2,o,cap⟩:=q
 repeat' (first|refine ZE ?_|refine ZD ?_|refine ZF ?_|refine ZB ?_|refine ZT ?_|refine Zf ?_|refine r_callS (n1 r1 r2 o cap) (fun _=>rfl) (fun q _=>?_)|refine ZA 3 [Row _ _ _ _ _ _,Mp Nm.v iv _ _] [(0,0),(1,0),(2,0),(3,0),(4,0),(5,4),(6,4),(7,0),(8,0),(9,0),(10,0)] [] ?_|fail)
 obtain ⟨qo,qc⟩:=q
 have n2':=n2 (qo,qc)
 refine r_frz (T:=108) (sz:=7) (f:=chf) (o:=qo) (cap:=qc) (m:=(vwr cs).length) (xs:=(vwr cs).flatMap chf) (vwr cs) ?_ rfl rfl (hs:=.there (.there .here))
 repeat' (first|refine ZN n2' (fun _ _=>?_)|refine ZD ?_|refine ZT ?_|refine ZU ?_|fail)
 rename_i b' _
 refine k_vw' (cs:=cs) (rs:=rs) (o:=o) (m:=cs.length) (xs:=cs.flatMap chf) ?_ rfl rfl rfl
 exact ZK b' rfl trivial
variable {es:Al}
section
inductive VQ (α:Type) where
 | ret (a:α)
 | get (n:Nm) (k:ByteArray×Bool→VQ α)
 | set (n:Nm) (v:ByteArray) (k:VQ α)
 | del (n:Nm) (k:VQ α)
namespace VQ
variable {α β γ:Type}
def bind:VQ α→(α→VQ β)→VQ β
 | ret a,f=>f a
 | get n k,f=>get n fun r=>bind (k r) f
 | set n v k,f=>set n v (bind k f)
 | del n k,f=>del n (bind k f)
def rn (cs:List Ch) (n:Nm):List Nm:=if nchk n≠0 then [] else match vcall cs n with
 | some _=>[]
 | none=>[n]
def run (es:Al):VQ α→List Ch→α×List Nm×List Ch
 | ret a,cs=>(a,[],cs)
 | get n k,cs=>((run es (k (vget es cs n)) cs).1,rn cs n++(run es (k (vget es cs n)) cs).2.1,(run es (k (vget es cs n)) cs).2.2)
 | set n v k,cs=>run es k (cs++[⟨n,v,false⟩])
 | del n k,cs=>run es k (cs++[⟨n,⟨#[]⟩,true⟩])
theorem run_bind (es:Al) (f:α→VQ β):∀(p:VQ α) (cs:List Ch),run es (bind p f) cs=((run es (f (run es p cs).1) (run es p cs).2.2).1,(run es p cs).2.1++(run es (f (run es p cs).1) (run es p cs).2.2).2.1,(run es (f (run es p cs).1) (run es p cs).2.2).2.2)
 | ret a,cs=>by simp [bind,run]
 | get n k,cs=>by simp [bind,run,run_bind es f (k (vget es cs n)) cs]
 | set n v k,cs=>by simp [bind,run,run_bind es f k]
 | del n k,cs=>by simp [bind,run,run_bind es f k]
end VQ
open VQ
def rsq (es:Al):List Nm→List (Nm×Ch)→List (Nm×Ch)
 | [],rs=>rs
 | n::N,rs=>rsq es N (mset n ⟨n,(getO n es).getD ⟨#[]⟩,!(getO n es).isSome⟩ rs)
theorem VE (es:Al):∀(N M:List Nm) (rs:List (Nm×Ch)),rsq es (N++M) rs=rsq es M (rsq es N rs)
 | [],_,_=>rfl
 | _::N,M,_rs=>VE es N M _
theorem W8 (es:Al) (rs:List (Nm×Ch)) (cs:List Ch) (n:Nm):vread es rs cs n=rsq es (rn cs n) rs:=by
 unfold vread rn
 split
 ·rfl
 ·cases vcall cs n<;>rfl
section
variable {es':Al}
theorem rn_chk {cs:List Ch} {n m:Nm} (h:m ∈ rn cs n):m=n∧nchk n=0:=by
 unfold rn at h
 split at h
 ·cases h
 ·rename_i hc
  split at h
  ·cases h
  ·exact ⟨List.mem_singleton.1 h,by simpa using hc⟩
theorem Vj {α:Type}:∀(p:VQ α) (cs:List Ch),∀n ∈ (p.run es cs).2.1,nchk n=0
 | .ret _,_,n,h=>by cases h
 | .get n k,cs,m,h=>by
  simp only [VQ.run] at h
  rcases List.mem_append.1 h with h|h
  ·obtain ⟨rfl,h2⟩:=rn_chk h;exact h2
  ·exact Vj _ _ m h
 | .set n v k,cs,m,h=>by simp only [VQ.run] at h;exact Vj _ _ m h
 | .del n k,cs,m,h=>by simp only [VQ.run] at h;exact Vj _ _ m h
end
def entQ (es:Al) (n:Nm):Ch:=⟨n,(getO n es).getD ⟨#[]⟩,!(getO n es).isSome⟩
theorem mem_mset {α β:Type} [DecidableEq α] {a:α} {v:β} {p:α×β}:∀{m:List (α×β)},p ∈ mset a v m→p ∈ m∨p=(a,v)
 | [],h=>.inr (by simpa [mset] using h)
 | x::m,h=>by
  unfold mset at h
  split at h
  ·rcases List.mem_cons.1 h with h|h
   ·exact .inr h
   ·exact .inl (List.mem_cons_of_mem _ h)
  ·rcases List.mem_cons.1 h with h|h
   ·exact .inl (h ▸ List.mem_cons_self)
   ·exact (mem_mset h).imp (List.mem_cons_of_mem _) id
theorem rsq_mem (es:Al):∀(N:List Nm) (rs:List (Nm×Ch)) (p:Nm×Ch),p ∈ rsq es N rs→p ∈ rs∨(p.1 ∈ N∧p.2=entQ es p.1)
 | [],rs,p,h=>.inl h
 | n::N,rs,p,h=>by
  rcases rsq_mem es N _ p h with h1|⟨h1,h2⟩
  ·rcases mem_mset h1 with h3|h3
   ·exact .inl h3
   ·right;rw [h3];exact ⟨List.mem_cons_self,rfl⟩
  ·exact .inr ⟨List.mem_cons_of_mem _ h1,h2⟩
theorem rsq_nodup (es:Al):∀(N:List Nm) (rs:List (Nm×Ch)),(rs.map (·.1)).Nodup→((rsq es N rs).map (·.1)).Nodup
 | [],_,h=>h
 | _n::N,_rs,h=>rsq_nodup es N _ (mset_nodup _ _ _ h)
theorem rsq_has (es:Al):∀(N:List Nm) (rs:List (Nm×Ch)) (n:Nm),(n ∈ N∨n ∈ rs.map (·.1))→n ∈ (rsq es N rs).map (·.1)
 | [],rs,n,h=>h.elim (fun h=>by cases h) id
 | m::N,rs,n,h=>by
  refine rsq_has es N _ n ?_
  rw [UT]
  rcases h with h|h
  ·rcases List.mem_cons.1 h with rfl|h
   ·right
    split
    ·assumption
    ·exact List.mem_append_right _ (List.mem_singleton.2 rfl)
   ·exact .inl h
  ·right
   split
   ·exact h
   ·exact List.mem_append_left _ h
theorem rsq_keys (es:Al) (N:List Nm) (n:Nm):n ∈ (rsq es N []).map (·.1)↔n ∈ N:=by
 constructor
 ·intro h
  obtain ⟨p,hp,rfl⟩:=List.mem_map.1 h
  rcases rsq_mem es N [] p hp with h1|h1
  ·cases h1
  ·exact h1.1
 ·intro h
  exact rsq_has es N [] n (.inl h)
def ShN (n:Nm):Prop:=n.owner.size≤1000∧n.text.size≤1000
theorem rsq_ok {es:Al} {N:List Nm} (hN:∀n ∈ N,nchk n=0∧ShN n):RdOK (rsq es N []):=by
 have hin:∀p ∈ rsq es N [],p.1 ∈ N∧p.2=entQ es p.1:=fun p hp=>by
  rcases rsq_mem es N [] p hp with h1|h1
  ·cases h1
  ·exact h1
 exact ⟨rsq_nodup es N [] List.nodup_nil,fun p hp=>by rw [(hin p hp).2];rfl,fun p hp=>by have:=(hN _ (hin p hp).1).2.1;omega⟩
def smallS (es:Al) (N:List Nm):Al:=applyD [] (vrd (rsq es N []))
end
section
theorem src_sl {α:Type} {T sz:Nat} {f:α→List Value} {o:Option Addr} {cap:Nat} {es:List α} (hf:∀e,(f e).length=sz) (hs:Sel (Sl T f o cap es) F F0):Src F R sz (.slice o es.length cap) es.length (es.flatMap f):=
 ⟨rfl,fun G w0 hp0 w hsat=>by
  obtain ⟨hp,hr,st⟩:=hsat
  obtain ⟨hc,rfl|⟨b,cs,fz,pre,post,rfl,hb,hcs⟩⟩:=st.f _ hs.mem
  ·cases o with
   | none=>rfl
   | some a=>
    show (loadCells a (0 * sz)).run prog w=_
    rw [Nat.zero_mul]
    unfold loadCells
    rfl
  ·have h:=st.inp _ _ hb
   show (loadCells ⟨b,pre.length,none⟩ (es.length * sz)).run prog w=_
   have hfl:(es.flatMap f).length=es.length * sz:=Zy hf es
   have hsz:cs.size=pre.length+(es.length * sz+post.length):=by
    have:=congrArg List.length hcs
    simp only [Array.length_toList,List.length_append,hfl] at this
    exact this
   unfold loadCells
   rw [YL h pre.length (es.length * sz) 0 #[] (by omega)]
   have:((cs.toList.drop (pre.length+0)).take (es.length * sz))=es.flatMap f:=by
    rw [hcs,Nat.add_zero,List.drop_append_of_le_length (Nat.le_refl _),List.drop_length,List.nil_append,←hfl,List.take_append_of_le_length (Nat.le_refl _),List.take_length]
   rw [this];simp⟩
theorem flat_one {α:Type} {f:α→List Value} (h:∀e,(f e).all one1=true) (es:List α):(es.flatMap f).all one1=true:=by
 induction es with
 | nil=>rfl
 | cons a l ih=>rw [List.flatMap_cons,List.all_append,h a,ih];rfl
theorem l_appF {α:Type} {T sz bytes:Nat} {f:α→List Value} {o o2:Option Addr} {m cap m2 c:Nat} {xs:List Value} {es:List α} {ts tx:TypeId} {rs tr rx:TRow}
  (nx:∀o' cap',Wl n C ops.toArray k Q l ((d,.slice o' (m+es.length) cap')::E) F (Row T sz o' (m+es.length) cap' (xs++es.flatMap f)::R0))
  (hw:wantL ops E ⟨some d,.call ⟨.builtin .append,#[x,y],#[ts,tx]⟩,ty0,pos,aft,gd⟩=some true:=by rfl) (hn:Nat.blt d n=true:=by rfl) (hx:ev E x=some (.slice o m cap):=by rfl) (hy:ev E y=some (.slice o2 m2 c):=by rfl)
  (hts:lookT tab ts=some rs:=by rfl) (hrs:rs.k = .slice T:=by rfl) (hT:lookT tab T=some tr:=by rfl) (hsz:tr.size=sz:=by rfl) (hby:tr.bytes=bytes:=by rfl) (htx:lookT tab tx=some rx:=by rfl) (hnx:rx.k = .slice T:=by rfl)
  (hs:Sel (Sl T f o2 c es) F F0:=by (repeat (first|exact Sel.here|apply Sel.there));first|done|fail) (hrow:Sel (Row T sz o m cap xs) R R0:=by (repeat (first|exact Sel.here|apply Sel.there));first|done|fail) (hm2:m2=es.length:=by rfl)
  (hf:∀e,(f e).length=sz:=by intro;rfl) (hone:∀e,(f e).all one1=true:=by intro;rfl) (hb0:bytes≠0:=by decide) (hroom:(2 * (m+es.length)+200) * bytes≤281474976710656:=by simp<;>omega):Wl n C ops.toArray k Q (⟨some d,.call ⟨.builtin .append,#[x,y],#[ts,tx]⟩,ty0,pos,aft,gd⟩::l) E F R:=
 YB (fun t ht=>by cases ht;exact Nat.le_of_ble_eq_true hn) (fun c hc=>by cases hc) hw fun a w ha hsat=>by
  subst hm2
  exact (Vh ha hx hy hts hrs hT hsz hby htx (.inl hnx) (src_sl (R:=R) hf hs) (Zy hf es) (flat_one hone es) hroom hrow hsat hb0).mono fun v w' ⟨o',cap',hv,hs'⟩ a' ha'=>by
   subst hv;exact nx o' cap' a' w' ha' hs'
end
theorem Spec.ex {P:Program} {f:FuncId} {args:Array Value} {F:List Pf} {R:List HP} {post:Post} {X:Type} {r:HP} {Lx:X→List HP} {p:X→Prop} (h:∀hh,r hh→∃x,p x∧Sep (Lx x) hh) (t:∀x,p x→Spec P f args F (Lx x++R) post):Spec P f args F (r::R) post:=fun G w hp hs=>by
 obtain ⟨⟨x,hx⟩,h1⟩:=hs.open' (X:={x // p x}) (L:=fun x=>Lx x.1) fun hh hr=>let ⟨x,h1,h2⟩:=h hh hr;⟨⟨x,h1⟩,h2⟩
 exact t x hx G w hp h1
abbrev WtL (b:Nat) (o:Option Addr) (cap:Nat) (e:Int) (bs:List UInt8):List HP:=[Pt b (.cells #[.slice o bs.length cap,.int .i64 e] 254),Row 5 1 o bs.length cap (byt bs)]
def WtA (b k:Nat):HP:=fun h=>∃q:(Option Addr×Nat)×Int×List UInt8,q.2.2.length≤k∧Sep (WtL b q.1.1 q.1.2 q.2.1 q.2.2) h
def BtA (b k:Nat):Post:=⟨(Option Addr×Nat×Nat)×Int,fun q=>.tuple #[.slice q.1.1 q.1.2.1 q.1.2.2,.int .i64 q.2],fun _=>True,fun _=>[],fun _=>[WtA b k]⟩
abbrev EnA (b bw:Nat) (e:Int) (k:Nat):List HP:=[Pt b (.cells #[.pointer (some ⟨bw,0,none⟩),.int .i64 e] 323),WtA bw k]
theorem bdInfo:∃j,prog.info? 228=some j∧j.size=2:=by
 obtain ⟨j,h1,h2⟩:=Option.map_eq_some_iff.1 (show (prog.info? 228).map (·.size)=some 2 by kernel_rfl)
 exact ⟨j,h1,h2⟩
theorem bdLies:liesAt prog prog.depth 228 (2 / prog.cellsOf 228) 0 228 1=true:=by kernel_rfl
theorem u8Cells:prog.cellsOf 5=1:=by kernel_rfl
section
variable {t2:TypeId} {z:Operand}
theorem l_nepB {a:Addr} (nx:Wl n C ops.toArray k Q l ((d,.bool false)::E) F R) (hw:wantL ops E ⟨some d,.binOp .neq 226 x y t2,ty0,pos,aft,gd⟩=some true:=by rfl) (hn:Nat.blt d n=true:=by rfl)
  (hx:ev E x=some (.pointer (some a)):=by rfl) (hy:ev E y=some (.pointer (some a)):=by rfl):Wl n C ops.toArray k Q (⟨some d,.binOp .neq 226 x y t2,ty0,pos,aft,gd⟩::l) E F R:=
 l_q (fun ac w ha=>by
  obtain ⟨j,h1,h2⟩:=bdInfo
  have hg:(eqGuard .neq 226 x y (.pointer (some a)) (.pointer (some a))).run prog w = .ok () w:=by simp [eqGuard]
  have hb:=Lib.run_neq_ptr_same (P:=prog) w a underlying226 h1
  simp only [execOp,ha.ev (x:=x) (by rw [ZQ];exact hx),ha.ev (x:=y) (by rw [ZQ];exact hy),Sem.run_bind,hg,Result.andThen,hb,Sem.run_pure]) nx (by intro c h;cases h) hw hn
theorem l_toU {b:Nat} {cs:Array Value} (nx:Wl n C ops.toArray k Q l ((d,.pointer (some ⟨b,0,none⟩))::E) F R) (hw:wantL ops E ⟨some d,.convert 226 328 x,ty0,pos,aft,gd⟩=some true:=by rfl) (hn:Nat.blt d n=true:=by rfl)
  (hx:ev E x=some (.pointer (some ⟨b,0,none⟩)):=by rfl) (hs:Sel (Pt b (.cells cs 228 (0,0))) R R0:=by (repeat (first|exact Sel.here|apply Sel.there));first|done|fail) (hc:cs.size=2:=by rfl):Wl n C ops.toArray k Q (⟨some d,.convert 226 328 x,ty0,pos,aft,gd⟩::l) E F R:=
 YB (fun t ht=>by cases ht;exact Nat.le_of_ble_eq_true hn) (fun c hc=>by cases hc) hw fun a w ha hsat=>by
  obtain ⟨j,h1,h2⟩:=bdInfo
  have hb:=hsat.pt hs
  have hsh:w.shape? b=some (228,2):=by simp [World.shape?,hb,hc]
  have hr:=Lib.run_to_unsafe (P:=prog) w ⟨b,0,none⟩ underlying226 underlying328 h1 (by rw [h2];decide) hsh (show 0<2 by decide)
  unfold OpRes
  simp only [execOp,ha.ev (x:=x) (by rw [ZQ];exact hx),Sem.run_bind,Result.andThen,hr,Sem.run_pure]
  exact fun a' ha'=>nx a' w ha' hsat
theorem l_fromU {b:Nat} {cs:Array Value} (nx:Wl n C ops.toArray k Q l ((d,.pointer (some ⟨b,0,none⟩))::E) F R) (hw:wantL ops E ⟨some d,.convert 328 226 x,ty0,pos,aft,gd⟩=some true:=by rfl) (hn:Nat.blt d n=true:=by rfl)
  (hx:ev E x=some (.pointer (some ⟨b,0,none⟩)):=by rfl) (hs:Sel (Pt b (.cells cs 228 (0,0))) R R0:=by (repeat (first|exact Sel.here|apply Sel.there));first|done|fail) (hc:cs.size=2:=by rfl):Wl n C ops.toArray k Q (⟨some d,.convert 328 226 x,ty0,pos,aft,gd⟩::l) E F R:=
 YB (fun t ht=>by cases ht;exact Nat.le_of_ble_eq_true hn) (fun c hc=>by cases hc) hw fun a w ha hsat=>by
  obtain ⟨j,h1,h2⟩:=bdInfo
  have hb:=hsat.pt hs
  have hsh:w.shape? b=some (228,2):=by simp [World.shape?,hb,hc]
  have hr:=Lib.run_from_unsafe (P:=prog) w ⟨b,0,none⟩ underlying328 underlying226 h1 hsh bdLies
  unfold OpRes
  simp only [execOp,ha.ev (x:=x) (by rw [ZQ];exact hx),Sem.run_bind,Result.andThen,hr,Sem.run_pure]
  exact fun a' ha'=>nx a' w ha' hsat
theorem run_callX {f:FuncId} {args:Array Operand} {tys:Array TypeId} {vs:List Value} {v:Value} (hf:∀w,(callFunc f vs.toArray).run prog w = .ok (.value v) w) (hargs:evs (ev E) args.toList some=some vs) {a:Act} {ds:List Deferred} (ha:Agree n ds (look E) a) (w:World) (dst:Option Tmp) :
  (execOp a.eval ⟨dst,.call ⟨.value (.func f),args,tys⟩,ty0,pos,aft,gd⟩).run prog w = .ok (.value v) w:=by
 obtain ⟨us,_,h2,h3⟩:=Ve _ _ _ hargs
 obtain rfl:=Option.some.inj h2
 have e1:=h3 a.eval fun x _ u hu=>ha.ev (by rw [ZQ];exact hu)
 have e3:args.map a.eval=us.toArray:=by rw [←Array.toList_inj];simpa using e1
 simp only [execOp,resolve,Deferred.ofValue,Act.eval,Sem.run_bind,Sem.run_pure,Result.andThen,invoke]
 have e4:(args.map fun x=>a.eval x)=us.toArray:=e3
 simp only [Act.eval] at e4
 rw [show (#[]:Array Value)++Array.map _ args++#[]=us.toArray by rw [←e3];simp]
 exact hf w
theorem l_noesc {v:Value} {args:Array Operand} {tys:Array TypeId} (nx:Wl n C ops.toArray k Q l ((d,v)::E) F R) (hw:wantL ops E ⟨some d,.call ⟨.value (.func 207),args,tys⟩,ty0,pos,aft,gd⟩=some true:=by rfl) (hn:Nat.blt d n=true:=by rfl)
  (hargs:evs (ev E) args.toList some=some [v]:=by rfl):Wl n C ops.toArray k Q (⟨some d,.call ⟨.value (.func 207),args,tys⟩,ty0,pos,aft,gd⟩::l) E F R:=
 YB (fun t ht=>by cases ht;exact Nat.le_of_ble_eq_true hn) (fun c hc=>by cases hc) hw fun a w ha hsat=>by
  have hc:∀w,(callFunc 207 [v].toArray).run prog w = .ok (.value v) w:=fun w=>by
   rw [run_callFunc_extern func207 (by kernel_rfl) (by kernel_rfl) (by kernel_rfl) (e:=Extern.AbiNoEscape.same) (by kernel_rfl),Lib.run_noEscape]
   rfl
  unfold OpRes
  rw [run_callX hc hargs ha w]
  exact fun a' ha'=>nx a' w ha' hsat
theorem r_usd {o:Option Addr} {m c:Nat} {tys:Array TypeId} (nx:Wr n C ops k Q Tl Fs R L ((d,.pointer o)::E) F N)
  (ho:nth ops i=some ⟨some d,.call ⟨.builtin .unsafeSliceData,#[x],tys⟩,ty0,pos,aft,gd⟩:=by rfl) (hw:wantL ops E ⟨some d,.call ⟨.builtin .unsafeSliceData,#[x],tys⟩,ty0,pos,aft,gd⟩=some true:=by rfl) (hx:ev E x=some (.slice o m c):=by rfl) (hc:o=none∨c≠0):Wr n C ops k Q Tl Fs R ((i,0)::L) E F N:=
 r_q (fun a w ha=>by
  have e1:=ha.ev (x:=x) (by rw [ZQ];exact hx)
  have hr:(Builtin.unsafeSliceData_ tys ty0 #[.slice o m c]).run prog w = .ok (.pointer o) w:=by
   rcases hc with rfl|hc
   ·exact Lib.run_unsafeSliceData_nil (P:=prog) w tys ty0 m c
   ·cases o with
    | none=>exact Lib.run_unsafeSliceData_nil (P:=prog) w tys ty0 m c
    | some a=>exact Lib.run_unsafeSliceData_row (P:=prog) w tys ty0 a m c hc
  simp only [execOp,resolve,Sem.run_bind,Sem.run_pure,Result.andThen,invoke,builtin,List.map_toArray,List.map_cons,List.map_nil,e1,hr]) nx ho hw
theorem r_ust0 {o:Option Addr} {pt it:TypeId} (nx:Wr n C ops k Q Tl Fs R L ((d,.string ⟨#[]⟩)::E) F N)
  (ho:nth ops i=some ⟨some d,.call ⟨.builtin .unsafeString,#[x,y],#[pt,it]⟩,ty0,pos,aft,gd⟩:=by rfl) (hw:wantL ops E ⟨some d,.call ⟨.builtin .unsafeString,#[x,y],#[pt,it]⟩,ty0,pos,aft,gd⟩=some true:=by rfl)
  (hx:ev E x=some (.pointer o):=by rfl) (hy:ev E y=some (.int .i64 0):=by rfl):Wr n C ops k Q Tl Fs R ((i,0)::L) E F N:=
 r_q (fun a w ha=>by
  have e1:=ha.ev (x:=x) (by rw [ZQ];exact hx)
  have e2:=ha.ev (x:=y) (by rw [ZQ];exact hy)
  have hr:=Lib.run_unsafeString_none (P:=prog) w pt it ty0 o
  simp only [execOp,resolve,Sem.run_bind,Sem.run_pure,Result.andThen,invoke,builtin,List.map_toArray,List.map_cons,List.map_nil,e1,e2,hr]
  rfl) nx ho hw
theorem frz_w {w:World} {g m:Nat} {cs:Array Value} {T:TypeId} {fz:Nat×Nat} (hb:w.heap[g]? = some (.cells cs T fz)):∃fz',(w.freeze ⟨g,0,none⟩ m).heap[g]? = some (.cells cs T fz')∧Same w (w.freeze ⟨g,0,none⟩ m)∧∀e,e≠g→(w.freeze ⟨g,0,none⟩ m).heap[e]? = w.heap[e]?:=by
 obtain ⟨lo,hi⟩:=fz
 unfold World.freeze
 split
 ·exact ⟨(lo,hi),hb,Same.refl w,fun _ _=>rfl⟩
 ·refine ⟨if lo == hi then (0,0+m) else (min lo 0,max hi (0+m)),?_,⟨rfl,rfl,rfl,by simp⟩,fun e he=>?_⟩
  ·simp only [Array.getElem?_modify,if_true,hb,Option.map_some]
  ·simp only [Array.getElem?_modify]
   rw [if_neg (fun h=>he h.symm)]
theorem r_ust {g:Nat} {bs:List UInt8} {rest:List Value} {fz:Nat×Nat} {pt it:TypeId} (hne:bs≠[]) (hlt:bs.length≤1099511627776) (hp:prog.underlying pt=some (.pointer 5)) (nx:∀fz',Wr n C ops k Q Tl Fs R L ((d,.string ⟨bs.toArray⟩)::E) F (Pt g (.cells (byt bs++rest).toArray 5 fz')::N'))
  (ho:nth ops i=some ⟨some d,.call ⟨.builtin .unsafeString,#[x,y],#[pt,it]⟩,ty0,pos,aft,gd⟩:=by rfl) (hw:wantL ops E ⟨some d,.call ⟨.builtin .unsafeString,#[x,y],#[pt,it]⟩,ty0,pos,aft,gd⟩=some true:=by rfl)
  (hx:ev E x=some (.pointer (some ⟨g,0,none⟩)):=by rfl) (hy:ev E y=some (.int .i64 (bs.length:Int)):=by rfl) (hs:Sel (Pt g (.cells (byt bs++rest).toArray 5 fz)) N N':=by (repeat (first|exact Sel.here|apply Sel.there));first|done|fail):Wr n C ops k Q Tl Fs R ((i,4)::L) E F N:=
 Ye ho fun hp' hr w st hz sb=>by
  simp only [Zt hw]
  refine ⟨⟨{_fz:Nat×Nat // True},fun _=>.string ⟨bs.toArray⟩,fun _=>True,fun _=>F,fun fz'=>Pt g (.cells (byt bs++rest).toArray 5 fz'.1)::N'⟩,fun a G w hp'' ha hsub hsat=>?_,fun fz' _=>nx fz'.1 hp' hr w st hz sb⟩
  have hb:=hsat.pt hs
  have hr1:=Lib.run_unsafeString_row (P:=prog) w pt it ty0 5 hp u8Cells g (byt bs++rest).length (by simp [World.shape?,hb]) bs hne (by simp [byt]) (by omega) (fun j u hj=>by
   have hlt2:j<bs.length:=(List.getElem?_eq_some_iff.1 hj).1
   simp only [World.cell?,Addr.add]
   have e:(byt bs++rest)[j]? = some (.int .u8 u.toNat):=by rw [List.getElem?_append_left (by simp [byt];omega)];simp [byt,hj]
   by_cases h0:j=0
   ·subst h0;simp [hb] at e ⊢;exact e
   ·simp [h0,hb] at e ⊢;exact e)
  obtain ⟨fz',g2,g3,g4⟩:=frz_w (m:=bs.length) hb
  unfold OpRes
  have e1:=ha.ev (x:=x) (by rw [ZQ];exact hx)
  have e2:=ha.ev (x:=y) (by rw [ZQ];exact hy)
  simp only [execOp,resolve,Sem.run_bind,Sem.run_pure,Result.andThen,invoke,builtin,List.map_toArray,List.map_cons,List.map_nil,e1,e2,hr1]
  exact ⟨⟨fz',trivial⟩,trivial,trivial,(show Sat G w hp'' F (Pt g (.cells (byt bs++rest).toArray 5 fz)::N') w from hsat.sel hs).write g3 g2 fun e he _=>g4 e he⟩
end
theorem copyCheck_ok (b:Nat) (p:Option Addr) (v:Value) (hp:p=none∨p=some ⟨b,0,none⟩):Enters 167∧Spec prog 167 #[.pointer (some ⟨b,0,none⟩)] [] [Pt b (.cells #[.pointer p,v] 228)]
  ⟨Unit,fun _=>.tuple #[],fun _=>True,fun _=>[],fun _=>[Pt b (.cells #[.pointer (some ⟨b,0,none⟩),v] 228)]⟩:=by
 rcases hp with rfl|rfl
 ·refine ZM [_] func167 ntmps167 fun G w hp=>?_
  repeat' (first|refine ZE ?_|refine ZD ?_|refine ZL ?_|refine ZF ?_|refine ZS ?_|refine ZO ?_|refine ZV ?_|refine ZR (fun b=>?_)|refine ZX (fun b=>?_)|refine ZH ?_|refine ZB ?_|refine ZW ?_|refine l_toU ?_|refine l_noesc ?_|refine l_fromU ?_|(refine ZJ (fun hc=>?_) (fun hc=>?_)<;>(try simp at hc))|(refine ZG (fun hc=>?_) (fun hc=>?_)<;>(try simp at hc)))
  exact Yc () rfl trivial
 ·refine ZM [_] func167 ntmps167 fun G w hp=>?_
  repeat' (first|refine ZE ?_|refine ZD ?_|refine ZL ?_|refine ZF ?_|refine ZS ?_|refine ZO ?_|refine ZV ?_|refine ZR (fun b=>?_)|refine ZX (fun b=>?_)|refine ZH ?_|refine ZB ?_|refine ZW ?_|refine l_nepB ?_|(refine ZJ (fun hc=>?_) (fun hc=>?_)<;>(try simp at hc))|(refine ZG (fun hc=>?_) (fun hc=>?_)<;>(try simp at hc)))
  exact Yc () rfl trivial
abbrev BdL (b:Nat) (p o:Option Addr) (cap:Nat) (bs:List UInt8):List HP:=[Pt b (.cells #[.pointer p,.slice o bs.length cap] 228),Row 5 1 o bs.length cap (byt bs)]
def Bdr (b:Nat) (bs:List UInt8):HP:=fun h=>∃q:Option Addr×Option Addr×Nat,((q.1=none∨q.1=some ⟨b,0,none⟩)∧(bs=[]→q.2.1=none))∧Sep (BdL b q.1 q.2.1 q.2.2 bs) h
set_option maxHeartbeats 1000000 in
theorem bdWrite_ok (b:Nat) (bs:List UInt8) (o2:Option Addr) (c2:Nat) (s:List UInt8) (hs:s≠[]) (hl:bs.length≤1000000) (hl2:s.length≤1000000):Enters 121∧Spec prog 121 #[.pointer (some ⟨b,0,none⟩),.slice o2 s.length c2] [Sl 5 bf o2 c2 s] [Bdr b bs]
  ⟨Unit,fun _=>.tuple #[.int .i64 s.length,.nilIface],fun _=>True,fun _=>[],fun _=>[Bdr b (bs++s)]⟩:=by
 refine ZM [_,_] func121 ntmps121 fun G w hp=>?_
 refine Z6 (X:=Option Addr×Option Addr×Nat) (Lx:=fun q=>BdL b q.1 q.2.1 q.2.2 bs) (p:=fun q=>(q.1=none∨q.1=some ⟨b,0,none⟩)∧(bs=[]→q.2.1=none)) (r:=Bdr b bs) .here (fun h hh=>hh) (fun q hq=>?_)
 obtain ⟨p,o,cap⟩:=q
 obtain ⟨hp,ho⟩:=hq
 dsimp only at hp ho
 have n1:=fun v=>copyCheck_ok b p v hp
 repeat' (first|refine ZE ?_|refine ZD ?_|refine ZL ?_|refine ZF ?_|refine ZS ?_|refine ZO ?_|refine ZV ?_|refine ZR (fun b=>?_)|refine ZX (fun b=>?_)|refine ZH ?_|refine ZB ?_|refine ZW ?_|refine ZC (n1 _) (fun _ _=>?_)|refine l_call0 (n1 _) (fun _ _=>?_)|refine l_appF (es:=s) (fun o' cap'=>?_) (hroom:=by simp only [Nat.mul_one];omega)|(refine ZJ (fun hc=>?_) (fun hc=>?_)<;>(try simp at hc))|(refine ZG (fun hc=>?_) (fun hc=>?_)<;>(try simp at hc)))
 have hE:byt bs++s.flatMap bf=byt (bs++s):=by rw [XB,Xw s]
 rw [hE,←List.length_append]
 refine Zs (r:=Bdr b (bs++s)) (Lx:=BdL b (some ⟨b,0,none⟩) o' cap' (bs++s)) (fun h hh=>⟨(some ⟨b,0,none⟩,o',cap'),⟨.inr rfl,fun h=>absurd (List.append_eq_nil_iff.1 h).2 hs⟩,hh⟩) ?_
 exact ZK () rfl trivial
theorem u8Ptr:prog.underlying 288=some (.pointer 5):=underlying288
set_option maxHeartbeats 1000000 in
theorem bdString_ok (b:Nat) (bs:List UInt8) (hl:bs.length≤1099511627776):Enters 122∧Spec prog 122 #[.pointer (some ⟨b,0,none⟩)] [] [Bdr b bs] (RetV (.string ⟨bs.toArray⟩)):=by
 refine ZM [_] func122 ntmps122 fun G w hp=>?_
 refine Z6 (X:=Option Addr×Option Addr×Nat) (Lx:=fun q=>BdL b q.1 q.2.1 q.2.2 bs) (p:=fun q=>(q.1=none∨q.1=some ⟨b,0,none⟩)∧(bs=[]→q.2.1=none)) (r:=Bdr b bs) .here (fun h hh=>hh) (fun q hq=>?_)
 obtain ⟨p,o,cap⟩:=q
 obtain ⟨hp,ho⟩:=hq
 dsimp only at hp ho ⊢
 by_cases hb:bs=[]
 ·subst hb
  obtain rfl:=ho rfl
  repeat' (first|refine ZE ?_|refine ZD ?_|refine ZL ?_|refine ZF ?_|refine ZS ?_|refine ZO ?_|refine ZV ?_|refine ZR (fun b=>?_)|refine ZX (fun b=>?_)|refine ZH ?_|refine ZB ?_|refine ZW ?_|refine ZT ?_|refine ZZ ?_|refine Zf ?_|refine Za ?_|refine Zd ?_|refine Zj (fun b=>?_)|refine Zm (fun b=>?_)|refine Zk ?_|refine ZU ?_|refine r_usd ?_ (hc:=.inl rfl)|refine r_ust0 ?_|(refine ZJ (fun hc=>?_) (fun hc=>?_)<;>(try simp at hc))|(refine ZP (fun hc=>?_) (fun hc=>?_)<;>(try simp at hc))|refine ZA 1 [] [(0,0),(1,0),(2,0),(3,0),(4,0),(5,0),(6,0),(7,0),(8,0),(9,0),(10,0),(11,0)] [] ?_|(refine ZG (fun hc=>?_) (fun hc=>?_)<;>(try simp at hc)))
  exact ZK () rfl trivial
 ·have hb0:0<bs.length:=List.length_pos_iff.2 hb
  refine Z6 (X:=Nat×List Value×(Nat×Nat)) (Lx:=fun q=>[Pt q.1 (.cells (byt bs++q.2.1).toArray 5 q.2.2)]) (p:=fun q=>o=some ⟨q.1,0,none⟩∧cap≠0) (r:=Row 5 1 o bs.length cap (byt bs)) (.there .here) (fun hh' hh=>?_) (fun q hq=>?_)
  ·rcases hh with ⟨_,h0,_⟩|⟨g,rest,fz,h1,h2,h3,h4,h5,h6⟩
   ·omega
   ·exact ⟨(g,rest,fz),⟨h1,by omega⟩,hh',emp,fun _=>.inr rfl,fun _ _ e=>e,fun _ _ e=>(by cases e),h2,trivial⟩
  ·obtain ⟨g,rest,fz⟩:=q
   obtain ⟨rfl,hc⟩:=hq
   dsimp only at hc ⊢
   repeat' (first|refine ZE ?_|refine ZD ?_|refine ZL ?_|refine ZF ?_|refine ZS ?_|refine ZO ?_|refine ZV ?_|refine ZR (fun b=>?_)|refine ZX (fun b=>?_)|refine ZH ?_|refine ZB ?_|refine ZW ?_|refine ZT ?_|refine ZZ ?_|refine Zf ?_|refine Za ?_|refine Zd ?_|refine Zj (fun b=>?_)|refine Zm (fun b=>?_)|refine Zk ?_|refine ZU ?_|refine r_usd ?_ (hc:=.inr hc)|refine r_ust hb hl u8Ptr (fun fz'=>?_)|(refine ZJ (fun hc=>?_) (fun hc=>?_)<;>(try simp at hc))|(refine ZP (fun hc=>?_) (fun hc=>?_)<;>(try simp at hc))|refine ZA 1 [Pt g (.cells _ 5 _)] [(0,0),(1,0),(2,0),(3,0),(4,0),(5,0),(6,0),(7,0),(8,0),(9,0),(10,4),(11,0)] [] ?_|(refine ZG (fun hc=>?_) (fun hc=>?_)<;>(try simp at hc)))
   exact ZK () rfl trivial
section
variable {y1 y2:Operand}
theorem l_fz {o:Obj} (nx:Wl n C ops.toArray k Q l E (Blk b o::F) R0) (hs:Sel (Pt b o) R R0:=by (repeat (first|exact Sel.here|apply Sel.there));first|done|fail):Wl n C ops.toArray k Q l E F R:=
 fun a w ha hsat=>nx a w ha (hsat.sel hs).freeze
theorem l_sla {T m:Nat} {z1 z2:Int} {rs tr:TRow} (lo hi:Nat) (hlo:lo<hi) (hhi:hi≤m) (nx:Wl n C ops.toArray k Q l ((d,.slice (some ⟨b,lo,none⟩) (hi - lo) (m - lo))::E) F R)
  (hw:wantL ops E ⟨some d,.slice t x (some y1) (some y2) none,ty0,pos,aft,gd⟩=some true:=by rfl) (hn:Nat.blt d n=true:=by rfl) (hx:ev E x=some (.pointer (some ⟨b,0,none⟩)):=by rfl) (hy1:ev E y1=some (.int .i64 z1):=by rfl) (hy2:ev E y2=some (.int .i64 z2):=by rfl)
  (hts:lookT tab t=some rs:=by rfl) (hrs:rs.k = .arr m T:=by rfl) (hT:lookT tab T=some tr:=by rfl) (hsz:tr.size=1:=by rfl) (hz1:z1=(lo:Int):=by rfl) (hz2:z2=(hi:Int):=by rfl):Wl n C ops.toArray k Q (⟨some d,.slice t x (some y1) (some y2) none,ty0,pos,aft,gd⟩::l) E F R:=
 l_q (fun a w ha=>by
  simp only [execOp,Option.map_some,Option.map_none,ha.ev (x:=x) (by rw [ZQ];exact hx),ha.ev (x:=y1) (by rw [ZQ];exact hy1),ha.ev (x:=y2) (by rw [ZQ];exact hy2),Sem.run_bind,run_sla (w:=w) (b:=b) hlo hhi hts hrs hT hsz hz1 hz2,Result.andThen,Sem.run_pure]) nx (by intro c h;cases h) hw hn
theorem l_slB {T lo c:Nat} {Lb seg pre post:List UInt8} (h:Lb=pre++(seg++post)) (hlo:lo=pre.length) (hc:seg.length≤c) (nx:Wl n C ops.toArray k Q l E (Sl 5 bf (some ⟨b,lo,none⟩) c seg::F) R)
  (hs:Sel (Blk b (.cells (byt Lb).toArray T (0,0))) F F0:=by (repeat (first|exact Sel.here|apply Sel.there));first|done|fail):Wl n C ops.toArray k Q l E F R:=fun a w ha hsat=>by
 obtain ⟨hp,hr,st⟩:=hsat
 have hb:=st.f _ hs.mem
 refine nx a w ha (XZ st ?_)
 subst h hlo
 refine ⟨hc,.inr ⟨b,_,(T,0,0),byt pre,byt post,by simp [byt],hb,?_⟩⟩
 rw [List.toList_toArray,XB,XB,Xw seg]
end
def rdS (es:Al) (cs:List Ch) (bi:Bi) (p:Pp):List UInt8:=((Yg (vget es cs (bnm bi p.bl)).1).drop p.fr).take (p.to - p.fr)
def rdB (es:Al) (cs:List Ch) (bi:Bi) (l:List Pp):List UInt8:=l.flatMap (rdS es cs bi)
def rdR (es:Al) (cs:List Ch) (bi:Bi) (rs:List (Nm×Ch)) (l:List Pp):List (Nm×Ch):=l.foldl (fun rs p=>vread es rs cs (bnm bi p.bl)) rs
theorem rdS_len {es:Al} {cs:List Ch} {bi:Bi} {p:Pp} (h:p.to≤64):(rdS es cs bi p).length=p.to - p.fr:=by
 have:=Ya (vget es cs (bnm bi p.bl)).1
 simp only [rdS,List.length_take,List.length_drop,this];omega
abbrev JRL (b b12:Nat) (ps:Option Addr) (es:Al) (cs:List Ch) (bi:Bi) (rs:List (Nm×Ch)) (pre:List Pp):List HP:=[Vw b ps (rdR es cs bi rs pre) cs,Bdr b12 (rdB es cs bi pre)]
def JR (b b12:Nat) (ps:Option Addr) (es:Al) (cs:List Ch) (bi:Bi) (rs:List (Nm×Ch)) (pre:List Pp):HP:=fun h=>Sep (JRL b b12 ps es cs bi rs pre) h
theorem bdr_new {b:Nat} (h:H) (hh:Sep [Pt b (.cells #[.pointer none,.slice none 0 0] 228)] h):Bdr b [] h:=by
 obtain ⟨h1,h2,d,s1,s2,hx,_⟩:=hh
 exact ⟨(none,none,0),⟨.inl rfl,fun _=>rfl⟩,h1,emp,(fun _=>.inr rfl),s1,(fun _ _ e=>by cases e),hx,emp,emp,(fun _=>.inr rfl),(fun _ _ e=>by cases e),(fun _ _ e=>by cases e),Yj _ _ _,trivial⟩
theorem rdB_len {es:Al} {cs:List Ch} {bi:Bi}:∀(l:List Pp),(∀p ∈ l,p.to≤64)→(rdB es cs bi l).length≤l.length * 64
 | [],_=>by simp [rdB]
 | p::l,h=>by
  have ih:=rdB_len (es:=es) (cs:=cs) (bi:=bi) l (fun q hq=>h q (by simp [hq]))
  have h1:=rdS_len (es:=es) (cs:=cs) (bi:=bi) (h p (by simp))
  have h2:=h p (by simp)
  have e:rdB es cs bi (p::l)=rdS es cs bi p++rdB es cs bi l:=by simp [rdB]
  rw [e,List.length_append,List.length_cons,h1]
  omega
set_option maxHeartbeats 4000000 in
theorem inoRead_ok (b:Nat) (ps:Option Addr) (es:Al) (rs:List (Nm×Ch)) (cs:List Ch) (bi:Bi) (f c sz:Nat) (hw:bi.mkr.size≤1099511627770) (hv:(vget es cs (nnm bi)).1.size≤1099511627776)
  (h0:(ifile es cs bi).2=0) (hz:(ifile es cs bi).1.sz=(sz:Int)) (hsz:sz≤4096) :
  Enters 57∧Spec prog 57 #[.pointer (some ⟨b,0,none⟩),bi.v,.int .i64 (f:Int),.int .i64 (c:Int)] [St ps es,Usg] [Vw b ps rs cs]
   ⟨Unit,fun _=>.tuple #[.string ⟨(rdB es cs bi (pts (min f sz) (min f sz+min c (sz - min f sz)))).toArray⟩,.int .i64 0],fun _=>True,fun _=>[],fun _=>[Vw b ps (rdR es cs bi (igetR es rs cs bi) (pts (min f sz) (min f sz+min c (sz - min f sz)))) cs]⟩:=by
 have n1:=XN b ps es rs cs bi hw hv
 rw [h0] at n1
 generalize (ifile es cs bi).1=nd at *
 obtain ⟨a1,a2,a3,a4,a5,a6,a7⟩:=nd
 dsimp only at hz
 subst hz
 have w2:(if (sz:Int)<(f:Int) then (sz:Int) else (f:Int))=((min f sz:Nat):Int):=by split<;>omega
 generalize hf0:min f sz=f0 at *
 have hf1:f0≤sz:=by omega
 have w1:IntKind.i64.wrap ((sz:Int) - (f0:Int))=((sz - f0:Nat):Int):=by rw [wrapi (by omega) (by omega)];omega
 have w4:(if ((sz - f0:Nat):Int)<(c:Int) then ((sz - f0:Nat):Int) else (c:Int))=((min c (sz - f0):Nat):Int):=by split<;>omega
 generalize hcnt:min c (sz - f0)=cnt at *
 have w3:IntKind.i64.wrap ((f0:Int)+(cnt:Int))=((f0+cnt:Nat):Int):=by rw [wrapi (by omega) (by omega)];omega
 have n3:=partsF_ok (f0:Int) ((f0+cnt:Nat):Int)
 generalize b=bv at *
 refine ⟨enters_of func57 (by kernel_rfl) rfl,Wz (vs:=[_,_,_,_]) func57 rfl ntmps57 rfl fun G w hp=>?_⟩
 repeat' (first|refine ZE ?_|refine ZD ?_|refine ZL ?_|refine ZF ?_|refine ZS ?_|refine ZO ?_|refine ZV ?_|refine ZR (fun b=>?_)|refine ZX (fun b=>?_)|refine ZH ?_|refine ZB ?_|refine ZW ?_|refine ZC (n1) (fun _ _=>?_)|refine l_call0 (n1) (fun _ _=>?_)|refine ZC (n3) (fun _ _=>?_)|refine l_call0 (n3) (fun _ _=>?_)|rw [w2]|rw [w1]|rw [w4]|rw [w3]|(refine ZJ (fun hc=>?_) (fun hc=>?_)<;>(try simp at hc)<;>(try omega))|(refine ZG (fun hc=>?_) (fun hc=>?_)<;>(try simp at hc)<;>(try omega)))
 rename_i b4 b5 _ _ b10 q _
 generalize b=b12 at *
 obtain ⟨p1,p2⟩:=q
 refine k_fz (b:=b4) ?_
 refine k_fz (b:=b5) ?_
 refine Zs (r:=Bdr b12 []) (Lx:=[Pt b12 (.cells #[.pointer none,.slice none 0 0] 228)]) (fun h hh=>bdr_new h hh) ?_
 refine Zs (r:=JR bv b12 ps es cs bi (igetR es rs cs bi) []) (Lx:=JRL bv b12 ps es cs bi (igetR es rs cs bi) []) (fun h hh=>hh) ?_
 refine UB (α:=Pp) (enc:=Pp.v) (xs:=pts f0 (f0+cnt)) (fun pre=>JR bv b12 ps es cs bi (igetR es rs cs bi) pre) (fun _ _=>False) (Va p1 p2 f0 (f0+cnt) (by omega) (by omega)) ?_ ?_ ?_
 ·intro lr l pre e hpre G w0 hp0
  dsimp only
  have hpm:=Xy (f0+cnt - f0) f0 (f0+cnt) (Nat.le_refl _) e (hpre.subset (by simp))
  have hpl:pre.length≤4096:=by
   have h1:=hpre.length_le
   have h2:=Wp (f0+cnt - f0) f0 (f0+cnt) (Nat.le_refl _)
   simp only [List.length_append,List.length_singleton] at h1;omega
  have hpre64:∀p ∈ pre,p.to≤64:=fun p hp=>(Xy (f0+cnt - f0) f0 (f0+cnt) (Nat.le_refl _) p (hpre.subset (by simp [hp]))).2.2.1
  have hbl:=rdB_len (es:=es) (cs:=cs) (bi:=bi) pre hpre64
  obtain ⟨bl,fr,to⟩:=e
  dsimp only at hpm
  have hE1:rdB es cs bi (pre++[⟨bl,fr,to⟩])=rdB es cs bi pre++rdS es cs bi ⟨bl,fr,to⟩:=by simp [rdB]
  have hE2:rdR es cs bi (igetR es rs cs bi) (pre++[⟨bl,fr,to⟩])=vread es (rdR es cs bi (igetR es rs cs bi) pre) cs (bnm bi (bl:Int)):=by simp [rdR]
  have hSl:=rdS_len (es:=es) (cs:=cs) (bi:=bi) (p:=⟨bl,fr,to⟩) hpm.2.2.1
  dsimp only at hSl
  have hseg:rdS es cs bi ⟨bl,fr,to⟩=((Yg (vget es cs (bnm bi (bl:Int))).1).drop fr).take (to - fr):=rfl
  have ho:=Ya (vget es cs (bnm bi (bl:Int))).1
  have m1:=block_ok bv ps es (rdR es cs bi (igetR es rs cs bi) pre) cs bi (bl:Int) hw
  refine Z6 (X:=Unit) (Lx:=fun _=>[Vw bv ps (rdR es cs bi (igetR es rs cs bi) pre) cs,Bdr b12 (rdB es cs bi pre)]) (p:=fun _=>True) (r:=JR bv b12 ps es cs bi (igetR es rs cs bi) pre) (by first|exact .here|exact .there .here) (fun h hh=>⟨(),trivial,hh⟩) (fun _ _=>?_)
  generalize rdB es cs bi pre=B at *
  generalize rdR es cs bi (igetR es rs cs bi) pre=rs' at *
  generalize rdS es cs bi ⟨bl,fr,to⟩=seg at *
  generalize Yg (vget es cs (bnm bi (bl:Int))).1=P at *
  have hsplit:P=P.take fr++(seg++P.drop to):=by
   rw [hseg]
   conv=>lhs;rw [←List.take_append_drop fr P,←List.take_append_drop (to - fr) (P.drop fr)]
   rw [List.drop_drop,show fr+(to - fr)=to by omega]
  have hne:seg≠[]:=by
   intro h;rw [h] at hSl;simp at hSl;omega
  have m2:=fun b14=>bdWrite_ok b12 B (some ⟨b14,fr,none⟩) (64 - fr) seg hne (by omega) (by omega)
  rw [hSl] at m2
  repeat' (first|refine ZE ?_|refine ZD ?_|refine ZL ?_|refine ZF ?_|refine ZS ?_|refine ZO ?_|refine ZV ?_|refine ZR (fun b=>?_)|refine ZX (fun b=>?_)|refine ZH ?_|refine ZB ?_|refine ZW ?_|refine ZC (m1) (fun _ _=>?_)|refine l_call0 (m1) (fun _ _=>?_)|refine k_beg ?_|(refine ZJ (fun hc=>?_) (fun hc=>?_)<;>(try simp at hc)<;>(try omega))|(refine ZG (fun hc=>?_) (fun hc=>?_)<;>(try simp at hc)<;>(try omega)))
  generalize b=b14 at *
  refine l_by (T:=215) (b:=b14) (Lb:=List.replicate 64 0) rfl ?_
  refine l_stB (L0:=List.replicate 64 0) (Lb:=P) ?_ ho.symm (by simp [ho])
  refine l_fz (b:=b14) (o:=.cells (byt P).toArray 215 (0,0)) ?_
  refine l_slB (b:=b14) (T:=215) (lo:=fr) (c:=64 - fr) hsplit (by simp [ho];omega) (by omega) ?_
  repeat' (first|refine ZE ?_|refine ZD ?_|refine ZL ?_|refine ZF ?_|refine ZS ?_|refine ZO ?_|refine ZV ?_|refine ZR (fun b=>?_)|refine ZX (fun b=>?_)|refine ZH ?_|refine ZB ?_|refine ZW ?_|refine ZC (m2 _) (fun _ _=>?_)|refine l_call0 (m2 _) (fun _ _=>?_)|refine l_sla (m:=64) fr to (by omega) (by omega) ?_|(refine ZJ (fun hc=>?_) (fun hc=>?_)<;>(try simp at hc)<;>(try omega))|(refine ZG (fun hc=>?_) (fun hc=>?_)<;>(try simp at hc)<;>(try omega)))
  refine Zs (r:=JR bv b12 ps es cs bi (igetR es rs cs bi) (pre++[⟨bl,fr,to⟩])) (Lx:=[Vw bv ps (vread es rs' cs (bnm bi (bl:Int))) cs,Bdr b12 (B++seg)]) (fun h hh=>by
   show Sep [Vw bv ps (rdR es cs bi (igetR es rs cs bi) (pre++[⟨bl,fr,to⟩])) cs,Bdr b12 (rdB es cs bi (pre++[⟨bl,fr,to⟩]))] h
   rw [hE1,hE2];exact hh) ?_
  exact k_rn
 ·intro D
  refine Z6 (X:=Unit) (Lx:=fun _=>[Vw bv ps (rdR es cs bi (igetR es rs cs bi) (pts f0 (f0+cnt))) cs,Bdr b12 (rdB es cs bi (pts f0 (f0+cnt)))]) (p:=fun _=>True) (r:=JR bv b12 ps es cs bi (igetR es rs cs bi) (pts f0 (f0+cnt))) .here (fun h hh=>⟨(),trivial,hh⟩) (fun _ _=>?_)
  have hbl:=rdB_len (es:=es) (cs:=cs) (bi:=bi) (pts f0 (f0+cnt)) (fun p hp=>(Xy (f0+cnt - f0) f0 (f0+cnt) (Nat.le_refl _) p hp).2.2.1)
  have h2:=Wp (f0+cnt - f0) f0 (f0+cnt) (Nat.le_refl _)
  have m3:=bdString_ok b12 (rdB es cs bi (pts f0 (f0+cnt))) (by omega)
  repeat' (first|refine ZE ?_|refine ZD ?_|refine ZL ?_|refine ZF ?_|refine ZS ?_|refine ZO ?_|refine ZV ?_|refine ZR (fun b=>?_)|refine ZX (fun b=>?_)|refine ZH ?_|refine ZB ?_|refine ZW ?_|refine ZC (m3) (fun _ _=>?_)|refine l_call0 (m3) (fun _ _=>?_)|(refine ZJ (fun hc=>?_) (fun hc=>?_)<;>(try simp at hc)<;>(try omega))|(refine ZG (fun hc=>?_) (fun hc=>?_)<;>(try simp at hc)<;>(try omega)))
  exact Vd () rfl trivial
 ·intro D pre hpre
  exact w_open (X:=Empty) (Lx:=fun _=>[]) (p:=fun _=>False) .here (fun h hh=>hh.elim) (fun q hq=>hq.elim)
section
variable {y1 y2:Operand}
theorem run_slT {T m lo:Nat} {z1:Int} {w:World} {rs tr:TRow} (hlo:lo<m) (hts:lookT tab t=some rs) (hrs:rs.k = .arr m T) (hT:lookT tab T=some tr) (hsz:tr.size=1) (hz1:z1=(lo:Int)) :
  (Instr.sliceAt t (.pointer (some ⟨b,0,none⟩)) (some (.int .i64 z1)) none none).run prog w = .ok (.slice (some ⟨b,lo,none⟩) (m - lo) (m - lo)) w:=by
 subst hz1
 have hs1:=Zq.sizeOf hT w
 rw [hsz] at hs1
 have c2:(0:Int)≤(lo:Int)∧(lo:Int)≤(m:Int):=⟨by omega,by omega⟩
 simp only [Instr.sliceAt,run_undA hts hrs,Instr.sureAddr,Instr.sliceBounds,Instr.sliceBound,asIntOf,Sem.run_bind,Sem.run_pure,Result.andThen,if_pos c2,hs1,Int.toNat_natCast]
 rw [if_neg (by omega),Y9 (b:=b) (p:=0) rfl]
 simp
theorem l_slT {T m:Nat} {z1:Int} {rs tr:TRow} (lo:Nat) (hlo:lo<m) (nx:Wl n C ops.toArray k Q l ((d,.slice (some ⟨b,lo,none⟩) (m - lo) (m - lo))::E) F R)
  (hw:wantL ops E ⟨some d,.slice t x (some y1) none none,ty0,pos,aft,gd⟩=some true:=by rfl) (hn:Nat.blt d n=true:=by rfl) (hx:ev E x=some (.pointer (some ⟨b,0,none⟩)):=by rfl) (hy1:ev E y1=some (.int .i64 z1):=by rfl)
  (hts:lookT tab t=some rs:=by rfl) (hrs:rs.k = .arr m T:=by rfl) (hT:lookT tab T=some tr:=by rfl) (hsz:tr.size=1:=by rfl) (hz1:z1=(lo:Int):=by rfl):Wl n C ops.toArray k Q (⟨some d,.slice t x (some y1) none none,ty0,pos,aft,gd⟩::l) E F R:=
 l_q (fun a w ha=>by
  simp only [execOp,Option.map_some,Option.map_none,ha.ev (x:=x) (by rw [ZQ];exact hx),ha.ev (x:=y1) (by rw [ZQ];exact hy1),Sem.run_bind,run_slT (w:=w) (b:=b) hlo hts hrs hT hsz hz1,Result.andThen,Sem.run_pure]) nx (by intro c h;cases h) hw hn
def clrB (Lb:List UInt8) (lo:Nat):List UInt8:=Lb.take lo++List.replicate (Lb.length - lo) 0
theorem clrB_len {Lb:List UInt8} {lo:Nat} (h:lo≤Lb.length):(clrB Lb lo).length=Lb.length:=by simp [clrB];omega
theorem run_clr {T T0 b lo c m:Nat} {Lb:List UInt8} {ts:TypeId} {rs tr:TRow} {w:World} (hts:lookT tab ts=some rs) (hrs:rs.k = .slice T0) (hT:lookT tab T0=some tr) (hzv:zval tr=some (.int .u8 0))
  (hb:w.heap[b]? = some (.cells (byt Lb).toArray T (0,0))) (hm:m=Lb.length - lo) (hlt:lo<Lb.length) :
  ∃w',(Builtin.clear_ #[ts] ty0 #[.slice (some ⟨b,lo,none⟩) m c]).run prog w = .ok (.tuple #[]) w'∧w'.heap[b]? = some (.cells (byt (clrB Lb lo)).toArray T (0,0))∧Same w w'∧∀e,e≠b→w'.heap[e]? = w.heap[e]?:=by
 have hz:=zval_ok hT hzv w
 obtain ⟨k,rfl⟩:∃k,m=k+1:=⟨m - 1,by omega⟩
 have hcells:(Builtin.zeroCells (Value.cells (.int .u8 0)) (k+1)).toList=byt (List.replicate (k+1) 0):=by
  simp only [Builtin.zeroCells,byt,Value.cells,Array.toList_map,Array.toList_range,List.map_replicate]
  refine List.ext_getElem (by simp) fun j h1 h2=>?_
  simp [Nat.mod_one]
 obtain ⟨w',g1,g2,g3,g4⟩:=Yf (P:=prog) (b:=b) (ty:=T) lo (byt (List.replicate (k+1) 0)) 0 w (byt Lb) hb (.inl rfl) (Vr _) (by simp only [X8,List.length_replicate];omega)
 refine ⟨w',?_,?_,g3,g4⟩
 ·simp only [Builtin.clear_,List.getElem?_toArray,List.getElem?_cons_zero,Sem.run_bind,Xx hts hrs,Result.andThen,Sem.run_pure,hz]
  rw [hcells,g1]
 ·rw [g2]
  congr 3
  have e1:(byt (List.replicate (k+1) (0:UInt8))).length=k+1:=by simp only [X8,List.length_replicate]
  rw [Nat.add_zero,e1,clrB,XB,←hm]
  have e2:(byt Lb).drop (lo+(k+1))=[]:=by rw [List.drop_eq_nil_iff];simp only [X8];omega
  rw [e2,List.append_nil]
  simp [byt,List.map_take]
theorem l_clr {T T0 lo c m:Nat} {Lb:List UInt8} {ts:TypeId} {rs tr:TRow} (nx:Wl n C ops.toArray k Q l E F (By T b (clrB Lb lo)::R0)) (hm:m=Lb.length - lo) (hlt:lo<Lb.length)
  (hw:wantL ops E ⟨none,.call ⟨.builtin .clear,#[x],#[ts]⟩,ty0,pos,aft,gd⟩=some true:=by rfl) (hx:ev E x=some (.slice (some ⟨b,lo,none⟩) m c):=by rfl)
  (hts:lookT tab ts=some rs:=by rfl) (hrs:rs.k = .slice T0:=by rfl) (hT:lookT tab T0=some tr:=by rfl) (hzv:zval tr=some (.int .u8 0):=by rfl) (hs:Sel (By T b Lb) R R0:=by (repeat (first|exact Sel.here|apply Sel.there));first|done|fail) :
  Wl n C ops.toArray k Q (⟨none,.call ⟨.builtin .clear,#[x],#[ts]⟩,ty0,pos,aft,gd⟩::l) E F R:=
 YB (fun t ht=>by cases ht) (fun c hc=>by cases hc) hw fun a w ha hsat=>by
  obtain ⟨w',g1,g2,g3,g4⟩:=run_clr (ty0:=ty0) (c:=c) hts hrs hT hzv (hsat.pt hs) hm hlt
  have hse:Sat C.G C.w0 C.hp0 F (By T b (clrB Lb lo)::R0) w':=(show Sat C.G C.w0 C.hp0 F (Pt b (.cells (byt Lb).toArray T (0,0))::R0) w from hsat.sel hs).write g3 g2 fun e he _=>g4 e he
  unfold OpRes
  have e1:=ha.ev (x:=x) (by rw [ZQ];exact hx)
  simp only [execOp,resolve,Sem.run_bind,Sem.run_pure,Result.andThen,invoke,builtin,List.map_toArray,List.map_cons,List.map_nil,e1,g1]
  exact fun a' ha'=>nx a' w' ha' hse
end
theorem vwDelete_ok (b:Nat) (ps:Option Addr) (rs:List (Nm×Ch)) (cs:List Ch) (a:Nm) (ha:a.owner.size≤1099511627776) (hat:a.text.size≤1099511627776) (hl:cs.length≤1000000) :
  Enters 168∧Spec prog 168 #[.pointer (some ⟨b,0,none⟩),a.v] [Usg] [Vw b ps rs cs] ⟨Unit,fun _=>.int .i64 (vdel cs a).1,fun _=>True,fun _=>[],fun _=>[Vw b ps rs (vdel cs a).2]⟩:=by
 have n1:=XI a ha hat
 have n2:=vwCall_ok b ps rs cs ⟨a,⟨#[]⟩,true⟩ hl
 by_cases h1:nchk a=0
 ·have e:vdel cs a=(0,cs++[⟨a,⟨#[]⟩,true⟩]):=by unfold vdel;rw [if_neg (by simp [h1])]
  rw [e]
  refine ZM [_,_] func168 ntmps168 fun G w hp=>?_
  repeat' (first|refine ZE ?_|refine ZD ?_|refine ZL ?_|refine ZF ?_|refine ZS ?_|refine ZO ?_|refine ZV ?_|refine ZR (fun b=>?_)|refine ZX (fun b=>?_)|refine ZH ?_|refine ZB ?_|refine ZW ?_|refine ZC (n1) (fun _ _=>?_)|refine l_call0 (n1) (fun _ _=>?_)|refine ZC (n2) (fun _ _=>?_)|refine l_call0 (n2) (fun _ _=>?_)|(refine ZJ (fun hc=>?_) (fun hc=>?_)<;>(try simp at hc)<;>(try omega))|(refine ZG (fun hc=>?_) (fun hc=>?_)<;>(try simp at hc)<;>(try omega)))
  exact ZK () rfl trivial
 ·have e:vdel cs a=(12,cs):=by unfold vdel;rw [if_pos h1]
  rw [e]
  refine ZM [_,_] func168 ntmps168 fun G w hp=>?_
  repeat' (first|refine ZE ?_|refine ZD ?_|refine ZL ?_|refine ZF ?_|refine ZS ?_|refine ZO ?_|refine ZV ?_|refine ZR (fun b=>?_)|refine ZX (fun b=>?_)|refine ZH ?_|refine ZB ?_|refine ZW ?_|refine ZC (n1) (fun _ _=>?_)|refine l_call0 (n1) (fun _ _=>?_)|refine ZC (n2) (fun _ _=>?_)|refine l_call0 (n2) (fun _ _=>?_)|(refine ZJ (fun hc=>?_) (fun hc=>?_)<;>(try simp at hc)<;>(try omega))|(refine ZG (fun hc=>?_) (fun hc=>?_)<;>(try simp at hc)<;>(try omega)))
  exact ZK () rfl trivial
def dls (bi:Bi) (a k:Nat):List Ch:=(List.range' a k).map fun j:Nat=>(⟨bnm bi (j:Int),⟨#[]⟩,true⟩:Ch)
theorem dls_snoc (bi:Bi) (a k:Nat):dls bi a (k+1)=dls bi a k++[⟨bnm bi ((a+k:Nat):Int),⟨#[]⟩,true⟩]:=by
 simp only [dls,List.range'_1_concat,List.map_append,List.map_cons,List.map_nil]
def cutD (cs:List Ch) (bi:Bi) (e sz:Nat):List Ch:=cs++dls bi ((e+63) / 64) ((sz+63) / 64 - (e+63) / 64)
def cutC (es:Al) (cs:List Ch) (bi:Bi) (e sz:Nat):List Ch:=
 if e % 64=0 then cutD cs bi e sz else if (vget es (cutD cs bi e sz) (bnm bi ((e / 64:Nat):Int))).2 then cutD cs bi e sz++[⟨bnm bi ((e / 64:Nat):Int),⟨(clrB (Yg (vget es (cutD cs bi e sz) (bnm bi ((e / 64:Nat):Int))).1) (e % 64)).toArray⟩,false⟩] else cutD cs bi e sz
def cutR (es:Al) (rs:List (Nm×Ch)) (cs:List Ch) (bi:Bi) (e sz:Nat):List (Nm×Ch):=
 if e % 64=0 then rs else vread es rs (cutD cs bi e sz) (bnm bi ((e / 64:Nat):Int))
set_option maxHeartbeats 4000000 in
theorem inoCut_ok (b:Nat) (ps:Option Addr) (es:Al) (rs:List (Nm×Ch)) (cs:List Ch) (bi:Bi) (e sz:Nat) (hes:e<sz) (hsz:sz≤4096) (hb:bchk bi=0) (hw:bi.mkr.size≤1099511627770) (hl:cs.length≤900000) :
  Enters 123∧Spec prog 123 #[.pointer (some ⟨b,0,none⟩),bi.v,.int .i64 (e:Int),.int .i64 (sz:Int)] [St ps es,Usg] [Vw b ps rs cs]
   ⟨Unit,fun _=>.int .i64 0,fun _=>True,fun _=>[],fun _=>[Vw b ps (cutR es rs cs bi e sz) (cutC es cs bi e sz)]⟩:=by
 have w1:IntKind.i64.wrap ((e:Int)+64)=((e+64:Nat):Int):=by rw [wrapi (by omega) (by omega)];omega
 have w2:IntKind.i64.wrap (((e+64:Nat):Int) - 1)=((e+63:Nat):Int):=by rw [wrapi (by omega) (by omega)];omega
 have w3:((e+63:Nat):Int).tdiv 64=(((e+63) / 64:Nat):Int):=by rw [Int.tdiv_eq_ediv_of_nonneg (Int.natCast_nonneg _)];exact (Int.natCast_ediv _ 64).symm
 have w4:IntKind.i64.wrap ((((e+63) / 64:Nat):Int))=(((e+63) / 64:Nat):Int):=wrapi (by omega) (by omega)
 have w5:(e:Int).tmod 64=((e % 64:Nat):Int):=by rw [Int.tmod_eq_emod_of_nonneg (Int.natCast_nonneg _)];exact (Int.natCast_emod _ 64).symm
 have w6:IntKind.i64.wrap (((e % 64:Nat):Int))=((e % 64:Nat):Int):=wrapi (by omega) (by omega)
 have hD:cutD cs bi e sz=cs++dls bi ((e+63) / 64) ((sz+63) / 64 - (e+63) / 64):=rfl
 have hdl:∀k,(dls bi ((e+63) / 64) k).length=k:=fun k=>by simp [dls]
 generalize b=bv at *
 refine ZM [_,_,_,_] func123 ntmps123 fun G w hp=>?_
 repeat' (first|refine ZE ?_|refine ZD ?_|refine ZL ?_|refine ZF ?_|refine ZS ?_|refine ZO ?_|refine ZV ?_|refine ZR (fun b=>?_)|refine ZX (fun b=>?_)|refine ZH ?_|refine ZB ?_|refine ZW ?_|refine ZT ?_|refine ZZ ?_|refine Zf ?_|refine Za ?_|refine Zd ?_|refine Zj (fun b=>?_)|refine Zm (fun b=>?_)|refine Zk ?_|refine ZU ?_|rw [w1]|rw [w2]|rw [w3]|rw [w4]|(refine ZJ (fun hc=>?_) (fun hc=>?_)<;>(try simp at hc)<;>(try omega))|(refine ZP (fun hc=>?_) (fun hc=>?_)<;>(try simp at hc)<;>(try omega))|refine ZA 14 [] [(0,0),(1,0),(2,0),(3,0),(5,0),(6,0),(4,4),(7,4),(8,0)] [] ?_|(refine ZG (fun hc=>?_) (fun hc=>?_)<;>(try simp at hc)<;>(try omega)))
 refine Z8 (X:={i:Nat // i≤(sz+63) / 64 - (e+63) / 64}) (fun i=>[(0,.pointer (some ⟨bv,0,none⟩)),(2,.int .i64 (e:Int)),(3,.int .i64 (sz:Int)),(5,.pointer (some ⟨b,0,none⟩)),(9,.int .i64 (((e+63) / 64:Nat):Int)),(10,.int .i64 (((e+63) / 64+i.1:Nat):Int))]) (fun _=>[St ps es,Usg]) (fun i=>[Vw bv ps rs (cs++dls bi ((e+63) / 64) i.1),Pt b (.cells #[.string bi.mkr,.int .i64 bi.nu] 68)]) (fun i=>(sz+63) / 64 - (e+63) / 64 - i.1) ⟨0,by omega⟩ ⟨rfl,rfl,rfl,rfl,rfl,rfl,trivial⟩ ?_ (hr:=by simp only [dls,List.range'_zero,List.map_nil,List.append_nil];exact Sels.cons (.there .here) (.cons .here .nil))
 rintro ⟨i,hi⟩
 dsimp only at hi ⊢
 have hlen:=hdl i
 have v1:IntKind.i64.wrap ((((e+63) / 64+i:Nat):Int) * 64)=((((e+63) / 64+i) * 64:Nat):Int):=by rw [wrapi (by omega) (by omega)];omega
 by_cases hlt:i<(sz+63) / 64 - (e+63) / 64
 ·have n1:=YM bi (((e+63) / 64+i:Nat):Int)
  have n2:=vwDelete_ok bv ps rs (cs++dls bi ((e+63) / 64) i) (bnm bi (((e+63) / 64+i:Nat):Int)) (by show bi.mkr.size≤_;omega) (Nat.zero_le _) (by rw [List.length_append,hlen];omega)
  have e9:vdel (cs++dls bi ((e+63) / 64) i) (bnm bi (((e+63) / 64+i:Nat):Int))=(0,cs++dls bi ((e+63) / 64) (i+1)):=by
   unfold vdel
   rw [if_neg (by rw [YJ hb (i:=(((e+63) / 64+i:Nat):Int)) (by omega)];simp),dls_snoc,List.append_assoc]
  rw [e9] at n2
  have v2:IntKind.i64.wrap ((((e+63) / 64+i:Nat):Int)+1)=(((e+63) / 64+(i+1):Nat):Int):=by rw [wrapi (by omega) (by omega)];omega
  repeat' (first|refine ZE ?_|refine ZD ?_|refine ZL ?_|refine ZF ?_|refine ZS ?_|refine ZO ?_|refine ZV ?_|refine ZR (fun b=>?_)|refine ZX (fun b=>?_)|refine ZH ?_|refine ZB ?_|refine ZT ?_|refine ZZ ?_|refine Zf ?_|refine Za ?_|refine Zd ?_|refine Zj (fun b=>?_)|refine Zm (fun b=>?_)|refine Zk ?_|refine ZU ?_|refine ZC (n1) (fun _ _=>?_)|refine l_call0 (n1) (fun _ _=>?_)|refine ZN (n1) (fun _ _=>?_)|refine ZC (n2) (fun _ _=>?_)|refine l_call0 (n2) (fun _ _=>?_)|refine ZN (n2) (fun _ _=>?_)|rw [v1]|(refine ZJ (fun hc=>?_) (fun hc=>?_)<;>(try simp at hc)<;>(try omega))|(refine ZP (fun hc=>?_) (fun hc=>?_)<;>(try simp at hc)<;>(try omega))|refine ZA 14 [] [(0,0),(1,0),(2,0),(3,0),(5,0),(6,0),(4,4),(7,4),(8,0)] [] ?_|(refine ZG (fun hc=>?_) (fun hc=>?_)<;>(try simp at hc)<;>(try omega)))
  rw [v2]
  exact Zb ⟨i+1,by omega⟩ (by show (sz+63) / 64 - (e+63) / 64 - (i+1)<(sz+63) / 64 - (e+63) / 64 - i;omega) ⟨rfl,rfl,rfl,rfl,rfl,rfl,trivial⟩
 ·obtain rfl:i=(sz+63) / 64 - (e+63) / 64:=by omega
  rw [←hD]
  have hDl:(cutD cs bi e sz).length≤910000:=by rw [hD,List.length_append,hlen];omega
  unfold cutC cutR
  generalize cutD cs bi e sz=cs1 at *
  by_cases h64:e % 64=0
  ·rw [if_pos h64,if_pos h64]
   repeat' (first|refine ZE ?_|refine ZD ?_|refine ZL ?_|refine ZF ?_|refine ZS ?_|refine ZO ?_|refine ZV ?_|refine ZR (fun b=>?_)|refine ZX (fun b=>?_)|refine ZH ?_|refine ZB ?_|refine ZW ?_|refine ZT ?_|refine ZZ ?_|refine Zf ?_|refine Za ?_|refine Zd ?_|refine Zj (fun b=>?_)|refine Zm (fun b=>?_)|refine Zk ?_|refine ZU ?_|rw [v1]|rw [w5]|rw [w6]|(refine ZJ (fun hc=>?_) (fun hc=>?_)<;>(try simp at hc)<;>(try omega))|(refine ZP (fun hc=>?_) (fun hc=>?_)<;>(try simp at hc)<;>(try omega))|refine ZA 14 [] [(0,0),(1,0),(2,0),(3,0),(5,0),(6,0),(4,4),(7,4),(8,0)] [] ?_|(refine ZG (fun hc=>?_) (fun hc=>?_)<;>(try simp at hc)<;>(try omega)))
   exact ZK () rfl trivial
  ·rw [if_neg h64,if_neg h64]
   have v3:IntKind.i64.wrap ((((e+63) / 64:Nat):Int) - 1)=((e / 64:Nat):Int):=by rw [wrapi (by omega) (by omega)];omega
   have m1:=block_ok bv ps es rs cs1 bi ((e / 64:Nat):Int) hw
   have ho:=Ya (vget es cs1 (bnm bi ((e / 64:Nat):Int))).1
   have hnm:=YJ hb (i:=((e / 64:Nat):Int)) (by omega)
   cases hp:(vget es cs1 (bnm bi ((e / 64:Nat):Int))).2 with
   | false=>
    rw [hp] at m1
    rw [if_neg (by simp)]
    generalize Yg (vget es cs1 (bnm bi ((e / 64:Nat):Int))).1=P at *
    repeat' (first|refine ZE ?_|refine ZD ?_|refine ZL ?_|refine ZF ?_|refine ZS ?_|refine ZO ?_|refine ZV ?_|refine ZR (fun b=>?_)|refine ZX (fun b=>?_)|refine ZH ?_|refine ZB ?_|refine ZW ?_|refine ZT ?_|refine ZZ ?_|refine Zf ?_|refine Za ?_|refine Zd ?_|refine Zj (fun b=>?_)|refine Zm (fun b=>?_)|refine Zk ?_|refine ZU ?_|refine ZC (m1) (fun _ _=>?_)|refine l_call0 (m1) (fun _ _=>?_)|refine ZN (m1) (fun _ _=>?_)|rw [v1]|rw [w5]|rw [w6]|rw [v3]|(refine ZJ (fun hc=>?_) (fun hc=>?_)<;>(try simp at hc)<;>(try omega))|(refine ZP (fun hc=>?_) (fun hc=>?_)<;>(try simp at hc)<;>(try omega))|refine ZA 14 [] [(0,0),(1,0),(2,0),(3,0),(5,0),(6,0),(4,4),(7,4),(8,0)] [] ?_|(refine ZG (fun hc=>?_) (fun hc=>?_)<;>(try simp at hc)<;>(try omega)))
    generalize b=b12 at *
    refine l_by (T:=215) (b:=b12) (Lb:=List.replicate 64 0) rfl ?_
    refine l_stB (L0:=List.replicate 64 0) (Lb:=P) ?_ ho.symm (by simp [ho])
    repeat' (first|refine ZE ?_|refine ZD ?_|refine ZL ?_|refine ZF ?_|refine ZS ?_|refine ZO ?_|refine ZV ?_|refine ZR (fun b=>?_)|refine ZX (fun b=>?_)|refine ZH ?_|refine ZB ?_|refine ZW ?_|refine ZT ?_|refine ZZ ?_|refine Zf ?_|refine Za ?_|refine Zd ?_|refine Zj (fun b=>?_)|refine Zm (fun b=>?_)|refine Zk ?_|refine ZU ?_|(refine ZJ (fun hc=>?_) (fun hc=>?_)<;>(try simp at hc)<;>(try omega))|(refine ZP (fun hc=>?_) (fun hc=>?_)<;>(try simp at hc)<;>(try omega))|refine ZA 14 [] [(0,0),(1,0),(2,0),(3,0),(5,0),(6,0),(4,4),(7,4),(8,0)] [] ?_|(refine ZG (fun hc=>?_) (fun hc=>?_)<;>(try simp at hc)<;>(try omega)))
    exact ZK () rfl trivial
   | true=>
    rw [hp] at m1
    rw [if_pos rfl]
    generalize Yg (vget es cs1 (bnm bi ((e / 64:Nat):Int))).1=P at *
    have hcl:=clrB_len (Lb:=P) (lo:=e % 64) (by omega)
    have n1:=YM bi ((e / 64:Nat):Int)
    have n2:=Wu bv ps (vread es rs cs1 (bnm bi ((e / 64:Nat):Int))) cs1 (bnm bi ((e / 64:Nat):Int)) ⟨(clrB P (e % 64)).toArray⟩ (by show bi.mkr.size≤_;omega) (Nat.zero_le _) (by omega)
    have e9:vset cs1 (bnm bi ((e / 64:Nat):Int)) ⟨(clrB P (e % 64)).toArray⟩=(0,cs1++[⟨bnm bi ((e / 64:Nat):Int),⟨(clrB P (e % 64)).toArray⟩,false⟩]):=by
     unfold vset
     rw [if_neg (by rw [hnm];simp),if_neg (by show ¬65536<(List.toArray _).size;rw [List.size_toArray,hcl];omega)]
    rw [e9] at n2
    repeat' (first|refine ZE ?_|refine ZD ?_|refine ZL ?_|refine ZF ?_|refine ZS ?_|refine ZO ?_|refine ZV ?_|refine ZR (fun b=>?_)|refine ZX (fun b=>?_)|refine ZH ?_|refine ZB ?_|refine ZW ?_|refine ZT ?_|refine ZZ ?_|refine Zf ?_|refine Za ?_|refine Zd ?_|refine Zj (fun b=>?_)|refine Zm (fun b=>?_)|refine Zk ?_|refine ZU ?_|refine ZC (m1) (fun _ _=>?_)|refine l_call0 (m1) (fun _ _=>?_)|refine ZN (m1) (fun _ _=>?_)|rw [v1]|rw [w5]|rw [w6]|rw [v3]|(refine ZJ (fun hc=>?_) (fun hc=>?_)<;>(try simp at hc)<;>(try omega))|(refine ZP (fun hc=>?_) (fun hc=>?_)<;>(try simp at hc)<;>(try omega))|refine ZA 14 [] [(0,0),(1,0),(2,0),(3,0),(5,0),(6,0),(4,4),(7,4),(8,0)] [] ?_|(refine ZG (fun hc=>?_) (fun hc=>?_)<;>(try simp at hc)<;>(try omega)))
    generalize b=b12 at *
    refine l_by (T:=215) (b:=b12) (Lb:=List.replicate 64 0) rfl ?_
    refine l_stB (L0:=List.replicate 64 0) (Lb:=P) ?_ ho.symm (by simp [ho])
    repeat' (first|refine ZE ?_|refine ZD ?_|refine ZL ?_|refine ZF ?_|refine ZS ?_|refine ZO ?_|refine ZV ?_|refine ZR (fun b=>?_)|refine ZX (fun b=>?_)|refine ZH ?_|refine ZB ?_|refine ZW ?_|refine ZT ?_|refine ZZ ?_|refine Zf ?_|refine Za ?_|refine Zd ?_|refine Zj (fun b=>?_)|refine Zm (fun b=>?_)|refine Zk ?_|refine ZU ?_|refine ZC (n1) (fun _ _=>?_)|refine l_call0 (n1) (fun _ _=>?_)|refine ZN (n1) (fun _ _=>?_)|refine ZC (n2) (fun _ _=>?_)|refine l_call0 (n2) (fun _ _=>?_)|refine ZN (n2) (fun _ _=>?_)|rw [w5]|rw [w6]|rw [v3]|refine l_slT (m:=64) (e % 64) (by omega) ?_|refine l_clr (Lb:=P) (lo:=e % 64) ?_ (by rw [ho]) (by omega)|refine r_sla0 ?_|refine r_b2sB (Lb:=clrB P (e % 64)) ?_ (by rw [hcl,ho])|(refine ZJ (fun hc=>?_) (fun hc=>?_)<;>(try simp at hc)<;>(try omega))|(refine ZP (fun hc=>?_) (fun hc=>?_)<;>(try simp at hc)<;>(try omega))|refine ZA 14 [Vw _ _ _ _] [(0,0),(1,0),(2,0),(3,0),(5,0),(6,0),(4,4),(7,4),(8,0)] [] ?_|(refine ZG (fun hc=>?_) (fun hc=>?_)<;>(try simp at hc)<;>(try omega)))
    exact ZK () rfl trivial
def rszC (es:Al) (cs:List Ch) (bi:Bi) (n sz:Nat):List Ch:=if n=sz then cs else (if n<sz then cutC es cs bi n sz else cs)++[⟨nnm bi,iencS {(ifile es cs bi).1 with sz:=(n:Int)},false⟩]
def rszR (es:Al) (rs:List (Nm×Ch)) (cs:List Ch) (bi:Bi) (n sz:Nat):List (Nm×Ch):=if n<sz then cutR es (igetR es rs cs bi) cs bi n sz else igetR es rs cs bi
theorem cutC_len (es:Al) (cs:List Ch) (bi:Bi) (e sz:Nat) (h:sz≤4096):(cutC es cs bi e sz).length≤cs.length+65:=by
 have hd:(cutD cs bi e sz).length≤cs.length+64:=by
  simp only [cutD,List.length_append,dls,List.length_map,List.length_range'];omega
 unfold cutC
 split
 ·omega
 ·split
  ·simp only [List.length_append,List.length_singleton];omega
  ·omega
set_option maxHeartbeats 4000000 in
theorem resize_ok (b:Nat) (ps:Option Addr) (es:Al) (rs:List (Nm×Ch)) (cs:List Ch) (bi:Bi) (n sz:Nat) (hw:bi.mkr.size≤1099511627770) (hv:(vget es cs (nnm bi)).1.size≤1099511627776) (hl:cs.length≤800000)
  (h0:(ifile es cs bi).2=0) (hz:(ifile es cs bi).1.sz=(sz:Int)) (hsz:sz≤4096) (hn:n≤4096) :
  Enters 59∧Spec prog 59 #[.pointer (some ⟨b,0,none⟩),bi.v,.int .i64 (n:Int)] [St ps es,Usg] [Vw b ps rs cs]
   ⟨Unit,fun _=>.int .i64 0,fun _=>True,fun _=>[],fun _=>[Vw b ps (rszR es rs cs bi n sz) (rszC es cs bi n sz)]⟩:=by
 have n1:=XN b ps es rs cs bi hw hv
 obtain ⟨g1,g2,g3,g4⟩:=W5 h0
 have n2:=Z9 (n:Int) 4096
 rw [show (decide ((0:Int)≤(n:Int)) && decide ((n:Int)≤4096))=true by simp;omega] at n2
 unfold rszR rszC
 rw [h0] at n1
 generalize (ifile es cs bi).1=nd at *
 have hck:=XR g2 g3 g4 (z:=(n:Int)) (by omega)
 have hes:=Zw {nd with sz:=(n:Int)}
 have hnn:=Zx g1
 have n5:=fun rs' cs' (h:cs'.length≤1000000)=>VS b ps rs' cs' bi nd (n:Int) hck (by omega) h
 have e9:∀cs',vset cs' (nnm bi) (iencS {nd with sz:=(n:Int)})=(0,cs'++[⟨nnm bi,iencS {nd with sz:=(n:Int)},false⟩]):=fun cs'=>by
  unfold vset
  rw [if_neg (by rw [hnn];simp),if_neg (by omega)]
 simp only [e9] at n5
 have n3:=fun h=>inoCut_ok b ps es (igetR es rs cs bi) cs bi n sz h hsz g1 hw (by omega)
 have hcl:=cutC_len es cs bi n sz hsz
 generalize cutC es cs bi n sz=cs2 at *
 generalize cutR es (igetR es rs cs bi) cs bi n sz=rs2 at *
 generalize igetR es rs cs bi=rs1 at *
 generalize iencS {nd with sz:=(n:Int)}=S at *
 have n6:=n5 rs2 cs2 (by omega)
 have n7:=n5 rs1 cs (by omega)
 obtain ⟨a1,a2,a3,a4,a5,a6,a7⟩:=nd
 dsimp only at hz
 subst hz
 simp only [Ino.v] at n1 n6 n7
 rcases Nat.lt_trichotomy n sz with h|h|h
 ·have n4:=n3 h
  rw [if_pos h,if_neg (by omega),if_pos h]
  refine ZM [_,_,_] func59 ntmps59 fun G w hp=>?_
  repeat' (first|refine ZE ?_|refine ZD ?_|refine ZL ?_|refine ZF ?_|refine ZS ?_|refine ZO ?_|refine ZV ?_|refine ZR (fun b=>?_)|refine ZX (fun b=>?_)|refine ZH ?_|refine ZB ?_|refine ZW ?_|refine ZC (n1) (fun _ _=>?_)|refine l_call0 (n1) (fun _ _=>?_)|refine ZC (n2) (fun _ _=>?_)|refine l_call0 (n2) (fun _ _=>?_)|refine ZC (n4) (fun _ _=>?_)|refine l_call0 (n4) (fun _ _=>?_)|refine ZC (n6) (fun _ _=>?_)|refine l_call0 (n6) (fun _ _=>?_)|(refine ZJ (fun hc=>?_) (fun hc=>?_)<;>(try simp at hc)<;>(try omega))|(refine ZG (fun hc=>?_) (fun hc=>?_)<;>(try simp at hc)<;>(try omega)))
  exact ZK () rfl trivial
 ·subst h
  rw [if_neg (by omega),if_pos rfl]
  refine ZM [_,_,_] func59 ntmps59 fun G w hp=>?_
  repeat' (first|refine ZE ?_|refine ZD ?_|refine ZL ?_|refine ZF ?_|refine ZS ?_|refine ZO ?_|refine ZV ?_|refine ZR (fun b=>?_)|refine ZX (fun b=>?_)|refine ZH ?_|refine ZB ?_|refine ZW ?_|refine ZC (n1) (fun _ _=>?_)|refine l_call0 (n1) (fun _ _=>?_)|refine ZC (n2) (fun _ _=>?_)|refine l_call0 (n2) (fun _ _=>?_)|(refine ZJ (fun hc=>?_) (fun hc=>?_)<;>(try simp at hc)<;>(try omega))|(refine ZG (fun hc=>?_) (fun hc=>?_)<;>(try simp at hc)<;>(try omega)))
  exact ZK () rfl trivial
 ·rw [if_neg (by omega),if_neg (by omega),if_neg (by omega)]
  refine ZM [_,_,_] func59 ntmps59 fun G w hp=>?_
  repeat' (first|refine ZE ?_|refine ZD ?_|refine ZL ?_|refine ZF ?_|refine ZS ?_|refine ZO ?_|refine ZV ?_|refine ZR (fun b=>?_)|refine ZX (fun b=>?_)|refine ZH ?_|refine ZB ?_|refine ZW ?_|refine ZC (n1) (fun _ _=>?_)|refine l_call0 (n1) (fun _ _=>?_)|refine ZC (n2) (fun _ _=>?_)|refine l_call0 (n2) (fun _ _=>?_)|refine ZC (n7) (fun _ _=>?_)|refine l_call0 (n7) (fun _ _=>?_)|(refine ZJ (fun hc=>?_) (fun hc=>?_)<;>(try simp at hc)<;>(try omega))|(refine ZG (fun hc=>?_) (fun hc=>?_)<;>(try simp at hc)<;>(try omega)))
  exact ZK () rfl trivial
variable {cs:List Ch}
section
open VQ
section
variable {bi:Bi}
def iN (cs:List Ch) (b:Bi):List Nm:=if bchk b≠0 then [] else rn cs (nnm b)
theorem Wi (rs:List (Nm×Ch)):igetR es rs cs bi=rsq es (iN cs bi) rs:=by
 unfold igetR iN
 split
 ·rfl
 ·exact W8 _ _ _ _
def qGet (b:Bi):VQ (Ino×Int):=if bchk b≠0 then .ret (Ino.z,bchk b) else .get (nnm b) fun r=>.ret (if r.2 then ((idec r.1).getD Ino.z,if (idec r.1).isSome then 0 else 3) else (Ino.z,8))
theorem W4 (b:Bi):(qGet b).run es cs=(iget es cs b,iN cs b,cs):=by
 unfold qGet iget iN
 by_cases h:bchk b≠0
 ·rw [if_pos h,if_pos h,if_pos h];rfl
 ·rw [if_neg h,if_neg h,if_neg h];simp only [run,List.append_nil]
def qFile (b:Bi):VQ (Ino×Int):=(qGet b).bind fun a=>.ret (if a.2≠0 then (Ino.z,a.2) else if a.1.kd=2 then (Ino.z,15) else if a.1.kd=3 then (Ino.z,11) else (a.1,0))
theorem Z7 (b:Bi):(qFile b).run es cs=(ifile es cs b,iN cs b,cs):=by
 unfold qFile
 rw [run_bind,W4]
 simp only [run,List.append_nil]
 rfl
def qRdL (bi:Bi):List Pp→List UInt8→VQ (List UInt8)
 | [],acc=>.ret acc
 | p::l,acc=>.get (bnm bi p.bl) fun r=>qRdL bi l (acc++((Yg r.1).drop p.fr).take (p.to - p.fr))
def rdN (cs:List Ch) (bi:Bi) (l:List Pp):List Nm:=l.flatMap fun p=>rn cs (bnm bi p.bl)
theorem WN:∀(l:List Pp) (acc:List UInt8),(qRdL bi l acc).run es cs=(acc++rdB es cs bi l,rdN cs bi l,cs)
 | [],acc=>by simp [qRdL,run,rdB,rdN]
 | p::l,acc=>by
  rw [qRdL]
  simp only [run,WN l]
  simp [rdB,rdN,rdS]
theorem rdR_q:∀(l:List Pp) (rs:List (Nm×Ch)),rdR es cs bi rs l=rsq es (rdN cs bi l) rs
 | [],rs=>rfl
 | p::l,rs=>by
  show rdR es cs bi (vread es rs cs (bnm bi p.bl)) l=rsq es (rn cs (bnm bi p.bl)++rdN cs bi l) rs
  rw [rdR_q l,VE,W8]
def qRead (bi:Bi) (f c:Int):VQ (ByteArray×Int):=(qFile bi).bind fun a=>if a.2≠0 then .ret (⟨#[]⟩,a.2) else if f<0∨c<0 then .ret (⟨#[]⟩,2) else
 (qRdL bi (pts (min f.toNat a.1.sz.toNat) (min f.toNat a.1.sz.toNat+min c.toNat (a.1.sz.toNat - min f.toNat a.1.sz.toNat))) []).bind fun l=>.ret (⟨l.toArray⟩,0)
def qWrL (bi:Bi) (f:Nat) (s:ByteArray):List Pp→VQ Unit
 | []=>.ret ()
 | p::l=>if p.to - p.fr<64 then .get (bnm bi p.bl) fun r=>.set (bnm bi p.bl) ⟨(cpy (Yg r.1) p.fr (s.extract (p.bl * 64+p.fr - f) s.size) (p.to - p.fr)).toArray⟩ (qWrL bi f s l)
  else .set (bnm bi p.bl) ⟨(cpy (List.replicate 64 0) p.fr (s.extract (p.bl * 64+p.fr - f) s.size) (p.to - p.fr)).toArray⟩ (qWrL bi f s l)
theorem qWrL_run (f:Nat) (s:ByteArray):∀(l:List Pp) (cs:List Ch) (rs:List (Nm×Ch)),wfold es bi f s (rs,cs) l=(rsq es ((qWrL bi f s l).run es cs).2.1 rs,((qWrL bi f s l).run es cs).2.2)
 | [],cs,rs=>rfl
 | p::l,cs,rs=>by
  show wfold es bi f s (wstep es bi f s (rs,cs) p) l=_
  unfold wstep wnew
  dsimp only
  rw [qWrL_run f s l]
  by_cases h:p.to - p.fr<64
  ·rw [qWrL,if_pos h,if_pos h,if_pos h]
   simp only [run]
   rw [VE,W8]
  ·rw [qWrL,if_neg h,if_neg h,if_neg h]
   simp only [run]
def qWrite (bi:Bi) (f:Int) (s:ByteArray):VQ (Int×Int):=(qFile bi).bind fun a=>if a.2≠0 then .ret (0,a.2) else if f<0∨4096<f then .ret (0,2) else if f=4096∧isE s=false then .ret (0,26) else
 (qWrL bi f.toNat s (pts f.toNat (f.toNat+min s.size (4096 - f.toNat)))).bind fun _=>if 0<min s.size (4096 - f.toNat)∧a.1.sz<((f.toNat+min s.size (4096 - f.toNat):Nat):Int) then .set (nnm bi) (iencS {a.1 with sz:=((f.toNat+min s.size (4096 - f.toNat):Nat):Int)}) (.ret (((min s.size (4096 - f.toNat):Nat):Int),0)) else .ret (((min s.size (4096 - f.toNat):Nat):Int),0)
def qDls (bi:Bi):Nat→Nat→VQ Unit
 | _,0=>.ret ()
 | a,k+1=>.del (bnm bi (a:Int)) (qDls bi (a+1) k)
theorem qDls_run:∀(k a:Nat) (cs:List Ch),(qDls bi a k).run es cs=((),[],cs++dls bi a k)
 | 0,a,cs=>by simp [qDls,run,dls]
 | k+1,a,cs=>by
  rw [qDls]
  simp only [run,qDls_run k]
  simp [dls,List.range'_succ]
def qCut (bi:Bi) (e sz:Nat):VQ Unit:=(qDls bi ((e+63) / 64) ((sz+63) / 64 - (e+63) / 64)).bind fun _=>if e % 64=0 then .ret () else .get (bnm bi ((e / 64:Nat):Int)) fun r=>if r.2 then .set (bnm bi ((e / 64:Nat):Int)) ⟨(clrB (Yg r.1) (e % 64)).toArray⟩ (.ret ()) else .ret ()
theorem Vp (e sz:Nat):(qCut bi e sz).run es cs=((),if e % 64=0 then [] else rn (cutD cs bi e sz) (bnm bi ((e / 64:Nat):Int)),cutC es cs bi e sz):=by
 unfold qCut
 rw [run_bind,qDls_run]
 unfold cutC
 show ((VQ.run es _ (cutD cs bi e sz)).1,_,_)=_
 dsimp only
 show ((VQ.run es _ (cutD cs bi e sz)).1,[]++(VQ.run es _ (cutD cs bi e sz)).2.1,(VQ.run es _ (cutD cs bi e sz)).2.2)=_
 by_cases h:e % 64=0
 ·rw [if_pos h,if_pos h,if_pos h];rfl
 ·rw [if_neg h,if_neg h,if_neg h]
  simp only [run,List.nil_append]
  cases hv:(vget es (cutD cs bi e sz) (bnm bi ((e / 64:Nat):Int))).2 with
  | true=>simp [run]
  | false=>simp [run]
theorem cutR_q (rs:List (Nm×Ch)) (e sz:Nat):cutR es rs cs bi e sz=rsq es (if e % 64=0 then [] else rn (cutD cs bi e sz) (bnm bi ((e / 64:Nat):Int))) rs:=by
 unfold cutR
 split
 ·rfl
 ·exact W8 _ _ _ _
def qResize (bi:Bi) (n:Int):VQ Int:=(qFile bi).bind fun a=>if a.2≠0 then .ret a.2 else if n<0∨4096<n then .ret 2 else if n=a.1.sz then .ret 0 else
 (if n<a.1.sz then qCut bi n.toNat a.1.sz.toNat else .ret ()).bind fun _=>.set (nnm bi) (iencS {a.1 with sz:=n}) (.ret 0)
def qSet (bi:Bi) (nd:Ino):VQ Int:=if ichk nd≠0 then .ret (ichk nd) else (qGet bi).bind fun a=>if a.2≠0 then .ret a.2 else if a.1.kd≠nd.kd then .ret 11 else .set (nnm bi) (iencS {nd with sz:=a.1.sz}) (.ret 0)
def qMade (who:ByteArray):VQ (Ct×Int):=if lvalid who.data.toList then .get (cnm who) fun r=>.ret (if r.2 then ((cdec r.1).getD Ct.z,if (cdec r.1).isSome then 0 else 3) else (Ct.z,0)) else .ret (Ct.z,12)
def mN (cs:List Ch) (who:ByteArray):List Nm:=if lvalid who.data.toList then rn cs (cnm who) else []
theorem qMade_run (who:ByteArray):(qMade who).run es cs=(madeE es cs who,mN cs who,cs):=by
 unfold qMade madeE mN
 by_cases h:lvalid who.data.toList=true
 ·rw [if_pos h,if_pos h,if_pos h];simp only [run,List.append_nil]
 ·rw [if_neg h,if_neg h,if_neg h];rfl
theorem madeR_q (rs:List (Nm×Ch)) (who:ByteArray):madeR es rs cs who=rsq es (mN cs who) rs:=by
 unfold madeR mN
 split
 ·exact W8 _ _ _ _
 ·rfl
def qMake (who:ByteArray) (nd:Ino):VQ (Bi×Int):=if ichk nd≠0 then .ret (Bi.z,ichk nd) else if nd.sz≠0 then .ret (Bi.z,2) else (qMade who).bind fun m=>if m.2≠0 then .ret (Bi.z,m.2) else if m.1.b=1048576 then .ret (Bi.z,9) else
 .set (cnm who) (cvs {m.1 with b:=m.1.b+1}) (.set (nnm ⟨who,m.1.b⟩) (iencS nd) (.ret (⟨who,m.1.b⟩,0)))
theorem VO (who:ByteArray) (nd:Ino):(qMake who nd).run es cs=(mkE es cs who nd,if ichk nd=0∧nd.sz=0 then mN cs who else [],mkC es cs who nd):=by
 unfold qMake
 by_cases h1:ichk nd=0
 ·by_cases h2:nd.sz=0
  ·have e1:mkE es cs who nd=nbE es cs who:=by rw [mkE,if_neg (by simp [h1]),if_neg (by simp [h2])]
   rw [mkC,e1,if_neg (show ¬ichk nd≠0 by simp [h1]),if_neg (show ¬nd.sz≠0 by simp [h2]),if_pos ⟨h1,h2⟩,run_bind,qMade_run]
   dsimp only
   by_cases h3:(madeE es cs who).2≠0
   ·have e2:nbE es cs who=(Bi.z,(madeE es cs who).2):=by rw [nbE,if_pos h3]
    rw [e2,if_neg h3]
    simp only [if_pos h3,run,List.append_nil]
   ·by_cases h4:(madeE es cs who).1.b=1048576
    ·have e2:nbE es cs who=(Bi.z,9):=by rw [nbE,if_neg h3,if_pos h4]
     rw [e2,if_neg h3,if_pos h4,if_neg (show ¬(Bi.z,(9:Int)).2=0 by simp)]
     simp only [run,List.append_nil]
    ·have e2:nbE es cs who=(⟨who,(madeE es cs who).1.b⟩,0):=by rw [nbE,if_neg h3,if_neg h4]
     rw [nbC,e2]
     simp only [if_neg h3,if_neg h4,run,List.append_nil,if_true]
  ·have e1:mkE es cs who nd=(Bi.z,2):=by rw [mkE,if_neg (by simp [h1]),if_pos h2]
   rw [mkC,e1,if_neg (show ¬ichk nd≠0 by simp [h1]),if_pos (show nd.sz≠0 from h2),if_neg (fun h=>h2 h.2),if_neg (by decide)]
   rfl
 ·have e1:mkE es cs who nd=(Bi.z,ichk nd):=by rw [mkE,if_pos h1]
  rw [mkC,e1,if_pos (show ichk nd≠0 from h1),if_neg (fun h=>h1 h.1),if_neg h1]
  rfl
theorem mkR_q (rs:List (Nm×Ch)) (who:ByteArray) (nd:Ino):mkR es rs cs who nd=rsq es (if ichk nd=0∧nd.sz=0 then mN cs who else []) rs:=by
 unfold mkR
 split
 ·exact madeR_q _ _
 ·rfl
end
end
section
open VQ
theorem ichk_no {a:Ino} (ha:ichk a=0) (h:a.kd≠1):a.sz=0:=by
 have h1:=Yi ha
 unfold ifit at h1
 unfold ichk at ha
 rw [if_neg (by omega),if_neg (by unfold ifit;omega)] at ha
 split at ha
 ·cases ha
 ·rename_i h3
  by_cases hz:a.sz=0
  ·exact hz
  ·exact absurd (.inl ⟨h,hz⟩) h3
theorem ichk_set {a n:Ino} (ha:ichk a=0) (hn:ichk n=0) (hk:a.kd=n.kd):ichk {n with sz:=a.sz}=0:=by
 have h1:=Yi ha
 unfold ifit at h1
 by_cases h:n.kd=1
 ·exact XR hn (by omega) (by omega) (by omega)
 ·have e1:=ichk_no ha (by omega)
  have e2:=ichk_no hn h
  have e:({n with sz:=a.sz}:Ino)=n:=by
   obtain ⟨n1,n2,n3,n4,n5,n6,n7⟩:=n
   dsimp only at e2
   rw [e1,e2]
  rw [e];exact hn
section
variable (b:Nat) (ps:Option Addr) (es:Al) (rs:List (Nm×Ch)) (cs:List Ch) (bi:Bi)
set_option maxHeartbeats 2000000 in
theorem Ub (f c:Int) (hw:bi.mkr.size≤1000) (hS:∀n,(vget es cs n).1.size≤65536) :
  Enters 57∧Spec prog 57 #[.pointer (some ⟨b,0,none⟩),bi.v,.int .i64 f,.int .i64 c] [St ps es,Usg] [Vw b ps rs cs]
   ⟨Unit,fun _=>.tuple #[.string ((qRead bi f c).run es cs).1.1,.int .i64 ((qRead bi f c).run es cs).1.2],fun _=>True,fun _=>[],fun _=>[Vw b ps (rsq es ((qRead bi f c).run es cs).2.1 rs) ((qRead bi f c).run es cs).2.2]⟩:=by
 have hv:=hS (nnm bi)
 have n1:=XN b ps es rs cs bi (by omega) (by omega)
 rw [Wi] at n1
 unfold qRead
 rw [run_bind,Z7]
 dsimp only
 by_cases h0:(ifile es cs bi).2≠0
 ·simp only [if_pos h0,run,List.append_nil]
  generalize ifile es cs bi=g at *
  obtain ⟨nd,e⟩:=g
  dsimp only at *
  generalize b=bv at *
  refine ZM [_,_,_,_] func57 ntmps57 fun G w hp=>?_
  repeat' (first|refine ZE ?_|refine ZD ?_|refine ZL ?_|refine ZF ?_|refine ZS ?_|refine ZO ?_|refine ZV ?_|refine ZR (fun b=>?_)|refine ZX (fun b=>?_)|refine ZH ?_|refine ZB ?_|refine ZW ?_|refine ZC (n1) (fun _ _=>?_)|refine l_call0 (n1) (fun _ _=>?_)|(refine ZJ (fun hc=>?_) (fun hc=>?_)<;>(try simp at hc)<;>(try omega))|(refine ZG (fun hc=>?_) (fun hc=>?_)<;>(try simp at hc)<;>(try omega)))
  exact ZK () rfl trivial
 ·have h0':(ifile es cs bi).2=0:=by omega
  obtain ⟨g1,g2,g3,g4⟩:=W5 h0'
  obtain ⟨-,g5,-⟩:=Yi g2
  unfold ifit at g5
  simp only [if_neg h0]
  by_cases hn:f<0∨c<0
  ·simp only [if_pos hn,run,List.append_nil]
   rw [h0'] at n1
   generalize ifile es cs bi=g at *
   obtain ⟨nd,e⟩:=g
   dsimp only at *
   generalize b=bv at *
   refine ZM [_,_,_,_] func57 ntmps57 fun G w hp=>?_
   repeat' (first|refine ZE ?_|refine ZD ?_|refine ZL ?_|refine ZF ?_|refine ZS ?_|refine ZO ?_|refine ZV ?_|refine ZR (fun b=>?_)|refine ZX (fun b=>?_)|refine ZH ?_|refine ZB ?_|refine ZW ?_|refine ZC (n1) (fun _ _=>?_)|refine l_call0 (n1) (fun _ _=>?_)|(refine ZJ (fun hc=>?_) (fun hc=>?_)<;>(try simp at hc)<;>(try omega))|(refine ZG (fun hc=>?_) (fun hc=>?_)<;>(try simp at hc)<;>(try omega)))
   all_goals exact ZK () rfl trivial
  ·simp only [if_neg hn,run_bind,WN,run,List.append_nil,List.nil_append]
   obtain ⟨f',rfl⟩:∃k:Nat,f=(k:Int):=⟨f.toNat,by omega⟩
   obtain ⟨c',rfl⟩:∃k:Nat,c=(k:Int):=⟨c.toNat,by omega⟩
   obtain ⟨sz,hsz⟩:∃k:Nat,(ifile es cs bi).1.sz=(k:Int):=⟨(ifile es cs bi).1.sz.toNat,by omega⟩
   have n2:=inoRead_ok b ps es rs cs bi f' c' sz (by omega) (by omega) h0' hsz (by omega)
   rw [rdR_q,Wi,←VE] at n2
   rw [hsz]
   exact n2
theorem Um (hw:bi.mkr.size≤1000) (hS:∀n,(vget es cs n).1.size≤65536) :
  Enters 18∧Spec prog 18 #[.pointer (some ⟨b,0,none⟩),bi.v] [St ps es,Usg] [Vw b ps rs cs]
   ⟨Unit,fun _=>.tuple #[.string ((qRead bi 0 4096).run es cs).1.1,.int .i64 ((qRead bi 0 4096).run es cs).1.2],fun _=>True,fun _=>[],fun _=>[Vw b ps (rsq es ((qRead bi 0 4096).run es cs).2.1 rs) ((qRead bi 0 4096).run es cs).2.2]⟩:=by
 have n1:=Ub b ps es rs cs bi 0 4096 hw hS
 generalize (qRead bi 0 4096).run es cs=r at *
 refine ZM [_,_] func18 ntmps18 fun G w hp=>?_
 repeat' (first|refine ZE ?_|refine ZD ?_|refine ZL ?_|refine ZF ?_|refine ZS ?_|refine ZO ?_|refine ZV ?_|refine ZR (fun b=>?_)|refine ZX (fun b=>?_)|refine ZH ?_|refine ZB ?_|refine ZW ?_|refine ZC (n1) (fun _ _=>?_)|refine l_call0 (n1) (fun _ _=>?_)|(refine ZJ (fun hc=>?_) (fun hc=>?_)<;>(try simp at hc))|(refine ZG (fun hc=>?_) (fun hc=>?_)<;>(try simp at hc)))
 exact ZK () rfl trivial
set_option maxHeartbeats 2000000 in
theorem writeG_ok (f:Int) (s:ByteArray) (hw:bi.mkr.size≤1000) (hs:s.size≤1000000) (hl:cs.length≤1000) (hS:∀n,(vget es cs n).1.size≤65536) :
  Enters 51∧Spec prog 51 #[.pointer (some ⟨b,0,none⟩),bi.v,.int .i64 f,.string s] [St ps es,Usg] [Vw b ps rs cs]
   ⟨Unit,fun _=>.tuple #[.int .i64 ((qWrite bi f s).run es cs).1.1,.int .i64 ((qWrite bi f s).run es cs).1.2],fun _=>True,fun _=>[],fun _=>[Vw b ps (rsq es ((qWrite bi f s).run es cs).2.1 rs) ((qWrite bi f s).run es cs).2.2]⟩:=by
 have hv:=hS (nnm bi)
 have n1:=XN b ps es rs cs bi (by omega) (by omega)
 rw [Wi] at n1
 unfold qWrite
 rw [run_bind,Z7]
 dsimp only
 by_cases h0:(ifile es cs bi).2≠0
 ·simp only [if_pos h0,run,List.append_nil]
  generalize ifile es cs bi=g at *
  obtain ⟨nd,e⟩:=g
  dsimp only at *
  generalize b=bv at *
  refine ZM [_,_,_,_] func51 ntmps51 fun G w hp=>?_
  repeat' (first|refine ZE ?_|refine ZD ?_|refine ZL ?_|refine ZF ?_|refine ZS ?_|refine ZO ?_|refine ZV ?_|refine ZR (fun b=>?_)|refine ZX (fun b=>?_)|refine ZH ?_|refine ZB ?_|refine ZW ?_|refine ZT ?_|refine ZZ ?_|refine Zf ?_|refine Za ?_|refine Zd ?_|refine Zj (fun b=>?_)|refine Zm (fun b=>?_)|refine Zk ?_|refine ZU ?_|refine ZC (n1) (fun _ _=>?_)|refine l_call0 (n1) (fun _ _=>?_)|refine ZN (n1) (fun _ _=>?_)|(refine ZJ (fun hc=>?_) (fun hc=>?_)<;>(try simp at hc)<;>(try omega))|(refine ZP (fun hc=>?_) (fun hc=>?_)<;>(try simp at hc)<;>(try omega))|refine ZA 14 [] [(0,0),(1,0),(2,0),(3,0),(4,0),(5,0),(6,0),(7,0),(8,0),(9,0),(10,0),(11,0),(12,0),(13,0),(14,0),(15,4)] [] ?_|refine ZA 15 [] [(0,0),(1,0),(2,0),(3,0),(5,0),(6,0),(4,4),(7,4),(8,0)] [] ?_|(refine ZG (fun hc=>?_) (fun hc=>?_)<;>(try simp at hc)<;>(try omega)))
  exact ZK () rfl trivial
 ·have h0':(ifile es cs bi).2=0:=by omega
  simp only [if_neg h0]
  by_cases hn:f<0∨4096<f
  ·simp only [if_pos hn,run,List.append_nil]
   have n2:=Z9 f 4096
   rw [show (decide (0≤f) && decide (f≤4096))=false by simp;omega] at n2
   rw [h0'] at n1
   generalize ifile es cs bi=g at *
   obtain ⟨nd,e⟩:=g
   dsimp only at *
   generalize b=bv at *
   refine ZM [_,_,_,_] func51 ntmps51 fun G w hp=>?_
   repeat' (first|refine ZE ?_|refine ZD ?_|refine ZL ?_|refine ZF ?_|refine ZS ?_|refine ZO ?_|refine ZV ?_|refine ZR (fun b=>?_)|refine ZX (fun b=>?_)|refine ZH ?_|refine ZB ?_|refine ZW ?_|refine ZT ?_|refine ZZ ?_|refine Zf ?_|refine Za ?_|refine Zd ?_|refine Zj (fun b=>?_)|refine Zm (fun b=>?_)|refine Zk ?_|refine ZU ?_|refine ZC (n1) (fun _ _=>?_)|refine l_call0 (n1) (fun _ _=>?_)|refine ZN (n1) (fun _ _=>?_)|refine ZC (n2) (fun _ _=>?_)|refine l_call0 (n2) (fun _ _=>?_)|refine ZN (n2) (fun _ _=>?_)|(refine ZJ (fun hc=>?_) (fun hc=>?_)<;>(try simp at hc)<;>(try omega))|(refine ZP (fun hc=>?_) (fun hc=>?_)<;>(try simp at hc)<;>(try omega))|refine ZA 14 [] [(0,0),(1,0),(2,0),(3,0),(4,0),(5,0),(6,0),(7,0),(8,0),(9,0),(10,0),(11,0),(12,0),(13,0),(14,0),(15,4)] [] ?_|refine ZA 15 [] [(0,0),(1,0),(2,0),(3,0),(5,0),(6,0),(4,4),(7,4),(8,0)] [] ?_|(refine ZG (fun hc=>?_) (fun hc=>?_)<;>(try simp at hc)<;>(try omega)))
   exact ZK () rfl trivial
  ·simp only [if_neg hn]
   by_cases h4:f=4096∧isE s=false
   ·simp only [if_pos h4,run,List.append_nil]
    obtain ⟨rfl,hE⟩:=h4
    have n2:=Z9 4096 4096
    rw [show (decide ((0:Int)≤4096) && decide ((4096:Int)≤4096))=true by simp] at n2
    have hE2:s.toList≠[]:=fun e=>by
     have:isE s=true:=by simp [isE,e]
     rw [hE] at this;cases this
    rw [h0'] at n1
    generalize ifile es cs bi=g at *
    obtain ⟨nd,e⟩:=g
    dsimp only at *
    generalize b=bv at *
    refine ZM [_,_,_,_] func51 ntmps51 fun G w hp=>?_
    repeat' (first|refine ZE ?_|refine ZD ?_|refine ZL ?_|refine ZF ?_|refine ZS ?_|refine ZO ?_|refine ZV ?_|refine ZR (fun b=>?_)|refine ZX (fun b=>?_)|refine ZH ?_|refine ZB ?_|refine ZW ?_|refine ZT ?_|refine ZZ ?_|refine Zf ?_|refine Za ?_|refine Zd ?_|refine Zj (fun b=>?_)|refine Zm (fun b=>?_)|refine Zk ?_|refine ZU ?_|refine ZC (n1) (fun _ _=>?_)|refine l_call0 (n1) (fun _ _=>?_)|refine ZN (n1) (fun _ _=>?_)|refine ZC (n2) (fun _ _=>?_)|refine l_call0 (n2) (fun _ _=>?_)|refine ZN (n2) (fun _ _=>?_)|(refine ZJ (fun hc=>?_) (fun hc=>?_)<;>(try simp at hc)<;>(try omega))|(refine ZP (fun hc=>?_) (fun hc=>?_)<;>(try simp at hc)<;>(try omega))|refine ZA 14 [] [(0,0),(1,0),(2,0),(3,0),(4,0),(5,0),(6,0),(7,0),(8,0),(9,0),(10,0),(11,0),(12,0),(13,0),(14,0),(15,4)] [] ?_|refine ZA 15 [] [(0,0),(1,0),(2,0),(3,0),(5,0),(6,0),(4,4),(7,4),(8,0)] [] ?_|(refine ZG (fun hc=>?_) (fun hc=>?_)<;>(try simp at hc)<;>(try omega)))
    ·exact ZK () rfl trivial
    ·exact absurd (by assumption) hE2
   ·obtain ⟨f',rfl⟩:∃k:Nat,f=(k:Int):=⟨f.toNat,by omega⟩
    simp only [if_neg h4,Int.toNat_natCast]
    have n2:=write_ok b ps es rs cs bi f' s (by omega) (by omega) (by omega) (by omega) h0' (by omega) (fun e=>by
     cases hE:isE s with
     | true=>rfl
     | false=>exact absurd ⟨by omega,hE⟩ h4)
    unfold iwQ iwN at n2
    rw [run_bind]
    rw [qWrL_run] at n2
    rw [Wi,←VE] at n2
    dsimp only at n2
    generalize (qWrL bi f' s (pts f' (f'+min s.size (4096 - f')))).run es cs=q at *
    obtain ⟨u,N,cs2⟩:=q
    dsimp only at n2 ⊢
    by_cases hg:0<min s.size (4096 - f')∧(ifile es cs bi).1.sz<((f'+min s.size (4096 - f'):Nat):Int)
    ·simp only [if_pos hg,run,List.append_nil] at n2 ⊢
     exact n2
    ·simp only [if_neg hg,run,List.append_nil] at n2 ⊢
     exact n2
set_option maxHeartbeats 2000000 in
theorem resizeG_ok (n:Int) (hw:bi.mkr.size≤1000) (hl:cs.length≤1000) (hS:∀n,(vget es cs n).1.size≤65536) :
  Enters 59∧Spec prog 59 #[.pointer (some ⟨b,0,none⟩),bi.v,.int .i64 n] [St ps es,Usg] [Vw b ps rs cs]
   ⟨Unit,fun _=>.int .i64 ((qResize bi n).run es cs).1,fun _=>True,fun _=>[],fun _=>[Vw b ps (rsq es ((qResize bi n).run es cs).2.1 rs) ((qResize bi n).run es cs).2.2]⟩:=by
 have hv:=hS (nnm bi)
 have n1:=XN b ps es rs cs bi (by omega) (by omega)
 rw [Wi] at n1
 unfold qResize
 rw [run_bind,Z7]
 dsimp only
 by_cases h0:(ifile es cs bi).2≠0
 ·simp only [if_pos h0,run,List.append_nil]
  generalize ifile es cs bi=g at *
  obtain ⟨nd,e⟩:=g
  dsimp only at *
  generalize b=bv at *
  refine ZM [_,_,_] func59 ntmps59 fun G w hp=>?_
  repeat' (first|refine ZE ?_|refine ZD ?_|refine ZL ?_|refine ZF ?_|refine ZS ?_|refine ZO ?_|refine ZV ?_|refine ZR (fun b=>?_)|refine ZX (fun b=>?_)|refine ZH ?_|refine ZB ?_|refine ZW ?_|refine ZC (n1) (fun _ _=>?_)|refine l_call0 (n1) (fun _ _=>?_)|(refine ZJ (fun hc=>?_) (fun hc=>?_)<;>(try simp at hc)<;>(try omega))|(refine ZG (fun hc=>?_) (fun hc=>?_)<;>(try simp at hc)<;>(try omega)))
  exact ZK () rfl trivial
 ·have h0':(ifile es cs bi).2=0:=by omega
  obtain ⟨g1,g2,g3,g4⟩:=W5 h0'
  obtain ⟨-,g5,-⟩:=Yi g2
  unfold ifit at g5
  simp only [if_neg h0]
  by_cases hn:n<0∨4096<n
  ·simp only [if_pos hn,run,List.append_nil]
   have n2:=Z9 n 4096
   rw [show (decide (0≤n) && decide (n≤4096))=false by simp;omega] at n2
   rw [h0'] at n1
   generalize ifile es cs bi=g at *
   obtain ⟨nd,e⟩:=g
   dsimp only at *
   generalize b=bv at *
   refine ZM [_,_,_] func59 ntmps59 fun G w hp=>?_
   repeat' (first|refine ZE ?_|refine ZD ?_|refine ZL ?_|refine ZF ?_|refine ZS ?_|refine ZO ?_|refine ZV ?_|refine ZR (fun b=>?_)|refine ZX (fun b=>?_)|refine ZH ?_|refine ZB ?_|refine ZW ?_|refine ZC (n1) (fun _ _=>?_)|refine l_call0 (n1) (fun _ _=>?_)|refine ZC (n2) (fun _ _=>?_)|refine l_call0 (n2) (fun _ _=>?_)|(refine ZJ (fun hc=>?_) (fun hc=>?_)<;>(try simp at hc)<;>(try omega))|(refine ZG (fun hc=>?_) (fun hc=>?_)<;>(try simp at hc)<;>(try omega)))
   exact ZK () rfl trivial
  ·simp only [if_neg hn]
   obtain ⟨n',rfl⟩:∃k:Nat,n=(k:Int):=⟨n.toNat,by omega⟩
   obtain ⟨sz,hsz⟩:∃k:Nat,(ifile es cs bi).1.sz=(k:Int):=⟨(ifile es cs bi).1.sz.toNat,by omega⟩
   have n2:=resize_ok b ps es rs cs bi n' sz (by omega) (by omega) (by omega) h0' hsz (by omega) (by omega)
   unfold rszR rszC at n2
   rw [cutR_q,Wi,←VE] at n2
   rw [hsz]
   by_cases h1:(n':Int)=(sz:Int)
   ·obtain rfl:n'=sz:=by omega
    simp only [if_true,run,List.append_nil]
    simp only [Nat.lt_irrefl,if_false,if_true] at n2
    exact n2
   ·simp only [if_neg h1,run_bind,Int.toNat_natCast]
    by_cases h2:(n':Int)<(sz:Int)
    ·simp only [if_pos h2,Vp,run,List.append_nil]
     simp only [if_neg (show ¬n'=sz by omega),if_pos (show n'<sz by omega)] at n2
     exact n2
    ·simp only [if_neg h2,run,List.append_nil]
     simp only [if_neg (show ¬n'=sz by omega),if_neg (show ¬n'<sz by omega)] at n2
     exact n2
set_option maxHeartbeats 2000000 in
theorem inoSetG_ok (nd:Ino) (hw:bi.mkr.size≤1000) (hl:cs.length≤1000) (hS:∀n,(vget es cs n).1.size≤65536) :
  Enters 60∧Spec prog 60 #[.pointer (some ⟨b,0,none⟩),bi.v,nd.v] [St ps es,Usg] [Vw b ps rs cs]
   ⟨Unit,fun _=>.int .i64 ((qSet bi nd).run es cs).1,fun _=>True,fun _=>[],fun _=>[Vw b ps (rsq es ((qSet bi nd).run es cs).2.1 rs) ((qSet bi nd).run es cs).2.2]⟩:=by
 have hv:=hS (nnm bi)
 have n0:=X3 nd
 have n1:=UJ b ps es rs cs bi (by omega) (by omega)
 rw [Wi] at n1
 unfold qSet
 by_cases hk:ichk nd≠0
 ·simp only [if_pos hk,run]
  generalize ichk nd=e at *
  refine ZM [_,_,_] func60 ntmps60 fun G w hp=>?_
  repeat' (first|refine ZE ?_|refine ZD ?_|refine ZL ?_|refine ZF ?_|refine ZS ?_|refine ZO ?_|refine ZV ?_|refine ZR (fun b=>?_)|refine ZX (fun b=>?_)|refine ZH ?_|refine ZB ?_|refine ZW ?_|refine ZC (n0) (fun _ _=>?_)|refine l_call0 (n0) (fun _ _=>?_)|(refine ZJ (fun hc=>?_) (fun hc=>?_)<;>(try simp at hc)<;>(try omega))|(refine ZG (fun hc=>?_) (fun hc=>?_)<;>(try simp at hc)<;>(try omega)))
  exact ZK () rfl trivial
 ·have hk':ichk nd=0:=by omega
  rw [hk'] at n0
  simp only [if_neg hk,run_bind,W4]
  have hg:(iget es cs bi).2=0→bchk bi=0∧ichk (iget es cs bi).1=0:=fun h=>by
   unfold iget at h ⊢
   by_cases h1:bchk bi≠0
   ·rw [if_pos h1] at h;exact absurd h h1
   ·rw [if_neg h1] at h ⊢
    refine ⟨by omega,?_⟩
    by_cases h2:(vget es cs (nnm bi)).2=true
    ·rw [if_pos h2] at h ⊢
     cases hd:idec (vget es cs (nnm bi)).1 with
     | none=>rw [hd] at h;cases h
     | some x=>exact (idec_inv hd).1
    ·rw [if_neg h2] at h;cases h
  generalize iget es cs bi=g at *
  obtain ⟨bf,e⟩:=g
  dsimp only at *
  by_cases he:e≠0
  ·simp only [if_pos he,run,List.append_nil]
   obtain ⟨a1,a2,a3,a4,a5,a6,a7⟩:=bf
   obtain ⟨c1,c2,c3,c4,c5,c6,c7⟩:=nd
   simp only [Ino.v] at *
   refine ZM [_,_,_] func60 ntmps60 fun G w hp=>?_
   repeat' (first|refine ZE ?_|refine ZD ?_|refine ZL ?_|refine ZF ?_|refine ZS ?_|refine ZO ?_|refine ZV ?_|refine ZR (fun b=>?_)|refine ZX (fun b=>?_)|refine ZH ?_|refine ZB ?_|refine ZW ?_|refine ZC (n0) (fun _ _=>?_)|refine l_call0 (n0) (fun _ _=>?_)|refine ZC (n1) (fun _ _=>?_)|refine l_call0 (n1) (fun _ _=>?_)|(refine ZJ (fun hc=>?_) (fun hc=>?_)<;>(try simp at hc)<;>(try omega))|(refine ZG (fun hc=>?_) (fun hc=>?_)<;>(try simp at hc)<;>(try omega)))
   exact ZK () rfl trivial
  ·obtain rfl:e=0:=by omega
   obtain ⟨h1,h2⟩:=hg rfl
   simp only [if_neg he]
   by_cases hd:bf.kd≠nd.kd
   ·simp only [if_pos hd,run,List.append_nil]
    obtain ⟨a1,a2,a3,a4,a5,a6,a7⟩:=bf
    obtain ⟨c1,c2,c3,c4,c5,c6,c7⟩:=nd
    simp only [Ino.v] at *
    refine ZM [_,_,_] func60 ntmps60 fun G w hp=>?_
    repeat' (first|refine ZE ?_|refine ZD ?_|refine ZL ?_|refine ZF ?_|refine ZS ?_|refine ZO ?_|refine ZV ?_|refine ZR (fun b=>?_)|refine ZX (fun b=>?_)|refine ZH ?_|refine ZB ?_|refine ZW ?_|refine ZC (n0) (fun _ _=>?_)|refine l_call0 (n0) (fun _ _=>?_)|refine ZC (n1) (fun _ _=>?_)|refine l_call0 (n1) (fun _ _=>?_)|(refine ZJ (fun hc=>?_) (fun hc=>?_)<;>(try simp at hc)<;>(try omega))|(refine ZG (fun hc=>?_) (fun hc=>?_)<;>(try simp at hc)<;>(try omega)))
    exact ZK () rfl trivial
   ·simp only [if_neg hd,run,List.append_nil]
    have hz:ichk {nd with sz:=bf.sz}=0:=ichk_set h2 hk' (by omega)
    have hes:=Zw {nd with sz:=bf.sz}
    have n5:=UK b ps (rsq es (iN cs bi) rs) cs bi {nd with sz:=bf.sz} hz (by omega) (by omega)
    have e9:vset cs (nnm bi) (iencS {nd with sz:=bf.sz})=(0,cs++[⟨nnm bi,iencS {nd with sz:=bf.sz},false⟩]):=by
     unfold vset
     rw [if_neg (by rw [Zx h1];simp),if_neg (by omega)]
    rw [e9] at n5
    generalize iencS {nd with sz:=bf.sz}=S at *
    obtain ⟨a1,a2,a3,a4,a5,a6,a7⟩:=bf
    obtain ⟨c1,c2,c3,c4,c5,c6,c7⟩:=nd
    have hd':a1=c1:=by simpa using hd
    subst hd'
    simp only [Ino.v] at *
    refine ZM [_,_,_] func60 ntmps60 fun G w hp=>?_
    repeat' (first|refine ZE ?_|refine ZD ?_|refine ZL ?_|refine ZF ?_|refine ZS ?_|refine ZO ?_|refine ZV ?_|refine ZR (fun b=>?_)|refine ZX (fun b=>?_)|refine ZH ?_|refine ZB ?_|refine ZW ?_|refine ZC (n0) (fun _ _=>?_)|refine l_call0 (n0) (fun _ _=>?_)|refine ZC (n1) (fun _ _=>?_)|refine l_call0 (n1) (fun _ _=>?_)|refine ZC (n5) (fun _ _=>?_)|refine l_call0 (n5) (fun _ _=>?_)|(refine ZJ (fun hc=>?_) (fun hc=>?_)<;>(try simp at hc)<;>(try omega))|(refine ZG (fun hc=>?_) (fun hc=>?_)<;>(try simp at hc)<;>(try omega)))
    exact ZK () rfl trivial
theorem makeG_ok (who:ByteArray) (nd:Ino) (hw:who.size≤1000) (hl:cs.length≤1000) (hS:∀n,(vget es cs n).1.size≤65536) :
  Enters 50∧Spec prog 50 #[.pointer (some ⟨b,0,none⟩),.string who,nd.v] [St ps es,Usg] [Vw b ps rs cs]
   ⟨Unit,fun _=>.tuple #[((qMake who nd).run es cs).1.1.v,.int .i64 ((qMake who nd).run es cs).1.2],fun _=>True,fun _=>[],fun _=>[Vw b ps (rsq es ((qMake who nd).run es cs).2.1 rs) ((qMake who nd).run es cs).2.2]⟩:=by
 have hv:=hS (cnm who)
 have n1:=make_ok b ps es rs cs who nd (by omega) (by omega) (by omega)
 rw [mkR_q] at n1
 rw [VO]
 exact n1
end
end
section
open VQ
theorem Yk (k:UInt8) (j:Nat) (h:k.toNat % 6=j):(k.toNat:Int).tmod 6=(j:Int):=by
 rw [Int.tmod_eq_emod_of_nonneg (Int.natCast_nonneg _)];omega
theorem tmod3 (k:UInt8):(k.toNat:Int).tmod 3=((k.toNat % 3:Nat):Int):=by
 rw [Int.tmod_eq_emod_of_nonneg (Int.natCast_nonneg _)];exact (Int.natCast_emod _ 3).symm
theorem YA {z:Int} (h:0≤z∧z≤255):IntKind.u8.wrap z=z:=by
 simp [IntKind.wrap,IntKind.bits,IntKind.signed]
 omega
theorem Zu {bs:List Bi} (h:∀b ∈ bs,b.mkr.size≤3) (wd:UInt8):(bthF bs wd).mkr.size≤1000:=by
 unfold bthF
 split
 ·rename_i b hb
  have:=h b (List.mem_of_getElem? hb)
  omega
 ·show (1:Nat)≤1000;omega
def mDoR (bs:List Bi) (fs:List Fq) (m:List (ByteArray×Int)) (o:Op7):Rz7:=
 if o.k.toNat % 6=0 then ⟨(mRead bs fs (bthF bs o.w) o.f o.c).1,0,Bi.z,(mRead bs fs (bthF bs o.w) o.f o.c).2⟩
 else if o.k.toNat % 6=1 then ⟨⟨#[]⟩,(mWrite bs fs (bthF bs o.w) o.f o.t).1.1,Bi.z,(mWrite bs fs (bthF bs o.w) o.f o.t).1.2⟩
 else if o.k.toNat % 6=2 then ⟨⟨#[]⟩,0,Bi.z,(mResize bs fs (bthF bs o.w) o.c).1⟩
 else if o.k.toNat % 6=3 then ⟨⟨#[]⟩,0,Bi.z,(mSet bs fs (bthF bs o.w) o.n).1⟩
 else if o.k.toNat % 6=4 then ⟨(mRead bs fs (bthF bs o.w) 0 4096).1,0,Bi.z,(mRead bs fs (bthF bs o.w) 0 4096).2⟩
 else ⟨⟨#[]⟩,0,(mMake bs m (Zg (o.w.toNat % 3)) o.n).b,(mMake bs m (Zg (o.w.toNat % 3)) o.n).e⟩
def mDoB (bs:List Bi) (m:List (ByteArray×Int)) (o:Op7):List Bi:=if o.k.toNat % 6=5 then (mMake bs m (Zg (o.w.toNat % 3)) o.n).bs else bs
def mDoM (bs:List Bi) (m:List (ByteArray×Int)) (o:Op7):List (ByteArray×Int):=if o.k.toNat % 6=5 then (mMake bs m (Zg (o.w.toNat % 3)) o.n).m else m
def mDoF (bs:List Bi) (fs:List Fq) (o:Op7) (r:Nat):List Fq:=
 if o.k.toNat % 6=1 then (mWrite bs fs (bthF bs o.w) o.f o.t).2
 else if o.k.toNat % 6=2 then (mResize bs fs (bthF bs o.w) o.c).2
 else if o.k.toNat % 6=3 then (mSet bs fs (bthF bs o.w) o.n).2
 else if o.k.toNat % 6=5 then mMakeF fs o.n r else fs
def qOp (bs:List Bi) (o:Op7):VQ Rz7:=
 if o.k.toNat % 6=0 then (qRead (bthF bs o.w) o.f o.c).bind fun r=>.ret ⟨r.1,0,Bi.z,r.2⟩
 else if o.k.toNat % 6=1 then (qWrite (bthF bs o.w) o.f o.t).bind fun r=>.ret ⟨⟨#[]⟩,r.1,Bi.z,r.2⟩
 else if o.k.toNat % 6=2 then (qResize (bthF bs o.w) o.c).bind fun r=>.ret ⟨⟨#[]⟩,0,Bi.z,r⟩
 else if o.k.toNat % 6=3 then (qSet (bthF bs o.w) o.n).bind fun r=>.ret ⟨⟨#[]⟩,0,Bi.z,r⟩
 else if o.k.toNat % 6=4 then (qRead (bthF bs o.w) 0 4096).bind fun r=>.ret ⟨r.1,0,Bi.z,r.2⟩
 else (qMake (Zg (o.w.toNat % 3)) o.n).bind fun r=>.ret ⟨⟨#[]⟩,0,r.1,r.2⟩
section
variable (bm:Nat) (q:Mq) (bs:List Bi) (fs:List Fq) (m:List (ByteArray×Int))
structure DoH (q:Mq) (bs:List Bi) (fs:List Fq) (m:List (ByteArray×Int)):Prop where
 hl:bs.length≤1000
 hlf:fs.length=bs.length
 hq:q.OK bs.length fs.length
 hb0:0<bs.length
 hct:∀x ∈ fs,x.ct.size≤4096
 hbs:∀b ∈ bs,b.mkr.size≤3
 hmv:∀j,j<3→0≤(mget (Zg j) m).getD 0∧(mget (Zg j) m).getD 0≤1000000
theorem mWr_len (bi:Bi) (f:Int) (s:ByteArray):(mWrite bs fs bi f s).2.length=fs.length:=by
 unfold mWrite
 repeat' split
 all_goals first|rfl|exact List.length_set
theorem mRs_len (bi:Bi) (n:Int):(mResize bs fs bi n).2.length=fs.length:=by
 unfold mResize
 repeat' split
 all_goals first|rfl|exact List.length_set
theorem mSt_bl (bi:Bi) (nd:Ino) (rm:Nat):CM rm m (mSet bs fs bi nd).2=CM rm m fs:=by
 unfold mSet
 split
 ·rfl
 ·split
  ·rfl
  ·split
   ·rfl
   ·split
    ·rfl
    ·rename_i i _ _ x hx
     split
     ·rfl
     ·have h1:(fs.set i {x with nd:={nd with sz:=x.nd.sz}}).map BlF=fs.map BlF:=by
       rw [List.map_set]
       refine List.ext_getElem? fun j=>?_
       rw [List.getElem?_set]
       split
       ·rename_i hj
        subst hj
        split
        ·rw [List.getElem?_map,hx];rfl
        ·rename_i hlt
         rw [List.getElem?_eq_none (by simpa using hlt)]
       ·rfl
      unfold CM
      rw [h1]
theorem mSt_len (bi:Bi) (nd:Ino):(mSet bs fs bi nd).2.length=fs.length:=by
 unfold mSet
 repeat' split
 all_goals first|rfl|exact List.length_set
set_option maxHeartbeats 4000000 in
theorem do27_0 (o:Op7) (hk:o.k.toNat % 6=0) (hot:o.t.size≤500) (hD:DoH q bs fs m) :
  Enters 48∧Spec prog 48 #[.pointer (some ⟨bm,0,none⟩),o.v] [] (MoL bm q bs fs m)
   ⟨Mq×Nat,fun _=>(mDoR bs fs m o).v,fun x=>x.1.OK (mDoB bs m o).length (mDoF bs fs o x.2).length,fun _=>[],fun x=>MoL bm x.1 (mDoB bs m o) (mDoF bs fs o x.2) (mDoM bs m o)⟩:=by
 have hR:mDoR bs fs m o=⟨(mRead bs fs (bthF bs o.w) o.f o.c).1,0,Bi.z,(mRead bs fs (bthF bs o.w) o.f o.c).2⟩:=by unfold mDoR;rw [if_pos hk]
 have hF:∀r,mDoF bs fs o r=fs:=fun r=>by unfold mDoF;rw [if_neg (show ¬o.k.toNat % 6=1 by omega),if_neg (show ¬o.k.toNat % 6=2 by omega),if_neg (show ¬o.k.toNat % 6=3 by omega),if_neg (show ¬o.k.toNat % 6=5 by omega)]
 have hB:mDoB bs m o=bs:=by unfold mDoB;rw [if_neg (show ¬o.k.toNat % 6=5 by omega)]
 have hM:mDoM bs m o=m:=by unfold mDoM;rw [if_neg (show ¬o.k.toNat % 6=5 by omega)]
 simp only [hR,hF,hB,hM]
 clear hR hF hB hM
 obtain ⟨hl,hlf,hq,hb0,hct,hbs,hmv⟩:=hD
 obtain ⟨ok,ow,of,oc,ot,⟨a1,a2,a3,a4,a5,a6,a7⟩⟩:=o
 dsimp only at *
 have hbz:=Zu hbs ow
 have n1:=Zp q bs ow
 have t1:=Yk ok 0 hk
 have w1:=YA (z:=((0:Nat):Int)) (by omega)
 generalize hBI:bthF bs ow=BI at *
 have n2:=read27_ok bm q bs fs BI of oc hl hlf hct hbz
 generalize mRead bs fs BI of oc=G at *
 obtain ⟨g1,g2⟩:=BI
 simp only [Op7.v,Rz7.v,Bi.v,Bi.z] at *
 refine ZM [_,_] func48 ntmps48 fun G w hp=>?_
 repeat' (first|refine ZE ?_|refine ZD ?_|refine ZF ?_|refine ZS ?_|refine ZV ?_|refine ZR (fun b=>?_)|refine ZH ?_|refine ZT ?_|refine Zf ?_|refine Zj (fun b=>?_)|refine Zk ?_|refine ZU ?_|refine ZN (n1) (fun _ _=>?_)|refine ZC (n2) (fun _ _=>?_)|rw [t1]|refine ZA 2 [BiX _ _] [(0,0),(1,0),(2,0),(3,0),(4,0),(5,0),(6,4),(7,1),(8,4)] [] ?_|fail)
 exact ZK (q,0) rfl hq
set_option maxHeartbeats 4000000 in
theorem do27_1 (o:Op7) (hk:o.k.toNat % 6=1) (hot:o.t.size≤500) (hD:DoH q bs fs m) :
  Enters 48∧Spec prog 48 #[.pointer (some ⟨bm,0,none⟩),o.v] [] (MoL bm q bs fs m)
   ⟨Mq×Nat,fun _=>(mDoR bs fs m o).v,fun x=>x.1.OK (mDoB bs m o).length (mDoF bs fs o x.2).length,fun _=>[],fun x=>MoL bm x.1 (mDoB bs m o) (mDoF bs fs o x.2) (mDoM bs m o)⟩:=by
 have hR:mDoR bs fs m o=⟨⟨#[]⟩,(mWrite bs fs (bthF bs o.w) o.f o.t).1.1,Bi.z,(mWrite bs fs (bthF bs o.w) o.f o.t).1.2⟩:=by unfold mDoR;rw [if_neg (show ¬o.k.toNat % 6=0 by omega),if_pos hk]
 have hF:∀r,mDoF bs fs o r=(mWrite bs fs (bthF bs o.w) o.f o.t).2:=fun r=>by unfold mDoF;rw [if_pos hk]
 have hB:mDoB bs m o=bs:=by unfold mDoB;rw [if_neg (show ¬o.k.toNat % 6=5 by omega)]
 have hM:mDoM bs m o=m:=by unfold mDoM;rw [if_neg (show ¬o.k.toNat % 6=5 by omega)]
 simp only [hR,hF,hB,hM]
 clear hR hF hB hM
 obtain ⟨hl,hlf,hq,hb0,hct,hbs,hmv⟩:=hD
 obtain ⟨ok,ow,of,oc,ot,⟨a1,a2,a3,a4,a5,a6,a7⟩⟩:=o
 dsimp only at *
 have hbz:=Zu hbs ow
 have n1:=Zp q bs ow
 have t1:=Yk ok 1 hk
 have w1:=YA (z:=((1:Nat):Int)) (by omega)
 generalize hBI:bthF bs ow=BI at *
 have n2:=write27_ok bm q bs fs BI m of ot (by omega) hl hlf hct hbz hq
 have hln:=mWr_len bs fs BI of ot
 generalize mWrite bs fs BI of ot=G at *
 obtain ⟨g1,g2⟩:=BI
 simp only [Op7.v,Rz7.v,Bi.v,Bi.z] at *
 refine ZM [_,_] func48 ntmps48 fun G w hp=>?_
 repeat' (first|refine ZE ?_|refine ZD ?_|refine ZF ?_|refine ZS ?_|refine ZV ?_|refine ZR (fun b=>?_)|refine ZH ?_|refine ZB ?_|refine ZT ?_|refine Zf ?_|refine Zj (fun b=>?_)|refine Zk ?_|refine ZU ?_|refine ZN (n1) (fun _ _=>?_)|refine ZC (n2) (fun _ _=>?_)|rw [t1]|refine ZA 2 [BiX _ _] [(0,0),(1,0),(2,0),(3,0),(4,0),(5,0),(6,4),(7,1),(8,4)] [] ?_|fail)
 rw [←hln]
 exact ZK (q,0) rfl (by dsimp only;rw [hln];exact hq)
set_option maxHeartbeats 4000000 in
theorem do27_2 (o:Op7) (hk:o.k.toNat % 6=2) (hot:o.t.size≤500) (hD:DoH q bs fs m) :
  Enters 48∧Spec prog 48 #[.pointer (some ⟨bm,0,none⟩),o.v] [] (MoL bm q bs fs m)
   ⟨Mq×Nat,fun _=>(mDoR bs fs m o).v,fun x=>x.1.OK (mDoB bs m o).length (mDoF bs fs o x.2).length,fun _=>[],fun x=>MoL bm x.1 (mDoB bs m o) (mDoF bs fs o x.2) (mDoM bs m o)⟩:=by
 have hR:mDoR bs fs m o=⟨⟨#[]⟩,0,Bi.z,(mResize bs fs (bthF bs o.w) o.c).1⟩:=by unfold mDoR;rw [if_neg (show ¬o.k.toNat % 6=0 by omega),if_neg (show ¬o.k.toNat % 6=1 by omega),if_pos hk]
 have hF:∀r,mDoF bs fs o r=(mResize bs fs (bthF bs o.w) o.c).2:=fun r=>by unfold mDoF;rw [if_neg (show ¬o.k.toNat % 6=1 by omega),if_pos hk]
 have hB:mDoB bs m o=bs:=by unfold mDoB;rw [if_neg (show ¬o.k.toNat % 6=5 by omega)]
 have hM:mDoM bs m o=m:=by unfold mDoM;rw [if_neg (show ¬o.k.toNat % 6=5 by omega)]
 simp only [hR,hF,hB,hM]
 clear hR hF hB hM
 obtain ⟨hl,hlf,hq,hb0,hct,hbs,hmv⟩:=hD
 obtain ⟨ok,ow,of,oc,ot,⟨a1,a2,a3,a4,a5,a6,a7⟩⟩:=o
 dsimp only at *
 have hbz:=Zu hbs ow
 have n1:=Zp q bs ow
 have t1:=Yk ok 2 hk
 have w1:=YA (z:=((2:Nat):Int)) (by omega)
 generalize hBI:bthF bs ow=BI at *
 have n2:=resize27_ok bm q bs fs BI m oc hl hlf hct hbz hq
 have hln:=mRs_len bs fs BI oc
 generalize mResize bs fs BI oc=G at *
 obtain ⟨g1,g2⟩:=BI
 simp only [Op7.v,Rz7.v,Bi.v,Bi.z] at *
 refine ZM [_,_] func48 ntmps48 fun G w hp=>?_
 repeat' (first|refine ZE ?_|refine ZD ?_|refine ZF ?_|refine ZS ?_|refine ZV ?_|refine ZR (fun b=>?_)|refine ZH ?_|refine ZB ?_|refine ZT ?_|refine Zf ?_|refine Zj (fun b=>?_)|refine Zk ?_|refine ZU ?_|refine ZN (n1) (fun _ _=>?_)|refine ZC (n2) (fun _ _=>?_)|rw [t1]|refine ZA 2 [BiX _ _] [(0,0),(1,0),(2,0),(3,0),(4,0),(5,0),(6,4),(7,1),(8,4)] [] ?_|fail)
 rw [←hln]
 exact ZK (q,0) rfl (by dsimp only;rw [hln];exact hq)
set_option maxHeartbeats 4000000 in
theorem do27_3 (o:Op7) (hk:o.k.toNat % 6=3) (hot:o.t.size≤500) (hD:DoH q bs fs m) :
  Enters 48∧Spec prog 48 #[.pointer (some ⟨bm,0,none⟩),o.v] [] (MoL bm q bs fs m)
   ⟨Mq×Nat,fun _=>(mDoR bs fs m o).v,fun x=>x.1.OK (mDoB bs m o).length (mDoF bs fs o x.2).length,fun _=>[],fun x=>MoL bm x.1 (mDoB bs m o) (mDoF bs fs o x.2) (mDoM bs m o)⟩:=by
 have hR:mDoR bs fs m o=⟨⟨#[]⟩,0,Bi.z,(mSet bs fs (bthF bs o.w) o.n).1⟩:=by unfold mDoR;rw [if_neg (show ¬o.k.toNat % 6=0 by omega),if_neg (show ¬o.k.toNat % 6=1 by omega),if_neg (show ¬o.k.toNat % 6=2 by omega),if_pos hk]
 have hF:∀r,mDoF bs fs o r=(mSet bs fs (bthF bs o.w) o.n).2:=fun r=>by unfold mDoF;rw [if_neg (show ¬o.k.toNat % 6=1 by omega),if_neg (show ¬o.k.toNat % 6=2 by omega),if_pos hk]
 have hB:mDoB bs m o=bs:=by unfold mDoB;rw [if_neg (show ¬o.k.toNat % 6=5 by omega)]
 have hM:mDoM bs m o=m:=by unfold mDoM;rw [if_neg (show ¬o.k.toNat % 6=5 by omega)]
 simp only [hR,hF,hB,hM]
 clear hR hF hB hM
 obtain ⟨hl,hlf,hq,hb0,hct,hbs,hmv⟩:=hD
 obtain ⟨ok,ow,of,oc,ot,⟨a1,a2,a3,a4,a5,a6,a7⟩⟩:=o
 dsimp only at *
 have hbz:=Zu hbs ow
 have n1:=Zp q bs ow
 have t1:=Yk ok 3 hk
 have w1:=YA (z:=((3:Nat):Int)) (by omega)
 generalize hBI:bthF bs ow=BI at *
 have n2:=set27_ok bm q bs fs BI ⟨a1,a2,a3,a4,a5,a6,a7⟩ hl hlf hbz hq
 have hln:=mSt_len bs fs BI ⟨a1,a2,a3,a4,a5,a6,a7⟩
 have hcm:=mSt_bl bs fs m BI ⟨a1,a2,a3,a4,a5,a6,a7⟩ q.rm
 generalize mSet bs fs BI ⟨a1,a2,a3,a4,a5,a6,a7⟩=G at *
 obtain ⟨g1,g2⟩:=BI
 simp only [Op7.v,Rz7.v,Bi.v,Bi.z,Ino.v] at *
 refine ZM [_,_] func48 ntmps48 fun G w hp=>?_
 repeat' (first|refine ZE ?_|refine ZD ?_|refine ZF ?_|refine ZS ?_|refine ZV ?_|refine ZR (fun b=>?_)|refine ZH ?_|refine ZB ?_|refine ZT ?_|refine Zf ?_|refine Zj (fun b=>?_)|refine Zk ?_|refine ZU ?_|refine ZN (n1) (fun _ _=>?_)|refine ZC (n2) (fun _ _=>?_)|rw [t1]|refine ZA 2 [BiX _ _] [(0,0),(1,0),(2,0),(3,0),(4,0),(5,0),(6,4),(7,1),(8,4)] [] ?_|fail)
 refine k_say (P:=CM q.rm m fs) hcm.symm ?_
 rw [←hln]
 exact ZK (q,0) rfl (by dsimp only;rw [hln];exact hq)
set_option maxHeartbeats 4000000 in
theorem do27_4 (o:Op7) (hk:o.k.toNat % 6=4) (hot:o.t.size≤500) (hD:DoH q bs fs m) :
  Enters 48∧Spec prog 48 #[.pointer (some ⟨bm,0,none⟩),o.v] [] (MoL bm q bs fs m)
   ⟨Mq×Nat,fun _=>(mDoR bs fs m o).v,fun x=>x.1.OK (mDoB bs m o).length (mDoF bs fs o x.2).length,fun _=>[],fun x=>MoL bm x.1 (mDoB bs m o) (mDoF bs fs o x.2) (mDoM bs m o)⟩:=by
 have hR:mDoR bs fs m o=⟨(mRead bs fs (bthF bs o.w) 0 4096).1,0,Bi.z,(mRead bs fs (bthF bs o.w) 0 4096).2⟩:=by unfold mDoR;rw [if_neg (show ¬o.k.toNat % 6=0 by omega),if_neg (show ¬o.k.toNat % 6=1 by omega),if_neg (show ¬o.k.toNat % 6=2 by omega),if_neg (show ¬o.k.toNat % 6=3 by omega),if_pos hk]
 have hF:∀r,mDoF bs fs o r=fs:=fun r=>by unfold mDoF;rw [if_neg (show ¬o.k.toNat % 6=1 by omega),if_neg (show ¬o.k.toNat % 6=2 by omega),if_neg (show ¬o.k.toNat % 6=3 by omega),if_neg (show ¬o.k.toNat % 6=5 by omega)]
 have hB:mDoB bs m o=bs:=by unfold mDoB;rw [if_neg (show ¬o.k.toNat % 6=5 by omega)]
 have hM:mDoM bs m o=m:=by unfold mDoM;rw [if_neg (show ¬o.k.toNat % 6=5 by omega)]
 simp only [hR,hF,hB,hM]
 clear hR hF hB hM
 obtain ⟨hl,hlf,hq,hb0,hct,hbs,hmv⟩:=hD
 obtain ⟨ok,ow,of,oc,ot,⟨a1,a2,a3,a4,a5,a6,a7⟩⟩:=o
 dsimp only at *
 have hbz:=Zu hbs ow
 have n1:=Zp q bs ow
 have t1:=Yk ok 4 hk
 have w1:=YA (z:=((4:Nat):Int)) (by omega)
 generalize hBI:bthF bs ow=BI at *
 have n2:=read27_ok bm q bs fs BI 0 4096 hl hlf hct hbz
 generalize mRead bs fs BI 0 4096=G at *
 obtain ⟨g1,g2⟩:=BI
 simp only [Op7.v,Rz7.v,Bi.v,Bi.z] at *
 refine ZM [_,_] func48 ntmps48 fun G w hp=>?_
 repeat' (first|refine ZE ?_|refine ZD ?_|refine ZF ?_|refine ZS ?_|refine ZV ?_|refine ZR (fun b=>?_)|refine ZH ?_|refine ZB ?_|refine ZT ?_|refine Zf ?_|refine Zj (fun b=>?_)|refine Zk ?_|refine ZU ?_|refine ZN (n1) (fun _ _=>?_)|refine ZC (n2) (fun _ _=>?_)|rw [t1]|refine ZA 2 [BiX _ _] [(0,0),(1,0),(2,0),(3,0),(4,0),(5,0),(6,4),(7,1),(8,4)] [] ?_|fail)
 exact ZK (q,0) rfl hq
set_option maxHeartbeats 4000000 in
theorem do27_5 (o:Op7) (hk:o.k.toNat % 6=5) (hot:o.t.size≤500) (hD:DoH q bs fs m) :
  Enters 48∧Spec prog 48 #[.pointer (some ⟨bm,0,none⟩),o.v] [] (MoL bm q bs fs m)
   ⟨Mq×Nat,fun _=>(mDoR bs fs m o).v,fun x=>x.1.OK (mDoB bs m o).length (mDoF bs fs o x.2).length,fun _=>[],fun x=>MoL bm x.1 (mDoB bs m o) (mDoF bs fs o x.2) (mDoM bs m o)⟩:=by
 have hR:mDoR bs fs m o=⟨⟨#[]⟩,0,(mMake bs m (Zg (o.w.toNat % 3)) o.n).b,(mMake bs m (Zg (o.w.toNat % 3)) o.n).e⟩:=by unfold mDoR;rw [if_neg (show ¬o.k.toNat % 6=0 by omega),if_neg (show ¬o.k.toNat % 6=1 by omega),if_neg (show ¬o.k.toNat % 6=2 by omega),if_neg (show ¬o.k.toNat % 6=3 by omega),if_neg (show ¬o.k.toNat % 6=4 by omega)]
 have hF:∀r,mDoF bs fs o r=mMakeF fs o.n r:=fun r=>by unfold mDoF;rw [if_neg (show ¬o.k.toNat % 6=1 by omega),if_neg (show ¬o.k.toNat % 6=2 by omega),if_neg (show ¬o.k.toNat % 6=3 by omega),if_pos hk]
 have hB:mDoB bs m o=(mMake bs m (Zg (o.w.toNat % 3)) o.n).bs:=by unfold mDoB;rw [if_pos hk]
 have hM:mDoM bs m o=(mMake bs m (Zg (o.w.toNat % 3)) o.n).m:=by unfold mDoM;rw [if_pos hk]
 simp only [hR,hF,hB,hM]
 clear hR hF hB hM
 obtain ⟨hl,hlf,hq,hb0,hct,hbs,hmv⟩:=hD
 obtain ⟨ok,ow,of,oc,ot,⟨a1,a2,a3,a4,a5,a6,a7⟩⟩:=o
 dsimp only at *
 have hbz:=Zu hbs ow
 have n1:=Zp q bs ow
 have t1:=Yk ok 5 hk
 have w1:=YA (z:=((5:Nat):Int)) (by omega)
 have hw3:ow.toNat % 3<3:=by omega
 have t3:=tmod3 ow
 have w3:=YA (z:=((ow.toNat % 3:Nat):Int)) (by omega)
 have hg:=WW hw3
 generalize hBI:bthF bs ow=BI at *
 have n2:=make27_ok bm q bs fs m (Zg (ow.toNat % 3)) ⟨a1,a2,a3,a4,a5,a6,a7⟩ (hmv _ hw3).1 (hmv _ hw3).2 hl hlf hq hb0
 generalize mMake bs m (Zg (ow.toNat % 3)) ⟨a1,a2,a3,a4,a5,a6,a7⟩=G at *
 obtain ⟨g1,g2⟩:=BI
 simp only [Op7.v,Rz7.v,Bi.v,Ino.v] at *
 refine ZM [_,_] func48 ntmps48 fun G w hp=>?_
 repeat' (first|refine ZE ?_|refine ZD ?_|refine ZF ?_|refine ZS ?_|refine ZV ?_|refine ZR (fun b=>?_)|refine ZB ?_|refine ZT ?_|refine Zf ?_|refine Zj (fun b=>?_)|refine Zk ?_|refine ZU ?_|refine ZN (n1) (fun _ _=>?_)|refine ZN (n2) (fun _ _=>?_)|refine ZN (Xz) (fun _ _=>?_)|rw [t1]|rw [t3]|refine r_ixK7 (m:=3) (ow.toNat % 3) hw3 ?_|refine Ze 1 (ow.toNat % 3) 0 hg ?_|refine ZA 2 [BiX _ _] [(0,0),(1,0),(2,0),(3,0),(4,0),(5,0),(6,4),(7,1),(8,4)] [] ?_|refine ZA 4 [MdP _ _ _ _,BiX _ _,FlX _ _,CM _ _ _,Pt _ (.cells #[.string _,.int .i64 _,.string _,.int .i64 _,.int .i64 _] _)] [(0,0),(2,0),(3,0),(4,0),(7,0),(8,0),(1,4),(5,0),(6,3),(9,4),(10,0),(11,0),(12,0),(13,0),(14,4),(15,0),(16,4)] [] ?_|fail)
 rename_i x hx
 exact ZK x rfl hx
theorem do27_ok (o:Op7) (hot:o.t.size≤500) (hD:DoH q bs fs m) :
  Enters 48∧Spec prog 48 #[.pointer (some ⟨bm,0,none⟩),o.v] [] (MoL bm q bs fs m)
   ⟨Mq×Nat,fun _=>(mDoR bs fs m o).v,fun x=>x.1.OK (mDoB bs m o).length (mDoF bs fs o x.2).length,fun _=>[],fun x=>MoL bm x.1 (mDoB bs m o) (mDoF bs fs o x.2) (mDoM bs m o)⟩:=by
 have h:=Nat.mod_lt o.k.toNat (show 0<6 by decide)
 rcases (show o.k.toNat % 6=0∨o.k.toNat % 6=1∨o.k.toNat % 6=2∨o.k.toNat % 6=3∨o.k.toNat % 6=4∨o.k.toNat % 6=5 by omega) with h|h|h|h|h|h
 ·exact do27_0 bm q bs fs m o h hot hD
 ·exact do27_1 bm q bs fs m o h hot hD
 ·exact do27_2 bm q bs fs m o h hot hD
 ·exact do27_3 bm q bs fs m o h hot hD
 ·exact do27_4 bm q bs fs m o h hot hD
 ·exact do27_5 bm q bs fs m o h hot hD
end
section
variable (vb:Nat) (ps:Option Addr) (es:Al) (q:Mq) (bs:List Bi)
set_option maxHeartbeats 4000000 in
theorem perf27_0 (o:Op7) (hk:o.k.toNat % 6=0) (hot:o.t.size≤500∧∀b ∈ bs,b.mkr.size≤3) (hS:∀n,(vget es [] n).1.size≤65536) :
  Enters 20∧Spec prog 20 #[.pointer (some ⟨vb,0,none⟩),.slice (some ⟨q.bb,0,none⟩) bs.length q.cb,o.v] [St ps es,Usg] [Vw vb ps [] [],BiX q bs]
   ⟨Unit,fun _=>((qOp bs o).run es []).1.v,fun _=>True,fun _=>[],fun _=>[Vw vb ps (rsq es ((qOp bs o).run es []).2.1 []) ((qOp bs o).run es []).2.2,BiX q bs]⟩:=by
 have hO:qOp bs o=(qRead (bthF bs o.w) o.f o.c).bind fun r=>.ret ⟨r.1,0,Bi.z,r.2⟩:=by unfold qOp;rw [if_pos hk]
 rw [hO,run_bind]
 simp only [run,List.append_nil]
 clear hO
 obtain ⟨hot,hbs⟩:=hot
 obtain ⟨ok,ow,of,oc,ot,⟨a1,a2,a3,a4,a5,a6,a7⟩⟩:=o
 dsimp only at *
 have hbz:=Zu hbs ow
 have n1:=Zp q bs ow
 have t1:=Yk ok 0 hk
 have w1:=YA (z:=((0:Nat):Int)) (by omega)
 generalize hBI:bthF bs ow=BI at *
 have n2:=Ub vb ps es [] [] BI of oc hbz hS
 generalize (qRead BI of oc).run es []=G at *
 obtain ⟨g1,g2⟩:=BI
 simp only [Op7.v,Rz7.v,Bi.v,Bi.z] at *
 refine ZM [_,_,_] func20 ntmps20 fun G w hp=>?_
 repeat' (first|refine ZE ?_|refine ZD ?_|refine ZF ?_|refine ZS ?_|refine ZV ?_|refine ZR (fun b=>?_)|refine ZH ?_|refine ZC (n1) (fun _ _=>?_)|refine ZC (n2) (fun _ _=>?_)|rw [t1]|fail)
 exact ZK () rfl trivial
set_option maxHeartbeats 4000000 in
theorem perf27_1 (o:Op7) (hk:o.k.toNat % 6=1) (hot:o.t.size≤500∧∀b ∈ bs,b.mkr.size≤3) (hS:∀n,(vget es [] n).1.size≤65536) :
  Enters 20∧Spec prog 20 #[.pointer (some ⟨vb,0,none⟩),.slice (some ⟨q.bb,0,none⟩) bs.length q.cb,o.v] [St ps es,Usg] [Vw vb ps [] [],BiX q bs]
   ⟨Unit,fun _=>((qOp bs o).run es []).1.v,fun _=>True,fun _=>[],fun _=>[Vw vb ps (rsq es ((qOp bs o).run es []).2.1 []) ((qOp bs o).run es []).2.2,BiX q bs]⟩:=by
 have hO:qOp bs o=(qWrite (bthF bs o.w) o.f o.t).bind fun r=>.ret ⟨⟨#[]⟩,r.1,Bi.z,r.2⟩:=by unfold qOp;rw [if_neg (show ¬o.k.toNat % 6=0 by omega),if_pos hk]
 rw [hO,run_bind]
 simp only [run,List.append_nil]
 clear hO
 obtain ⟨hot,hbs⟩:=hot
 obtain ⟨ok,ow,of,oc,ot,⟨a1,a2,a3,a4,a5,a6,a7⟩⟩:=o
 dsimp only at *
 have hbz:=Zu hbs ow
 have n1:=Zp q bs ow
 have t1:=Yk ok 1 hk
 have w1:=YA (z:=((1:Nat):Int)) (by omega)
 generalize hBI:bthF bs ow=BI at *
 have n2:=writeG_ok vb ps es [] [] BI of ot hbz (by omega) (by simp) hS
 generalize (qWrite BI of ot).run es []=G at *
 obtain ⟨g1,g2⟩:=BI
 simp only [Op7.v,Rz7.v,Bi.v,Bi.z] at *
 refine ZM [_,_,_] func20 ntmps20 fun G w hp=>?_
 repeat' (first|refine ZE ?_|refine ZD ?_|refine ZF ?_|refine ZS ?_|refine ZV ?_|refine ZR (fun b=>?_)|refine ZH ?_|refine ZB ?_|refine ZC (n1) (fun _ _=>?_)|refine ZC (n2) (fun _ _=>?_)|rw [t1]|fail)
 exact ZK () rfl trivial
set_option maxHeartbeats 4000000 in
theorem perf27_2 (o:Op7) (hk:o.k.toNat % 6=2) (hot:o.t.size≤500∧∀b ∈ bs,b.mkr.size≤3) (hS:∀n,(vget es [] n).1.size≤65536) :
  Enters 20∧Spec prog 20 #[.pointer (some ⟨vb,0,none⟩),.slice (some ⟨q.bb,0,none⟩) bs.length q.cb,o.v] [St ps es,Usg] [Vw vb ps [] [],BiX q bs]
   ⟨Unit,fun _=>((qOp bs o).run es []).1.v,fun _=>True,fun _=>[],fun _=>[Vw vb ps (rsq es ((qOp bs o).run es []).2.1 []) ((qOp bs o).run es []).2.2,BiX q bs]⟩:=by
 have hO:qOp bs o=(qResize (bthF bs o.w) o.c).bind fun r=>.ret ⟨⟨#[]⟩,0,Bi.z,r⟩:=by unfold qOp;rw [if_neg (show ¬o.k.toNat % 6=0 by omega),if_neg (show ¬o.k.toNat % 6=1 by omega),if_pos hk]
 rw [hO,run_bind]
 simp only [run,List.append_nil]
 clear hO
 obtain ⟨hot,hbs⟩:=hot
 obtain ⟨ok,ow,of,oc,ot,⟨a1,a2,a3,a4,a5,a6,a7⟩⟩:=o
 dsimp only at *
 have hbz:=Zu hbs ow
 have n1:=Zp q bs ow
 have t1:=Yk ok 2 hk
 have w1:=YA (z:=((2:Nat):Int)) (by omega)
 generalize hBI:bthF bs ow=BI at *
 have n2:=resizeG_ok vb ps es [] [] BI oc hbz (by simp) hS
 generalize (qResize BI oc).run es []=G at *
 obtain ⟨g1,g2⟩:=BI
 simp only [Op7.v,Rz7.v,Bi.v,Bi.z] at *
 refine ZM [_,_,_] func20 ntmps20 fun G w hp=>?_
 repeat' (first|refine ZE ?_|refine ZD ?_|refine ZF ?_|refine ZS ?_|refine ZV ?_|refine ZR (fun b=>?_)|refine ZH ?_|refine ZB ?_|refine ZC (n1) (fun _ _=>?_)|refine ZC (n2) (fun _ _=>?_)|rw [t1]|fail)
 exact ZK () rfl trivial
set_option maxHeartbeats 4000000 in
theorem perf27_3 (o:Op7) (hk:o.k.toNat % 6=3) (hot:o.t.size≤500∧∀b ∈ bs,b.mkr.size≤3) (hS:∀n,(vget es [] n).1.size≤65536) :
  Enters 20∧Spec prog 20 #[.pointer (some ⟨vb,0,none⟩),.slice (some ⟨q.bb,0,none⟩) bs.length q.cb,o.v] [St ps es,Usg] [Vw vb ps [] [],BiX q bs]
   ⟨Unit,fun _=>((qOp bs o).run es []).1.v,fun _=>True,fun _=>[],fun _=>[Vw vb ps (rsq es ((qOp bs o).run es []).2.1 []) ((qOp bs o).run es []).2.2,BiX q bs]⟩:=by
 have hO:qOp bs o=(qSet (bthF bs o.w) o.n).bind fun r=>.ret ⟨⟨#[]⟩,0,Bi.z,r⟩:=by unfold qOp;rw [if_neg (show ¬o.k.toNat % 6=0 by omega),if_neg (show ¬o.k.toNat % 6=1 by omega),if_neg (show ¬o.k.toNat % 6=2 by omega),if_pos hk]
 rw [hO,run_bind]
 simp only [run,List.append_nil]
 clear hO
 obtain ⟨hot,hbs⟩:=hot
 obtain ⟨ok,ow,of,oc,ot,⟨a1,a2,a3,a4,a5,a6,a7⟩⟩:=o
 dsimp only at *
 have hbz:=Zu hbs ow
 have n1:=Zp q bs ow
 have t1:=Yk ok 3 hk
 have w1:=YA (z:=((3:Nat):Int)) (by omega)
 generalize hBI:bthF bs ow=BI at *
 have n2:=inoSetG_ok vb ps es [] [] BI ⟨a1,a2,a3,a4,a5,a6,a7⟩ hbz (by simp) hS
 generalize (qSet BI ⟨a1,a2,a3,a4,a5,a6,a7⟩).run es []=G at *
 obtain ⟨g1,g2⟩:=BI
 simp only [Op7.v,Rz7.v,Bi.v,Bi.z,Ino.v] at *
 refine ZM [_,_,_] func20 ntmps20 fun G w hp=>?_
 repeat' (first|refine ZE ?_|refine ZD ?_|refine ZF ?_|refine ZS ?_|refine ZV ?_|refine ZR (fun b=>?_)|refine ZH ?_|refine ZB ?_|refine ZC (n1) (fun _ _=>?_)|refine ZC (n2) (fun _ _=>?_)|rw [t1]|fail)
 exact ZK () rfl trivial
set_option maxHeartbeats 4000000 in
theorem perf27_4 (o:Op7) (hk:o.k.toNat % 6=4) (hot:o.t.size≤500∧∀b ∈ bs,b.mkr.size≤3) (hS:∀n,(vget es [] n).1.size≤65536) :
  Enters 20∧Spec prog 20 #[.pointer (some ⟨vb,0,none⟩),.slice (some ⟨q.bb,0,none⟩) bs.length q.cb,o.v] [St ps es,Usg] [Vw vb ps [] [],BiX q bs]
   ⟨Unit,fun _=>((qOp bs o).run es []).1.v,fun _=>True,fun _=>[],fun _=>[Vw vb ps (rsq es ((qOp bs o).run es []).2.1 []) ((qOp bs o).run es []).2.2,BiX q bs]⟩:=by
 have hO:qOp bs o=(qRead (bthF bs o.w) 0 4096).bind fun r=>.ret ⟨r.1,0,Bi.z,r.2⟩:=by unfold qOp;rw [if_neg (show ¬o.k.toNat % 6=0 by omega),if_neg (show ¬o.k.toNat % 6=1 by omega),if_neg (show ¬o.k.toNat % 6=2 by omega),if_neg (show ¬o.k.toNat % 6=3 by omega),if_pos hk]
 rw [hO,run_bind]
 simp only [run,List.append_nil]
 clear hO
 obtain ⟨hot,hbs⟩:=hot
 obtain ⟨ok,ow,of,oc,ot,⟨a1,a2,a3,a4,a5,a6,a7⟩⟩:=o
 dsimp only at *
 have hbz:=Zu hbs ow
 have n1:=Zp q bs ow
 have t1:=Yk ok 4 hk
 have w1:=YA (z:=((4:Nat):Int)) (by omega)
 generalize hBI:bthF bs ow=BI at *
 have n2:=Um vb ps es [] [] BI hbz hS
 generalize (qRead BI 0 4096).run es []=G at *
 obtain ⟨g1,g2⟩:=BI
 simp only [Op7.v,Rz7.v,Bi.v,Bi.z] at *
 refine ZM [_,_,_] func20 ntmps20 fun G w hp=>?_
 repeat' (first|refine ZE ?_|refine ZD ?_|refine ZF ?_|refine ZS ?_|refine ZV ?_|refine ZR (fun b=>?_)|refine ZH ?_|refine ZB ?_|refine ZC (n1) (fun _ _=>?_)|refine ZC (n2) (fun _ _=>?_)|rw [t1]|fail)
 exact ZK () rfl trivial
set_option maxHeartbeats 4000000 in
theorem perf27_5 (o:Op7) (hk:o.k.toNat % 6=5) (hot:o.t.size≤500∧∀b ∈ bs,b.mkr.size≤3) (hS:∀n,(vget es [] n).1.size≤65536) :
  Enters 20∧Spec prog 20 #[.pointer (some ⟨vb,0,none⟩),.slice (some ⟨q.bb,0,none⟩) bs.length q.cb,o.v] [St ps es,Usg] [Vw vb ps [] [],BiX q bs]
   ⟨Unit,fun _=>((qOp bs o).run es []).1.v,fun _=>True,fun _=>[],fun _=>[Vw vb ps (rsq es ((qOp bs o).run es []).2.1 []) ((qOp bs o).run es []).2.2,BiX q bs]⟩:=by
 have hO:qOp bs o=(qMake (Zg (o.w.toNat % 3)) o.n).bind fun r=>.ret ⟨⟨#[]⟩,0,r.1,r.2⟩:=by unfold qOp;rw [if_neg (show ¬o.k.toNat % 6=0 by omega),if_neg (show ¬o.k.toNat % 6=1 by omega),if_neg (show ¬o.k.toNat % 6=2 by omega),if_neg (show ¬o.k.toNat % 6=3 by omega),if_neg (show ¬o.k.toNat % 6=4 by omega)]
 rw [hO,run_bind]
 simp only [run,List.append_nil]
 clear hO
 obtain ⟨hot,hbs⟩:=hot
 obtain ⟨ok,ow,of,oc,ot,⟨a1,a2,a3,a4,a5,a6,a7⟩⟩:=o
 dsimp only at *
 have hbz:=Zu hbs ow
 have n1:=Zp q bs ow
 have t1:=Yk ok 5 hk
 have w1:=YA (z:=((5:Nat):Int)) (by omega)
 have hw3:ow.toNat % 3<3:=by omega
 have t3:=tmod3 ow
 have w3:=YA (z:=((ow.toNat % 3:Nat):Int)) (by omega)
 have hg:=WW hw3
 generalize hBI:bthF bs ow=BI at *
 have n2:=makeG_ok vb ps es [] [] (Zg (ow.toNat % 3)) ⟨a1,a2,a3,a4,a5,a6,a7⟩ (by have:=XD (ow.toNat % 3);omega) (by simp) hS
 generalize (qMake (Zg (ow.toNat % 3)) ⟨a1,a2,a3,a4,a5,a6,a7⟩).run es []=G at *
 obtain ⟨g1,g2⟩:=BI
 simp only [Op7.v,Rz7.v,Bi.v,Ino.v] at *
 refine ZM [_,_,_] func20 ntmps20 fun G w hp=>?_
 repeat' (first|refine ZE ?_|refine ZD ?_|refine ZF ?_|refine ZS ?_|refine ZV ?_|refine ZR (fun b=>?_)|refine ZB ?_|refine ZT ?_|refine Zf ?_|refine Zk ?_|refine ZU ?_|refine ZC (n1) (fun _ _=>?_)|refine ZN (n2) (fun _ _=>?_)|refine ZN (Xz) (fun _ _=>?_)|rw [t1]|rw [t3]|refine r_ixK7 (m:=3) (ow.toNat % 3) hw3 ?_|refine Ze 1 (ow.toNat % 3) 0 hg ?_|refine ZA 4 [Vw _ _ _ _,Pt _ (.cells #[.string _,.int .i64 _,.string _,.int .i64 _,.int .i64 _] _)] [(0,0),(2,0),(3,0),(4,0),(7,0),(8,0),(1,4),(5,0),(6,3),(9,4),(10,0),(11,0),(12,0),(13,0),(14,4),(15,0),(16,4)] [] ?_|fail)
 exact ZK () rfl trivial
theorem perf27_ok (o:Op7) (hot:o.t.size≤500∧∀b ∈ bs,b.mkr.size≤3) (hS:∀n,(vget es [] n).1.size≤65536) :
  Enters 20∧Spec prog 20 #[.pointer (some ⟨vb,0,none⟩),.slice (some ⟨q.bb,0,none⟩) bs.length q.cb,o.v] [St ps es,Usg] [Vw vb ps [] [],BiX q bs]
   ⟨Unit,fun _=>((qOp bs o).run es []).1.v,fun _=>True,fun _=>[],fun _=>[Vw vb ps (rsq es ((qOp bs o).run es []).2.1 []) ((qOp bs o).run es []).2.2,BiX q bs]⟩:=by
 have h:=Nat.mod_lt o.k.toNat (show 0<6 by decide)
 rcases (show o.k.toNat % 6=0∨o.k.toNat % 6=1∨o.k.toNat % 6=2∨o.k.toNat % 6=3∨o.k.toNat % 6=4∨o.k.toNat % 6=5 by omega) with h|h|h|h|h|h
 ·exact perf27_0 vb ps es q bs o h hot hS
 ·exact perf27_1 vb ps es q bs o h hot hS
 ·exact perf27_2 vb ps es q bs o h hot hS
 ·exact perf27_3 vb ps es q bs o h hot hS
 ·exact perf27_4 vb ps es q bs o h hot hS
 ·exact perf27_5 vb ps es q bs o h hot hS
end
end
theorem XK {es:Al} {cs:List Ch} {c:Ch} {n:Nm} (h:c.nm≠n):vget es (cs++[c]) n=vget es cs n:=by
 unfold vget
 rw [YT,if_neg h]
theorem vg_eq {es:Al} {cs:List Ch} {c:Ch} {n:Nm} (h:c.nm=n) (hn:nchk n=0):vget es (cs++[c]) n=(c.val,!c.abs):=by
 unfold vget
 rw [if_neg (by rw [hn];simp),YT,if_pos h]
theorem Xf {bi:Bi} {i j:Nat} (h:bnm bi (i:Int)=bnm bi (j:Int)):i=j:=by
 simp only [bnm,Nm.mk.injEq] at h;omega
theorem XS {a b:Bi} {i:Int}:bnm a i≠nnm b:=by simp [bnm,nnm]
theorem VJ {a b:Bi} {i:Int}:nnm b≠bnm a i:=by simp [bnm,nnm]
def fb (es:Al) (cs:List Ch) (bi:Bi) (k:Nat):UInt8:=(Yg (vget es cs (bnm bi ((k / 64:Nat):Int))).1).getD (k % 64) 0
structure FOK (es:Al) (cs:List Ch) (bi:Bi) (w:ByteArray):Prop where
 nd:∃nd:Ino,ichk nd=0∧nd.kd=1∧nd.sz=(w.size:Int)∧vget es cs (nnm bi)=(iencS nd,true)
 le:w.size≤4096
 b:∀k,k<4096→fb es cs bi k=w.data.toList.getD k 0
 e:∀j:Nat,j<64→(vget es cs (bnm bi (j:Int))).2=false→(vget es cs (bnm bi (j:Int))).1=⟨#[]⟩
section
variable {bi:Bi} {w:ByteArray}
theorem FOK.file (h:FOK es cs bi w) (hb:bchk bi=0):(ifile es cs bi).2=0∧(ifile es cs bi).1.sz=(w.size:Int)∧(vget es cs (nnm bi)).1.size≤1099511627776:=by
 obtain ⟨nd,h1,h2,h3,h4⟩:=h.nd
 obtain ⟨_,g2⟩:=Yo hb h4 h1 h2
 rw [g2,h4]
 have:=Zw nd
 exact ⟨rfl,h3,by dsimp only;omega⟩
theorem Y3 {α:Type} (a b:List α) (j:Nat) (d:α):(a++b).getD j d=if j<a.length then a.getD j d else b.getD (j - a.length) d:=by
 split
 ·rename_i h;rw [List.getD_eq_getElem?_getD,List.getD_eq_getElem?_getD,List.getElem?_append_left h]
 ·rename_i h;rw [List.getD_eq_getElem?_getD,List.getD_eq_getElem?_getD,List.getElem?_append_right (by omega)]
theorem Yq {α:Type} (a:List α) (m j:Nat) (d:α) (h:j<m):(a.take m).getD j d=a.getD j d:=by
 rw [List.getD_eq_getElem?_getD,List.getD_eq_getElem?_getD,List.getElem?_take,if_pos h]
theorem WE {α:Type} (a:List α) (m j:Nat) (d:α):(a.drop m).getD j d=a.getD (m+j) d:=by
 rw [List.getD_eq_getElem?_getD,List.getD_eq_getElem?_getD,List.getElem?_drop]
theorem WF {α:Type} (a:List α) (j:Nat) (d:α) (h:a.length≤j):a.getD j d=d:=by
 rw [List.getD_eq_getElem?_getD,List.getElem?_eq_none h];rfl
theorem Xa {α:Type} (m j:Nat) (d:α):(List.replicate m d).getD j d=d:=by
 rw [List.getD_eq_getElem?_getD,List.getElem?_replicate];split<;>rfl
theorem cpy_getD {L:List UInt8} {off dl:Nat} {s:ByteArray} (h1:dl≤s.size) (h2:off+dl≤L.length) (j:Nat):(cpy L off s dl).getD j 0=if off≤j∧j<off+dl then s.data.toList.getD (j - off) 0 else L.getD j 0:=by
 have hs:s.data.toList.length=s.size:=by simp
 have hm:min s.size dl=dl:=by omega
 have l1:(L.take off).length=off:=by simp;omega
 have l2:(s.data.toList.take dl).length=dl:=by simp;omega
 rw [cpy,hm,Y3,Y3,List.length_append,l1,l2,WE]
 by_cases h3:j<off
 ·rw [if_pos (by omega),if_pos h3,if_neg (by omega),Yq _ _ _ _ h3]
 ·by_cases h4:j<off+dl
  ·rw [if_pos h4,if_neg h3,if_pos ⟨by omega,h4⟩,Yq _ _ _ _ (by omega)]
  ·rw [if_neg h4,if_neg (by omega)]
   congr 1;omega
theorem pad64_full {s:ByteArray} (h:s.size=64):Yg s=s.data.toList:=by
 have hs:s.data.toList.length=s.size:=by simp
 have h2:min s.size 64=64:=by omega
 have h3:(List.replicate 64 (0:UInt8)).drop (0+64)=[]:=by rw [List.drop_eq_nil_iff];simp
 rw [Yg,cpy,h2,h3,List.take_zero,List.take_of_length_le (l:=s.data.toList) (by omega),List.append_nil,List.nil_append]
theorem VA:Yg ⟨#[]⟩=List.replicate 64 0:=by
 unfold Yg cpy
 have:(⟨#[]⟩:ByteArray).size=0:=rfl
 rw [this];simp
theorem rdB_pts:∀(k f t:Nat),t - f≤k→rdB es cs bi (pts f t)=(List.range' f (t - f)).map (fb es cs bi)
 | 0,f,t,hk=>by
  rw [pts,if_neg (by omega),show t - f=0 by omega];rfl
 | k+1,f,t,hk=>by
  rw [pts]
  split
  ·rename_i hlt
   have ih:=rdB_pts k (min t (f / 64 * 64+64)) t (by omega)
   have e1:∀p l,rdB es cs bi (p::l)=rdS es cs bi p++rdB es cs bi l:=fun p l=>by simp [rdB]
   rw [e1,ih]
   have e2:t - f=(min t (f / 64 * 64+64) - f)+(t - min t (f / 64 * 64+64)):=by omega
   have e3:List.range' f (t - f)=List.range' f (min t (f / 64 * 64+64) - f)++List.range' (min t (f / 64 * 64+64)) (t - min t (f / 64 * 64+64)):=by
    rw [e2,←List.range'_append_1,show f+(min t (f / 64 * 64+64) - f)=min t (f / 64 * 64+64) by omega]
   rw [e3,List.map_append]
   congr 1
   have hp:=Ya (vget es cs (bnm bi ((f / 64:Nat):Int))).1
   refine List.ext_getElem ?_ fun j h1 h2=>?_
   ·rw [rdS_len (by dsimp only;omega)];simp;omega
   ·simp only [List.length_map,List.length_range'] at h2
    simp only [rdS,List.getElem_take,List.getElem_drop,List.getElem_map,List.getElem_range',fb]
    have a1:(f+1 * j) / 64=f / 64:=by omega
    have a2:(f+1 * j) % 64=f - f / 64 * 64+j:=by omega
    rw [a1,a2,List.getD_eq_getElem?_getD,List.getElem?_eq_getElem (by rw [hp];omega)]
    rfl
  ·rw [show t - f=0 by omega];rfl
theorem FOK.read (h:FOK es cs bi w):(⟨(rdB es cs bi (pts 0 w.size)).toArray⟩:ByteArray)=w:=by
 have hs:w.data.toList.length=w.size:=by simp
 have h1:rdB es cs bi (pts 0 w.size)=w.data.toList:=by
  rw [rdB_pts w.size 0 w.size (by omega)]
  refine List.ext_getElem (by simp) fun j h1 h2=>?_
  simp only [List.length_map,List.length_range'] at h1
  have:=h.le
  simp only [List.getElem_map,List.getElem_range']
  rw [h.b _ (by omega),List.getD_eq_getElem?_getD,List.getElem?_eq_getElem (by rw [hs];omega)]
  simp
 rw [h1]
theorem ext_drop (s:ByteArray) (a:Nat):(s.extract a s.size).data.toList=s.data.toList.drop a:=by
 have hs:s.data.size=s.size:=rfl
 rw [ByteArray.data_extract,Array.toList_extract,List.extract_eq_take_drop,List.take_of_length_le (by simp [hs])]
theorem wnew_getD {f:Nat} {s:ByteArray} {p:Pp} (h1:f≤p.bl * 64+p.fr) (h2:p.fr<p.to) (h3:p.to≤64) (h4:p.bl * 64+p.to≤f+s.size) (j:Nat) (hj:j<64) :
  (wnew es cs bi f s p).getD j 0=if p.fr≤j∧j<p.to then s.data.toList.getD (p.bl * 64+j - f) 0 else (Yg (vget es cs (bnm bi p.bl)).1).getD j 0:=by
 have hp:=Ya (vget es cs (bnm bi p.bl)).1
 have hx:(s.extract (p.bl * 64+p.fr - f) s.size).size=s.size - (p.bl * 64+p.fr - f):=by rw [ByteArray.size_extract];omega
 unfold wnew
 by_cases hf:p.to - p.fr<64
 ·rw [if_pos hf,cpy_getD (by rw [hx];omega) (by rw [hp];omega)]
  by_cases hr:p.fr≤j∧j<p.to
  ·rw [if_pos (by omega),if_pos hr,ext_drop,WE]
   congr 1;omega
  ·rw [if_neg (by omega),if_neg hr]
 ·rw [if_neg hf,cpy_getD (by rw [hx];omega) (by simp;omega),if_pos (by omega),if_pos (by omega),ext_drop,WE]
  congr 1;omega
theorem fb_step {f:Nat} {s:ByteArray} {q:List (Nm×Ch)×List Ch} {p:Pp} (hb:bchk bi=0) (h1:f≤p.bl * 64+p.fr) (h2:p.fr<p.to) (h3:p.to≤64) (h4:p.bl * 64+p.to≤f+s.size) (hbl:p.bl<64) (k:Nat) :
  fb es (wstep es bi f s q p).2 bi k=if p.bl * 64+p.fr≤k∧k<p.bl * 64+p.to then s.data.toList.getD (k - f) 0 else fb es q.2 bi k:=by
 have hst:(wstep es bi f s q p).2=q.2++[⟨bnm bi p.bl,⟨(wnew es q.2 bi f s p).toArray⟩,false⟩]:=rfl
 rw [hst]
 have hl:=WB (es:=es) (cs:=q.2) (bi:=bi) (f:=f) (s:=s) (p:=p) (by omega)
 by_cases hkb:k / 64=p.bl
 ·have hv:vget es (q.2++[⟨bnm bi p.bl,⟨(wnew es q.2 bi f s p).toArray⟩,false⟩]) (bnm bi ((k / 64:Nat):Int))=(⟨(wnew es q.2 bi f s p).toArray⟩,true):=vg_eq (by rw [hkb]) (YJ hb (by omega))
  unfold fb
  rw [hv,pad64_full (by show (List.toArray _).size=64;rw [List.size_toArray,hl])]
  show (wnew es q.2 bi f s p).getD (k % 64) 0=_
  rw [wnew_getD h1 h2 h3 h4 _ (by omega),hkb]
  by_cases hr:p.fr≤k % 64∧k % 64<p.to
  ·rw [if_pos hr,if_pos (by omega)]
   congr 1;omega
  ·rw [if_neg hr,if_neg (by omega)]
 ·unfold fb
  rw [XK (fun e=>hkb (Xf e).symm),if_neg (by omega)]
theorem fb_fold {f:Nat} {s:ByteArray} (hb:bchk bi=0):∀(n a t:Nat),t - a≤n→f≤a→t≤4096→t≤f+s.size→∀(q:List (Nm×Ch)×List Ch) (k:Nat),k<4096→
  fb es (wfold es bi f s q (pts a t)).2 bi k=if a≤k∧k<t then s.data.toList.getD (k - f) 0 else fb es q.2 bi k
 | 0,a,t,hn,_,_,_,q,k,hk=>by
  rw [pts,if_neg (by omega),if_neg (by omega)];rfl
 | n+1,a,t,hn,ha,ht,hs,q,k,hk=>by
  rw [pts]
  split
  ·rename_i hlt
   show fb es (wfold es bi f s (wstep es bi f s q ⟨a / 64,a - a / 64 * 64,min t (a / 64 * 64+64) - a / 64 * 64⟩) (pts (min t (a / 64 * 64+64)) t)).2 bi k=_
   rw [fb_fold hb n (min t (a / 64 * 64+64)) t (by omega) (by omega) ht hs _ k hk,fb_step hb (by dsimp only;omega) (by dsimp only;omega) (by dsimp only;omega) (by dsimp only;omega) (by dsimp only;omega) k]
   dsimp only
   by_cases h1:min t (a / 64 * 64+64)≤k∧k<t
   ·rw [if_pos h1,if_pos (by omega)]
   ·rw [if_neg h1]
    by_cases h2:a≤k∧k<t
    ·rw [if_pos h2,if_pos (by omega)]
    ·rw [if_neg h2,if_neg (by omega)]
  ·rw [if_neg (by omega)];rfl
theorem vg_fold {f:Nat} {s:ByteArray}:∀(l:List Pp) (q:List (Nm×Ch)×List Ch),vget es (wfold es bi f s q l).2 (nnm bi)=vget es q.2 (nnm bi)
 | [],_=>rfl
 | p::l,q=>by
  show vget es (wfold es bi f s (wstep es bi f s q p) l).2 (nnm bi)=_
  rw [vg_fold l]
  exact XK XS
theorem ve_fold {f:Nat} {s:ByteArray} (hb:bchk bi=0) (j:Nat) (hj:j<64):∀(l:List Pp) (q:List (Nm×Ch)×List Ch),((vget es q.2 (bnm bi (j:Int))).2=false→(vget es q.2 (bnm bi (j:Int))).1=⟨#[]⟩)→(vget es (wfold es bi f s q l).2 (bnm bi (j:Int))).2=false→(vget es (wfold es bi f s q l).2 (bnm bi (j:Int))).1=⟨#[]⟩
 | [],_,h=>h
 | p::l,q,h=>by
  show (vget es (wfold es bi f s (wstep es bi f s q p) l).2 (bnm bi (j:Int))).2=false→_
  refine ve_fold hb j hj l _ ?_
  have hst:(wstep es bi f s q p).2=q.2++[⟨bnm bi p.bl,⟨(wnew es q.2 bi f s p).toArray⟩,false⟩]:=rfl
  rw [hst]
  by_cases hp:bnm bi (p.bl:Int)=bnm bi (j:Int)
  ·rw [vg_eq hp (YJ hb (by omega))]
   intro h;cases h
  ·rw [XK hp];exact h
theorem FOK.write (h:FOK es cs bi w) (hb:bchk bi=0) {f:Nat} {s w':ByteArray} (hf:f≤4096) (rs:List (Nm×Ch)) (hsz:w'.size=if min s.size (4096 - f)=0 then w.size else max w.size (f+min s.size (4096 - f)))
  (hg:∀k,k<4096→w'.data.toList.getD k 0=if f≤k∧k<f+min s.size (4096 - f) then s.data.toList.getD (k - f) 0 else w.data.toList.getD k 0):FOK es ((iwQ es rs cs bi f s).2++iwN es cs bi f s) bi w':=by
 obtain ⟨nd,h1,h2,h3,h4⟩:=h.nd
 have hle:=h.le
 obtain ⟨_,hif⟩:=Yo hb h4 h1 h2
 have hN:∀c ∈ iwN es cs bi f s,c.nm=nnm bi:=fun c hc=>by
  unfold iwN at hc
  split at hc
  ·rw [List.mem_singleton.1 hc]
  ·cases hc
 have hq:iwQ es rs cs bi f s=wfold es bi f s (igetR es rs cs bi,cs) (pts f (f+min s.size (4096 - f))):=rfl
 have hb1:∀j:Nat,vget es ((iwQ es rs cs bi f s).2++iwN es cs bi f s) (bnm bi (j:Int))=vget es (iwQ es rs cs bi f s).2 (bnm bi (j:Int)):=fun j=>by
  unfold iwN
  split
  ·exact XK VJ
  ·rw [List.append_nil]
 generalize hn:min s.size (4096 - f)=n at *
 refine ⟨?_,?_,fun k hk=>?_,fun j hj=>?_⟩
 ·by_cases hw:0<n∧nd.sz<((f+n:Nat):Int)
  ·have e1:iwN es cs bi f s=[⟨nnm bi,iencS {nd with sz:=((f+n:Nat):Int)},false⟩]:=by
    unfold iwN
    rw [hn,hif,if_pos hw]
   refine ⟨{nd with sz:=((f+n:Nat):Int)},XR h1 (by omega) (by omega) (by omega),h2,?_,?_⟩
   ·show ((f+n:Nat):Int)=_
    rw [hsz,if_neg (by omega)];omega
   ·rw [e1];exact YQ (Zx hb)
  ·have e1:iwN es cs bi f s=[]:=by
    unfold iwN
    rw [hn,hif,if_neg hw]
   refine ⟨nd,h1,h2,?_,?_⟩
   ·rw [h3,hsz]
    split
    ·rfl
    ·omega
   ·rw [e1,List.append_nil,hq,vg_fold];exact h4
 ·rw [hsz];split<;>omega
 ·have e1:fb es ((iwQ es rs cs bi f s).2++iwN es cs bi f s) bi k=fb es (iwQ es rs cs bi f s).2 bi k:=by
   unfold fb;rw [hb1]
  rw [e1,hq,fb_fold hb (f+n - f) f (f+n) (Nat.le_refl _) (Nat.le_refl _) (by omega) (by omega) _ k hk,hg k hk]
  split
  ·rfl
  ·exact h.b k hk
 ·rw [hb1,hq]
  exact ve_fold hb j hj _ _ (h.e j hj)
theorem vg_dls (hb:bchk bi=0) (a:Nat):∀(k j:Nat),j<64→vget es (cs++dls bi a k) (bnm bi (j:Int))=if a≤j∧j<a+k then (⟨#[]⟩,false) else vget es cs (bnm bi (j:Int))
 | 0,j,_=>by
  rw [if_neg (by omega)]
  simp [dls]
 | k+1,j,hj=>by
  rw [dls_snoc,←List.append_assoc]
  by_cases h:j=a+k
  ·subst h
   rw [vg_eq rfl (YJ hb (by omega)),if_pos (by omega)];rfl
  ·rw [XK (fun e=>h (Xf e).symm),vg_dls hb a k j hj]
   by_cases h2:a≤j∧j<a+k
   ·rw [if_pos h2,if_pos (by omega)]
   ·rw [if_neg h2,if_neg (by omega)]
theorem FOK.cut (h:FOK es cs bi w) (hb:bchk bi=0) {n:Nat} (hn:n<w.size):(∀k,k<4096→fb es (cutC es cs bi n w.size) bi k=if k<n then w.data.toList.getD k 0 else 0)∧
  (∀j:Nat,j<64→(vget es (cutC es cs bi n w.size) (bnm bi (j:Int))).2=false→(vget es (cutC es cs bi n w.size) (bnm bi (j:Int))).1=⟨#[]⟩):=by
 have hle:=h.le
 have hs:w.data.toList.length=w.size:=by simp
 have hD:∀j:Nat,j<64→vget es (cutD cs bi n w.size) (bnm bi (j:Int))=if (n+63) / 64≤j∧j<(w.size+63) / 64 then (⟨#[]⟩,false) else vget es cs (bnm bi (j:Int)):=fun j hj=>by
  rw [cutD,vg_dls hb _ _ j hj]
  congr 1
  rw [eq_iff_iff];omega
 have hDe:∀j:Nat,j<64→(vget es (cutD cs bi n w.size) (bnm bi (j:Int))).2=false→(vget es (cutD cs bi n w.size) (bnm bi (j:Int))).1=⟨#[]⟩:=fun j hj=>by
  rw [hD j hj]
  split
  ·intro _;rfl
  ·exact h.e j hj
 have hDb:∀k,k<4096→fb es (cutD cs bi n w.size) bi k=if (n+63) / 64≤k / 64 then 0 else w.data.toList.getD k 0:=fun k hk=>by
  unfold fb
  rw [hD (k / 64) (by omega)]
  by_cases h1:(n+63) / 64≤k / 64
  ·rw [if_pos h1]
   by_cases h2:k / 64<(w.size+63) / 64
   ·rw [if_pos ⟨h1,h2⟩,VA,Xa]
   ·rw [if_neg (by omega)]
    have:=h.b k hk
    unfold fb at this
    rw [this,WF _ _ _ (by rw [hs];omega)]
  ·rw [if_neg h1,if_neg (by omega)]
   exact h.b k hk
 unfold cutC
 by_cases h64:n % 64=0
 ·rw [if_pos h64]
  refine ⟨fun k hk=>?_,hDe⟩
  rw [hDb k hk]
  by_cases h1:k<n
  ·rw [if_pos h1,if_neg (by omega)]
  ·rw [if_neg h1,if_pos (by omega)]
 ·rw [if_neg h64]
  have hp:=Ya (vget es (cutD cs bi n w.size) (bnm bi ((n / 64:Nat):Int))).1
  by_cases hv:(vget es (cutD cs bi n w.size) (bnm bi ((n / 64:Nat):Int))).2=true
  ·rw [if_pos hv]
   refine ⟨fun k hk=>?_,fun j hj=>?_⟩
   ·by_cases hkb:k / 64=n / 64
    ·have hl:=clrB_len (Lb:=Yg (vget es (cutD cs bi n w.size) (bnm bi ((n / 64:Nat):Int))).1) (lo:=n % 64) (by omega)
     unfold fb
     rw [hkb,vg_eq rfl (YJ hb (by omega)),pad64_full (by show (List.toArray _).size=64;rw [List.size_toArray,hl,hp])]
     show (clrB (Yg (vget es (cutD cs bi n w.size) (bnm bi ((n / 64:Nat):Int))).1) (n % 64)).getD (k % 64) 0=_
     have hb2:=hDb k hk
     unfold fb at hb2
     rw [hkb,if_neg (by omega)] at hb2
     rw [clrB,Y3,List.length_take,hp]
     by_cases h1:k<n
     ·rw [if_pos h1,if_pos (by omega),Yq _ _ _ _ (by omega),hb2]
     ·rw [if_neg h1,if_neg (by omega),Xa]
    ·have e1:fb es (cutD cs bi n w.size++[⟨bnm bi ((n / 64:Nat):Int),⟨(clrB (Yg (vget es (cutD cs bi n w.size) (bnm bi ((n / 64:Nat):Int))).1) (n % 64)).toArray⟩,false⟩]) bi k=fb es (cutD cs bi n w.size) bi k:=by
      unfold fb
      rw [XK (fun e=>hkb (Xf e).symm)]
     rw [e1,hDb k hk]
     by_cases h1:k<n
     ·rw [if_pos h1,if_neg (by omega)]
     ·rw [if_neg h1,if_pos (by omega)]
   ·by_cases hjn:bnm bi ((n / 64:Nat):Int)=bnm bi (j:Int)
    ·rw [vg_eq hjn (YJ hb (by omega))]
     intro h;cases h
    ·rw [XK hjn];exact hDe j hj
  ·rw [if_neg hv]
   refine ⟨fun k hk=>?_,hDe⟩
   rw [hDb k hk]
   by_cases h1:k<n
   ·rw [if_pos h1,if_neg (by omega)]
   ·rw [if_neg h1]
    by_cases hkb:k / 64=n / 64
    ·rw [if_neg (by omega)]
     have hb2:=hDb k hk
     unfold fb at hb2
     rw [hkb,if_neg (by omega),hDe (n / 64) (by omega) (by simpa using hv),VA,Xa] at hb2
     exact hb2.symm
    ·rw [if_pos (by omega)]
theorem FOK.resize (h:FOK es cs bi w) (hb:bchk bi=0) {n:Nat} {w':ByteArray} (hn:n≤4096) (hsz:w'.size=n) (hg:∀k,k<4096→w'.data.toList.getD k 0=if k<n then w.data.toList.getD k 0 else 0):FOK es (rszC es cs bi n w.size) bi w':=by
 obtain ⟨nd,h1,h2,h3,h4⟩:=h.nd
 have hle:=h.le
 have hs:w.data.toList.length=w.size:=by simp
 obtain ⟨_,hif⟩:=Yo hb h4 h1 h2
 unfold rszC
 rw [hif]
 have hck:=XR h1 (by omega) (by omega) (z:=(n:Int)) (by omega)
 have hbn:∀(cs':List Ch) (c:ByteArray) (j:Nat),vget es (cs'++[⟨nnm bi,c,false⟩]) (bnm bi (j:Int))=vget es cs' (bnm bi (j:Int)):=fun cs' c j=>XK VJ
 have hfb:∀(cs':List Ch) (c:ByteArray) (k:Nat),fb es (cs'++[⟨nnm bi,c,false⟩]) bi k=fb es cs' bi k:=fun cs' c k=>by unfold fb;rw [hbn]
 rcases Nat.lt_trichotomy n w.size with hlt|heq|hgt
 ·rw [if_neg (by omega),if_pos hlt]
  obtain ⟨c1,c2⟩:=h.cut hb hlt
  refine ⟨⟨{nd with sz:=(n:Int)},hck,h2,by show (n:Int)=_;rw [hsz],YQ (Zx hb)⟩,by omega,fun k hk=>?_,fun j hj=>?_⟩
  ·rw [hfb,c1 k hk,hg k hk]
  ·rw [hbn];exact c2 j hj
 ·rw [if_pos heq]
  refine ⟨⟨nd,h1,h2,by rw [h3,hsz,heq],h4⟩,by omega,fun k hk=>?_,h.e⟩
  rw [h.b k hk,hg k hk]
  split
  ·rfl
  ·rw [WF _ _ _ (by rw [hs];omega)]
 ·rw [if_neg (by omega),if_neg (by omega)]
  refine ⟨⟨{nd with sz:=(n:Int)},hck,h2,by show (n:Int)=_;rw [hsz],YQ (Zx hb)⟩,by omega,fun k hk=>?_,fun j hj=>?_⟩
  ·rw [hfb,h.b k hk,hg k hk]
   split
   ·rfl
   ·rw [WF _ _ _ (by rw [hs];omega)]
  ·rw [hbn];exact h.e j hj
end
variable {bs:List Bi} {fs:List Fq} {m:List (ByteArray×Int)}
section
open VQ
theorem ext7 (t:ByteArray) (a b:Nat):(t.extract a b).data.toList=(t.data.toList.drop a).take (b - a):=by
 rw [ByteArray.data_extract,Array.toList_extract,List.extract_eq_take_drop]
theorem vget_app {es:Al} {cs ds:List Ch} {n:Nm} (h:∀c ∈ ds,c.nm≠n):vget es (cs++ds) n=vget es cs n:=by
 revert h
 refine Xs (P:=fun ds=>(∀c ∈ ds,c.nm≠n)→vget es (cs++ds) n=vget es cs n) (by simp) (fun l c ih h=>?_) ds
 rw [←List.append_assoc,XK (h c (by simp))]
 exact ih fun d hd=>h d (by simp [hd])
structure FR (es:Al) (cs:List Ch) (b:Bi) (x:Fq):Prop where
 ck:ichk x.nd=0
 v:vget es cs (nnm b)=(iencS x.nd,true)
 f:x.nd.kd=1→x.nd.sz=(x.ct.size:Int)∧FOK es cs b x.ct
 z:x.nd.kd≠1→x.ct=⟨#[]⟩
 p:∀n:Nat,n<64→(vget es cs (bnm b (n:Int))).2=(mget (n:Int) x.bl).getD false
 q:∀n:Nat,n<64→(vget es cs (bnm b (n:Int))).2=true→64 * n<x.ct.size
theorem FOK.cg {es es':Al} {cs cs':List Ch} {b:Bi} {w:ByteArray} (h:FOK es cs b w) (h1:vget es' cs' (nnm b)=vget es cs (nnm b)) (h2:∀n:Int,vget es' cs' (bnm b n)=vget es cs (bnm b n)):FOK es' cs' b w:=by
 obtain ⟨⟨nd,a1,a2,a3,a4⟩,b1,c1,d1⟩:=h
 refine ⟨⟨nd,a1,a2,a3,by rw [h1];exact a4⟩,b1,fun k hk=>?_,fun j hj=>?_⟩
 ·unfold fb
  rw [h2]
  exact c1 k hk
 ·rw [h2];exact d1 j hj
theorem FR.cg {es es':Al} {cs cs':List Ch} {b:Bi} {x:Fq} (h:FR es cs b x) (h1:vget es' cs' (nnm b)=vget es cs (nnm b)) (h2:∀n:Int,vget es' cs' (bnm b n)=vget es cs (bnm b n)):FR es' cs' b x:=
 ⟨h.ck,by rw [h1];exact h.v,fun hk=>⟨(h.f hk).1,(h.f hk).2.cg h1 h2⟩,h.z,fun n hn=>by rw [h2];exact h.p n hn,fun n hn=>by rw [h2];exact h.q n hn⟩
structure R7 (es:Al) (cs:List Ch) (bs:List Bi) (fs:List Fq) (m:List (ByteArray×Int)) (k:Nat):Prop where
 len:bs.length≤k
 lf:fs.length=bs.length
 nd:bs.Nodup
 mr:∀b ∈ bs,∃j,j<3∧b.mkr=Zg j∧0≤b.nu∧b.nu<(mget (Zg j) m).getD 0
 ct:∀j,j<3→(0≤(mget (Zg j) m).getD 0∧(mget (Zg j) m).getD 0≤(k:Int))∧madeE es cs (Zg j)=(⟨(mget (Zg j) m).getD 0,0,0⟩,0)
 fl:∀(i:Nat) (b:Bi) (x:Fq),bs[i]? = some b→fs[i]? = some x→FR es cs b x
 no:∀b,b ∉ bs→(vget es cs (nnm b)).2=false∧∀n:Int,vget es cs (bnm b n)=(⟨#[]⟩,false)
 sz:∀n,(vget es cs n).1.size≤65536
theorem made_cg {es es':Al} {cs cs':List Ch} {who:ByteArray} (h:vget es' cs' (cnm who)=vget es cs (cnm who)):madeE es' cs' who=madeE es cs who:=by
 unfold madeE
 rw [h]
theorem R7.cg {es es':Al} {cs cs':List Ch} {bs:List Bi} {fs:List Fq} {m:List (ByteArray×Int)} {k:Nat} (h:R7 es cs bs fs m k) (hv:∀n,vget es' cs' n=vget es cs n):R7 es' cs' bs fs m k:=
 ⟨h.len,h.lf,h.nd,h.mr,fun j hj=>⟨(h.ct j hj).1,by rw [made_cg (hv _)];exact (h.ct j hj).2⟩,fun i b x h1 h2=>(h.fl i b x h1 h2).cg (hv _) fun n=>hv _,fun b hb=>⟨by rw [hv];exact (h.no b hb).1,fun n=>by rw [hv];exact (h.no b hb).2 n⟩,fun n=>by rw [hv];exact h.sz n⟩
section
variable {k:Nat}
theorem bchk_mk {b:Bi} {j:Nat} (h1:b.mkr=Zg j) (h2:0≤b.nu) (h3:b.nu≤1073741824):bchk b=0:=by
 unfold bchk
 rw [h1,if_neg (by simp [YO]),if_pos ⟨h2,h3⟩]
theorem R7.bc (h:R7 es cs bs fs m k) (hk:k≤1000) {b:Bi} (hb:b ∈ bs):bchk b=0:=by
 obtain ⟨j,hj,h1,h2,h3⟩:=h.mr b hb
 have:=(h.ct j hj).1
 exact bchk_mk h1 h2 (by omega)
theorem mk9 (j:Nat):(⟨#[57]⟩:ByteArray)≠Zg j:=by
 unfold Zg
 split
 ·intro h;have:=congrArg (fun s:ByteArray=>s.data.toList) h;simp [o1] at this
 ·split
  ·intro h;have:=congrArg (fun s:ByteArray=>s.data.toList) h;simp [mk2] at this
  ·intro h;have:=congrArg (fun s:ByteArray=>s.data.toList) h;simp [mk3] at this
theorem o9_valid:lvalid (⟨#[57]⟩:ByteArray).data.toList=true:=by decide +kernel
theorem YX (h:R7 es cs bs fs m k) (hk:k≤1000) (wd:UInt8):bchk (bthF bs wd)=0∧((∃i x,bs[i]? = some (bthF bs wd)∧fs[i]? = some x∧fndI bs (bthF bs wd)=some i)∨(bthF bs wd ∉ bs∧fndI bs (bthF bs wd)=none)):=by
 have hw:=wd.toNat_lt
 cases hb:bs[wd.toNat]? with
 | some b=>
  have e:bthF bs wd=b:=by unfold bthF;rw [hb]
  rw [e]
  have hm:=List.mem_of_getElem? hb
  refine ⟨h.bc hk hm,.inl ?_⟩
  obtain ⟨hi,hbi⟩:=List.getElem?_eq_some_iff.1 hb
  refine ⟨wd.toNat,fs[wd.toNat]'(by rw [h.lf];exact hi),hb,List.getElem?_eq_getElem _,?_⟩
  cases hf:fndI bs b with
  | none=>exact absurd rfl (fnd_none hf hb)
  | some j=>
   obtain ⟨h1,h2⟩:=WI hf
   have:=(List.getElem?_inj (by exact (List.getElem?_eq_some_iff.1 h1).1) h.nd).1 (h1.trans hb.symm)
   rw [this]
 | none=>
  have e:bthF bs wd=⟨⟨#[57]⟩,(wd.toNat:Int)⟩:=by unfold bthF;rw [hb]
  rw [e]
  have hn:(⟨⟨#[57]⟩,(wd.toNat:Int)⟩:Bi) ∉ bs:=fun hm=>by
   obtain ⟨j,_,h1,_⟩:=h.mr _ hm
   exact mk9 j h1
  refine ⟨?_,.inr ⟨hn,?_⟩⟩
  ·unfold bchk
   rw [if_neg (show ¬lvalid (⟨#[57]⟩:ByteArray).data.toList=false by rw [o9_valid];simp),if_pos (by constructor<;>dsimp only<;>omega)]
  ·cases hf:fndI bs ⟨⟨#[57]⟩,(wd.toNat:Int)⟩ with
   | none=>rfl
   | some j=>exact absurd (List.mem_of_getElem? (WI hf).1) hn
theorem iget_in {b:Bi} {x:Fq} (hb:bchk b=0) (h:FR es cs b x):iget es cs b=(x.nd,0):=by
 rw [iget,if_neg (by simp [hb]),h.v]
 simp only [if_true]
 rw [idec_enc h.ck]
 rfl
theorem iget_out {b:Bi} (hb:bchk b=0) (h:(vget es cs (nnm b)).2=false):iget es cs b=(Ino.z,8):=by
 rw [iget,if_neg (by simp [hb]),h]
 rfl
theorem Y0 (h:R7 es cs bs fs m k) (hk:k≤1000) (wd:UInt8):(ifile es cs (bthF bs wd)).2=(mGet bs fs (bthF bs wd)).2∧((mGet bs fs (bthF bs wd)).2=0→∃x,fs[(mGet bs fs (bthF bs wd)).1]? = some x∧bs[(mGet bs fs (bthF bs wd)).1]? = some (bthF bs wd)∧x.nd.kd=1∧(ifile es cs (bthF bs wd)).1=x.nd∧FR es cs (bthF bs wd) x):=by
 obtain ⟨hb,hc⟩:=YX h hk wd
 generalize bthF bs wd=b at *
 unfold ifile mGet
 rw [if_neg (show ¬bchk b≠0 by simp [hb])]
 rcases hc with ⟨i,x,h1,h2,h3⟩|⟨h1,h3⟩
 ·have hf:=h.fl i b x h1 h2
  rw [iget_in hb hf,h3]
  dsimp only
  rw [h2]
  dsimp only
  rw [if_neg (show ¬(0:Int)≠0 by simp)]
  have hkd:=(Yi hf.ck).1
  by_cases k2:x.nd.kd=2
  ·rw [if_pos k2,if_pos k2]
   exact ⟨rfl,fun h=>by cases h⟩
  ·rw [if_neg k2,if_neg k2]
   by_cases k3:x.nd.kd=3
   ·rw [if_pos k3,if_pos k3]
    exact ⟨rfl,fun h=>by cases h⟩
   ·rw [if_neg k3,if_neg k3]
    exact ⟨rfl,fun _=>⟨x,h2,h1,by omega,rfl,hf⟩⟩
 ·rw [iget_out hb (h.no b h1).1,h3]
  dsimp only
  rw [if_pos (show (8:Int)≠0 by decide)]
  exact ⟨rfl,fun h=>by cases h⟩
theorem rd_both {b:Bi} {w:ByteArray} (h:FOK es cs b w) (f c:Nat):(⟨(rdB es cs b (pts (min f w.size) (min f w.size+min c (w.size - min f w.size)))).toArray⟩:ByteArray)=if (w.size:Int)≤(f:Int) then ⟨#[]⟩ else (w.extract f w.size).extract 0 (min c (w.size - f)):=by
 have hle:=h.le
 have hs:w.data.toList.length=w.size:=by simp
 rw [rdB_pts _ _ _ (Nat.le_refl _)]
 by_cases hf:(w.size:Int)≤(f:Int)
 ·rw [if_pos hf]
  have:min f w.size+min c (w.size - min f w.size) - min f w.size=0:=by omega
  rw [this];rfl
 ·rw [if_neg hf]
  refine Wj ?_
  rw [ext7,List.drop_zero,Nat.sub_zero]
  rw [show (w.extract f w.size).data.toList=w.data.toList.drop f from ext_drop w f]
  have e1:min f w.size=f:=by omega
  rw [e1]
  refine List.ext_getElem ?_ fun j h1 h2=>?_
  ·simp [hs]
  ·simp only [List.getElem_map,List.getElem_range',List.getElem_take,List.getElem_drop]
   have hj:j<min c (w.size - f):=by simpa using h1
   rw [h.b _ (by omega),List.getD_eq_getElem?_getD,List.getElem?_eq_getElem (by rw [hs];omega)]
   simp
end
end
section
open VQ
theorem nnm_inj {a b:Bi} (h:nnm a=nnm b):a=b:=by
 obtain ⟨a1,a2⟩:=a
 obtain ⟨b1,b2⟩:=b
 simp [nnm] at h
 simp [h]
theorem bnm_injB {a b:Bi} {i j:Int} (h:bnm a i=bnm b j):a=b∧i=j:=by
 obtain ⟨a1,a2⟩:=a
 obtain ⟨b1,b2⟩:=b
 simp [bnm] at h
 simp [h]
theorem VP {a:ByteArray} {b:Bi}:cnm a≠nnm b:=by simp [cnm,nnm]
theorem cnm_bnm {a:ByteArray} {b:Bi} {i:Int}:cnm a≠bnm b i:=by simp [cnm,bnm]
def OfB (b:Bi) (n:Nm):Prop:=n=nnm b∨∃i:Int,n=bnm b i
section
variable {cs':List Ch} {k:Nat}
theorem R7.file (h:R7 es cs bs fs m k) {i:Nat} {b:Bi} {y:Fq} (hb:bs[i]? = some b) (hne:∀n,¬OfB b n→vget es cs' n=vget es cs n) (hy:FR es cs' b y) (hsz:∀n,(vget es cs' n).1.size≤65536):R7 es cs' bs (fs.set i y) m k:=by
 have hib:=(List.getElem?_eq_some_iff.1 hb).1
 have hot:∀b',b'≠b→vget es cs' (nnm b')=vget es cs (nnm b')∧∀n:Int,vget es cs' (bnm b' n)=vget es cs (bnm b' n):=fun b' hn=>
  ⟨hne _ (fun h=>by rcases h with h|⟨i,h⟩;exact hn (nnm_inj h);exact absurd h.symm XS),fun n=>hne _ (fun h=>by rcases h with h|⟨i,h⟩;exact absurd h XS;exact hn (bnm_injB h).1)⟩
 refine ⟨h.len,by rw [List.length_set];exact h.lf,h.nd,h.mr,fun j hj=>⟨(h.ct j hj).1,?_⟩,fun i' b' x' h1 h2=>?_,fun b' hb'=>?_,hsz⟩
 ·rw [made_cg (hne _ (fun h=>by rcases h with h|⟨i,h⟩;exact VP h;exact cnm_bnm h))]
  exact (h.ct j hj).2
 ·by_cases hi:i'=i
  ·subst hi
   rw [hb] at h1
   cases h1
   rw [List.getElem?_set_self (by rw [h.lf];exact hib)] at h2
   cases h2
   exact hy
  ·rw [List.getElem?_set_ne (fun e=>hi e.symm)] at h2
   have hn:b'≠b:=fun e=>hi ((List.getElem?_inj (List.getElem?_eq_some_iff.1 h1).1 h.nd).1 (by rw [h1,hb,e]))
   exact (h.fl i' b' x' h1 h2).cg (hot b' hn).1 (hot b' hn).2
 ·have hn:b'≠b:=fun e=>hb' (e ▸ List.mem_of_getElem? hb)
  obtain ⟨g1,g2⟩:=h.no b' hb'
  exact ⟨by rw [(hot b' hn).1];exact g1,fun n=>by rw [(hot b' hn).2];exact g2 n⟩
theorem ofB_app {ds:List Ch} {b:Bi} (h:∀c ∈ ds,OfB b c.nm):∀n,¬OfB b n→vget es (cs++ds) n=vget es cs n:=fun _ hn=>vget_app fun c hc e=>hn (e ▸ h c hc)
theorem vsz_app {ds:List Ch} (hs:∀n,(vget es cs n).1.size≤65536) (h:∀c ∈ ds,c.val.size≤65536):∀n,(vget es (cs++ds) n).1.size≤65536:=by
 revert h
 refine Xs (P:=fun ds=>(∀c ∈ ds,c.val.size≤65536)→∀n,(vget es (cs++ds) n).1.size≤65536) (by simpa using hs) (fun l c ih h n=>?_) ds
 rw [←List.append_assoc]
 by_cases he:c.nm=n
 ·by_cases hn:nchk n=0
  ·rw [vg_eq he hn];exact h c (by simp)
  ·unfold vget
   rw [if_pos hn];exact Nat.zero_le _
 ·rw [XK he]
  exact ih (fun d hd=>h d (by simp [hd])) n
end
theorem zer_list (n:Nat):(zer n).data.toList=List.replicate n 0:=by simp [zer]
theorem wrC_list (c:ByteArray) (f:Nat) (s:ByteArray):(wrC c f s).data.toList=((c.data.toList++List.replicate (f - c.size) 0).take f++s.data.toList)++(c.data.toList++List.replicate (f - c.size) 0).drop (f+s.size):=by
 have hs:c.data.toList.length=c.size:=by simp
 have happ:∀a b:ByteArray,(a++b).data.toList=a.data.toList++b.data.toList:=fun a b=>by simp
 have h0:(⟨#[]⟩:ByteArray).data.toList=[]:=rfl
 have e2:(if c.size<f then c++zer (f - c.size) else c).data.toList=c.data.toList++List.replicate (f - c.size) 0:=by
  split
  ·rw [happ,zer_list]
  ·rw [show f - c.size=0 by omega];simp
 have e3:(if c.size<f then c++zer (f - c.size) else c).size=max c.size f:=by
  split
  ·rw [ByteArray.size_append,Yd];omega
  ·omega
 unfold wrC
 generalize (if c.size<f then c++zer (f - c.size) else c)=c2 at *
 rw [happ,happ,ext7,e2,List.drop_zero,Nat.sub_zero]
 congr 1
 split
 ·rw [ext7,e2,List.take_of_length_le]
  rw [List.length_drop,List.length_append,List.length_replicate,hs];omega
 ·rw [h0,List.drop_of_length_le]
  rw [List.length_append,List.length_replicate,hs];omega
theorem wrC_getD (c:ByteArray) (f:Nat) (s:ByteArray) (k:Nat):(wrC c f s).data.toList.getD k 0=if f≤k∧k<f+s.size then s.data.toList.getD (k - f) 0 else c.data.toList.getD k 0:=by
 have hs:c.data.toList.length=c.size:=by simp
 have hu:s.data.toList.length=s.size:=by simp
 rw [wrC_list]
 have hl:(c.data.toList++List.replicate (f - c.size) 0).length=max c.size f:=by rw [List.length_append,List.length_replicate,hs];omega
 have hg:∀j,(c.data.toList++List.replicate (f - c.size) 0).getD j 0=c.data.toList.getD j 0:=fun j=>by
  rw [Y3]
  split
  ·rfl
  ·rw [Xa,WF _ _ _ (by omega)]
 rw [Y3,List.length_append,List.length_take,hl,hu]
 by_cases h1:k<min f (max c.size f)+s.size
 ·rw [if_pos h1,Y3,List.length_take,hl]
  by_cases h2:k<min f (max c.size f)
  ·rw [if_pos h2,Yq _ _ _ _ (by omega),hg,if_neg (by omega)]
  ·rw [if_neg h2,if_pos (by omega),show k - min f (max c.size f)=k - f by omega]
 ·rw [if_neg h1,WE,hg,if_neg (by omega),show f+s.size+(k - (min f (max c.size f)+s.size))=k by omega]
section
variable {b:Bi} {x:Fq}
theorem pr_fold {f:Nat} {s:ByteArray} (hb:bchk b=0):∀(n a t:Nat),t - a≤n→t≤4096→∀(q:List (Nm×Ch)×List Ch) (j:Nat),j<64→
  (vget es (wfold es b f s q (pts a t)).2 (bnm b (j:Int))).2=if a / 64≤j∧64 * j<t∧a<t then true else (vget es q.2 (bnm b (j:Int))).2
 | 0,a,t,hn,_,q,j,hj=>by
  rw [pts,if_neg (by omega),if_neg (by omega)];rfl
 | n+1,a,t,hn,ht,q,j,hj=>by
  rw [pts]
  split
  ·rename_i hlt
   show (vget es (wfold es b f s (wstep es b f s q ⟨a / 64,a - a / 64 * 64,min t (a / 64 * 64+64) - a / 64 * 64⟩) (pts (min t (a / 64 * 64+64)) t)).2 (bnm b (j:Int))).2=_
   rw [pr_fold hb n (min t (a / 64 * 64+64)) t (by omega) ht _ j hj]
   have hst:(wstep es b f s q ⟨a / 64,a - a / 64 * 64,min t (a / 64 * 64+64) - a / 64 * 64⟩).2=q.2++[⟨bnm b ((a / 64:Nat):Int),⟨(wnew es q.2 b f s ⟨a / 64,a - a / 64 * 64,min t (a / 64 * 64+64) - a / 64 * 64⟩).toArray⟩,false⟩]:=rfl
   rw [hst]
   by_cases hja:j=a / 64
   ·subst hja
    have hC:a / 64≤a / 64∧64 * (a / 64)<t∧a<t:=⟨Nat.le_refl _,by omega,hlt⟩
    rw [vg_eq rfl (YJ hb (by omega)),if_pos hC]
    split<;>rfl
   ·rw [XK (fun e=>hja (Xf e).symm)]
    by_cases h1:min t (a / 64 * 64+64) / 64≤j∧64 * j<t∧min t (a / 64 * 64+64)<t
    ·rw [if_pos h1,if_pos (by omega)]
    ·rw [if_neg h1,if_neg (by omega)]
  ·rw [if_neg (by omega)];rfl
theorem blW_get (bl:List (Int×Bool)) (a:Nat) (j:Nat):∀n:Nat,mget (j:Int) (blW bl a n)=if a≤j∧j<a+n then some true else mget (j:Int) bl
 | 0=>by rw [if_neg (by omega)];rfl
 | n+1=>by
  rw [blW,V1,blW_get bl a j n]
  by_cases h:j=a+n
  ·rw [if_pos (by omega),if_pos (by omega)]
  ·rw [if_neg (by omega)]
   by_cases h2:a≤j∧j<a+n
   ·rw [if_pos h2,if_pos (by omega)]
   ·rw [if_neg h2,if_neg (by omega)]
theorem FR.write (h:FR es cs b x) (hk:x.nd.kd=1) (hb:bchk b=0) {f:Nat} {s:ByteArray} (hf:f≤4096) (hn:0<min s.size (4096 - f)):FR es ((iwQ es [] cs b f s).2++iwN es cs b f s) b (mWrF x f (mWrS s f)):=by
 obtain ⟨h1,h2⟩:=h.f hk
 have hle:=h2.le
 have hif:ifile es cs b=(x.nd,0):=(Yo hb h.v h.ck hk).2
 have hus:(mWrS s f).size=min s.size (4096 - f):=by unfold mWrS;rw [ByteArray.size_extract];omega
 have hul:(mWrS s f).data.toList=s.data.toList.take (min s.size (4096 - f)):=by unfold mWrS;rw [ext7,List.drop_zero,Nat.sub_zero]
 have hws:=wrC_size (c:=x.ct) (f:=f) (s:=mWrS s f)
 have hq:iwQ es [] cs b f s=wfold es b f s (igetR es [] cs b,cs) (pts f (f+min s.size (4096 - f))):=rfl
 have hbn:∀(j:Int),vget es ((iwQ es [] cs b f s).2++iwN es cs b f s) (bnm b j)=vget es (iwQ es [] cs b f s).2 (bnm b j):=fun j=>by
  unfold iwN
  split
  ·exact XK VJ
  ·rw [List.append_nil]
 have hv:vget es ((iwQ es [] cs b f s).2++iwN es cs b f s) (nnm b)=(iencS {x.nd with sz:=((wrC x.ct f (mWrS s f)).size:Int)},true):=by
  unfold iwN
  rw [hif,hws,hus]
  by_cases hg:x.nd.sz<((f+min s.size (4096 - f):Nat):Int)
  ·rw [if_pos ⟨hn,hg⟩,YQ (Zx hb),show max x.ct.size (f+min s.size (4096 - f))=f+min s.size (4096 - f) by omega]
  ·rw [if_neg (fun h=>hg h.2),List.append_nil,hq,vg_fold,h.v,show max x.ct.size (f+min s.size (4096 - f))=x.ct.size by omega,←h1]
 have hF:=h2.write hb hf (w':=wrC x.ct f (mWrS s f)) (s:=s) [] (by rw [hws,hus,if_neg (by omega)]) (fun k hk=>by
  rw [wrC_getD,hus,hul]
  split
  ·rw [Yq _ _ _ _ (by omega)]
  ·rfl)
 refine ⟨XR h.ck (by omega) (by omega) (by omega),hv,fun _=>⟨rfl,hF⟩,fun hne=>absurd hk hne,fun j hj=>?_,fun j hj hp=>?_⟩
 ·rw [hbn,hq,pr_fold hb _ _ _ (Nat.le_refl _) (by omega) _ _ hj]
  show _=(mget (j:Int) (blW x.bl (f / 64) ((f+(mWrS s f).size - 1) / 64+1 - f / 64))).getD false
  rw [blW_get,hus]
  by_cases hc:f / 64≤j∧64 * j<f+min s.size (4096 - f)∧f<f+min s.size (4096 - f)
  ·rw [if_pos hc,if_pos (by omega)];rfl
  ·rw [if_neg hc,if_neg (by omega)]
   exact h.p j hj
 ·rw [hbn,hq,pr_fold hb _ _ _ (Nat.le_refl _) (by omega) _ _ hj] at hp
  show 64 * j<(wrC x.ct f (mWrS s f)).size
  rw [hws,hus]
  split at hp
  ·omega
  ·have:=h.q j hj hp
   omega
theorem pts_len7:∀(n a t:Nat),t - a≤n→(pts a t).length≤(t+63) / 64 - a / 64
 | 0,a,t,hn=>by rw [pts,if_neg (by omega)];exact Nat.zero_le _
 | n+1,a,t,hn=>by
  rw [pts]
  split
  ·rename_i hlt
   have ih:=pts_len7 n (min t (a / 64 * 64+64)) t (by omega)
   rw [List.length_cons]
   by_cases h:t≤a / 64 * 64+64
   ·rw [show min t (a / 64 * 64+64)=t by omega] at ih ⊢
    rw [pts,if_neg (by omega)]
    show 0+1≤_
    omega
   ·omega
  ·exact Nat.zero_le _
theorem pts_nil (a:Nat):pts a a=[]:=by rw [pts,if_neg (by omega)]
theorem write_nm {f:Nat} {s:ByteArray} (hf:f≤4096) (hb:bchk b=0):∃ds,(iwQ es [] cs b f s).2++iwN es cs b f s=cs++ds∧(∀c ∈ ds,OfB b c.nm∧nchk c.nm=0∧c.val.size≤65536∧(c.abs=true→c.val=⟨#[]⟩))∧ds.length≤65:=by
 have hpt:=Xy (f+min s.size (4096 - f) - f) f (f+min s.size (4096 - f)) (Nat.le_refl _)
 have hpl:=pts_len7 (f+min s.size (4096 - f) - f) f (f+min s.size (4096 - f)) (Nat.le_refl _)
 have hex:∀(l:List Pp),(∀p ∈ l,p.fr<p.to∧p.to≤64∧p.bl<64)→∀(q:List (Nm×Ch)×List Ch),∃ds,(wfold es b f s q l).2=q.2++ds∧(∀c ∈ ds,OfB b c.nm∧nchk c.nm=0∧c.val.size≤65536∧(c.abs=true→c.val=⟨#[]⟩))∧ds.length=l.length:=by
  intro l
  induction l with
  | nil=>intro _ q;exact ⟨[],by simp [wfold],(fun c hc=>by cases hc),rfl⟩
  | cons p l ih=>
   intro hp q
   obtain ⟨ds,h1,h2,h3⟩:=ih (fun r hr=>hp r (by simp [hr])) (wstep es b f s q p)
   have hst:(wstep es b f s q p).2=q.2++[⟨bnm b p.bl,⟨(wnew es q.2 b f s p).toArray⟩,false⟩]:=rfl
   have hpp:=hp p (by simp)
   refine ⟨⟨bnm b p.bl,⟨(wnew es q.2 b f s p).toArray⟩,false⟩::ds,?_,fun c hc=>?_,by simp [h3]⟩
   ·show (wfold es b f s (wstep es b f s q p) l).2=_
    rw [h1,hst,List.append_assoc];rfl
   ·rcases List.mem_cons.1 hc with rfl|hc
    ·refine ⟨.inr ⟨_,rfl⟩,YJ hb (by omega),?_,fun h=>by cases h⟩
     show (List.toArray _).size≤_
     rw [List.size_toArray,WB (by omega)];omega
    ·exact h2 c hc
 obtain ⟨ds,h1,h2,h3⟩:=hex (pts f (f+min s.size (4096 - f))) (fun p hp=>by have:=hpt p hp;omega) (igetR es [] cs b,cs)
 refine ⟨ds++iwN es cs b f s,by rw [iwQ,h1,List.append_assoc],fun c hc=>?_,?_⟩
 ·rcases List.mem_append.1 hc with hc|hc
  ·exact h2 c hc
  ·unfold iwN at hc
   split at hc
   ·rw [List.mem_singleton.1 hc]
    exact ⟨.inl rfl,Zx hb,Nat.le_trans (Zw _) (by omega),fun h=>by cases h⟩
   ·cases hc
 ·rw [List.length_append,h3]
  have:(iwN es cs b f s).length≤1:=by unfold iwN;split<;>simp
  omega
end
end
section
open VQ
theorem rzC_size (c:ByteArray) (n:Nat):(rzC c n).size=n:=by
 unfold rzC
 rw [ByteArray.size_append,Yd,ByteArray.size_extract];omega
theorem rzC_getD (c:ByteArray) (n k:Nat):(rzC c n).data.toList.getD k 0=if k<n then c.data.toList.getD k 0 else 0:=by
 have hs:c.data.toList.length=c.size:=by simp
 have happ:∀a b:ByteArray,(a++b).data.toList=a.data.toList++b.data.toList:=fun a b=>by simp
 unfold rzC
 rw [happ,zer_list,ext7,List.drop_zero,Nat.sub_zero,Y3,List.length_take,hs]
 by_cases h1:k<min (min n c.size) c.size
 ·rw [if_pos h1,Yq _ _ _ _ (by omega),if_pos (by omega)]
 ·rw [if_neg h1,Xa]
  split
  ·rw [WF _ _ _ (by omega)]
  ·rfl
theorem blZ_get (bl:List (Int×Bool)) (n:Nat) (j:Nat):∀K:Nat,mget (j:Int) (blZ bl n K)=if j<K∧n≤64 * j then some false else mget (j:Int) bl
 | 0=>by rw [if_neg (by omega)];rfl
 | K+1=>by
  rw [blZ]
  by_cases hk:n≤64 * K
  ·rw [if_pos hk,V1,blZ_get bl n j K]
   by_cases h:K=j
   ·subst h
    rw [if_pos rfl,if_pos (by omega)]
   ·rw [if_neg (by omega)]
    by_cases h2:j<K∧n≤64 * j
    ·rw [if_pos h2,if_pos (by omega)]
    ·rw [if_neg h2,if_neg (by omega)]
  ·rw [if_neg hk,blZ_get bl n j K]
   by_cases h2:j<K∧n≤64 * j
   ·rw [if_pos h2,if_pos (by omega)]
   ·rw [if_neg h2,if_neg (by omega)]
section
variable {b:Bi} {x:Fq}
theorem pr_cut (hb:bchk b=0) (n sz:Nat) (j:Nat) (hj:j<64):(vget es (cutC es cs b n sz) (bnm b (j:Int))).2=if (n+63) / 64≤j∧j<(n+63) / 64+((sz+63) / 64 - (n+63) / 64) then false else (vget es cs (bnm b (j:Int))).2:=by
 have hD:∀i:Nat,i<64→vget es (cutD cs b n sz) (bnm b (i:Int))=if (n+63) / 64≤i∧i<(n+63) / 64+((sz+63) / 64 - (n+63) / 64) then (⟨#[]⟩,false) else vget es cs (bnm b (i:Int)):=fun i hi=>by
  rw [cutD,vg_dls hb _ _ i hi]
 have hD2:(vget es (cutD cs b n sz) (bnm b (j:Int))).2=if (n+63) / 64≤j∧j<(n+63) / 64+((sz+63) / 64 - (n+63) / 64) then false else (vget es cs (bnm b (j:Int))).2:=by
  rw [hD j hj]
  split<;>rfl
 unfold cutC
 by_cases h64:n % 64=0
 ·rw [if_pos h64];exact hD2
 ·rw [if_neg h64]
  by_cases hv:(vget es (cutD cs b n sz) (bnm b ((n / 64:Nat):Int))).2=true
  ·rw [if_pos hv]
   by_cases hjn:n / 64=j
   ·rw [vg_eq (by rw [hjn]) (YJ hb (by omega)),←hD2,←hjn,hv]
    rfl
   ·rw [XK (fun e=>hjn (Xf e))]
    exact hD2
  ·rw [if_neg hv];exact hD2
theorem FR.resize (h:FR es cs b x) (hk:x.nd.kd=1) (hb:bchk b=0) {n:Nat} (hn:n≤4096):FR es (rszC es cs b n x.ct.size) b (mRzF x n):=by
 obtain ⟨h1,h2⟩:=h.f hk
 have hle:=h2.le
 have hif:ifile es cs b=(x.nd,0):=(Yo hb h.v h.ck hk).2
 have hF:=h2.resize hb hn (w':=rzC x.ct n) (rzC_size _ _) (fun k _=>rzC_getD _ _ k)
 have hv:vget es (rszC es cs b n x.ct.size) (nnm b)=(iencS {x.nd with sz:=(n:Int)},true):=by
  unfold rszC
  rw [hif]
  by_cases he:n=x.ct.size
  ·rw [if_pos he,h.v,he,←h1]
  ·rw [if_neg he,YQ (Zx hb)]
 have hp:∀j:Nat,j<64→(vget es (rszC es cs b n x.ct.size) (bnm b (j:Int))).2=if n≤64 * j then false else (vget es cs (bnm b (j:Int))).2:=fun j hj=>by
  have hq:=h.q j hj
  have hold:n ≥ x.ct.size→(vget es cs (bnm b (j:Int))).2=if n≤64 * j then false else (vget es cs (bnm b (j:Int))).2:=fun hge=>by
   split
   ·cases hv:(vget es cs (bnm b (j:Int))).2 with
    | false=>rfl
    | true=>have:=hq hv;omega
   ·rfl
  unfold rszC
  by_cases he:n=x.ct.size
  ·rw [if_pos he];exact hold (by omega)
  ·rw [if_neg he,XK VJ]
   by_cases hlt:n<x.ct.size
   ·rw [if_pos hlt,pr_cut hb n x.ct.size j hj]
    by_cases hc:(n+63) / 64≤j∧j<(n+63) / 64+((x.ct.size+63) / 64 - (n+63) / 64)
    ·rw [if_pos hc,if_pos (by omega)]
    ·rw [if_neg hc]
     split
     ·cases hv:(vget es cs (bnm b (j:Int))).2 with
      | false=>rfl
      | true=>have:=hq hv;omega
     ·rfl
   ·rw [if_neg hlt];exact hold (by omega)
 refine ⟨XR h.ck (by omega) (by omega) (by omega),hv,fun _=>⟨?_,hF⟩,fun hne=>absurd hk hne,fun j hj=>?_,fun j hj hp2=>?_⟩
 ·show (n:Int)=((rzC x.ct n).size:Int)
  rw [rzC_size]
 ·rw [hp j hj]
  show _=(mget (j:Int) (blZ x.bl n 64)).getD false
  rw [blZ_get]
  by_cases hc:n≤64 * j
  ·rw [if_pos hc,if_pos ⟨hj,hc⟩];rfl
  ·rw [if_neg hc,if_neg (fun h=>hc h.2)]
   exact h.p j hj
 ·rw [hp j hj] at hp2
  show 64 * j<(rzC x.ct n).size
  rw [rzC_size]
  split at hp2
  ·cases hp2
  ·omega
theorem resize_nm (hb:bchk b=0) (n sz:Nat) (hs:sz≤4096):∃ds,rszC es cs b n sz=cs++ds∧(∀c ∈ ds,OfB b c.nm∧nchk c.nm=0∧c.val.size≤65536∧(c.abs=true→c.val=⟨#[]⟩))∧ds.length≤66:=by
 have hd:∀c ∈ dls b ((n+63) / 64) ((sz+63) / 64 - (n+63) / 64),OfB b c.nm∧nchk c.nm=0∧c.val.size≤65536∧(c.abs=true→c.val=⟨#[]⟩):=fun c hc=>by
  obtain ⟨i,hi,rfl⟩:=List.mem_map.1 hc
  rw [List.mem_range'_1] at hi
  exact ⟨.inr ⟨_,rfl⟩,YJ hb (by omega),Nat.zero_le _,fun _=>rfl⟩
 have hdl:(dls b ((n+63) / 64) ((sz+63) / 64 - (n+63) / 64)).length≤64:=by simp [dls];omega
 have hc:n<sz→∃ds,cutC es cs b n sz=cs++ds∧(∀c ∈ ds,OfB b c.nm∧nchk c.nm=0∧c.val.size≤65536∧(c.abs=true→c.val=⟨#[]⟩))∧ds.length≤65:=fun hlt=>by
  unfold cutC
  split
  ·exact ⟨_,rfl,hd,by omega⟩
  ·split
   ·refine ⟨_,List.append_assoc _ _ _,fun c hc=>?_,by rw [List.length_append,List.length_singleton];omega⟩
    rcases List.mem_append.1 hc with hc|hc
    ·exact hd c hc
    ·rw [List.mem_singleton.1 hc]
     refine ⟨.inr ⟨_,rfl⟩,YJ hb (by omega),?_,fun h=>by cases h⟩
     show (List.toArray _).size≤_
     have:=Ya (vget es (cutD cs b n sz) (bnm b ((n / 64:Nat):Int))).1
     rw [List.size_toArray,clrB_len (by omega)];omega
   ·exact ⟨_,rfl,hd,by omega⟩
 unfold rszC
 by_cases he:n=sz
 ·rw [if_pos he]
  exact ⟨[],by simp,(fun c hc=>by cases hc),Nat.zero_le _⟩
 ·rw [if_neg he]
  have hnn:∀c ∈ [(⟨nnm b,iencS {(ifile es cs b).1 with sz:=(n:Int)},false⟩:Ch)],OfB b c.nm∧nchk c.nm=0∧c.val.size≤65536∧(c.abs=true→c.val=⟨#[]⟩):=fun c hc=>by
   rw [List.mem_singleton.1 hc]
   exact ⟨.inl rfl,Zx hb,Nat.le_trans (Zw _) (by omega),fun h=>by cases h⟩
  by_cases hlt:n<sz
  ·rw [if_pos hlt]
   obtain ⟨ds,e1,e2,e3⟩:=hc hlt
   refine ⟨ds++[_],by rw [e1,List.append_assoc],fun c hc=>?_,by rw [List.length_append,List.length_singleton];omega⟩
   rcases List.mem_append.1 hc with hc|hc
   ·exact e2 c hc
   ·exact hnn c hc
  ·rw [if_neg hlt]
   exact ⟨_,rfl,hnn,by simp⟩
theorem FR.set (h:FR es cs b x) (hb:bchk b=0) {nd:Ino} (hn:ichk nd=0) (hk:x.nd.kd=nd.kd):FR es (cs++[⟨nnm b,iencS {nd with sz:=x.nd.sz},false⟩]) b {x with nd:={nd with sz:=x.nd.sz}}:=by
 have hbn:∀i:Int,vget es (cs++[⟨nnm b,iencS {nd with sz:=x.nd.sz},false⟩]) (bnm b i)=vget es cs (bnm b i):=fun i=>XK VJ
 have hv:vget es (cs++[⟨nnm b,iencS {nd with sz:=x.nd.sz},false⟩]) (nnm b)=(iencS {nd with sz:=x.nd.sz},true):=YQ (Zx hb)
 have hc:=ichk_set h.ck hn hk
 refine ⟨hc,hv,fun h1=>?_,fun h1=>h.z (by rw [hk];exact h1),fun j hj=>by rw [hbn];exact h.p j hj,fun j hj=>by rw [hbn];exact h.q j hj⟩
 have h1:nd.kd=1:=h1
 obtain ⟨g1,g2⟩:=h.f (by omega)
 refine ⟨g1,⟨⟨_,hc,h1,g1,hv⟩,g2.le,fun k hk=>?_,fun j hj=>by rw [hbn];exact g2.e j hj⟩⟩
 unfold fb
 rw [hbn]
 exact g2.b k hk
end
end
section
open VQ
section
variable {k:Nat}
theorem R7.succ (h:R7 es cs bs fs m k):R7 es cs bs fs m (k+1):=
 ⟨Nat.le_succ_of_le h.len,h.lf,h.nd,h.mr,fun j hj=>⟨⟨(h.ct j hj).1.1,by have:=(h.ct j hj).1.2;omega⟩,(h.ct j hj).2⟩,h.fl,h.no,h.sz⟩
theorem cnm_inj {a b:ByteArray} (h:cnm a=cnm b):a=b:=by simpa [cnm] using h
theorem R7.make (h:R7 es cs bs fs m k) (hk:k≤1000) {j:Nat} (hj:j<3) {nd:Ino} (hn:ichk nd=0) (hz:nd.sz=0) (r:Nat) :
  R7 es (cs++[⟨cnm (Zg j),cvs ⟨(mget (Zg j) m).getD 0+1,0,0⟩,false⟩]++[⟨nnm ⟨Zg j,(mget (Zg j) m).getD 0⟩,iencS nd,false⟩]) (bs++[⟨Zg j,(mget (Zg j) m).getD 0⟩]) (fs++[⟨nd,⟨#[]⟩,r,[]⟩]) (mset (Zg j) ((mget (Zg j) m).getD 0+1) m) (k+1):=by
 obtain ⟨⟨v0,v1⟩,v2⟩:=h.ct j hj
 obtain ⟨v,hv⟩:∃v,(mget (Zg j) m).getD 0=v:=⟨_,rfl⟩
 rw [hv] at v0 v1 v2 ⊢
 obtain ⟨b',hb'⟩:∃b':Bi,⟨Zg j,v⟩=b':=⟨_,rfl⟩
 rw [hb']
 have hbc:bchk b'=0:=by rw [←hb'];exact bchk_mk rfl v0 (by show v≤1073741824;omega)
 have hnb:b' ∉ bs:=fun hm=>by
  obtain ⟨j0,hj0,e1,e2,e3⟩:=h.mr b' hm
  rw [←hb'] at e1 e3
  have e1:Zg j=Zg j0:=e1
  rw [←e1,hv] at e3
  have e3:v<v:=e3
  omega
 have hgm:∀j0,j0<3→mget (Zg j0) (mset (Zg j) (v+1) m)=if j=j0 then some (v+1) else mget (Zg j0) m:=fun j0 h0=>by
  rw [V1]
  by_cases he:j=j0
  ·rw [if_pos he,if_pos (by rw [he])]
  ·rw [if_neg he,if_neg (fun e=>he (V4 hj h0 e))]
 obtain ⟨cs',hcs⟩:∃cs',cs++[⟨cnm (Zg j),cvs ⟨v+1,0,0⟩,false⟩]++[⟨nnm b',iencS nd,false⟩]=cs':=⟨_,rfl⟩
 rw [hcs]
 have hvn:∀n,n≠cnm (Zg j)→n≠nnm b'→vget es cs' n=vget es cs n:=fun n h1 h2=>by
  rw [←hcs,XK (fun e=>h2 e.symm),XK (fun e=>h1 e.symm)]
 have hvb:vget es cs' (nnm b')=(iencS nd,true):=by rw [←hcs];exact YQ (Zx hbc)
 have hvc:vget es cs' (cnm (Zg j))=(cvs ⟨v+1,0,0⟩,true):=by
  rw [←hcs,XK (fun e=>VP e.symm)]
  exact YQ (Wb (YO j))
 have hblk:∀(a:Bi) (i:Int),vget es cs' (bnm a i)=vget es cs (bnm a i):=fun a i=>hvn _ (fun e=>cnm_bnm e.symm) XS
 refine ⟨?_,?_,?_,fun b hb=>?_,fun j0 h0=>?_,fun i b x h1 h2=>?_,fun b hb=>?_,?_⟩
 ·have:=h.len;simp;omega
 ·have:=h.lf;simp;omega
 ·rw [List.nodup_append]
  refine ⟨h.nd,List.nodup_cons.2 ⟨by simp,List.nodup_nil⟩,fun a ha c hc e=>?_⟩
  rw [List.mem_singleton.1 hc] at e
  exact hnb (e ▸ ha)
 ·rcases List.mem_append.1 hb with hb|hb
  ·obtain ⟨j0,hj0,e1,e2,e3⟩:=h.mr b hb
   refine ⟨j0,hj0,e1,e2,?_⟩
   rw [hgm j0 hj0]
   by_cases he:j=j0
   ·subst he
    rw [if_pos rfl]
    rw [hv] at e3
    show b.nu<v+1
    omega
   ·rw [if_neg he];exact e3
  ·rw [List.mem_singleton.1 hb,←hb']
   refine ⟨j,hj,rfl,v0,?_⟩
   rw [hgm j hj,if_pos rfl]
   show v<v+1
   omega
 ·rw [hgm j0 h0]
  by_cases he:j=j0
  ·subst he
   rw [if_pos rfl]
   refine ⟨⟨by show 0≤v+1;omega,by show v+1≤((k+1:Nat):Int);omega⟩,?_⟩
   unfold madeE
   rw [if_pos (YO j),hvc]
   simp only [if_true]
   rw [enc_cdec (ct_ok (by omega) (by omega))]
   rfl
  ·rw [if_neg he]
   obtain ⟨⟨w0,w1⟩,w2⟩:=h.ct j0 h0
   refine ⟨⟨w0,by omega⟩,?_⟩
   rw [made_cg (hvn _ (fun e=>he (V4 h0 hj (cnm_inj e)).symm) VP)]
   exact w2
 ·by_cases hi:i<bs.length
  ·rw [List.getElem?_append_left hi] at h1
   rw [List.getElem?_append_left (by rw [h.lf];exact hi)] at h2
   have hm:=List.mem_of_getElem? h1
   exact (h.fl i b x h1 h2).cg (hvn _ (fun e=>VP e.symm) (fun e=>hnb (nnm_inj e ▸ hm))) fun n=>hblk b n
  ·rw [List.getElem?_append_right (by omega)] at h1
   rw [List.getElem?_append_right (by have:=h.lf;omega)] at h2
   have hi0:i=bs.length:=by
    have:=(List.getElem?_eq_some_iff.1 h1).1
    simp at this;omega
   rw [hi0,Nat.sub_self] at h1
   rw [hi0,h.lf,Nat.sub_self] at h2
   cases h1
   cases h2
   have hno:=(h.no b' hnb).2
   have hbk:∀n:Int,vget es cs' (bnm b' n)=(⟨#[]⟩,false):=fun n=>by rw [hblk];exact hno n
   refine ⟨hn,hvb,fun hk1=>⟨hz,⟨⟨nd,hn,hk1,hz,hvb⟩,Nat.zero_le _,fun q hq=>?_,fun i hi=>by rw [hbk];intro _;rfl⟩⟩,fun _=>rfl,fun n hn=>by rw [hbk];rfl,fun n hn=>by rw [hbk];intro hh;cases hh⟩
   unfold fb
   rw [hbk,VA,Xa]
   rfl
 ·have h1:b ∉ bs:=fun hm=>hb (List.mem_append_left _ hm)
  have h2:b≠b':=fun e=>hb (by rw [e];exact List.mem_append_right _ (List.mem_singleton.2 rfl))
  obtain ⟨g1,g2⟩:=h.no b h1
  exact ⟨by rw [hvn _ (fun e=>VP e.symm) (fun e=>h2 (nnm_inj e))];exact g1,fun n=>by rw [hblk];exact g2 n⟩
 ·rw [←hcs,List.append_assoc]
  refine vsz_app h.sz fun c hc=>?_
  have h1:=W2 (ct_ok (z:=v+1) (by omega) (by omega))
  have h2:=Zw nd
  simp only [List.cons_append,List.nil_append,List.mem_cons,List.not_mem_nil,or_false] at hc
  rcases hc with rfl|rfl
  ·dsimp only;omega
  ·dsimp only;omega
end
def Gd7 (cs:List Ch):Prop:=(∀c ∈ cs,(nchk c.nm=0∧c.val.size≤65536∧(c.abs=true→c.val=⟨#[]⟩))∧ShN c.nm)∧cs.length≤70
theorem ofB_sh {b:Bi} {n:Nm} (h:OfB b n) (hb:b.mkr.size≤1000):ShN n:=by
 rcases h with rfl|⟨i,rfl⟩<;>exact ⟨hb,Nat.zero_le _⟩
section
variable {k:Nat}
theorem R7.bsz (h:R7 es [] bs fs m k):∀b ∈ bs,b.mkr.size≤3:=fun b hb=>by
 obtain ⟨j,_,e,_⟩:=h.mr b hb
 rw [e];exact XD j
theorem XO:Gd7 []:=⟨(fun c hc=>by cases hc),Nat.zero_le _⟩
theorem read7 (h:R7 es [] bs fs m k) (hk:k≤500) (wd:UInt8) (f c:Int):((qRead (bthF bs wd) f c).run es []).1=mRead bs fs (bthF bs wd) f c∧((qRead (bthF bs wd) f c).run es []).2.2=[]:=by
 obtain ⟨g1,g2⟩:=Y0 h (by omega) wd
 unfold qRead mRead
 rw [run_bind,Z7,←g1]
 dsimp only
 by_cases he:(ifile es [] (bthF bs wd)).2≠0
 ·rw [if_pos he,if_pos he];exact ⟨rfl,rfl⟩
 ·rw [if_neg he,if_neg he]
  obtain ⟨x,e1,e2,e3,e4,e5⟩:=g2 (by rw [←g1];omega)
  by_cases hn:f<0∨c<0
  ·rw [if_pos hn,if_pos hn];exact ⟨rfl,rfl⟩
  ·rw [if_neg hn,if_neg hn,e1,e4,run_bind,WN]
   obtain ⟨z1,z2⟩:=e5.f e3
   obtain ⟨f',rfl⟩:∃k:Nat,f=(k:Int):=⟨f.toNat,by omega⟩
   obtain ⟨c',rfl⟩:∃k:Nat,c=(k:Int):=⟨c.toNat,by omega⟩
   have hr:=rd_both z2 f' c'
   rw [z1]
   simp only [run,Int.toNat_natCast,List.nil_append]
   refine ⟨?_,trivial⟩
   rw [hr]
   split<;>rfl
theorem write7 (h:R7 es [] bs fs m k) (hk:k≤500) (wd:UInt8) (f:Int) (s:ByteArray):((qWrite (bthF bs wd) f s).run es []).1=(mWrite bs fs (bthF bs wd) f s).1∧R7 es ((qWrite (bthF bs wd) f s).run es []).2.2 bs (mWrite bs fs (bthF bs wd) f s).2 m k∧Gd7 ((qWrite (bthF bs wd) f s).run es []).2.2:=by
 obtain ⟨g1,g2⟩:=Y0 h (by omega) wd
 have hbz:=Zu h.bsz wd
 have hbc:=(YX h (by omega) wd).1
 unfold qWrite mWrite
 rw [run_bind,Z7,←g1]
 dsimp only
 by_cases he:(ifile es [] (bthF bs wd)).2≠0
 ·rw [if_pos he,if_pos he];exact ⟨rfl,h,XO⟩
 ·rw [if_neg he,if_neg he]
  obtain ⟨x,e1,e2,e3,e4,e5⟩:=g2 (by rw [←g1];omega)
  by_cases hn:f<0∨4096<f
  ·rw [if_pos hn,if_pos hn];exact ⟨rfl,h,XO⟩
  ·rw [if_neg hn,if_neg hn]
   by_cases h4:f=4096∧isE s=false
   ·rw [if_pos h4,if_pos h4];exact ⟨rfl,h,XO⟩
   ·rw [if_neg h4,if_neg h4]
    obtain ⟨f',rfl⟩:∃k:Nat,f=(k:Int):=⟨f.toNat,by omega⟩
    simp only [Int.toNat_natCast]
    have hus:(mWrS s f').size=min s.size (4096 - f'):=by unfold mWrS;rw [ByteArray.size_extract];omega
    have hq:=qWrL_run (es:=es) (bi:=bthF bs wd) f' s (pts f' (f'+min s.size (4096 - f'))) [] (igetR es [] [] (bthF bs wd))
    rw [run_bind]
    generalize hG:(qWrL (bthF bs wd) f' s (pts f' (f'+min s.size (4096 - f')))).run es []=G at *
    have hq2:(iwQ es [] [] (bthF bs wd) f' s).2=G.2.2:=by unfold iwQ;rw [hq]
    by_cases h0:min s.size (4096 - f')=0
    ·have hE:isE (mWrS s f')=true:=by rw [isE_eq];exact decide_eq_true (ba_zero (by omega))
     rw [if_pos hE,h0,if_neg (by omega)]
     rw [h0,Nat.add_zero,pts_nil] at hG
     subst hG
     exact ⟨rfl,h,XO⟩
    ·have hE:¬isE (mWrS s f')=true:=fun hE=>by
      rw [isE_eq] at hE
      have:=of_decide_eq_true hE
      rw [this] at hus
      have h00:(⟨#[]⟩:ByteArray).size=0:=rfl
      omega
     rw [if_neg hE,e1,e4]
     dsimp only
     have hFR:=e5.write e3 hbc (f:=f') (s:=s) (by omega) (by omega)
     obtain ⟨ds,d1,d2,d3⟩:=write_nm (es:=es) (cs:=[]) (b:=bthF bs wd) (f:=f') (s:=s) (by omega) hbc
     have hif:(ifile es [] (bthF bs wd)).1=x.nd:=e4
     have hrun:(VQ.run es (if 0<min s.size (4096 - f')∧x.nd.sz<((f'+min s.size (4096 - f'):Nat):Int) then VQ.set (nnm (bthF bs wd)) (iencS {x.nd with sz:=((f'+min s.size (4096 - f'):Nat):Int)}) (VQ.ret (((min s.size (4096 - f'):Nat):Int),(0:Int))) else VQ.ret (((min s.size (4096 - f'):Nat):Int),0)) G.2.2)=((((min s.size (4096 - f'):Nat):Int),0),[],(iwQ es [] [] (bthF bs wd) f' s).2++iwN es [] (bthF bs wd) f' s):=by
      unfold iwN
      rw [hif,hq2]
      by_cases hg:0<min s.size (4096 - f')∧x.nd.sz<((f'+min s.size (4096 - f'):Nat):Int)
      ·rw [if_pos hg,if_pos hg];rfl
      ·rw [if_neg hg,if_neg hg,List.append_nil];rfl
     rw [hrun]
     refine ⟨by rw [hus],?_,?_⟩
     ·dsimp only
      rw [d1] at hFR ⊢
      exact h.file e2 (ofB_app fun c hc=>(d2 c hc).1) hFR (vsz_app h.sz fun c hc=>(d2 c hc).2.2.1)
     ·dsimp only
      rw [d1,List.nil_append]
      exact ⟨fun c hc=>⟨(d2 c hc).2,ofB_sh (d2 c hc).1 hbz⟩,by omega⟩
theorem resize7 (h:R7 es [] bs fs m k) (hk:k≤500) (wd:UInt8) (n:Int):((qResize (bthF bs wd) n).run es []).1=(mResize bs fs (bthF bs wd) n).1∧R7 es ((qResize (bthF bs wd) n).run es []).2.2 bs (mResize bs fs (bthF bs wd) n).2 m k∧Gd7 ((qResize (bthF bs wd) n).run es []).2.2:=by
 obtain ⟨g1,g2⟩:=Y0 h (by omega) wd
 have hbz:=Zu h.bsz wd
 have hbc:=(YX h (by omega) wd).1
 unfold qResize mResize
 rw [run_bind,Z7,←g1]
 dsimp only
 by_cases he:(ifile es [] (bthF bs wd)).2≠0
 ·rw [if_pos he,if_pos he];exact ⟨rfl,h,XO⟩
 ·rw [if_neg he,if_neg he]
  obtain ⟨x,e1,e2,e3,e4,e5⟩:=g2 (by rw [←g1];omega)
  by_cases hn:n<0∨4096<n
  ·rw [if_pos hn,if_pos hn];exact ⟨rfl,h,XO⟩
  ·rw [if_neg hn,if_neg hn,e1,e4]
   dsimp only
   obtain ⟨n',rfl⟩:∃k:Nat,n=(k:Int):=⟨n.toNat,by omega⟩
   obtain ⟨z1,z2⟩:=e5.f e3
   have hle:=z2.le
   have hFR:=e5.resize e3 hbc (n:=n') (by omega)
   obtain ⟨ds,d1,d2,d3⟩:=resize_nm (es:=es) (cs:=[]) hbc n' x.ct.size (by omega)
   have hrun:∃N,(VQ.run es (if (n':Int)=x.nd.sz then VQ.ret (0:Int) else (if (n':Int)<x.nd.sz then qCut (bthF bs wd) (n':Int).toNat x.nd.sz.toNat else VQ.ret ()).bind fun _=>VQ.set (nnm (bthF bs wd)) (iencS {x.nd with sz:=(n':Int)}) (VQ.ret 0)) [])=(0,N,rszC es [] (bthF bs wd) n' x.ct.size):=by
    unfold rszC
    rw [z1,show (ifile es [] (bthF bs wd)).1=x.nd from e4]
    by_cases h1:(n':Int)=(x.ct.size:Int)
    ·rw [if_pos h1,if_pos (by omega)];exact ⟨_,rfl⟩
    ·rw [if_neg h1,if_neg (show ¬n'=x.ct.size by omega),run_bind]
     by_cases h2:(n':Int)<(x.ct.size:Int)
     ·rw [if_pos h2,if_pos (by omega)]
      simp only [Int.toNat_natCast]
      rw [Vp]
      exact ⟨_,rfl⟩
     ·rw [if_neg h2,if_neg (by omega)]
      exact ⟨_,rfl⟩
   obtain ⟨N,hrun⟩:=hrun
   rw [hrun]
   refine ⟨rfl,?_,?_⟩
   ·dsimp only
    rw [d1] at hFR ⊢
    simp only [Int.toNat_natCast]
    exact h.file e2 (ofB_app fun c hc=>(d2 c hc).1) hFR (vsz_app h.sz fun c hc=>(d2 c hc).2.2.1)
   ·dsimp only
    rw [d1,List.nil_append]
    exact ⟨fun c hc=>⟨(d2 c hc).2,ofB_sh (d2 c hc).1 hbz⟩,by omega⟩
theorem set7 (h:R7 es [] bs fs m k) (hk:k≤500) (wd:UInt8) (nd:Ino):((qSet (bthF bs wd) nd).run es []).1=(mSet bs fs (bthF bs wd) nd).1∧R7 es ((qSet (bthF bs wd) nd).run es []).2.2 bs (mSet bs fs (bthF bs wd) nd).2 m k∧Gd7 ((qSet (bthF bs wd) nd).run es []).2.2:=by
 obtain ⟨hbc,hc⟩:=YX h (by omega) wd
 have hbz:=Zu h.bsz wd
 unfold qSet mSet
 by_cases h0:ichk nd≠0
 ·rw [if_pos h0,if_pos h0];exact ⟨rfl,h,XO⟩
 ·rw [if_neg h0,if_neg h0,if_neg (show ¬bchk (bthF bs wd)≠0 by omega),run_bind,W4]
  dsimp only
  rcases hc with ⟨i,x,h1,h2,h3⟩|⟨h1,h3⟩
  ·have hf:=h.fl i _ x h1 h2
   rw [iget_in hbc hf,h3]
   dsimp only
   rw [h2,if_neg (show ¬(0:Int)≠0 by simp)]
   dsimp only
   by_cases hd:x.nd.kd≠nd.kd
   ·rw [if_pos hd,if_pos hd];exact ⟨rfl,h,XO⟩
   ·rw [if_neg hd,if_neg hd]
    have hFR:=hf.set hbc (nd:=nd) (by omega) (by omega)
    have hsz:=Zw {nd with sz:=x.nd.sz}
    refine ⟨rfl,?_,?_⟩
    ·exact h.file h1 (ofB_app fun c hc=>by rw [List.mem_singleton.1 hc];exact .inl rfl) hFR (vsz_app h.sz fun c hc=>by rw [List.mem_singleton.1 hc];dsimp only;omega)
    ·show Gd7 ([]++[_])
     rw [List.nil_append]
     exact ⟨fun c hc=>by rw [List.mem_singleton.1 hc];exact ⟨⟨Zx hbc,by dsimp only;omega,fun h=>by cases h⟩,ofB_sh (.inl rfl) hbz⟩,by simp⟩
  ·rw [iget_out hbc (h.no _ h1).1,h3]
   dsimp only
   rw [if_pos (show (8:Int)≠0 by decide)]
   exact ⟨rfl,h,XO⟩
theorem make7 (h:R7 es [] bs fs m k) (hk:k≤500) {j:Nat} (hj:j<3) (nd:Ino) (r:Nat):((qMake (Zg j) nd).run es []).1=((mMake bs m (Zg j) nd).b,(mMake bs m (Zg j) nd).e)∧R7 es ((qMake (Zg j) nd).run es []).2.2 (mMake bs m (Zg j) nd).bs (mMakeF fs nd r) (mMake bs m (Zg j) nd).m (k+1)∧Gd7 ((qMake (Zg j) nd).run es []).2.2:=by
 obtain ⟨⟨v0,v1⟩,v2⟩:=h.ct j hj
 have hsz:=XD j
 rw [VO]
 unfold mMake mMakeF
 by_cases h1:ichk nd≠0
 ·have e1:mkE es [] (Zg j) nd=(Bi.z,ichk nd):=by rw [mkE,if_pos h1]
  rw [mkC,e1]
  dsimp only
  rw [if_neg h1,if_pos h1,if_pos h1]
  exact ⟨rfl,h.succ,XO⟩
 ·by_cases h2:nd.sz≠0
  ·have e1:mkE es [] (Zg j) nd=(Bi.z,2):=by rw [mkE,if_neg h1,if_pos h2]
   rw [mkC,e1]
   dsimp only
   rw [if_neg (show ¬(2:Int)=0 by decide),if_neg h1,if_pos h2,if_neg h1,if_pos h2]
   exact ⟨rfl,h.succ,XO⟩
  ·have e1:mkE es [] (Zg j) nd=nbE es [] (Zg j):=by rw [mkE,if_neg h1,if_neg h2]
   have e2:nbE es [] (Zg j)=(⟨Zg j,(mget (Zg j) m).getD 0⟩,0):=by
    rw [nbE,v2]
    dsimp only
    rw [if_neg (show ¬(0:Int)≠0 by simp),if_neg (by omega)]
   have e3:nbC es [] (Zg j)=[]++[⟨cnm (Zg j),cvs ⟨(mget (Zg j) m).getD 0+1,0,0⟩,false⟩]:=by rw [nbC,e2,v2];rfl
   rw [mkC,e1,e2,e3]
   dsimp only
   rw [if_pos rfl,if_neg h1,if_neg h2,if_neg h1,if_neg h2]
   have hM:=h.make (by omega) hj (nd:=nd) (by omega) (by omega) r
   refine ⟨rfl,hM,?_⟩
   have w1:=W2 (ct_ok (z:=(mget (Zg j) m).getD 0+1) (by omega) (by omega))
   have w2:=Zw nd
   have hbc:bchk ⟨Zg j,(mget (Zg j) m).getD 0⟩=0:=bchk_mk rfl v0 (by dsimp only;omega)
   refine ⟨fun c hc=>?_,by simp⟩
   simp only [List.nil_append,List.cons_append,List.mem_cons,List.not_mem_nil,or_false] at hc
   rcases hc with rfl|rfl
   ·exact ⟨⟨Wb (YO j),by dsimp only;omega,fun h=>by cases h⟩,by show (Zg j).size≤_;omega,Nat.zero_le _⟩
   ·exact ⟨⟨Zx hbc,by dsimp only;omega,fun h=>by cases h⟩,by show (Zg j).size≤_;omega,Nat.zero_le _⟩
end
end
theorem fok0 {i:Nat} (h:i<2):FOK es27 [] (XF i) ⟨#[]⟩:=by
 refine ⟨⟨nd27 i,(nd27_ok (i:=i) (by omega)).2.1,?_,?_,es27_n (by omega)⟩,by decide,fun k hk=>?_,fun j hj=>?_⟩
 ·match i,h with
  | 0,_=>rfl
  | 1,_=>rfl
 ·match i,h with
  | 0,_=>rfl
  | 1,_=>rfl
 ·unfold fb
  rw [es27_b,VA,Xa];rfl
 ·rw [es27_b];intro _;rfl
def szN (x:Int):Nat:=(min (max x 0) 4096).toNat
theorem app_data (a b:ByteArray):(a++b).data.toList=a.data.toList++b.data.toList:=by simp
theorem wfold_pts (es:Al) (bi:Bi) (f:Nat) (s:ByteArray) (rs:List (Nm×Ch)) (cs:List Ch):((iwQ es rs cs bi f s).2++iwN es cs bi f s).length≤cs.length+s.size+1:=by
 have h1:=Wp (f+min s.size (4096 - f) - f) f (f+min s.size (4096 - f)) (Nat.le_refl _)
 have h2:(iwN es cs bi f s).length≤1:=by unfold iwN;split<;>simp
 simp only [List.length_append,iwQ,WJ]
 omega
end Go.Proofs.YtdkndahndgkmnaaGreatDoor
