/-
  Contracts of the package process where the view is nil; an operation of the statements' model in it.
  An operation of the statements about layer 35, performed in a new view.
  The model of the statements about layer 35: its maps; get.
  The model of the statements about layer 35: set, memory.
  The model of the statements about layer 35: memory.
  The model of the statements about layer 35: child.
  The model of the statements about layer 35: child, walked.
  The statements' own check of processes.
  The model of the statements about layer 35: what an operation does, as a function; its walk, first part.
  The model of the statements about layer 35: the walk of an operation, second part.
  The model of the statements about layer 35: the walk of an operation, second part.
  The model of the statements about layer 35: the walk of an operation, second part.
  The model of the statements about layer 35: the walk of an operation, second part.
  The model of the statements about layer 35: the walk of an operation, second part.
  The model of the statements about layer 35: the walk of an operation, second part.
  The model of the statements about layer 35: the walk of an operation, second part.
  Processes compared by the statements' own equal.
  The model of the statements about layer 35: any operation; whether two results are the same.
  An operation of the statements about layer 35, performed in a new view: the rest.
  A store to the memory of a process, as an operation of the statements about layer 35; all operations.
  The plain law of layer 35: what a view shows and what the model says; no program in sight.
  The plain law of layer 35: what a change of a view is in the model; no program in sight.
  The plain law of layer 35: each operation does in the view what it does in the model, first part; no program in sight.
  The plain law of layer 35: each operation does in the view what it does in the model, second part; no program in sight.
  The plain law of layer 35: each operation does in the view what it does in the model, third part: a new child, and all operations; no program in sight.
  The plain law of layer 35: what the statements read in the end; no program in sight.
  From contracts to the statements' form: memory that was there stays; plain data read the same everywhere; the table of the kinds.
  Conditions: those that each theorem states.
-/
import Derived.Test.YtgfohjbcccfolaaGreatDoorU3
import Derived.Test.YtgfohjbcccfolaaGreatDoorU4
import Derived.Test.YtgfohjbcccfolaaGreatDoorU2
import Derived.Test.YtgfohjbcccfolaaGreatDoorRows
import Derived.Test.YtgfohjbcccfolaaGreatDoorCards
import Derived.Test.YtgfohjbcccfolaaGreatDoorTie
import Derived.ChangeSame
import Derived.ProofKit
import Derived.OpenShut
import Derived.MakeChecks
import Derived.Deep.DeepHandedRow
set_option maxRecDepth 10000
namespace Go.Proofs.YtgfohjbcccfolaaGreatDoor
open Go.RowKit Go.Proofs.Tryz
abbrev nilW:Value:=.pointer none
abbrev zPr:Value:=.agg #[.int .i64 0,.int .i64 0,.int .i64 0,.int .i64 0,.int .i64 0,.slice none 0 0,.string ⟨#[]⟩,.int .i64 0,.string ⟨#[]⟩,.int .i64 0,.int .i64 0]
variable {n:Nat} {C:Cx} {Q:Exit→Act→World→Prop} {E E':List (Nat×Value)} {F Fs:List Pf} {R R0 N:List HP} {ops:List Oper} {L:List (Nat×Nat)} {Tl:List Nat} {i d:Nat} {t ty0:TypeId} {x y:Operand} {pos:String} {aft:Array Edge}
section
variable {F' F1 F0:List Pf} {R' Rs N' A:List HP} {k k':List Fr} {l:List Oper} {L':List (Nat×Nat)} {gd:Option (Nat×Bool)} {b off:Nat} {cs:Array Value} {ty:TypeId} {fzn:Nat×Nat} {v:Value}
theorem run_indexAtK {T sz:Nat} {o:Option Addr} {m cap i:Nat} {w:World} {rs tr:TRow} (hts:lookT tab t=some rs) (hrs:rs.k = .slice T) (hT:lookT tab T=some tr) (hsz:tr.size=sz) {z:Int} {kd:IntKind} (hz:z=(i:Int)) (hi:i<m) {p:Addr} (ho:o.map (·.add (i * sz))=some p) :
  (Instr.indexAt t (.slice o m cap) (.int kd z)).run prog w = .ok (.pointer (some p)) w:=by
 obtain ⟨d1,hd1,hk1⟩:=Zj.und hts
 rw [hrs] at hk1
 have hu1:(underlying t).run prog w = .ok (.slice T) w:=by
  cases d1<;>simp [chkKind] at hk1
  subst hk1
  simp [underlying,hd1,go_sem]
 have hs1:=Zj.sizeOf hT w
 rw [hsz] at hs1
 cases o with
 | none=>cases ho
 | some a=>
  subst hz
  simp only [Option.map_some,Option.some.injEq] at ho
  unfold Instr.indexAt
  simp only [asIntOf,Sem.run_bind,Sem.run_pure,Result.andThen,hu1]
  have hc:(0:Int)≤(i:Int)∧(i:Int)<((m:Nat):Int):=⟨by omega,by omega⟩
  rw [if_pos hc]
  simp only [Sem.run_bind,hs1,Result.andThen,Sem.run_pure,Int.toNat_natCast,ho]
theorem Zi {T sz m cap:Nat} {z:Int} {kd:IntKind} {rs tr:TRow} (j:Nat) (hlt:j<m) (nx:Wr n C ops k Q Tl Fs R L ((d,.pointer (some ⟨b,j * sz,none⟩))::E) F N)
  (ho:nth ops i=some ⟨some d,.indexAddr t x y,ty0,pos,aft,gd⟩:=by rfl) (hw:wantL ops E ⟨some d,.indexAddr t x y,ty0,pos,aft,gd⟩=some true:=by rfl) (hx:ev E x=some (.slice (some ⟨b,0,none⟩) m cap):=by rfl) (hy:ev E y=some (.int kd z):=by rfl)
  (hts:lookT tab t=some rs:=by rfl) (hrs:rs.k = .slice T:=by rfl) (hT:lookT tab T=some tr:=by rfl) (hsz:tr.size=sz:=by rfl) (hz:z=(j:Int):=by first|rfl|omega):Wr n C ops k Q Tl Fs R ((i,0)::L) E F N:=
 r_q (fun a w ha=>by
  have hr1:=run_indexAtK (kd:=kd) (o:=some ⟨b,0,none⟩) (m:=m) (cap:=cap) (w:=w) hts hrs hT hsz hz hlt (p:=⟨b,j * sz,none⟩) (by simp [Y2 rfl])
  simp only [execOp,ha.ev (x:=x) (by rw [ZL];exact hx),ha.ev (x:=y) (by rw [ZL];exact hy),Sem.run_bind,Result.andThen,hr1,Sem.run_pure]) nx ho hw
end
def nm35:List ByteArray:=[⟨#[49]⟩,⟨#[50]⟩,⟨#[49,46,49]⟩,⟨#[49,46,50]⟩,⟨#[49,46,49,46,49]⟩,⟨#[50,46,49]⟩,⟨#[120]⟩]
abbrev sf:ByteArray→List Value:=fun s=>[.string s]
theorem Zc:Enters 47∧Spec prog 47 #[] [] [] ⟨Nat,fun b=>.slice (some ⟨b,0,none⟩) 7 7,fun _=>True,fun _=>[],fun b=>[Ax 28 sf b nm35 ([],(0,0))]⟩:=by
 refine ZH [] func47 ntmps47 fun G w hp=>?_
 repeat' (first|refine ZC ?_|refine ZB ?_|refine ZD ?_|refine Yo (fun b=>?_)|fail)
 exact ZG b rfl trivial
structure Oq where
 k:Nat
 w:Nat
 n:Int
 a:Int
 t:ByteArray
 p:Pr
 ic:ByteArray
 id:ByteArray
 iz:Int
 ie:Int
def Oq.v (q:Oq) (o:Option Addr) (c:Nat):Value:=.agg #[.int .u8 q.k,.int .u8 q.w,.int .i64 q.n,.int .i64 q.a,.string q.t,.int .i64 q.p.kd,.int .i64 q.p.st,.int .i64 q.p.cd,.int .i64 q.p.ep,.int .i64 q.p.us,.slice o q.p.gs.length c,.string q.p.sp,.int .i64 q.p.pg,.string q.p.dr.mkr,.int .i64 q.p.dr.nu,.int .i64 q.p.tm,.string q.ic,.string q.id,.int .i64 q.iz,.int .i64 q.ie]
def cutQ (q:Oq):Oq:={q with t:=cutS q.t 300,p:=shP q.p}
theorem cut35_ok (q:Oq) (o:Option Addr) (c:Nat) (hl:q.p.gs.length≤1099511627776):Enters 32∧Spec prog 32 #[q.v o c] [Sl 3 zf o c q.p.gs] []
  ⟨Option Addr,fun o'=>(cutQ q).v o' c,fun _=>True,fun o'=>[Sl 3 zf o' c (cutQ q).p.gs],fun _=>[]⟩:=by
 have n1:=short35_ok q.p o c hl
 obtain ⟨y1,y2,y3,y4,y5,⟨x1,x2,x3,x4,x5,xs,x7,x8,⟨x9,x10⟩,x11⟩,y7,y8,y9,y10⟩:=q
 simp only [Pr.v,shP] at n1
 simp only [Oq.v,cutQ,shP]
 refine ZH [_] func32 ntmps32 fun G w hp=>?_
 repeat' (first|refine ZC ?_|refine ZB ?_|refine ZD ?_|refine ZP ?_|refine ZS ?_|refine ZN (fun b=>?_)|refine ZA (n1) (fun _ _=>?_)|refine l_cutS 300 ?_|fail)
 rename_i o' _
 exact ZG o' rfl trivial
abbrev zRs:Value:=.agg #[.int .i64 0,.string ⟨#[]⟩,.int .i64 0,.int .i64 0,.int .i64 0,.int .i64 0,.int .i64 0,.slice none 0 0,.string ⟨#[]⟩,.int .i64 0,.string ⟨#[]⟩,.int .i64 0,.int .i64 0,.int .i64 1]
theorem and7 (z:Int):∃j:Nat,j<8∧IntKind.i64.wrap (((BitVec.ofInt IntKind.i64.bits z &&& BitVec.ofInt IntKind.i64.bits 7).toNat:Nat):Int)=(j:Int):=by
 have h1:(BitVec.ofInt IntKind.i64.bits z &&& BitVec.ofInt IntKind.i64.bits 7).toNat≤7:=by
  rw [BitVec.toNat_and]
  have:(BitVec.ofInt IntKind.i64.bits 7).toNat=7:=by decide
  rw [this]
  exact Nat.and_le_right
 exact ⟨_,by omega,wrapi (by omega) (by omega)⟩
def RgP:Post:=⟨{g:List Int // g.length=9},fun g=>rgV g.1,fun _=>True,fun _=>[],fun _=>[]⟩
section
open VP
def rgJ (z:Int):Nat:=(IntKind.i64.wrap (((BitVec.ofInt IntKind.i64.bits z &&& BitVec.ofInt IntKind.i64.bits 7).toNat:Nat):Int)).toNat
def rgN (z:Int):List Int:=(List.replicate 8 (0:Int)).set (rgJ z) (IntKind.u32.wrap z)++[IntKind.u32.wrap (IntKind.u32.wrap z * 3)]
theorem wrapU (z:Int):0≤IntKind.u32.wrap z∧IntKind.u32.wrap z<4294967296:=by
 simp [IntKind.wrap,IntKind.bits,IntKind.signed];omega
theorem rgN_rng (z:Int):∀x ∈ rgN z,0≤x∧x<4294967296:=fun x hx=>by
 unfold rgN at hx
 rcases List.mem_append.1 hx with h|h
 ·rcases List.mem_or_eq_of_mem_set h with h|h
  ·rw [List.eq_of_mem_replicate h];decide
  ·rw [h];exact wrapU z
 ·rw [List.mem_singleton.1 h];exact wrapU _
theorem rgN_nine (z:Int):∃a1 a2 a3 a4 a5 a6 a7 a8 a9,rgN z=[a1,a2,a3,a4,a5,a6,a7,a8,a9]:=by
 have h:(rgN z).length=9:=by unfold rgN;simp
 generalize rgN z=g at *
 obtain _|⟨a1,_|⟨a2,_|⟨a3,_|⟨a4,_|⟨a5,_|⟨a6,_|⟨a7,_|⟨a8,_|⟨a9,_|⟨a10,l⟩⟩⟩⟩⟩⟩⟩⟩⟩⟩:=g
 all_goals try (simp at h;done)
 exact ⟨a1,a2,a3,a4,a5,a6,a7,a8,a9,rfl⟩
theorem regsN_ok (z:Int):Enters 91∧Spec prog 91 #[.int .i64 z] [] [] (RetV (rgV (rgN z))):=by
 obtain ⟨j,hj,hw⟩:=and7 z
 have hJ:rgJ z=j:=by unfold rgJ;rw [hw];exact Int.toNat_natCast j
 unfold rgN
 rw [hJ]
 rcases (show j=0∨j=1∨j=2∨j=3∨j=4∨j=5∨j=6∨j=7 by omega) with rfl|rfl|rfl|rfl|rfl|rfl|rfl|rfl
 all_goals
  (refine ZH [_] func91 ntmps91 fun G w hp=>?_
   repeat' (first|refine ZC ?_|refine ZB ?_|refine ZD ?_|refine ZP ?_|refine ZS ?_|refine ZN (fun b=>?_)|refine l_ixA (m:=8) _ hj ?_ (hz:=hw)|fail)
   exact ZG () rfl trivial)
section
variable (b:Nat) (ps:Option Addr) (es:Al) (rs:List (Nm×Ch)) (cs:List Ch) (who:ByteArray)
theorem forkG_ok (hS:Sml es cs) (hw:who.size≤1000) (hne:isE who=false) (hl:cs.length≤900000):Enters 11∧Spec prog 11 #[.pointer (some ⟨b,0,none⟩),.string who] [St ps es,Usg,P10] [Vw b ps rs cs]
  ⟨Unit,fun _=>.tuple #[.string ((pSpawn who false).run es cs).1.1,.int .i64 ((pSpawn who false).run es cs).1.2],fun _=>True,fun _=>[],fun _=>[Vw b ps (rsOf es ((pSpawn who false).run es cs).2.1 rs) ((pSpawn who false).run es cs).2.2]⟩:=by
 have n1:=spawnG_ok b ps es rs cs who false hS hw hne hl
 generalize (pSpawn who false).run es cs=X at *
 generalize b=bv at *
 refine ZH [_,_] func11 ntmps11 fun G w hp=>?_
 repeat' (first|refine ZC ?_|refine ZB ?_|refine ZD ?_|refine ZA (n1) (fun _ _=>?_)|fail)
 exact ZG () rfl trivial
theorem threadG_ok (hS:Sml es cs) (hw:who.size≤1000) (hne:isE who=false) (hl:cs.length≤900000):Enters 29∧Spec prog 29 #[.pointer (some ⟨b,0,none⟩),.string who] [St ps es,Usg,P10] [Vw b ps rs cs]
  ⟨Unit,fun _=>.tuple #[.string ((pSpawn who true).run es cs).1.1,.int .i64 ((pSpawn who true).run es cs).1.2],fun _=>True,fun _=>[],fun _=>[Vw b ps (rsOf es ((pSpawn who true).run es cs).2.1 rs) ((pSpawn who true).run es cs).2.2]⟩:=by
 have n1:=spawnG_ok b ps es rs cs who true hS hw hne hl
 generalize (pSpawn who true).run es cs=X at *
 generalize b=bv at *
 refine ZH [_,_] func29 ntmps29 fun G w hp=>?_
 repeat' (first|refine ZC ?_|refine ZB ?_|refine ZD ?_|refine ZA (n1) (fun _ _=>?_)|fail)
 exact ZG () rfl trivial
end
structure Rz where
 n:Int
 nm:ByteArray
 p:Pr
 e:Int
def Rz.v (r:Rz) (o:Option Addr) (c:Nat):Value:=.agg #[.int .i64 r.n,.string r.nm,.int .i64 r.p.kd,.int .i64 r.p.st,.int .i64 r.p.cd,.int .i64 r.p.ep,.int .i64 r.p.us,.slice o r.p.gs.length c,.string r.p.sp,.int .i64 r.p.pg,.string r.p.dr.mkr,.int .i64 r.p.dr.nu,.int .i64 r.p.tm,.int .i64 r.e]
def ZI (q:Oq):ByteArray:=nm35.getD (q.w % 7) ⟨#[]⟩
def memF (es:Al) (who:ByteArray) (a:Int) (tx:ByteArray):Int×List Ch:=
 if ((pMof who).run es []).1.2≠0 then (((pMof who).run es []).1.2,[]) else if tx.size≠0∧¬(0≤a∧a+tx.size≤64 * ((pMof who).run es []).1.1.2.pg) then (23,[]) else
  (0,if tx.size=0 then [] else putS es [] ((pMof who).run es []).1.1.1.sp ((pMof who).run es []).1.1.2.pg.toNat a.toNat tx)
def Oq.im (q:Oq):Im:=⟨q.ic,q.id,q.iz,q.ie⟩
def perfF (es:Al) (q:Oq):Rz×List Ch:=
 if q.k % 12=0 then (⟨0,⟨#[]⟩,Pr.z,((pStart (ZI q) q.p).run es []).1⟩,((pStart (ZI q) q.p).run es []).2.2)
 else if q.k % 12=1 then (⟨0,((pSpawn (ZI q) false).run es []).1.1,Pr.z,((pSpawn (ZI q) false).run es []).1.2⟩,((pSpawn (ZI q) false).run es []).2.2)
 else if q.k % 12=2 then (⟨0,((pSpawn (ZI q) true).run es []).1.1,Pr.z,((pSpawn (ZI q) true).run es []).1.2⟩,((pSpawn (ZI q) true).run es []).2.2)
 else if q.k % 12=3 then (⟨0,⟨#[]⟩,Pr.z,((pExit (ZI q) q.n).run es []).1⟩,((pExit (ZI q) q.n).run es []).2.2)
 else if q.k % 12=4 then (⟨((pWait (ZI q) q.n).run es []).1.1,⟨#[]⟩,Pr.z,((pWait (ZI q) q.n).run es []).1.2⟩,((pWait (ZI q) q.n).run es []).2.2)
 else if q.k % 12=5 then (⟨0,⟨#[]⟩,Pr.z,((pSet (ZI q) q.p).run es []).1⟩,((pSet (ZI q) q.p).run es []).2.2)
 else if q.k % 12=6 then (⟨0,⟨#[]⟩,Pr.z,(memF es (ZI q) q.a q.t).1⟩,(memF es (ZI q) q.a q.t).2)
 else if q.k % 12=7 then (⟨((pGrow (ZI q) q.n).run es []).1.1,⟨#[]⟩,Pr.z,((pGrow (ZI q) q.n).run es []).1.2⟩,((pGrow (ZI q) q.n).run es []).2.2)
 else if q.k % 12=8 then (⟨0,⟨#[]⟩,Pr.z,((pLoad (ZI q) q.im).run es []).1⟩,((pLoad (ZI q) q.im).run es []).2.2)
 else if q.k % 12=9 then (⟨(pBoot.run es []).1.1,⟨#[]⟩,Pr.z,(pBoot.run es []).1.2⟩,(pBoot.run es []).2.2)
 else if q.k % 12=10 then (⟨0,⟨#[]⟩,Pr.z,((pSetR (ZI q) ⟨(encR (rgN q.n)).toArray⟩).run es []).1⟩,((pSetR (ZI q) ⟨(encR (rgN q.n)).toArray⟩).run es []).2.2)
 else (⟨0,⟨#[]⟩,((pGet (ZI q)).run es []).1.1,((pGet (ZI q)).run es []).1.2⟩,((pGet (ZI q)).run es []).2.2)
def perfN (es:Al) (q:Oq):List Nm:=
 if q.k % 12=0 then ((pStart (ZI q) q.p).run es []).2.1
 else if q.k % 12=1 then ((pSpawn (ZI q) false).run es []).2.1
 else if q.k % 12=2 then ((pSpawn (ZI q) true).run es []).2.1
 else if q.k % 12=3 then ((pExit (ZI q) q.n).run es []).2.1
 else if q.k % 12=4 then ((pWait (ZI q) q.n).run es []).2.1
 else if q.k % 12=5 then ((pSet (ZI q) q.p).run es []).2.1
 else if q.k % 12=7 then ((pGrow (ZI q) q.n).run es []).2.1
 else if q.k % 12=8 then ((pLoad (ZI q) q.im).run es []).2.1
 else if q.k % 12=9 then (pBoot.run es []).2.1
 else if q.k % 12=10 then ((pSetR (ZI q) ⟨(encR (rgN q.n)).toArray⟩).run es []).2.1
 else ((pGet (ZI q)).run es []).2.1
theorem Vq {α:Type} (es:Al):∀(p:VP α) (cs:List Ch),∀n ∈ (p.run es cs).2.1,nchk n=0
 | .ret _,_,n,h=>by cases h
 | .get m k,cs,n,h=>by
  simp only [VP.run] at h
  rcases List.mem_append.1 h with h1|h1
  ·unfold vrN at h1
   split at h1
   ·cases h1
   ·rename_i hc
    split at h1
    ·cases h1
    ·rw [List.mem_singleton.1 h1];simpa using hc
  ·exact Vq es (k (vget es cs m)) cs n h1
 | .set m v k,cs,n,h=>by
  simp only [VP.run] at h
  exact Vq es k _ n h
def MRd (es:Al) (who:ByteArray) (a:Int) (tx:ByteArray) (N:List Nm):Prop:=
 (∀n ∈ N,nchk n=0)∧(∀n ∈ ((pMof who).run es []).2.1,n ∈ N)∧
 (∀n ∈ N,n ∈ ((pMof who).run es []).2.1∨(((pMof who).run es []).1.2=0∧∃i:Nat,i<64∧n=gnm ((pMof who).run es []).1.1.1.sp (i:Int)))∧
 (((pMof who).run es []).1.2=0→tx.size≠0→0≤a→a+tx.size≤64 * ((pMof who).run es []).1.1.2.pg→∀i:Nat,a.toNat / 64≤i→i<(a.toNat+tx.size - 1) / 64+1→∀n ∈ vrN [] (gnm ((pMof who).run es []).1.1.1.sp (i:Int)),n ∈ N)
def PN (es:Al) (q:Oq) (N:List Nm):Prop:=if q.k % 12=6 then MRd es (ZI q) q.a q.t N else N=perfN es q
theorem Zf (q:Oq):nm35[q.w % 7]? = some (ZI q)∧(ZI q).size≤1000∧isE (ZI q)=false:=by
 unfold ZI
 have h:∀i,i<7→nm35[i]? = some (nm35.getD i ⟨#[]⟩)∧(nm35.getD i ⟨#[]⟩).size≤1000∧isE (nm35.getD i ⟨#[]⟩)=false:=by
  intro i hi
  rcases (show i=0∨i=1∨i=2∨i=3∨i=4∨i=5∨i=6 by omega) with rfl|rfl|rfl|rfl|rfl|rfl|rfl<;>exact ⟨rfl,by decide,by simp [isE,nm35,Zz]⟩
 exact h _ (Nat.mod_lt _ (by decide))
structure Oq.Bd (q:Oq):Prop where
 g:q.p.gs.length≤1099511627776
 s:q.p.sp.size≤1099511627776
 d:q.p.dr.mkr.size≤1099511627776
 t:q.t.size≤1099511627776
 c:q.ic.size≤1099511627776
 e:q.id.size≤1099511627776
section
variable (b:Nat) (ps:Option Addr) (es:Al) (q:Oq) (o:Option Addr) (c:Nat) (hS:Sml es []) (hB:q.Bd)
def PfP (b:Nat) (ps:Option Addr) (es:Al) (q:Oq) (rs:List (Nm×Ch)):Post:=⟨(Option Addr×Nat)×List (Nm×Ch),fun r=>(perfF es q).1.v r.1.1 r.1.2,fun r=>∃N,r.2=rsOf es N rs∧PN es q N,fun r=>[Sl 3 zf r.1.1 r.1.2 (perfF es q).1.p.gs],fun r=>[Vw b ps r.2 (perfF es q).2]⟩
include hS hB in
theorem perf0_ok (rs:List (Nm×Ch)) (hk:q.k % 12=0):Enters 33∧Spec prog 33 #[.pointer (some ⟨b,0,none⟩),q.v o c] [Sl 3 zf o c q.p.gs,St ps es,Usg,P10] [Vw b ps rs []] (PfP b ps es q rs):=by
 have n0:=Zc
 obtain ⟨hwi,hw,hne⟩:=Zf q
 have m:=startG_ok b ps es rs [] (ZI q) q.p o c hS hB.g hB.s hB.d hw (Nat.zero_le _)
 have hN:PN es q ((pStart (ZI q) q.p).run es []).2.1:=by
  unfold PN perfN
  rw [hk]
  simp
 unfold PfP perfF
 rw [hk]
 simp only [if_true]
 generalize (pStart (ZI q) q.p).run es []=X at *
 generalize ZI q=nw at *
 have hlt7:q.w % 7<7:=Nat.mod_lt _ (by decide)
 have w1:(q.w:Int).tmod 7=((q.w % 7:Nat):Int):=(Int.ofNat_tmod q.w 7).symm
 have w2:(q.k:Int).tmod 12=0:=by rw [show (12:Int)=((12:Nat):Int) from rfl,←Int.ofNat_tmod,hk];rfl
 clear hB
 obtain ⟨y1,y2,y3,y4,y5,⟨x1,x2,x3,x4,x5,xs,x7,x8,⟨x9,x10⟩,x11⟩,y7,y8,y9,y10⟩:=q
 simp only [Oq.v,Pr.v,Pr.z,Bi.z,Rz.v] at *
 generalize b=bv at *
 refine ZH [_,_] func33 ntmps33 fun G w hp=>?_
 refine Zk (ZY 3 zf) ?_
 repeat' (first|refine ZC ?_|refine ZB ?_|refine ZD ?_|refine ZP ?_|refine ZS ?_|refine ZN (fun b=>?_)|refine ZJ ?_|refine ZO ?_|refine Ze ?_|refine ZQ ?_|refine ZR (n0) (fun _ _=>?_)|refine ZA (m) (fun _ _=>?_)|rw [w1]|rw [w2]|refine Zi (m:=7) (y2 % 7) hlt7 ?_|refine ZV 1 (y2 % 7) 0 hwi ?_|refine ZK 2 [] [(1,0),(2,0),(3,0),(0,4),(4,0),(5,3),(6,0)] [] ?_|fail)
 exact ZG ((none,0),_) rfl ⟨_,rfl,hN⟩
include hS in
theorem perf1_ok (rs:List (Nm×Ch)) (hk:q.k % 12=1):Enters 33∧Spec prog 33 #[.pointer (some ⟨b,0,none⟩),q.v o c] [Sl 3 zf o c q.p.gs,St ps es,Usg,P10] [Vw b ps rs []] (PfP b ps es q rs):=by
 have n0:=Zc
 obtain ⟨hwi,hw,hne⟩:=Zf q
 have m:=forkG_ok b ps es rs [] (ZI q) hS hw hne (Nat.zero_le _)
 have hN:PN es q ((pSpawn (ZI q) false).run es []).2.1:=by
  unfold PN perfN
  rw [hk]
  simp
 unfold PfP perfF
 rw [hk]
 simp only [show ¬((1:Nat)=0) by decide,if_false,if_true]
 generalize (pSpawn (ZI q) false).run es []=X at *
 generalize ZI q=nw at *
 have hlt7:q.w % 7<7:=Nat.mod_lt _ (by decide)
 have w1:(q.w:Int).tmod 7=((q.w % 7:Nat):Int):=(Int.ofNat_tmod q.w 7).symm
 have w2:(q.k:Int).tmod 12=1:=by rw [show (12:Int)=((12:Nat):Int) from rfl,←Int.ofNat_tmod,hk];rfl
 obtain ⟨y1,y2,y3,y4,y5,⟨x1,x2,x3,x4,x5,xs,x7,x8,⟨x9,x10⟩,x11⟩,y7,y8,y9,y10⟩:=q
 simp only [Oq.v,Pr.z,Bi.z,Rz.v] at *
 generalize b=bv at *
 refine ZH [_,_] func33 ntmps33 fun G w hp=>?_
 refine Zk (ZY 3 zf) ?_
 repeat' (first|refine ZC ?_|refine ZB ?_|refine ZD ?_|refine ZP ?_|refine ZS ?_|refine ZN (fun b=>?_)|refine ZJ ?_|refine ZE ?_|refine ZO ?_|refine Ze ?_|refine ZQ ?_|refine ZR (n0) (fun _ _=>?_)|refine ZA (m) (fun _ _=>?_)|rw [w1]|rw [w2]|refine Zi (m:=7) (y2 % 7) hlt7 ?_|refine ZV 1 (y2 % 7) 0 hwi ?_|refine ZK 2 [] [(1,0),(2,0),(3,0),(0,4),(4,0),(5,3),(6,0)] [] ?_|fail)
 exact ZG ((none,0),_) rfl ⟨_,rfl,hN⟩
include hS in
theorem perf2_ok (rs:List (Nm×Ch)) (hk:q.k % 12=2):Enters 33∧Spec prog 33 #[.pointer (some ⟨b,0,none⟩),q.v o c] [Sl 3 zf o c q.p.gs,St ps es,Usg,P10] [Vw b ps rs []] (PfP b ps es q rs):=by
 have n0:=Zc
 obtain ⟨hwi,hw,hne⟩:=Zf q
 have m:=threadG_ok b ps es rs [] (ZI q) hS hw hne (Nat.zero_le _)
 have hN:PN es q ((pSpawn (ZI q) true).run es []).2.1:=by
  unfold PN perfN
  rw [hk]
  simp
 unfold PfP perfF
 rw [hk]
 simp only [show ¬((2:Nat)=0) by decide,show ¬((2:Nat)=1) by decide,if_false,if_true]
 generalize (pSpawn (ZI q) true).run es []=X at *
 generalize ZI q=nw at *
 have hlt7:q.w % 7<7:=Nat.mod_lt _ (by decide)
 have w1:(q.w:Int).tmod 7=((q.w % 7:Nat):Int):=(Int.ofNat_tmod q.w 7).symm
 have w2:(q.k:Int).tmod 12=2:=by rw [show (12:Int)=((12:Nat):Int) from rfl,←Int.ofNat_tmod,hk];rfl
 obtain ⟨y1,y2,y3,y4,y5,⟨x1,x2,x3,x4,x5,xs,x7,x8,⟨x9,x10⟩,x11⟩,y7,y8,y9,y10⟩:=q
 simp only [Oq.v,Pr.z,Bi.z,Rz.v] at *
 generalize b=bv at *
 refine ZH [_,_] func33 ntmps33 fun G w hp=>?_
 refine Zk (ZY 3 zf) ?_
 repeat' (first|refine ZC ?_|refine ZB ?_|refine ZD ?_|refine ZP ?_|refine ZS ?_|refine ZN (fun b=>?_)|refine ZJ ?_|refine ZE ?_|refine ZO ?_|refine Ze ?_|refine ZQ ?_|refine ZR (n0) (fun _ _=>?_)|refine ZA (m) (fun _ _=>?_)|rw [w1]|rw [w2]|refine Zi (m:=7) (y2 % 7) hlt7 ?_|refine ZV 1 (y2 % 7) 0 hwi ?_|refine ZK 2 [] [(1,0),(2,0),(3,0),(0,4),(4,0),(5,3),(6,0)] [] ?_|fail)
 exact ZG ((none,0),_) rfl ⟨_,rfl,hN⟩
include hS in
theorem perf3_ok (rs:List (Nm×Ch)) (hk:q.k % 12=3):Enters 33∧Spec prog 33 #[.pointer (some ⟨b,0,none⟩),q.v o c] [Sl 3 zf o c q.p.gs,St ps es,Usg,P10] [Vw b ps rs []] (PfP b ps es q rs):=by
 have n0:=Zc
 obtain ⟨hwi,hw,hne⟩:=Zf q
 have m:=exitG_ok b ps es rs [] (ZI q) q.n hS hw (Nat.zero_le _)
 have hN:PN es q ((pExit (ZI q) q.n).run es []).2.1:=by
  unfold PN perfN
  rw [hk]
  simp
 unfold PfP perfF
 rw [hk]
 simp only [show ¬((3:Nat)=0) by decide,show ¬((3:Nat)=1) by decide,show ¬((3:Nat)=2) by decide,if_false,if_true]
 generalize (pExit (ZI q) q.n).run es []=X at *
 generalize ZI q=nw at *
 have hlt7:q.w % 7<7:=Nat.mod_lt _ (by decide)
 have w1:(q.w:Int).tmod 7=((q.w % 7:Nat):Int):=(Int.ofNat_tmod q.w 7).symm
 have w2:(q.k:Int).tmod 12=3:=by rw [show (12:Int)=((12:Nat):Int) from rfl,←Int.ofNat_tmod,hk];rfl
 obtain ⟨y1,y2,y3,y4,y5,⟨x1,x2,x3,x4,x5,xs,x7,x8,⟨x9,x10⟩,x11⟩,y7,y8,y9,y10⟩:=q
 simp only [Oq.v,Pr.z,Bi.z,Rz.v] at *
 generalize b=bv at *
 refine ZH [_,_] func33 ntmps33 fun G w hp=>?_
 refine Zk (ZY 3 zf) ?_
 repeat' (first|refine ZC ?_|refine ZB ?_|refine ZD ?_|refine ZP ?_|refine ZS ?_|refine ZN (fun b=>?_)|refine ZJ ?_|refine ZE ?_|refine ZO ?_|refine Ze ?_|refine ZQ ?_|refine ZR (n0) (fun _ _=>?_)|refine ZA (m) (fun _ _=>?_)|rw [w1]|rw [w2]|refine Zi (m:=7) (y2 % 7) hlt7 ?_|refine ZV 1 (y2 % 7) 0 hwi ?_|refine ZK 2 [] [(1,0),(2,0),(3,0),(0,4),(4,0),(5,3),(6,0)] [] ?_|fail)
 exact ZG ((none,0),_) rfl ⟨_,rfl,hN⟩
include hS in
theorem perf4_ok (rs:List (Nm×Ch)) (hk:q.k % 12=4):Enters 33∧Spec prog 33 #[.pointer (some ⟨b,0,none⟩),q.v o c] [Sl 3 zf o c q.p.gs,St ps es,Usg,P10] [Vw b ps rs []] (PfP b ps es q rs):=by
 have n0:=Zc
 obtain ⟨hwi,hw,hne⟩:=Zf q
 have m:=waitG_ok2 b ps es rs [] (ZI q) q.n hS hw hne (Nat.zero_le _)
 have hN:PN es q ((pWait (ZI q) q.n).run es []).2.1:=by
  unfold PN perfN
  rw [hk]
  simp
 unfold PfP perfF
 rw [hk]
 simp only [show ¬((4:Nat)=0) by decide,show ¬((4:Nat)=1) by decide,show ¬((4:Nat)=2) by decide,show ¬((4:Nat)=3) by decide,if_false,if_true]
 generalize (pWait (ZI q) q.n).run es []=X at *
 generalize ZI q=nw at *
 have hlt7:q.w % 7<7:=Nat.mod_lt _ (by decide)
 have w1:(q.w:Int).tmod 7=((q.w % 7:Nat):Int):=(Int.ofNat_tmod q.w 7).symm
 have w2:(q.k:Int).tmod 12=4:=by rw [show (12:Int)=((12:Nat):Int) from rfl,←Int.ofNat_tmod,hk];rfl
 obtain ⟨y1,y2,y3,y4,y5,⟨x1,x2,x3,x4,x5,xs,x7,x8,⟨x9,x10⟩,x11⟩,y7,y8,y9,y10⟩:=q
 simp only [Oq.v,Pr.z,Bi.z,Rz.v] at *
 generalize b=bv at *
 refine ZH [_,_] func33 ntmps33 fun G w hp=>?_
 refine Zk (ZY 3 zf) ?_
 repeat' (first|refine ZC ?_|refine ZB ?_|refine ZD ?_|refine ZP ?_|refine ZS ?_|refine ZN (fun b=>?_)|refine ZJ ?_|refine ZE ?_|refine ZO ?_|refine Ze ?_|refine ZQ ?_|refine ZR (n0) (fun _ _=>?_)|refine ZA (m) (fun _ _=>?_)|rw [w1]|rw [w2]|refine Zi (m:=7) (y2 % 7) hlt7 ?_|refine ZV 1 (y2 % 7) 0 hwi ?_|refine ZK 2 [] [(1,0),(2,0),(3,0),(0,4),(4,0),(5,3),(6,0)] [] ?_|fail)
 exact ZG ((none,0),_) rfl ⟨_,rfl,hN⟩
include hS hB in
theorem perf5_ok (rs:List (Nm×Ch)) (hk:q.k % 12=5):Enters 33∧Spec prog 33 #[.pointer (some ⟨b,0,none⟩),q.v o c] [Sl 3 zf o c q.p.gs,St ps es,Usg,P10] [Vw b ps rs []] (PfP b ps es q rs):=by
 have n0:=Zc
 obtain ⟨hwi,hw,hne⟩:=Zf q
 have m:=setG_ok b ps es rs [] (ZI q) q.p o c hS hB.g hB.s hB.d hw (Nat.zero_le _)
 have hN:PN es q ((pSet (ZI q) q.p).run es []).2.1:=by
  unfold PN perfN
  rw [hk]
  simp
 unfold PfP perfF
 rw [hk]
 simp only [show ¬((5:Nat)=0) by decide,show ¬((5:Nat)=1) by decide,show ¬((5:Nat)=2) by decide,show ¬((5:Nat)=3) by decide,show ¬((5:Nat)=4) by decide,if_false,if_true]
 generalize (pSet (ZI q) q.p).run es []=X at *
 generalize ZI q=nw at *
 have hlt7:q.w % 7<7:=Nat.mod_lt _ (by decide)
 have w1:(q.w:Int).tmod 7=((q.w % 7:Nat):Int):=(Int.ofNat_tmod q.w 7).symm
 have w2:(q.k:Int).tmod 12=5:=by rw [show (12:Int)=((12:Nat):Int) from rfl,←Int.ofNat_tmod,hk];rfl
 clear hB
 obtain ⟨y1,y2,y3,y4,y5,⟨x1,x2,x3,x4,x5,xs,x7,x8,⟨x9,x10⟩,x11⟩,y7,y8,y9,y10⟩:=q
 simp only [Oq.v,Pr.v,Pr.z,Bi.z,Rz.v] at *
 generalize b=bv at *
 refine ZH [_,_] func33 ntmps33 fun G w hp=>?_
 refine Zk (ZY 3 zf) ?_
 repeat' (first|refine ZC ?_|refine ZB ?_|refine ZD ?_|refine ZP ?_|refine ZS ?_|refine ZN (fun b=>?_)|refine ZJ ?_|refine ZE ?_|refine ZO ?_|refine Ze ?_|refine ZQ ?_|refine ZR (n0) (fun _ _=>?_)|refine ZA (m) (fun _ _=>?_)|rw [w1]|rw [w2]|refine Zi (m:=7) (y2 % 7) hlt7 ?_|refine ZV 1 (y2 % 7) 0 hwi ?_|refine ZK 2 [] [(1,0),(2,0),(3,0),(0,4),(4,0),(5,3),(6,0)] [] ?_|fail)
 exact ZG ((none,0),_) rfl ⟨_,rfl,hN⟩
end
end
section
variable {n:Nat} {C:Cx} {Q:Exit→Act→World→Prop} {E E':List (Nat×Value)} {F F' F1 Fs F0:List Pf} {R R' R0 Rs N N' A:List HP} {k k':List Fr} {ops l:List Oper} {L L':List (Nat×Nat)} {Tl:List Nat} {i d:Nat} {t ty0:TypeId} {x y z:Operand} {pos:String} {aft:Array Edge} {gd:Option (Nat×Bool)} {α β:Type} [DecidableEq α] {K:α→Value} {V:β→Value}
theorem XO {kt et r:Nat} {rs te:TRow} {m:List (α×β)} {zv:Value} (hk:KeyOK kt K) (a:α) (o:Option β) (ho:mget a m=o) (nx:Wl n C ops.toArray k Q l ((d,(o.map V).getD zv)::E) F R) (hw:wantL ops E ⟨some d,.lookup t x y false,ty0,pos,aft,gd⟩=some true:=by rfl) (hn:Nat.blt d n=true:=by rfl)
  (hx:ev E x=some (.map (some r)):=by rfl) (hy:ev E y=some (K a):=by rfl) (hts:lookT tab t=some rs:=by rfl) (hrs:rs.k = .map kt et:=by rfl) (hte:lookT tab et=some te:=by rfl) (hzv:zval te=some zv:=by rfl)
  (hs:Sel (Mp K V r m) R R0:=by (repeat (first|exact Sel.here|apply Sel.there));first|done|fail):Wl n C ops.toArray k Q (⟨some d,.lookup t x y false,ty0,pos,aft,gd⟩::l) E F R:=by
 rw [←ho] at nx
 exact l_mget hk a nx hw hn hx hy hts hrs hte hzv hs
theorem mset_res {kt et r:Nat} {rs:TRow} {m:List (α×β)} {G:H} {w0 w:World} {hp0:H} (hk:KeyOK kt K) (a:α) (v:β) (hts:lookT tab t=some rs) (hrs:rs.k = .map kt et) (hs:Sel (Mp K V r m) R R0) (hsat:Sat G w0 hp0 F R w) :
  ∃w',(Instr.mapUpdate t (.map (some r)) (K a) (V v)).run prog w = .ok () w'∧Sat G w0 hp0 F (Mp K V r (mset a v m)::R0) w':=by
  obtain ⟨es,clock,h1,he,hB⟩:=V9 hs hsat
  have hb:=h1.pt Sel.here
  have hu:=XA (w:=w) hts hrs
  have hg:(getObj r).run prog w = .ok (.map es clock) w:=by simp [getObj,Sem.run,hb]
  have hc:=hk.chk a false w
  have hf:=XE hk a es.toList m w he
  simp only [Instr.mapUpdate,Sem.run_bind,hu,Result.andThen,hg,hc,hf]
  cases hm:mfind a m 0 with
  | none=>
   simp only [Option.map_none]
   have hset:(setObj r (.map (es.push {key:=K a,val:=V v,born:=clock}) (clock+1))).run prog w = .ok () {w with heap:=w.heap.setIfInBounds r (.map (es.push {key:=K a,val:=V v,born:=clock}) (clock+1))}:=by simp [setObj,Sem.run,hb]
   simp only [hset]
   refine ⟨_,rfl,VH (XJ h1) ?_ ?_⟩
   ·rw [Ui a v m 0 hm]
    simp [he]
   ·refine ⟨?_,fun e hem=>?_⟩
    ·rw [Array.toList_push,List.map_append]
     refine List.nodup_append.2 ⟨hB.1,by simp,fun b hb c hc=>?_⟩
     obtain ⟨e,hem,rfl⟩:=List.mem_map.1 hb
     have:=hB.2 e hem
     simp at hc
     omega
    ·rw [Array.toList_push] at hem
     rcases List.mem_append.1 hem with hem|hem
     ·have:=hB.2 e hem;omega
     ·obtain rfl:=List.mem_singleton.1 hem
      exact Nat.lt_succ_self _
  | some q=>
   obtain ⟨j,u⟩:=q
   obtain ⟨p,hj,hp,hms⟩:=Uc a v m 0 j u hm
   obtain rfl:j=p:=by omega
   have hkey:(es.toList.map (fun e=>(e.key,e.val)))[j]? = some (K a,V u):=by rw [he];simp [hp]
   have hold:((es[j]?).map (·.key)).getD (K a)=K a:=by
    simp only [List.getElem?_map,Array.getElem?_toList,Option.map_eq_some_iff] at hkey
    obtain ⟨e,he1,he2⟩:=hkey
    rw [he1]
    simp only [Prod.mk.injEq] at he2
    simp [he2.1]
   simp only [Option.map_some]
   have hkt:(Instr.keyThatStays (((es[j]?).map (·.key)).getD (K a)) (K a)).run prog w = .ok (K a) w:=by
    rw [hold];simp [Instr.keyThatStays,hk.bits a]
   have hset:(setObj r (.map (es.modify j fun e=>{e with key:=K a,val:=V v}) clock)).run prog w = .ok () {w with heap:=w.heap.setIfInBounds r (.map (es.modify j fun e=>{e with key:=K a,val:=V v}) clock)}:=by simp [setObj,Sem.run,hb]
   simp only [hkt,Sem.run_bind,Result.andThen,hset]
   have hborn:(es.modify j fun e=>{e with key:=K a,val:=V v}).toList.map (·.born)=es.toList.map (·.born):=by
    apply List.ext_getElem?
    intro i
    simp only [List.getElem?_map,Array.getElem?_toList,Array.getElem?_modify]
    split
    ·cases es[i]?<;>rfl
    ·rfl
   refine ⟨_,rfl,VH (XJ h1) ?_ ⟨by rw [hborn];exact hB.1,fun e hem=>?_⟩⟩
   rotate_left
   ·have h3:e.born ∈ es.toList.map (·.born):=by rw [←hborn];exact List.mem_map_of_mem hem
    obtain ⟨e',hem',he'⟩:=List.mem_map.1 h3
    rw [←he'];exact hB.2 e' hem'
   rw [hms]
   apply List.ext_getElem?
   intro i
   have hei:(es.toList.map (fun e=>(e.key,e.val)))[i]? = (m.map fun x=>(K x.1,V x.2))[i]?:=by rw [he]
   simp only [List.getElem?_map,Array.getElem?_toList,Array.getElem?_modify,List.getElem?_set] at hei ⊢
   by_cases hij:j=i
   ·subst hij
    simp only [if_true]
    have hlt:=(List.getElem?_eq_some_iff.1 hp).1
    rw [if_pos hlt]
    rw [hp] at hei
    simp only [Option.map_some,Option.map_eq_some_iff] at hei
    obtain ⟨e,he1,_⟩:=hei
    simp [he1]
   ·simp only [if_neg hij]
    exact hei
theorem XH {kt et r:Nat} {rs:TRow} {m:List (α×β)} (hk:KeyOK kt K) (a:α) (v:β) (nx:Wr n C ops k Q Tl Fs R L E F (Mp K V r (mset a v m)::N')) (ho:nth ops i=some ⟨none,.mapUpdate t x y z,ty0,pos,aft,gd⟩:=by rfl) (hw:wantL ops E ⟨none,.mapUpdate t x y z,ty0,pos,aft,gd⟩=some true:=by rfl)
  (hx:ev E x=some (.map (some r)):=by rfl) (hy:ev E y=some (K a):=by rfl) (hz:ev E z=some (V v):=by rfl) (hts:lookT tab t=some rs:=by rfl) (hrs:rs.k = .map kt et:=by rfl)
  (hs:Sel (Mp K V r m) N N':=by (repeat (first|exact Sel.here|apply Sel.there));first|done|fail):Wr n C ops k Q Tl Fs R ((i,4)::L) E F N:=
 Yk ho fun hp hr w st hz' sb=>by
  simp only [Zt hw]
  refine ⟨⟨Unit,fun _=>undef,fun _=>True,fun _=>F,fun _=>Mp K V r (mset a v m)::N'⟩,fun ac G w hp' ha hsub hsat=>?_,fun _ _=>nx hp hr w st hz' sb⟩
  obtain ⟨w',g1,g2⟩:=mset_res hk a v hts hrs hs hsat
  unfold OpRes
  simp only [execOp,ha.ev (x:=x) (by rw [ZL];exact hx),ha.ev (x:=y) (by rw [ZL];exact hy),ha.ev (x:=z) (by rw [ZL];exact hz),Sem.run_bind,Sem.run_pure,Result.andThen,g1]
  exact ⟨(),trivial,trivial,g2⟩
theorem YW {kt et r:Nat} {rs te:TRow} {m:List (α×β)} {zv:Value} (hk:KeyOK kt K) (a:α) (o:Option β) (ho:mget a m=o) (nx:Wl n C ops.toArray k Q l ((d,.tuple #[(o.map V).getD zv,.bool o.isSome])::E) F R) (hw:wantL ops E ⟨some d,.lookup t x y true,ty0,pos,aft,gd⟩=some true:=by rfl) (hn:Nat.blt d n=true:=by rfl)
  (hx:ev E x=some (.map (some r)):=by rfl) (hy:ev E y=some (K a):=by rfl) (hts:lookT tab t=some rs:=by rfl) (hrs:rs.k = .map kt et:=by rfl) (hte:lookT tab et=some te:=by rfl) (hzv:zval te=some zv:=by rfl)
  (hs:Sel (Mp K V r m) R R0:=by (repeat (first|exact Sel.here|apply Sel.there));first|done|fail):Wl n C ops.toArray k Q (⟨some d,.lookup t x y true,ty0,pos,aft,gd⟩::l) E F R:=by
 rw [←ho] at nx
 exact l_mget2 hk a nx hw hn hx hy hts hrs hte hzv hs
end
def Z0 (s:ByteArray):Value:=.string s
theorem beqBA (a b:ByteArray):(a == b)=decide (a=b):=by
 have h:(a == b)=(a.toList == b.toList):=by simp [beq_toListBytes]
 rw [h,beqSv]
theorem ZZ:KeyOK 28 Z0 where
 eq a b w:=by
  show (Op.equalIn (9999+1) _ (.string a) (.string b)).run prog w = .ok (decide (a=b)) w
  rw [Op.equalIn]
  simp [run_underlying underlying28,beqBA]
 chk a em w:=by
  show (Instr.checkKey em (9999+1) _ (.string a)).run prog w=_
  rw [Instr.checkKey]
  simp [run_underlying underlying28]
 bits a:=by simp [Z0,Instr.sameBits,beqBA]
 now:=⟨_,underlying28,fun a b=>by simp [Z0,Instr.sameNow,beqBA]⟩
theorem beqIq (a b:Int):(a == b)=decide (a=b):=by rw [Bool.eq_iff_iff];simp
def ziv (z:Int):Value:=.int .i64 z
theorem Wf:KeyOK 3 ziv where
 eq a b w:=by
  show (Op.equalIn (9999+1) _ (.int .i64 a) (.int .i64 b)).run prog w = .ok (decide (a=b)) w
  rw [Op.equalIn]
  simp [run_underlying underlying3,beqIq]
 chk a em w:=by
  show (Instr.checkKey em (9999+1) _ (.int .i64 a)).run prog w=_
  rw [Instr.checkKey]
  simp [run_underlying underlying3]
 bits a:=by simp [ziv,Instr.sameBits]
 now:=⟨_,underlying3,fun a b=>by simp [ziv,Instr.sameNow,beqIq]⟩
structure Ms where
 ep:Int
 pr:List (ByteArray×(Pr×Option Addr×Nat))
 ch:List (ByteArray×Int)
 rg:List (ByteArray×List Int)
 pg:List (ByteArray×(Nat×List (Int×ByteArray)))
def prV (x:Pr×Option Addr×Nat):Value:=x.1.v x.2.1 x.2.2
def pmV (x:Nat×List (Int×ByteArray)):Value:=.map (some x.1)
def PgM (r:Nat) (l:List (ByteArray×(Nat×List (Int×ByteArray)))):HP:=fun h=>Sep (Mp Z0 pmV r l::l.map fun e=>Mp ziv sV e.2.1 e.2.2) h
abbrev MoL (b:Nat) (ms:Ms) (q:Nat×Nat×Nat×Nat):List HP:=
 [Pt b (.cells #[.int .i64 ms.ep,.map (some q.1),.map (some q.2.1),.map (some q.2.2.1),.map (some q.2.2.2)] 187),Mp Z0 prV q.1 ms.pr,Mp Z0 ziv q.2.1 ms.ch,Mp Z0 rgV q.2.2.1 ms.rg,PgM q.2.2.2 ms.pg]
def MO (b:Nat) (ms:Ms):HP:=fun h=>∃q,True∧Sep (MoL b ms q) h
def PrF (l:List (ByteArray×(Pr×Option Addr×Nat))):Pf:=⟨fun h=>∀e ∈ l,(Sl 3 zf e.2.2.1 e.2.2.2 e.2.1.gs).p h,fun _ _ s hh e he=>(Sl 3 zf e.2.2.1 e.2.2.2 e.2.1.gs).m _ _ s (hh e he)⟩
theorem mget_in {α β:Type} [DecidableEq α] {a:α} {v:β}:∀{m:List (α×β)},mget a m=some v→(a,v) ∈ m
 | [],h=>by cases h
 | (c,u)::m,h=>by
  unfold mget at h
  split at h
  ·rename_i e;cases h;subst e;simp
  ·exact List.mem_cons_of_mem _ (mget_in h)
section
variable {k:List Fr}
theorem k_mo {b:Nat} {ms:Ms} (t:∀q,Wk n C k Q E F (MoL b ms q++R0)) (hs:Sel (MO b ms) R R0:=by (repeat (first|exact Sel.here|apply Sel.there));first|done|fail):Wk n C k Q E F R:=
 Ye (X:=Nat×Nat×Nat×Nat) (Lx:=fun q=>MoL b ms q) (p:=fun _=>True) (r:=MO b ms) hs (fun _h hh=>hh) (fun q _=>t q)
theorem YR {b:Nat} {ms:Ms} {r1 r2 r3 r4:Nat} (t:Wk n C k Q E F (MO b ms::R0))
  (hs:Sels [Pt b (.cells #[.int .i64 ms.ep,.map (some r1),.map (some r2),.map (some r3),.map (some r4)] 187),Mp Z0 prV r1 ms.pr,Mp Z0 ziv r2 ms.ch,Mp Z0 rgV r3 ms.rg,PgM r4 ms.pg] R R0:=by (repeat (first|exact Sels.nil|exact Sel.here|apply Sel.there|apply Sels.cons));first|done|fail):Wk n C k Q E F R:=
 Zq (fun _ hh=>⟨(r1,r2,r3,r4),trivial,hh⟩) t hs
theorem k_prF {a:ByteArray} {x:Pr×Option Addr×Nat} {pr:List (ByteArray×(Pr×Option Addr×Nat))} (h:mget a pr=some x) (t:Wk n C k Q E (Sl 3 zf x.2.1 x.2.2 x.1.gs::F) R) {F0:List Pf} (hs:Sel (PrF pr) F F0:=by (repeat (first|exact Sel.here|apply Sel.there));first|done|fail):Wk n C k Q E F R:=fun ac w ha hsat=>by
 obtain ⟨hp,hr,st⟩:=hsat
 exact t ac w ha (Ys st (st.f _ hs.mem (a,x) (mget_in h)))
end
theorem newModel_ok:Enters 100∧Spec prog 100 #[] [] [] ⟨Nat,fun b=>.pointer (some ⟨b,0,none⟩),fun _=>True,fun _=>[],fun b=>[MO b ⟨0,[],[],[],[]⟩]⟩:=by
 refine ZH [] func100 ntmps100 fun G w hp=>?_
 repeat' (first|refine ZC ?_|refine ZB ?_|refine ZD ?_|refine ZN (fun b=>?_)|refine l_mkm (K:=Z0) (kt:=28) (et:=44) ZZ prV (fun r=>?_)|refine l_mkm (K:=Z0) (kt:=28) (et:=3) ZZ ziv (fun r=>?_)|refine l_mkm (K:=Z0) (kt:=28) (et:=58) ZZ rgV (fun r=>?_)|refine l_mkm (K:=Z0) (kt:=28) (et:=268) ZZ pmV (fun r=>?_)|fail)
 rename_i r1 r2 r3
 refine Zq (r:=PgM r []) (Lx:=[Mp Z0 pmV r []]) (fun h hh=>hh) ?_
 refine YR (ms:=⟨0,[],[],[],[]⟩) (r1:=r1) (r2:=r2) (r3:=r3) (r4:=r) ?_
 exact ZG b rfl trivial
def mgP (ms:Ms) (who:ByteArray):Pr×Int:=if lvalid who.data.toList=true then (match mget who ms.pr with
 | none=>(Pr.z,8)
 | some x=>if x.1.ep≠ms.ep then (Pr.z,8) else (x.1,0)) else (Pr.z,12)
set_option maxHeartbeats 1000000 in
theorem Zs (b:Nat) (ms:Ms) (who:ByteArray) (hw:who.size≤1000):Enters 48∧Spec prog 48 #[.pointer (some ⟨b,0,none⟩),.string who] [PrF ms.pr] [MO b ms]
  ⟨Option Addr×Nat,fun q=>.tuple #[(mgP ms who).1.v q.1 q.2,.int .i64 (mgP ms who).2],fun _=>True,fun q=>[Sl 3 zf q.1 q.2 (mgP ms who).1.gs],fun _=>[MO b ms]⟩:=by
 have n1:=Zu who (by omega)
 unfold mgP
 generalize b=bv at *
 obtain ⟨ep,pr,ch,rg,pg⟩:=ms
 dsimp only
 cases hv:lvalid who.data.toList with
 | false=>
  rw [if_neg (by simp)]
  rw [hv] at n1
  refine ZH [_,_] func48 ntmps48 fun G w hp=>?_
  refine Zk (ZY 3 zf) ?_
  repeat' (first|refine ZC ?_|refine ZB ?_|refine ZD ?_|refine ZS ?_|refine ZN (fun b=>?_)|refine ZJ ?_|refine ZA (n1) (fun _ _=>?_)|fail)
  exact ZG (none,0) rfl trivial
 | true=>
  rw [if_pos rfl]
  rw [hv] at n1
  cases hg:mget who pr with
  | none=>
   dsimp only
   refine ZH [_,_] func48 ntmps48 fun G w hp=>?_
   refine Zk (ZY 3 zf) ?_
   refine k_mo fun q=>?_
   obtain ⟨r1,r2,r3,r4⟩:=q
   repeat' (first|refine ZC ?_|refine ZB ?_|refine ZD ?_|refine ZP ?_|refine ZS ?_|refine ZN (fun b=>?_)|refine ZJ ?_|refine ZE ?_|refine ZO ?_|refine Z4 ?_|refine ZQ ?_|refine ZA (n1) (fun _ _=>?_)|refine YW ZZ who _ hg ?_|refine ZK 4 [] [(0,0),(1,0),(2,0),(3,0),(4,0),(5,0),(6,0),(7,0),(8,0),(9,0),(10,0)] [] ?_|fail)
   refine YR (ms:=⟨ep,pr,ch,rg,pg⟩) (r1:=r1) (r2:=r2) (r3:=r3) (r4:=r4) ?_
   exact ZG (none,0) rfl trivial
  | some x=>
   obtain ⟨⟨a1,a2,a3,a4,a5,gs,a7,a8,⟨a9,a9'⟩,a10⟩,o,c⟩:=x
   dsimp only
   by_cases he:a4≠ep
   ·rw [if_pos he]
    refine ZH [_,_] func48 ntmps48 fun G w hp=>?_
    refine Zk (ZY 3 zf) ?_
    refine k_mo fun q=>?_
    obtain ⟨r1,r2,r3,r4⟩:=q
    repeat' (first|refine ZC ?_|refine ZB ?_|refine ZD ?_|refine ZP ?_|refine ZS ?_|refine ZN (fun b=>?_)|refine ZE ?_|refine ZO ?_|refine Z4 ?_|refine Ze ?_|refine ZQ ?_|refine ZA (n1) (fun _ _=>?_)|refine YW ZZ who _ hg ?_|refine ZK 4 [] [(0,0),(1,0),(2,0),(3,0),(4,0),(5,0),(6,0),(7,0),(8,0),(9,0),(10,0)] [] ?_|(refine ZF (fun hc=>?_) (fun hc=>?_)<;>(try simp at hc)<;>(try omega))|fail)
    refine YR (ms:=⟨ep,pr,ch,rg,pg⟩) (r1:=r1) (r2:=r2) (r3:=r3) (r4:=r4) ?_
    exact ZG (none,0) rfl trivial
   ·rw [if_neg he]
    simp only [ne_eq,Decidable.not_not] at he
    subst he
    simp only [Pr.v]
    refine ZH [_,_] func48 ntmps48 fun G w hp=>?_
    refine k_prF hg ?_
    refine k_mo fun q=>?_
    obtain ⟨r1,r2,r3,r4⟩:=q
    repeat' (first|refine ZC ?_|refine ZB ?_|refine ZD ?_|refine ZP ?_|refine ZS ?_|refine ZN (fun b=>?_)|refine ZE ?_|refine ZO ?_|refine Z4 ?_|refine Ze ?_|refine ZQ ?_|refine ZA (n1) (fun _ _=>?_)|refine YW ZZ who _ hg ?_|refine ZK 4 [] [(0,0),(1,0),(2,0),(3,0),(4,0),(5,0),(6,0),(7,0),(8,0),(9,0),(10,0)] [] ?_|(refine ZF (fun hc=>?_) (fun hc=>?_)<;>(try simp at hc)<;>(try omega))|fail)
    refine YR (ms:=⟨a4,pr,ch,rg,pg⟩) (r1:=r1) (r2:=r2) (r3:=r3) (r4:=r4) ?_
    exact ZG (o,c) rfl trivial
section
variable {n:Nat} {C:Cx} {Q:Exit→Act→World→Prop} {E E':List (Nat×Value)} {F F' F1 Fs F0:List Pf} {R R' R0 Rs N N' A:List HP} {k k':List Fr} {ops l:List Oper} {L L':List (Nat×Nat)} {Tl:List Nat} {i d:Nat} {t t2 ty0:TypeId} {x y z:Operand} {pos:String} {aft:Array Edge} {gd:Option (Nat×Bool)} {α β:Type} [DecidableEq α] {K:α→Value} {V:β→Value}
theorem r_mgN2 {kt et:Nat} {rs te:TRow} {zv:Value} (hk:KeyOK kt K) (a:α) (nx:Wr n C ops k Q Tl Fs R L ((d,.tuple #[zv,.bool false])::E) F N)
  (hop:nth ops i=some ⟨some d,.lookup t x y true,ty0,pos,aft,gd⟩:=by rfl) (hw:wantL ops E ⟨some d,.lookup t x y true,ty0,pos,aft,gd⟩=some true:=by rfl)
  (hx:ev E x=some (.map none):=by rfl) (hy:ev E y=some (K a):=by rfl) (hts:lookT tab t=some rs:=by rfl) (hrs:rs.k = .map kt et:=by rfl) (hte:lookT tab et=some te:=by rfl) (hzv:zval te=some zv:=by rfl):Wr n C ops k Q Tl Fs R ((i,0)::L) E F N:=
 r_q (fun ac w ha=>by
  have hu:=XA (w:=w) hts hrs
  have hc:=hk.chk a true w
  have hf:=XE (V:=sV) hk a [] [] w rfl
  have hz0:=US hte hzv w
  have hfn:mfind a ([]:List (α×ByteArray)) 0=none:=rfl
  rw [hfn] at hf
  simp only [Option.map_none] at hf
  simp only [execOp,ha.ev (x:=x) (by rw [ZL];exact hx),ha.ev (x:=y) (by rw [ZL];exact hy),Instr.lookup,Sem.run_bind,hu,Result.andThen,Sem.run_pure,Array.isEmpty,List.size_toArray,List.length_nil,decide_true,hc,hf,hz0,if_true]) nx hop hw
theorem l_mnil0 {kt et:Nat} {rs:TRow} (nx:Wl n C ops.toArray k Q l ((d,.bool true)::E) F R) (hw:wantL ops E ⟨some d,.binOp .eql t x y t2,ty0,pos,aft,gd⟩=some true:=by rfl) (hn:Nat.blt d n=true:=by rfl)
  (hx:ev E x=some (.map none):=by rfl) (hy:ev E y=some (.map none):=by rfl) (hts:lookT tab t=some rs:=by rfl) (hrs:rs.k = .map kt et:=by rfl):Wl n C ops.toArray k Q (⟨some d,.binOp .eql t x y t2,ty0,pos,aft,gd⟩::l) E F R:=
 l_q (fun ac w ha=>by
  have hu:=XA (w:=w) hts hrs
  have hg:(eqGuard .eql t x y (.map none) (.map none)).run prog w = .ok () w:=by simp [eqGuard]
  have hb:(binOp .eql t (.map none) (.map none)).run prog w = .ok (.bool true) w:=by
   have he:(Op.equal t (.map none) (.map none)).run prog w = .ok true w:=by
    show (Op.equalIn (9999+1) t (.map none) (.map none)).run prog w = .ok true w
    rw [Op.equalIn]
    simp only [Sem.run_bind,hu,Result.andThen,Sem.run_pure]
    rfl
   simp only [binOp,Sem.run_bind,he,Result.andThen,Sem.run_pure]
  simp only [execOp,ha.ev (x:=x) (by rw [ZL];exact hx),ha.ev (x:=y) (by rw [ZL];exact hy),Sem.run_bind,hg,Result.andThen,hb,Sem.run_pure]) nx (by intro c h;cases h) hw hn
end
section
variable {α β:Type} [DecidableEq α]
theorem Wi {a:α} {v:β}:∀{m:List (α×β)},mget a m=some v→∃pre post,m=pre++(a,v)::post∧∀u,mset a u m=pre++(a,u)::post
 | [],h=>by cases h
 | (c,w)::m,h=>by
  unfold mget at h
  by_cases hac:a=c
  ·rw [if_pos hac] at h
   cases h
   subst hac
   exact ⟨[],m,rfl,fun u=>by unfold mset;rw [if_pos rfl];rfl⟩
  ·rw [if_neg hac] at h
   obtain ⟨pre,post,h1,h2⟩:=Wi h
   exact ⟨(c,w)::pre,post,by rw [h1];rfl,fun u=>by unfold mset;rw [if_neg hac,h2];rfl⟩
theorem mset_new {a:α} {v:β}:∀{m:List (α×β)},mget a m=none→mset a v m=m++[(a,v)]
 | [],_=>rfl
 | (c,w)::m,h=>by
  unfold mget at h
  by_cases hac:a=c
  ·rw [if_pos hac] at h;cases h
  ·rw [if_neg hac] at h
   unfold mset
   rw [if_neg hac,mset_new h];rfl
end
abbrev Pgs:=List (ByteArray×(Nat×List (Int×ByteArray)))
def inM (e:ByteArray×(Nat×List (Int×ByteArray))):HP:=Mp ziv sV e.2.1 e.2.2
theorem WB {r:Nat} {pre post:Pgs} {e:ByteArray×(Nat×List (Int×ByteArray))} {h:H}:PgM r (pre++e::post) h↔Sep [Mp Z0 pmV r (pre++e::post),inM e,fun h=>Sep ((pre++post).map inM) h] h:=by
 have hp:(Mp Z0 pmV r (pre++e::post)::(pre++e::post).map inM).Perm ([Mp Z0 pmV r (pre++e::post),inM e]++(pre++post).map inM):=by
  refine List.Perm.cons _ ?_
  rw [List.map_append,List.map_cons,List.map_append]
  exact List.perm_middle
 constructor
 ·intro hh
  obtain ⟨h1,h2,d,s1,s2,ha,hb⟩:=YN (Sep.perm hp hh)
  exact YI (A:=[Mp Z0 pmV r (pre++e::post),inM e]) (R:=[fun h=>Sep ((pre++post).map inM) h]) d s1 s2 ha ⟨h2,emp,(fun _=>.inr rfl),Sub.refl _,(fun _ _ e=>by cases e),hb,trivial⟩
 ·intro hh
  obtain ⟨h1,h2,d,s1,s2,ha,k1,k2,_,t1,_,hb,_⟩:=YN (A:=[Mp Z0 pmV r (pre++e::post),inM e]) hh
  exact Sep.perm hp.symm (YI d s1 s2 ha (Sep.sub hb t1))
theorem mp_same {r:Nat} {pre post:Pgs} {a:ByteArray} {ri:Nat} {m m':List (Int×ByteArray)}:Mp Z0 pmV r (pre++(a,(ri,m))::post)=Mp Z0 pmV r (pre++(a,(ri,m'))::post):=by
 unfold Mp
 simp [pmV]
theorem pg_new {r:Nat} {l:Pgs} {e:ByteArray×(Nat×List (Int×ByteArray))} {h:H} (hh:Sep [Mp Z0 pmV r (l++[e]),inM e,fun h=>Sep (l.map inM) h] h):PgM r (l++[e]) h:=by
 refine (WB (r:=r) (pre:=l) (post:=[]) (e:=e)).2 ?_
 rw [List.append_nil]
 exact hh
theorem pg_two {r:Nat} {l:Pgs} {h:H} (hh:PgM r l h):Sep [Mp Z0 pmV r l,fun h=>Sep (l.map inM) h] h:=by
 obtain ⟨h1,h2,d,s1,s2,ha,hb⟩:=YN (A:=[Mp Z0 pmV r l]) (R:=l.map inM) hh
 exact YI (A:=[Mp Z0 pmV r l]) (R:=[fun h=>Sep (l.map inM) h]) d s1 s2 ha ⟨h2,emp,(fun _=>.inr rfl),Sub.refl _,(fun _ _ e=>by cases e),hb,trivial⟩
theorem two_pg {r:Nat} {l:Pgs} {h:H} (hh:Sep [Mp Z0 pmV r l,fun h=>Sep (l.map inM) h] h):PgM r l h:=by
 obtain ⟨h1,h2,d,s1,s2,ha,k1,k2,_,t1,_,hb,_⟩:=YN (A:=[Mp Z0 pmV r l]) hh
 exact YI (A:=[Mp Z0 pmV r l]) (R:=l.map inM) d s1 s2 ha (Sep.sub hb t1)
def pgA (l:Pgs) (a:ByteArray) (j:Int):Option ByteArray:=(mget a l).bind fun x=>mget j x.2
set_option maxHeartbeats 1000000 in
theorem VM (b:Nat) (ms:Ms) (who:ByteArray) (i:Int) (s:ByteArray):Enters 151∧Spec prog 151 #[.pointer (some ⟨b,0,none⟩),.string who,.int .i64 i,.string s] [] [MO b ms]
  ⟨Pgs,fun _=>.tuple #[],fun l=>∀a j,pgA l a j=if a=who∧j=i then some s else pgA ms.pg a j,fun _=>[],fun l=>[MO b {ms with pg:=l}]⟩:=by
 generalize b=bv at *
 obtain ⟨ep,pr,ch,rg,pg⟩:=ms
 dsimp only
 cases hg:mget who pg with
 | some x=>
  obtain ⟨ri,m⟩:=x
  obtain ⟨pre,post,e1,e2⟩:=Wi hg
  refine ZH [_,_,_,_] func151 ntmps151 fun G w hp=>?_
  refine k_mo fun q=>?_
  obtain ⟨r1,r2,r3,r4⟩:=q
  refine Ye (X:=Unit) (Lx:=fun _=>[Mp Z0 pmV r4 pg,Mp ziv sV ri m,fun h=>Sep ((pre++post).map inM) h]) (p:=fun _=>True) (r:=PgM r4 pg) (.there (.there (.there (.there .here)))) (fun h hh=>⟨(),trivial,by rw [e1] at hh ⊢;exact WB.1 hh⟩) (fun _ _=>?_)
  repeat' (first|refine ZC ?_|refine ZB ?_|refine ZD ?_|refine ZP ?_|refine ZE ?_|refine XO ZZ who _ hg ?_|refine l_mnil ?_|refine Wc (V:=sV) Wf i s ?_|fail)
  refine Zq (r:=PgM r4 (mset who (ri,mset i s m) pg)) (Lx:=[Mp Z0 pmV r4 pg,Mp ziv sV ri (mset i s m),fun h=>Sep ((pre++post).map inM) h]) (fun h hh=>by
   rw [e2]
   refine WB.2 ?_
   rw [e1,mp_same (m':=mset i s m)] at hh
   exact hh) ?_
  refine YR (ms:=⟨ep,pr,ch,rg,mset who (ri,mset i s m) pg⟩) (r1:=r1) (r2:=r2) (r3:=r3) (r4:=r4) ?_
  refine XU (mset who (ri,mset i s m) pg) rfl (fun a j=>?_)
  unfold pgA
  rw [Yy]
  by_cases ha:who=a
  ·subst ha
   rw [if_pos rfl,hg]
   simp only [Option.bind_some]
   rw [Yy]
   by_cases hj:i=j
   ·subst hj;simp
   ·rw [if_neg hj,if_neg (fun e=>hj e.2.symm)]
  ·rw [if_neg ha,if_neg (fun e=>ha e.1.symm)]
 | none=>
  refine ZH [_,_,_,_] func151 ntmps151 fun G w hp=>?_
  refine k_mo fun q=>?_
  obtain ⟨r1,r2,r3,r4⟩:=q
  refine Ye (X:=Unit) (Lx:=fun _=>[Mp Z0 pmV r4 pg,fun h=>Sep (pg.map inM) h]) (p:=fun _=>True) (r:=PgM r4 pg) (.there (.there (.there (.there .here)))) (fun h hh=>⟨(),trivial,pg_two hh⟩) (fun _ _=>?_)
  have hg2:∀rn,mget who (mset who ((rn,[]):Nat×List (Int×ByteArray)) pg)=some (rn,[]):=fun rn=>by rw [Yy,if_pos rfl]
  repeat' (first|refine ZC ?_|refine ZB ?_|refine ZD ?_|refine ZP ?_|refine ZJ ?_|refine XO ZZ who _ hg ?_|refine XO ZZ who _ (hg2 _) ?_|refine l_mnil0 ?_|refine l_mkm (K:=ziv) (kt:=3) (et:=9) Wf sV (fun r=>?_)|refine Wc (V:=pmV) ZZ who (_,[]) ?_|refine Wc (V:=sV) Wf i s ?_|fail)
  refine Zq (r:=PgM r4 (pg++[(who,(r,[(i,s)]))])) (Lx:=[Mp Z0 pmV r4 (mset who (r,[]) pg),Mp ziv sV r (mset i s []),fun h=>Sep (pg.map inM) h]) (fun h hh=>by
   rw [mset_new hg,mp_same (m':=[(i,s)])] at hh
   exact pg_new hh) ?_
  refine YR (ms:=⟨ep,pr,ch,rg,pg++[(who,(r,[(i,s)]))]⟩) (r1:=r1) (r2:=r2) (r3:=r3) (r4:=r4) ?_
  refine XU (pg++[(who,(r,[(i,s)]))]) rfl (fun a j=>?_)
  rw [←mset_new (v:=(r,[(i,s)])) hg]
  unfold pgA
  rw [Yy]
  by_cases ha:who=a
  ·subst ha
   rw [if_pos rfl,hg]
   simp only [Option.bind_some,Option.bind_none,mget]
   by_cases hj:j=i
   ·subst hj;simp
   ·rw [if_neg hj,if_neg (fun e=>hj e.2)]
  ·rw [if_neg ha,if_neg (fun e=>ha e.1.symm)]
theorem zerosM_ok:Enters 30∧Spec prog 30 #[] [] [] (RetV (.string Xm)):=by
 refine ZH [] func30 ntmps30 fun G w hp=>?_
 repeat' (first|refine ZC ?_|refine ZB ?_|refine ZD ?_|refine l_mks bf (0:UInt8) 64 1 (by decide) (by decide) (fun b6=>?_)|refine l_b2sH (es:=z64) (q:=([],(0,0))) ?_ rfl|fail)
 exact ZG () rfl trivial
def memA (f:Int→Option ByteArray):Nat→ByteArray
 | 0=>⟨#[]⟩
 | n+1=>memA f n++(f (n:Int)).getD Xm
theorem VN {f:Int→Option ByteArray} (h:∀j s,f j=some s→s.size=64):∀n,(memA f n).size=64 * n
 | 0=>rfl
 | n+1=>by
  rw [memA,ByteArray.size_append,VN h n]
  cases hf:f (n:Int) with
  | none=>rw [Option.getD_none,WO];omega
  | some s=>rw [Option.getD_some,h _ _ hf];omega
structure Ms.Ok (ms:Ms):Prop where
 p:∀a x,mget a ms.pr=some x→pchk x.1=0
 g:∀a j s,pgA ms.pg a j=some s→s.size=64
def mmF (ms:Ms) (who:ByteArray):ByteArray×Int:=if (mgP ms who).2≠0 then (⟨#[]⟩,(mgP ms who).2) else match mget (mgP ms who).1.sp ms.pr with
 | none=>(⟨#[]⟩,8)
 | some x=>(memA (pgA ms.pg (mgP ms who).1.sp) x.1.pg.toNat,0)
set_option maxHeartbeats 4000000 in
theorem mmem35_ok (b:Nat) (ms:Ms) (hok:ms.Ok) (who:ByteArray) (hw:who.size≤1000):Enters 150∧Spec prog 150 #[.pointer (some ⟨b,0,none⟩),.string who] [PrF ms.pr] [MO b ms]
  ⟨Unit,fun _=>.tuple #[.string (mmF ms who).1,.int .i64 (mmF ms who).2],fun _=>True,fun _=>[],fun _=>[MO b ms]⟩:=by
 have n1:=Zs b ms who hw
 unfold mmF
 obtain ⟨hpk,hpg⟩:=hok
 generalize mgP ms who=X at *
 obtain ⟨p,e⟩:=X
 dsimp only at *
 generalize b=bv at *
 by_cases he:e≠0
 ·simp only [if_pos he]
  obtain ⟨a1,a2,a3,a4,a5,gs,a7,a8,⟨a9,a9'⟩,a10⟩:=p
  simp only [Pr.v] at n1
  refine ZH [_,_] func150 ntmps150 fun G w hp=>?_
  repeat' (first|refine ZC ?_|refine ZB ?_|refine ZD ?_|refine ZS ?_|refine ZN (fun b=>?_)|refine ZA (n1) (fun _ _=>?_)|(refine ZF (fun hc=>?_) (fun hc=>?_)<;>(try simp at hc)<;>(try omega))|fail)
  exact ZG () rfl trivial
 ·obtain rfl:e=0:=by omega
  simp only [if_neg he]
  cases ho:mget p.sp ms.pr with
  | none=>
   dsimp only
   obtain ⟨a1,a2,a3,a4,a5,gs,a7,a8,⟨a9,a9'⟩,a10⟩:=p
   simp only [Pr.v] at n1
   dsimp only at ho
   refine ZH [_,_] func150 ntmps150 fun G w hp=>?_
   repeat' (first|refine ZC ?_|refine ZB ?_|refine ZD ?_|refine ZS ?_|refine ZN (fun b=>?_)|refine ZE ?_|refine ZA (n1) (fun _ _=>?_)|fail)
   refine k_mo fun q=>?_
   obtain ⟨r1,r2,r3,r4⟩:=q
   repeat' (first|refine ZC ?_|refine ZB ?_|refine ZD ?_|refine ZJ ?_|refine ZO ?_|refine Ze ?_|refine r_al (fun b=>?_)|refine r_st ?_|refine ZQ ?_|refine Yv ZZ a7 _ ho ?_|refine ZK 4 [] [(0,0),(1,0),(2,0),(3,0),(4,0),(5,0),(6,0),(7,0),(8,0),(9,0),(10,1),(11,4),(12,0)] [] ?_|fail)
   refine YR (ms:=ms) (r1:=r1) (r2:=r2) (r3:=r3) (r4:=r4) ?_
   exact ZG () rfl trivial
  | some x=>
   obtain ⟨ow,oo,oc⟩:=x
   have hoc:=hpk _ _ ho
   obtain ⟨-,-,u3,-⟩:=Zg hoc
   unfold pfit at u3
   dsimp only at u3 ⊢
   have hsz:=VN (f:=pgA ms.pg p.sp) (fun j s h=>hpg _ j s h)
   have hpg2:=hpg p.sp
   clear hoc hpk
   obtain ⟨a1,a2,a3,a4,a5,gs,a7,a8,⟨a9,a9'⟩,a10⟩:=p
   obtain ⟨o1,o2,o3,o4,o5,os,o7,o8,⟨o9,o9'⟩,o10⟩:=ow
   simp only [Pr.v] at n1
   dsimp only at *
   obtain ⟨pgn,hpgn⟩:∃pgn:Nat,o8=(pgn:Int):=⟨o8.toNat,by omega⟩
   subst hpgn
   rw [Int.toNat_natCast]
   have n2:=zerosM_ok
   cases hg:mget a7 ms.pg with
   | none=>
    have hpa:∀j,pgA ms.pg a7 j=none:=fun j=>by unfold pgA;rw [hg];rfl
    refine ZH [_,_] func150 ntmps150 fun G w hp=>?_
    repeat' (first|refine ZC ?_|refine ZB ?_|refine ZD ?_|refine ZS ?_|refine ZN (fun b=>?_)|refine ZE ?_|refine ZA (n1) (fun _ _=>?_)|fail)
    refine k_mo fun q=>?_
    obtain ⟨r1,r2,r3,r4⟩:=q
    repeat' (first|refine ZC ?_|refine ZB ?_|refine ZD ?_|refine ZE ?_|refine ZO ?_|refine Ze ?_|refine r_al (fun b=>?_)|refine r_st ?_|refine ZQ ?_|refine Yv ZZ a7 _ ho ?_|refine ZK 4 [] [(0,0),(1,0),(2,0),(3,0),(4,0),(5,0),(6,0),(7,0),(8,0),(9,0),(10,1),(11,4),(12,0)] [] ?_|fail)
    rename_i qq _ b6
    refine Ye (X:=Unit) (Lx:=fun _=>[Mp Z0 pmV r4 ms.pg,fun h=>Sep (ms.pg.map inM) h]) (p:=fun _=>True) (r:=PgM r4 ms.pg) (by (repeat (first|exact Sel.here|apply Sel.there))) (fun h hh=>⟨(),trivial,pg_two hh⟩) (fun _ _=>?_)
    refine YH (X:={i:Nat // i≤pgn}) (fun i=>[(0,.pointer (some ⟨bv,0,none⟩)),(6,.pointer (some ⟨b6,0,none⟩)),(8,.pointer (some ⟨b,0,none⟩)),(10,.string (memA (pgA ms.pg a7) i.1)),(11,.int .i64 (i.1:Int))]) (fun _=>[])
     (fun _=>[Pt bv (.cells #[.int .i64 ms.ep,.map (some r1),.map (some r2),.map (some r3),.map (some r4)] 187),Mp Z0 prV r1 ms.pr,Mp Z0 ziv r2 ms.ch,Mp Z0 rgV r3 ms.rg,Mp Z0 pmV r4 ms.pg,fun h=>Sep (ms.pg.map inM) h,Pt b6 (.cells #[.int .i64 a1,.int .i64 a2,.int .i64 a3,.int .i64 a4,.int .i64 a5,.slice qq.1 gs.length qq.2,.string a7,.int .i64 a8,.string a9,.int .i64 a9',.int .i64 a10] 44),Pt b (.cells #[.int .i64 o1,.int .i64 o2,.int .i64 o3,.int .i64 o4,.int .i64 o5,.slice oo os.length oc,.string o7,.int .i64 (pgn:Int),.string o9,.int .i64 o9',.int .i64 o10] 44)])
     (fun i=>pgn - i.1) ⟨0,Nat.zero_le _⟩ ⟨rfl,rfl,rfl,rfl,rfl,trivial⟩ ?_
    rintro ⟨i,hi⟩
    dsimp only at hi ⊢
    by_cases hlt:i<pgn
    ·have wi:IntKind.i64.wrap ((i:Int)+1)=((i+1:Nat):Int):=by rw [wrapi (by omega) (by omega)];omega
     ·
       have hm1:memA (pgA ms.pg a7) (i+1)=memA (pgA ms.pg a7) i++Xm:=by rw [memA,hpa];rfl
       have hcat:(memA (pgA ms.pg a7) i).size+Xm.size≤9223372036854775807:=by rw [hsz,WO];omega
       generalize memA (pgA ms.pg a7) i=MM at *
       repeat' (first|refine ZC ?_|refine ZB ?_|refine ZD ?_|refine ZP ?_|refine ZJ ?_|refine ZO ?_|refine Ze ?_|refine ZQ ?_|refine ZA (n2) (fun _ _=>?_)|rw [wi]|refine Yz ZZ a7 _ hg ?_|refine r_mgN2 Wf (i:Int) ?_|refine l_cat ?_ (h:=hcat)|refine ZK 11 [] [(0,0),(1,0),(2,0),(3,0),(4,0),(5,0),(6,0),(7,0),(8,0),(9,0),(10,0),(11,0),(12,0),(13,0)] [] ?_|(refine ZF (fun hc=>?_) (fun hc=>?_)<;>(try simp at hc)<;>(try omega))|fail)
       exact ZW ⟨i+1,by omega⟩ (by show pgn - (i+1)<pgn - i;omega) ⟨rfl,rfl,rfl,(by show look _ _=some (Value.string _);rw [hm1];rfl),rfl,trivial⟩
    ·obtain rfl:i=pgn:=by omega
     generalize memA (pgA ms.pg a7) i=MM at *
     repeat' (first|refine ZC ?_|refine ZB ?_|refine ZD ?_|refine ZP ?_|refine Zn ?_|(refine ZF (fun hc=>?_) (fun hc=>?_)<;>(try simp at hc)<;>(try omega))|fail)
     refine Zq (r:=PgM r4 ms.pg) (Lx:=[Mp Z0 pmV r4 ms.pg,fun h=>Sep (ms.pg.map inM) h]) (fun h hh=>two_pg hh) ?_
     refine YR (ms:=ms) (r1:=r1) (r2:=r2) (r3:=r3) (r4:=r4) ?_
     exact ZG () rfl trivial
   | some x=>
    obtain ⟨ri,m⟩:=x
    obtain ⟨pre,post,e1,e2⟩:=Wi hg
    have hpa:∀j,pgA ms.pg a7 j=mget j m:=fun j=>by unfold pgA;rw [hg];rfl
    refine ZH [_,_] func150 ntmps150 fun G w hp=>?_
    repeat' (first|refine ZC ?_|refine ZB ?_|refine ZD ?_|refine ZS ?_|refine ZN (fun b=>?_)|refine ZE ?_|refine ZA (n1) (fun _ _=>?_)|fail)
    refine k_mo fun q=>?_
    obtain ⟨r1,r2,r3,r4⟩:=q
    repeat' (first|refine ZC ?_|refine ZB ?_|refine ZD ?_|refine ZE ?_|refine ZO ?_|refine Ze ?_|refine r_al (fun b=>?_)|refine r_st ?_|refine ZQ ?_|refine Yv ZZ a7 _ ho ?_|refine ZK 4 [] [(0,0),(1,0),(2,0),(3,0),(4,0),(5,0),(6,0),(7,0),(8,0),(9,0),(10,1),(11,4),(12,0)] [] ?_|fail)
    rename_i qq _ b6
    refine Ye (X:=Unit) (Lx:=fun _=>[Mp Z0 pmV r4 ms.pg,Mp ziv sV ri m,fun h=>Sep ((pre++post).map inM) h]) (p:=fun _=>True) (r:=PgM r4 ms.pg) (by (repeat (first|exact Sel.here|apply Sel.there))) (fun h hh=>⟨(),trivial,by rw [e1] at hh ⊢;exact WB.1 hh⟩) (fun _ _=>?_)
    refine YH (X:={i:Nat // i≤pgn}) (fun i=>[(0,.pointer (some ⟨bv,0,none⟩)),(6,.pointer (some ⟨b6,0,none⟩)),(8,.pointer (some ⟨b,0,none⟩)),(10,.string (memA (pgA ms.pg a7) i.1)),(11,.int .i64 (i.1:Int))]) (fun _=>[])
     (fun _=>[Pt bv (.cells #[.int .i64 ms.ep,.map (some r1),.map (some r2),.map (some r3),.map (some r4)] 187),Mp Z0 prV r1 ms.pr,Mp Z0 ziv r2 ms.ch,Mp Z0 rgV r3 ms.rg,Mp Z0 pmV r4 ms.pg,Mp ziv sV ri m,fun h=>Sep ((pre++post).map inM) h,Pt b6 (.cells #[.int .i64 a1,.int .i64 a2,.int .i64 a3,.int .i64 a4,.int .i64 a5,.slice qq.1 gs.length qq.2,.string a7,.int .i64 a8,.string a9,.int .i64 a9',.int .i64 a10] 44),Pt b (.cells #[.int .i64 o1,.int .i64 o2,.int .i64 o3,.int .i64 o4,.int .i64 o5,.slice oo os.length oc,.string o7,.int .i64 (pgn:Int),.string o9,.int .i64 o9',.int .i64 o10] 44)])
     (fun i=>pgn - i.1) ⟨0,Nat.zero_le _⟩ ⟨rfl,rfl,rfl,rfl,rfl,trivial⟩ ?_
    rintro ⟨i,hi⟩
    dsimp only at hi ⊢
    by_cases hlt:i<pgn
    ·have wi:IntKind.i64.wrap ((i:Int)+1)=((i+1:Nat):Int):=by rw [wrapi (by omega) (by omega)];omega
     ·cases hmi:mget (i:Int) m with
      | none=>
       have hm1:memA (pgA ms.pg a7) (i+1)=memA (pgA ms.pg a7) i++Xm:=by rw [memA,hpa,hmi];rfl
       have hcat:(memA (pgA ms.pg a7) i).size+Xm.size≤9223372036854775807:=by rw [hsz,WO];omega
       generalize memA (pgA ms.pg a7) i=MM at *
       repeat' (first|refine ZC ?_|refine ZB ?_|refine ZD ?_|refine ZP ?_|refine ZJ ?_|refine ZO ?_|refine Ze ?_|refine ZQ ?_|refine ZA (n2) (fun _ _=>?_)|rw [wi]|refine Yz ZZ a7 _ hg ?_|refine Yv Wf (i:Int) _ hmi ?_|refine l_cat ?_ (h:=hcat)|refine ZK 11 [] [(0,0),(1,0),(2,0),(3,0),(4,0),(5,0),(6,0),(7,0),(8,0),(9,0),(10,0),(11,0),(12,0),(13,0)] [] ?_|(refine ZF (fun hc=>?_) (fun hc=>?_)<;>(try simp at hc)<;>(try omega))|fail)
       exact ZW ⟨i+1,by omega⟩ (by show pgn - (i+1)<pgn - i;omega) ⟨rfl,rfl,rfl,(by show look _ _=some (Value.string _);rw [hm1];rfl),rfl,trivial⟩
      | some s=>
       have hm1:memA (pgA ms.pg a7) (i+1)=memA (pgA ms.pg a7) i++s:=by rw [memA,hpa,hmi];rfl
       have hs64:=hpg2 (i:Int) s (by rw [hpa,hmi])
       have hcat:(memA (pgA ms.pg a7) i).size+s.size≤9223372036854775807:=by rw [hsz,hs64];omega
       generalize memA (pgA ms.pg a7) i=MM at *
       repeat' (first|refine ZC ?_|refine ZB ?_|refine ZD ?_|refine ZP ?_|refine ZE ?_|refine ZO ?_|refine Ze ?_|refine ZQ ?_|rw [wi]|refine Yz ZZ a7 _ hg ?_|refine Yv Wf (i:Int) _ hmi ?_|refine l_cat ?_ (h:=hcat)|refine ZK 11 [] [(0,0),(1,0),(2,0),(3,0),(4,0),(5,0),(6,0),(7,0),(8,0),(9,0),(10,0),(11,0),(12,0),(13,0)] [] ?_|(refine ZF (fun hc=>?_) (fun hc=>?_)<;>(try simp at hc)<;>(try omega))|fail)
       exact ZW ⟨i+1,by omega⟩ (by show pgn - (i+1)<pgn - i;omega) ⟨rfl,rfl,rfl,(by show look _ _=some (Value.string _);rw [hm1];rfl),rfl,trivial⟩
    ·obtain rfl:i=pgn:=by omega
     generalize memA (pgA ms.pg a7) i=MM at *
     repeat' (first|refine ZC ?_|refine ZB ?_|refine ZD ?_|refine ZP ?_|refine Zn ?_|(refine ZF (fun hc=>?_) (fun hc=>?_)<;>(try simp at hc)<;>(try omega))|fail)
     refine Zq (r:=PgM r4 ms.pg) (Lx:=[Mp Z0 pmV r4 ms.pg,Mp ziv sV ri m,fun h=>Sep ((pre++post).map inM) h]) (fun h hh=>by rw [e1] at hh ⊢;exact WB.2 hh) ?_
     refine YR (ms:=ms) (r1:=r1) (r2:=r2) (r3:=r3) (r4:=r4) ?_
     exact ZG () rfl trivial
structure AS where
 ep:Int
 pr:ByteArray→Option Pr
 ch:ByteArray→Int
 rg:ByteArray→Option (List Int)
 pg:ByteArray→Int→Option ByteArray
def absM (ms:Ms):AS:=⟨ms.ep,fun a=>(mget a ms.pr).map (·.1),fun a=>(mget a ms.ch).getD 0,fun a=>mget a ms.rg,pgA ms.pg⟩
def fup {β:Type} (f:ByteArray→β) (a:ByteArray) (v:β):ByteArray→β:=fun b=>if a=b then v else f b
def aget (s:AS) (who:ByteArray):Pr×Int:=if lvalid who.data.toList=true then (match s.pr who with
 | none=>(Pr.z,8)
 | some p=>if p.ep≠s.ep then (Pr.z,8) else (p,0)) else (Pr.z,12)
theorem Yg (ms:Ms) (who:ByteArray):aget (absM ms) who=mgP ms who:=by
 unfold aget mgP absM
 dsimp only
 cases mget who ms.pr<;>rfl
def er (e:Int):Rz:=⟨0,⟨#[]⟩,Pr.z,e⟩
def cpyP (f:ByteArray→Int→Option ByteArray) (sp ch:ByteArray) (n:Int):ByteArray→Int→Option ByteArray:=fun a j=>if a=ch∧(0≤j∧j<n)∧(f sp j).isSome=true then f sp j else f a j
def chS (s:AS) (who ch:ByteArray) (p:Pr) (pg:ByteArray→Int→Option ByteArray):AS:=⟨s.ep,fup s.pr ch (some p),fup s.ch who (s.ch who+1),match s.rg who with
 | none=>s.rg
 | some g=>fup s.rg ch (some g),pg⟩
def achild (s:AS) (who:ByteArray) (share:Bool):Rz×AS:=
 if (aget s who).2≠0 then (er (aget s who).2,s) else if (aget s who).1.st≠1 then (er 10,s) else if (childE who (s.ch who+1)).2≠0 then (er (childE who (s.ch who+1)).2,s) else
 if (s.pr (childE who (s.ch who+1)).1).isSome=true then (er 13,s) else
 if share=true then (⟨0,(childE who (s.ch who+1)).1,Pr.z,0⟩,chS s who (childE who (s.ch who+1)).1 {(aget s who).1 with pg:=0} s.pg) else
 match s.pr (aget s who).1.sp with
 | none=>(er 8,s)
 | some o=>(⟨0,(childE who (s.ch who+1)).1,Pr.z,0⟩,chS s who (childE who (s.ch who+1)).1 {(aget s who).1 with sp:=(childE who (s.ch who+1)).1,pg:=o.pg} (cpyP s.pg (aget s who).1.sp (childE who (s.ch who+1)).1 o.pg))
structure Ms.Ok2 (ms:Ms):Prop where
 ok:ms.Ok
 c:∀a,0≤(mget a ms.ch).getD 0∧(mget a ms.ch).getD 0≤1000000
 r:∀a g,mget a ms.rg=some g→g.length=9
def ChP (b:Nat) (ms:Ms) (who:ByteArray) (share:Bool):Post:=⟨Ms,fun _=>(achild (absM ms) who share).1.v none 0,fun m=>absM m=(achild (absM ms) who share).2,fun m=>[PrF m.pr],fun m=>[MO b m]⟩
theorem absM_pr {ms:Ms} {a:ByteArray} {x:Pr×Option Addr×Nat}:(fun b=>(mget b (mset a x ms.pr)).map (·.1))=fup (absM ms).pr a (some x.1):=by
 funext b
 rw [Yy]
 unfold fup absM
 dsimp only
 split<;>rfl
theorem absM_ch {ms:Ms} {a:ByteArray} {x:Int}:(fun b=>(mget b (mset a x ms.ch)).getD 0)=fup (absM ms).ch a x:=by
 funext b
 rw [Yy]
 unfold fup absM
 dsimp only
 split<;>rfl
theorem absM_rg {ms:Ms} {a:ByteArray} {x:List Int}:(fun b=>mget b (mset a x ms.rg))=fup (absM ms).rg a (some x):=by
 funext b
 rw [Yy]
 unfold fup absM
 rfl
section
variable {k:List Fr}
theorem l_mo {b:Nat} {ms:Ms} {ops l:List Oper} (t:∀r1 r2 r3 r4,Wl n C ops.toArray k Q l E F ([Pt b (.cells #[.int .i64 ms.ep,.map (some r1),.map (some r2),.map (some r3),.map (some r4)] 187),Mp Z0 prV r1 ms.pr,Mp Z0 ziv r2 ms.ch,Mp Z0 rgV r3 ms.rg,PgM r4 ms.pg]++R0)) (hs:Sel (MO b ms) R R0:=by (repeat (first|exact Sel.here|apply Sel.there));first|done|fail):Wl n C ops.toArray k Q l E F R:=
 l_open (X:=Nat×Nat×Nat×Nat) (Lx:=fun q=>MoL b ms q) (p:=fun _=>True) (r:=MO b ms) hs (fun _h hh=>hh) (fun q _=>t q.1 q.2.1 q.2.2.1 q.2.2.2)
theorem l_mo' {b:Nat} {ms:Ms} {r1 r2 r3 r4:Nat} {ops l:List Oper} (t:Wl n C ops.toArray k Q l E F (MO b ms::R0))
  (hs:Sels [Pt b (.cells #[.int .i64 ms.ep,.map (some r1),.map (some r2),.map (some r3),.map (some r4)] 187),Mp Z0 prV r1 ms.pr,Mp Z0 ziv r2 ms.ch,Mp Z0 rgV r3 ms.rg,PgM r4 ms.pg] R R0:=by (repeat (first|exact Sels.nil|exact Sel.here|apply Sel.there|apply Sels.cons));first|done|fail):Wl n C ops.toArray k Q l E F R:=
 l_shut (fun _ hh=>⟨(r1,r2,r3,r4),trivial,hh⟩) t hs
theorem k_prN {a:ByteArray} {x:Pr×Option Addr×Nat} {pr:List (ByteArray×(Pr×Option Addr×Nat))} (t:Wk n C k Q E (PrF (mset a x pr)::F) R) {F0 F1:List Pf} (hs:Sel (PrF pr) F F0:=by (repeat (first|exact Sel.here|apply Sel.there));first|done|fail) (h2:Sel (Sl 3 zf x.2.1 x.2.2 x.1.gs) F F1:=by (repeat (first|exact Sel.here|apply Sel.there));first|done|fail):Wk n C k Q E F R:=fun ac w ha hsat=>by
 obtain ⟨hp,hr,st⟩:=hsat
 refine t ac w ha (Ys st ?_)
 have h3:=st.f _ hs.mem
 have h4:=st.f _ h2.mem
 intro e he
 have hkey:∀(m:List (ByteArray×(Pr×Option Addr×Nat))),e ∈ mset a x m→e ∈ m∨e=(a,x):=by
  intro m
  induction m with
  | nil=>intro h;exact .inr (by simpa [mset] using h)
  | cons c m ih=>
   intro h
   obtain ⟨c,u⟩:=c
   unfold mset at h
   split at h
   ·rename_i hac
    rcases List.mem_cons.1 h with h|h
    ·exact .inr h
    ·exact .inl (List.mem_cons_of_mem _ h)
   ·rcases List.mem_cons.1 h with h|h
    ·exact .inl (by rw [h];simp)
    ·rcases ih h with h|h
     ·exact .inl (List.mem_cons_of_mem _ h)
     ·exact .inr h
 rcases hkey pr he with h|h
 ·exact h3 e h
 ·rw [h];exact h4
end
theorem cpyP_0 (f:ByteArray→Int→Option ByteArray) (sp ch:ByteArray):cpyP f sp ch 0=f:=by
 funext a j
 unfold cpyP
 rw [if_neg (by omega)]
theorem cpyP_at {f:ByteArray→Int→Option ByteArray} {sp ch:ByteArray} (h:sp≠ch) (n j:Int):cpyP f sp ch n sp j=f sp j:=by
 unfold cpyP
 rw [if_neg (fun e=>h e.1)]
theorem cpyP_skip {f:ByteArray→Int→Option ByteArray} {sp ch:ByteArray} {i:Int} (h:f sp i=none):cpyP f sp ch (i+1)=cpyP f sp ch i:=by
 funext a j
 unfold cpyP
 by_cases hj:j=i
 ·subst hj
  rw [h]
  simp
 ·by_cases hc:a=ch∧(0≤j∧j<i)∧(f sp j).isSome=true
  ·rw [if_pos hc,if_pos ⟨hc.1,⟨hc.2.1.1,by omega⟩,hc.2.2⟩]
  ·rw [if_neg hc,if_neg (fun e=>hc ⟨e.1,⟨e.2.1.1,by omega⟩,e.2.2⟩)]
theorem cpyP_step {f g:ByteArray→Int→Option ByteArray} {sp ch:ByteArray} {i:Int} {s:ByteArray} (hi:0≤i) (h:f sp i=some s) (hg:∀a j,g a j=if a=ch∧j=i then some s else cpyP f sp ch i a j):g=cpyP f sp ch (i+1):=by
 funext a j
 rw [hg]
 unfold cpyP
 by_cases hj:j=i
 ·subst hj
  by_cases ha:a=ch
  ·rw [if_pos ⟨ha,rfl⟩,if_pos ⟨ha,⟨hi,by omega⟩,by rw [h];rfl⟩,h]
  ·rw [if_neg (fun e=>ha e.1),if_neg (fun e=>ha e.1),if_neg (fun e=>ha e.1)]
 ·rw [if_neg (fun e=>hj e.2)]
  by_cases hc:a=ch∧(0≤j∧j<i)∧(f sp j).isSome=true
  ·rw [if_pos hc,if_pos ⟨hc.1,⟨hc.2.1.1,by omega⟩,hc.2.2⟩]
  ·rw [if_neg hc,if_neg (fun e=>hc ⟨e.1,⟨e.2.1.1,by omega⟩,e.2.2⟩)]
set_option maxHeartbeats 16000000 in
theorem child35_ok (b:Nat) (ms:Ms) (hok:ms.Ok2) (who:ByteArray) (share:Bool) (hw:who.size≤1000) (hne:isE who=false):Enters 149∧Spec prog 149 #[.pointer (some ⟨b,0,none⟩),.string who,.bool share] [PrF ms.pr,P10] [MO b ms] (ChP b ms who share):=by
 have n1:=Zs b ms who hw
 unfold ChP achild
 rw [Yg]
 obtain ⟨⟨hpk,hpg⟩,hch,hrg⟩:=hok
 have hmg:(mgP ms who).2=0→pchk (mgP ms who).1=0∧lvalid who.data.toList=true:=fun h=>by
  unfold mgP at h ⊢
  split at h
  ·rename_i hv
   rw [if_pos hv]
   cases hg:mget who ms.pr with
   | none=>rw [hg] at h;cases h
   | some x=>
    rw [hg] at h
    dsimp only at h ⊢
    by_cases he:x.1.ep≠ms.ep
    ·rw [if_pos he] at h;cases h
    ·rw [if_neg he];exact ⟨hpk _ _ hg,hv⟩
  ·cases h
 generalize mgP ms who=X at *
 obtain ⟨p,e⟩:=X
 dsimp only at *
 generalize b=bv at *
 by_cases he:e≠0
 ·simp only [if_pos he,er,Rz.v,Pr.z,Bi.z]
  obtain ⟨a1,a2,a3,a4,a5,gs,a7,a8,⟨a9,a9'⟩,a10⟩:=p
  simp only [Pr.v] at n1
  refine ZH [_,_,_] func149 ntmps149 fun G w hp=>?_
  repeat' (first|refine ZC ?_|refine ZB ?_|refine ZD ?_|refine ZS ?_|refine ZN (fun b=>?_)|refine ZA (n1) (fun _ _=>?_)|(refine ZF (fun hc=>?_) (fun hc=>?_)<;>(try simp at hc)<;>(try omega))|fail)
  exact ZG ms rfl rfl
 ·obtain rfl:e=0:=by omega
  simp only [if_neg he]
  obtain ⟨hpc,hv⟩:=hmg rfl
  by_cases hst:p.st≠1
  ·simp only [if_pos hst,er,Rz.v,Pr.z,Bi.z]
   obtain ⟨a1,a2,a3,a4,a5,gs,a7,a8,⟨a9,a9'⟩,a10⟩:=p
   simp only [Pr.v] at n1
   dsimp only at hst
   refine ZH [_,_,_] func149 ntmps149 fun G w hp=>?_
   repeat' (first|refine ZC ?_|refine ZB ?_|refine ZD ?_|refine ZP ?_|refine ZS ?_|refine ZN (fun b=>?_)|refine ZE ?_|refine ZA (n1) (fun _ _=>?_)|(refine ZF (fun hc=>?_) (fun hc=>?_)<;>(try simp at hc)<;>(try omega))|fail)
   exact ZG ms rfl rfl
  ·simp only [if_neg hst]
   simp only [ne_eq,Decidable.not_not] at hst
   have hc:=hch who
   have hcv:(absM ms).ch who=(mget who ms.ch).getD 0:=rfl
   rw [hcv]
   generalize hz:(mget who ms.ch).getD 0=z at *
   have hgz:∀o:Option Int,o=mget who ms.ch→(o.map ziv).getD (.int .i64 0) = .int .i64 z:=fun o ho=>by
    subst ho
    cases hm:mget who ms.ch with
    | none=>rw [hm] at hz;rw [←hz];rfl
    | some y=>rw [hm] at hz;rw [←hz];rfl
   have hgz':=hgz _ rfl
   clear hgz
   have w1:IntKind.i64.wrap (z+1)=z+1:=wrapi (by omega) (by omega)
   have n2:=XG who (z+1) hw hne
   have hcE:=YD (who:=who) (k:=z+1) hne
   generalize childE who (z+1)=Y at *
   obtain ⟨chn,e2⟩:=Y
   dsimp only at *
   have hsp:=(Z7 hpc).2.1
   clear hmg hpc
   obtain ⟨a1,a2,a3,a4,a5,gs,a7,a8,⟨a9,a9'⟩,a10⟩:=p
   simp only [Pr.v] at n1
   dsimp only at hst hsp ⊢
   subst hst
   by_cases he2:e2≠0
   ·simp only [if_pos he2,er,Rz.v,Pr.z,Bi.z]
    refine ZH [_,_,_] func149 ntmps149 fun G w hp=>?_
    repeat' (first|refine ZC ?_|refine ZB ?_|refine ZD ?_|refine ZP ?_|refine ZS ?_|refine ZN (fun b=>?_)|refine ZE ?_|refine ZA (n1) (fun _ _=>?_)|refine ZA (n2) (fun _ _=>?_)|refine l_mo (ms:=ms) (fun r1 r2 r3 r4=>?_)|refine XO ZZ who _ rfl ?_|rw [hgz']|rw [w1]|(refine ZF (fun hc=>?_) (fun hc=>?_)<;>(try simp at hc)<;>(try omega))|fail)
    refine YR (ms:=ms) (r1:=r1) (r2:=r2) (r3:=r3) (r4:=r4) ?_
    exact ZG ms rfl rfl
   ·obtain rfl:e2=0:=by omega
    simp only [if_neg he2]
    obtain ⟨hce,-,hk2,hcv2,hcz⟩:=hcE rfl
    clear hce hcE
    cases hex:mget chn ms.pr with
    | some xx=>
     obtain ⟨⟨c1,c2,c3,c4,c5,cgs,c7,c8,⟨c9,c9'⟩,c10⟩,co,cc⟩:=xx
     have hi:((absM ms).pr chn).isSome=true:=by unfold absM;dsimp only;rw [hex];rfl
     simp only [hi,if_true,er,Rz.v,Pr.z,Bi.z]
     refine ZH [_,_,_] func149 ntmps149 fun G w hp=>?_
     repeat' (first|refine ZC ?_|refine ZB ?_|refine ZD ?_|refine ZP ?_|refine ZS ?_|refine ZN (fun b=>?_)|refine ZJ ?_|refine ZE ?_|refine ZA (n1) (fun _ _=>?_)|refine ZA (n2) (fun _ _=>?_)|refine l_mo (ms:=ms) (fun r1 r2 r3 r4=>?_)|refine XO ZZ who _ rfl ?_|rw [hgz']|rw [w1]|refine YW ZZ chn _ hex ?_|fail)
     refine YR (ms:=ms) (r1:=r1) (r2:=r2) (r3:=r3) (r4:=r4) ?_
     exact ZG ms rfl rfl
    | none=>
     have hi:((absM ms).pr chn).isSome=false:=by unfold absM;dsimp only;rw [hex];rfl
     simp only [hi,Bool.false_eq_true,if_false]
     have hA1:∀p':Pr,∀o c,(fun b=>(mget b (mset chn (p',o,c) ms.pr)).map (·.1))=fup (absM ms).pr chn (some p'):=fun p' o c=>absM_pr
     have hA2:(fun b=>(mget b (mset who (z+1) ms.ch)).getD 0)=fup (absM ms).ch who (z+1):=absM_ch
     have hA3:∀g,(fun b=>mget b (mset chn g ms.rg))=fup (absM ms).rg chn (some g):=fun g=>absM_rg
     have hcv3:(absM ms).ch who+1=z+1:=by rw [hcv]
     cases share with
     | true=>
      simp only [if_true,Rz.v,Pr.z,Bi.z]
      cases hrgm:mget who ms.rg with
      | none=>
       refine ZH [_,_,_] func149 ntmps149 fun G w hp=>?_
       repeat' (first|refine ZC ?_|refine ZB ?_|refine ZD ?_|refine ZP ?_|refine ZS ?_|refine ZN (fun b=>?_)|refine ZE ?_|refine ZO ?_|refine Ze ?_|refine ZQ ?_|refine ZA (n1) (fun _ _=>?_)|refine ZA (n2) (fun _ _=>?_)|refine l_mo (ms:=ms) (fun r1 r2 r3 r4=>?_)|refine XO ZZ who _ rfl ?_|rw [hgz']|rw [w1]|refine YW ZZ chn _ hex ?_|refine Wc (V:=ziv) ZZ who (z+1) ?_|refine XH (V:=prV) ZZ chn (⟨a1,1,a3,a4,a5,gs,a7,0,⟨a9,a9'⟩,a10⟩,_,_) ?_|refine YW ZZ who _ hrgm ?_|refine ZK 25 [Mp Z0 prV _ _] [(0,0),(1,0),(2,0),(3,0),(4,0),(5,0),(6,4)] [] ?_|fail)
       rename_i _ qq _ _ _ _ _
       refine k_prN (a:=chn) (x:=(⟨a1,1,a3,a4,a5,gs,a7,0,⟨a9,a9'⟩,a10⟩,qq.1,qq.2)) ?_
       refine YR (ms:=⟨ms.ep,mset chn (⟨a1,1,a3,a4,a5,gs,a7,0,⟨a9,a9'⟩,a10⟩,qq.1,qq.2) ms.pr,mset who (z+1) ms.ch,ms.rg,ms.pg⟩) (r1:=r1) (r2:=r2) (r3:=r3) (r4:=r4) ?_
       refine ZG (⟨ms.ep,mset chn (⟨a1,1,a3,a4,a5,gs,a7,0,⟨a9,a9'⟩,a10⟩,qq.1,qq.2) ms.pr,mset who (z+1) ms.ch,ms.rg,ms.pg⟩:Ms) rfl ?_
       have hr0:(absM ms).rg who=none:=hrgm
       unfold chS
       rw [hr0,hcv3,←hA1 _ qq.1 qq.2,←hA2]
       rfl
      | some g=>
       have hg9:=hrg _ _ hrgm
       obtain _|⟨g1,_|⟨g2,_|⟨g3,_|⟨g4,_|⟨g5,_|⟨g6,_|⟨g7,_|⟨g8,_|⟨g9,_|⟨g10,l⟩⟩⟩⟩⟩⟩⟩⟩⟩⟩:=g
       all_goals try (simp at hg9;done)
       refine ZH [_,_,_] func149 ntmps149 fun G w hp=>?_
       repeat' (first|refine ZC ?_|refine ZB ?_|refine ZD ?_|refine ZP ?_|refine ZS ?_|refine ZN (fun b=>?_)|refine ZJ ?_|refine ZE ?_|refine ZO ?_|refine Ze ?_|refine ZQ ?_|refine ZA (n1) (fun _ _=>?_)|refine ZA (n2) (fun _ _=>?_)|refine l_mo (ms:=ms) (fun r1 r2 r3 r4=>?_)|refine XO ZZ who _ rfl ?_|rw [hgz']|rw [w1]|refine YW ZZ chn _ hex ?_|refine Wc (V:=ziv) ZZ who (z+1) ?_|refine XH (V:=prV) ZZ chn (⟨a1,1,a3,a4,a5,gs,a7,0,⟨a9,a9'⟩,a10⟩,_,_) ?_|refine YW ZZ who _ hrgm ?_|refine XH (V:=rgV) ZZ chn [g1,g2,g3,g4,g5,g6,g7,g8,g9] ?_|refine ZK 25 [Mp Z0 prV _ _] [(0,0),(1,0),(2,0),(3,0),(4,0),(5,0),(6,4)] [] ?_|refine ZK 28 [Mp Z0 rgV _ _] [(0,0),(1,0),(2,0),(3,0),(4,0),(5,0),(6,4)] [] ?_|fail)
       rename_i _ qq _ _ _ _ _
       refine k_prN (a:=chn) (x:=(⟨a1,1,a3,a4,a5,gs,a7,0,⟨a9,a9'⟩,a10⟩,qq.1,qq.2)) ?_
       refine YR (ms:=⟨ms.ep,mset chn (⟨a1,1,a3,a4,a5,gs,a7,0,⟨a9,a9'⟩,a10⟩,qq.1,qq.2) ms.pr,mset who (z+1) ms.ch,mset chn [g1,g2,g3,g4,g5,g6,g7,g8,g9] ms.rg,ms.pg⟩) (r1:=r1) (r2:=r2) (r3:=r3) (r4:=r4) ?_
       refine ZG (⟨ms.ep,mset chn (⟨a1,1,a3,a4,a5,gs,a7,0,⟨a9,a9'⟩,a10⟩,qq.1,qq.2) ms.pr,mset who (z+1) ms.ch,mset chn [g1,g2,g3,g4,g5,g6,g7,g8,g9] ms.rg,ms.pg⟩:Ms) rfl ?_
       have hr0:(absM ms).rg who=some [g1,g2,g3,g4,g5,g6,g7,g8,g9]:=hrgm
       unfold chS
       rw [hr0,hcv3,←hA1 _ qq.1 qq.2,←hA2]
       dsimp only
       rw [←hA3]
       rfl
     | false=>
      simp only [Bool.false_eq_true,if_false]
      cases ho:mget a7 ms.pr with
      | none=>
       have ha7:(absM ms).pr a7=none:=by unfold absM;dsimp only;rw [ho];rfl
       simp only [ha7,er,Rz.v,Pr.z,Bi.z]
       refine ZH [_,_,_] func149 ntmps149 fun G w hp=>?_
       repeat' (first|refine ZC ?_|refine ZB ?_|refine ZD ?_|refine ZP ?_|refine ZS ?_|refine ZN (fun b=>?_)|refine ZJ ?_|refine ZE ?_|refine ZO ?_|refine Ze ?_|refine r_al (fun b=>?_)|refine r_st ?_|refine ZQ ?_|refine ZA (n1) (fun _ _=>?_)|refine ZA (n2) (fun _ _=>?_)|refine l_mo (ms:=ms) (fun r1 r2 r3 r4=>?_)|refine XO ZZ who _ rfl ?_|rw [hgz']|rw [w1]|refine YW ZZ chn _ hex ?_|refine Yv ZZ a7 _ ho ?_|refine ZK 13 [] [(0,0),(1,0),(2,0),(3,0),(4,0),(5,0),(6,0),(7,0),(8,0),(9,0),(10,1),(11,4),(12,0)] [] ?_|fail)
       refine YR (ms:=ms) (r1:=r1) (r2:=r2) (r3:=r3) (r4:=r4) ?_
       exact ZG ms rfl rfl
      | some xo=>
       obtain ⟨ow,oo,oc⟩:=xo
       have hoc:=hpk _ _ ho
       obtain ⟨-,-,u3,-⟩:=Zg hoc
       unfold pfit at u3
       have ha7:(absM ms).pr a7=some ow:=by unfold absM;dsimp only;rw [ho];rfl
       have hne7:a7≠chn:=fun e=>by rw [e,hex] at ho;cases ho
       simp only [ha7,Rz.v,Pr.z,Bi.z]
       clear hoc
       obtain ⟨o1,o2,o3,o4,o5,os,o7,o8,⟨o9,o9'⟩,o10⟩:=ow
       dsimp only at u3 ha7 ⊢
       obtain ⟨pgn,hpgn⟩:∃pgn:Nat,o8=(pgn:Int):=⟨o8.toNat,by omega⟩
       subst hpgn
       refine ZH [_,_,_] func149 ntmps149 fun G w hp=>?_
       repeat' (first|refine ZC ?_|refine ZB ?_|refine ZD ?_|refine ZP ?_|refine ZS ?_|refine ZN (fun b=>?_)|refine ZJ ?_|refine ZE ?_|refine ZO ?_|refine Ze ?_|refine r_al (fun b=>?_)|refine r_st ?_|refine ZQ ?_|refine ZA (n1) (fun _ _=>?_)|refine ZA (n2) (fun _ _=>?_)|refine l_mo (ms:=ms) (fun r1 r2 r3 r4=>?_)|refine XO ZZ who _ rfl ?_|rw [hgz']|rw [w1]|refine YW ZZ chn _ hex ?_|refine Yv ZZ a7 _ ho ?_|refine ZK 13 [] [(0,0),(1,0),(2,0),(3,0),(4,0),(5,0),(6,0),(7,0),(8,0),(9,0),(10,1),(11,4),(12,0)] [] ?_|fail)
       refine YR (ms:=ms) (r1:=r1) (r2:=r2) (r3:=r3) (r4:=r4) ?_
       rename_i b0 qq _ b7 _ _ _
       refine YH (X:={t:Nat×Pgs // t.1≤pgn∧pgA t.2=cpyP (pgA ms.pg) a7 chn (t.1:Int)}) (fun t=>[(0,.pointer (some ⟨bv,0,none⟩)),(1,.string who),(6,.pointer (some ⟨b0,0,none⟩)),(7,.pointer (some ⟨b7,0,none⟩)),(9,.string chn),(12,.pointer (some ⟨b,0,none⟩)),(14,.int .i64 (t.1.1:Int))]) (fun _=>[PrF ms.pr,Sl 3 zf qq.1 qq.2 gs])
        (fun t=>[MO bv {ms with pg:=t.1.2},Pt b0 (.cells #[.int .i64 0,.string ⟨#[]⟩,.int .i64 0,.int .i64 0,.int .i64 0,.int .i64 0,.int .i64 0,.slice none 0 0,.string ⟨#[]⟩,.int .i64 0,.string ⟨#[]⟩,.int .i64 0,.int .i64 0,.int .i64 0] 79),Pt b7 (.cells #[.int .i64 a1,.int .i64 1,.int .i64 a3,.int .i64 a4,.int .i64 a5,.slice qq.1 gs.length qq.2,.string a7,.int .i64 a8,.string a9,.int .i64 a9',.int .i64 a10] 44),Pt b (.cells #[.int .i64 o1,.int .i64 o2,.int .i64 o3,.int .i64 o4,.int .i64 o5,.slice oo os.length oc,.string o7,.int .i64 (pgn:Int),.string o9,.int .i64 o9',.int .i64 o10] 44)])
        (fun t=>pgn - t.1.1) ⟨(0,ms.pg),Nat.zero_le _,by rw [show (((0:Nat):Int))=0 from rfl,cpyP_0]⟩ ⟨rfl,rfl,rfl,rfl,rfl,rfl,rfl,trivial⟩ ?_
       rintro ⟨⟨i,pl⟩,hi,hpl⟩
       dsimp only at hi hpl ⊢
       by_cases hlt:i<pgn
       ·have wi:IntKind.i64.wrap ((i:Int)+1)=((i+1:Nat):Int):=by rw [wrapi (by omega) (by omega)];omega
        have hii:((i+1:Nat):Int)=(i:Int)+1:=by omega
        have hval:pgA pl a7 (i:Int)=pgA ms.pg a7 (i:Int):=by rw [hpl,cpyP_at hne7]
        refine k_mo fun q=>?_
        obtain ⟨r1,r2,r3,r4⟩:=q
        cases hmo:mget a7 pl with
        | none=>
         have hv0:pgA ms.pg a7 (i:Int)=none:=by rw [←hval];unfold pgA;rw [hmo];rfl
         refine Ye (X:=Unit) (Lx:=fun _=>[Mp Z0 pmV r4 pl,fun h=>Sep (pl.map inM) h]) (p:=fun _=>True) (r:=PgM r4 pl) (by (repeat (first|exact Sel.here|apply Sel.there))) (fun h hh=>⟨(),trivial,pg_two hh⟩) (fun _ _=>?_)
         repeat' (first|refine ZC ?_|refine ZB ?_|refine ZD ?_|refine ZP ?_|refine ZE ?_|refine ZO ?_|refine Ze ?_|refine ZQ ?_|rw [wi]|refine Yz ZZ a7 _ hmo ?_|refine r_mgN2 Wf (i:Int) ?_|refine ZK 19 [] [(0,0),(1,0),(2,0),(3,0),(4,0),(5,0),(6,0),(7,0),(8,0),(9,0),(10,0),(11,0),(12,0),(13,0)] [] ?_|(refine ZF (fun hc=>?_) (fun hc=>?_)<;>(try simp at hc)<;>(try omega))|fail)
         refine Zq (r:=PgM r4 pl) (Lx:=[Mp Z0 pmV r4 pl,fun h=>Sep (pl.map inM) h]) (fun h hh=>two_pg hh) ?_
         refine YR (ms:={ms with pg:=pl}) (r1:=r1) (r2:=r2) (r3:=r3) (r4:=r4) ?_
         exact ZW ⟨(i+1,pl),by dsimp only;omega,by dsimp only;rw [hii,cpyP_skip hv0,hpl]⟩ (by show pgn - (i+1)<pgn - i;omega) ⟨rfl,rfl,rfl,rfl,rfl,rfl,rfl,trivial⟩
        | some xm=>
         obtain ⟨ri,m⟩:=xm
         obtain ⟨pre,post,e1,e2⟩:=Wi hmo
         refine Ye (X:=Unit) (Lx:=fun _=>[Mp Z0 pmV r4 pl,Mp ziv sV ri m,fun h=>Sep ((pre++post).map inM) h]) (p:=fun _=>True) (r:=PgM r4 pl) (by (repeat (first|exact Sel.here|apply Sel.there))) (fun h hh=>⟨(),trivial,by rw [e1] at hh ⊢;exact WB.1 hh⟩) (fun _ _=>?_)
         cases hmi:mget (i:Int) m with
         | none=>
          have hv0:pgA ms.pg a7 (i:Int)=none:=by rw [←hval];unfold pgA;rw [hmo];exact hmi
          repeat' (first|refine ZC ?_|refine ZB ?_|refine ZD ?_|refine ZP ?_|refine ZE ?_|refine ZO ?_|refine Ze ?_|refine ZQ ?_|rw [wi]|refine Yz ZZ a7 _ hmo ?_|refine Yv Wf (i:Int) _ hmi ?_|refine ZK 19 [] [(0,0),(1,0),(2,0),(3,0),(4,0),(5,0),(6,0),(7,0),(8,0),(9,0),(10,0),(11,0),(12,0),(13,0)] [] ?_|(refine ZF (fun hc=>?_) (fun hc=>?_)<;>(try simp at hc)<;>(try omega))|fail)
          refine Zq (r:=PgM r4 pl) (Lx:=[Mp Z0 pmV r4 pl,Mp ziv sV ri m,fun h=>Sep ((pre++post).map inM) h]) (fun h hh=>by rw [e1] at hh ⊢;exact WB.2 hh) ?_
          refine YR (ms:={ms with pg:=pl}) (r1:=r1) (r2:=r2) (r3:=r3) (r4:=r4) ?_
          exact ZW ⟨(i+1,pl),by dsimp only;omega,by dsimp only;rw [hii,cpyP_skip hv0,hpl]⟩ (by show pgn - (i+1)<pgn - i;omega) ⟨rfl,rfl,rfl,rfl,rfl,rfl,rfl,trivial⟩
         | some s=>
          have hv0:pgA ms.pg a7 (i:Int)=some s:=by rw [←hval];unfold pgA;rw [hmo];exact hmi
          have n3:=VM bv {ms with pg:=pl} chn (i:Int) s
          repeat' (first|refine ZC ?_|refine ZB ?_|refine ZD ?_|refine ZP ?_|refine ZJ ?_|refine ZO ?_|refine Ze ?_|refine ZQ ?_|refine ZA (n3) (fun _ _=>?_)|rw [wi]|refine Yz ZZ a7 _ hmo ?_|refine Yv Wf (i:Int) _ hmi ?_|refine l_shut (r:=PgM r4 pl) (Lx:=[Mp Z0 pmV r4 pl,Mp ziv sV ri m,fun h=>Sep ((pre++post).map inM) h]) (fun h hh=>by rw [e1] at hh ⊢;exact WB.2 hh) ?_|refine l_mo' (ms:={ms with pg:=pl}) (r1:=r1) (r2:=r2) (r3:=r3) (r4:=r4) ?_|refine ZK 19 [] [(0,0),(1,0),(2,0),(3,0),(4,0),(5,0),(6,0),(7,0),(8,0),(9,0),(10,0),(11,0),(12,0),(13,0)] [] ?_|(refine ZF (fun hc=>?_) (fun hc=>?_)<;>(try simp at hc)<;>(try omega))|fail)
          rename_i pl' hpl'
          exact ZW ⟨(i+1,pl'),by dsimp only;omega,by dsimp only;rw [hii];exact cpyP_step (by omega) hv0 (fun a j=>by rw [hpl' a j,←hpl])⟩ (by show pgn - (i+1)<pgn - i;omega) ⟨rfl,rfl,rfl,rfl,rfl,rfl,rfl,trivial⟩
       ·obtain rfl:i=pgn:=by omega
        cases hrgm:mget who ms.rg with
        | none=>
         repeat' (first|refine ZC ?_|refine ZB ?_|refine ZD ?_|refine ZP ?_|refine ZS ?_|refine ZN (fun b=>?_)|refine ZE ?_|refine Zn ?_|refine ZO ?_|refine Ze ?_|refine r_st ?_|refine ZQ ?_|refine l_mo (ms:={ms with pg:=pl}) (fun r1 r2 r3 r4=>?_)|refine XO ZZ who _ rfl ?_|rw [hgz']|rw [w1]|refine Wc (V:=ziv) ZZ who (z+1) ?_|refine XH (V:=prV) ZZ chn (⟨a1,1,a3,a4,a5,gs,chn,(i:Int),⟨a9,a9'⟩,a10⟩,qq.1,qq.2) ?_|refine YW ZZ who _ hrgm ?_|refine ZK 22 [Pt b7 (.cells #[.int .i64 a1,_,_,_,_,_,_,_,_,_,_] _ _)] [(0,0),(1,0),(2,0),(3,0),(4,4),(5,0),(6,4)] [] ?_|refine ZK 25 [Mp Z0 prV _ _] [(0,0),(1,0),(2,0),(3,0),(4,0),(5,0),(6,4)] [] ?_|(refine ZF (fun hc=>?_) (fun hc=>?_)<;>(try simp at hc)<;>(try omega))|fail)
         refine k_prN (a:=chn) (x:=(⟨a1,1,a3,a4,a5,gs,chn,(i:Int),⟨a9,a9'⟩,a10⟩,qq.1,qq.2)) ?_
         refine YR (ms:=⟨ms.ep,mset chn (⟨a1,1,a3,a4,a5,gs,chn,(i:Int),⟨a9,a9'⟩,a10⟩,qq.1,qq.2) ms.pr,mset who (z+1) ms.ch,ms.rg,pl⟩) (r1:=r1) (r2:=r2) (r3:=r3) (r4:=r4) ?_
         refine ZG (⟨ms.ep,mset chn (⟨a1,1,a3,a4,a5,gs,chn,(i:Int),⟨a9,a9'⟩,a10⟩,qq.1,qq.2) ms.pr,mset who (z+1) ms.ch,ms.rg,pl⟩:Ms) rfl ?_
         have hr0:(absM ms).rg who=none:=hrgm
         unfold chS
         rw [hr0,hcv3,←hA1 _ qq.1 qq.2,←hA2]
         show absM _=AS.mk _ _ _ _ (cpyP (pgA ms.pg) a7 chn (i:Int))
         rw [←hpl]
         rfl
        | some g=>
         have hg9:=hrg _ _ hrgm
         obtain _|⟨g1,_|⟨g2,_|⟨g3,_|⟨g4,_|⟨g5,_|⟨g6,_|⟨g7,_|⟨g8,_|⟨g9,_|⟨g10,l⟩⟩⟩⟩⟩⟩⟩⟩⟩⟩:=g
         all_goals try (simp at hg9;done)
         repeat' (first|refine ZC ?_|refine ZB ?_|refine ZD ?_|refine ZP ?_|refine ZS ?_|refine ZN (fun b=>?_)|refine ZJ ?_|refine Zn ?_|refine ZO ?_|refine Ze ?_|refine r_st ?_|refine ZQ ?_|refine l_mo (ms:={ms with pg:=pl}) (fun r1 r2 r3 r4=>?_)|refine XO ZZ who _ rfl ?_|rw [hgz']|rw [w1]|refine Wc (V:=ziv) ZZ who (z+1) ?_|refine XH (V:=prV) ZZ chn (⟨a1,1,a3,a4,a5,gs,chn,(i:Int),⟨a9,a9'⟩,a10⟩,qq.1,qq.2) ?_|refine YW ZZ who _ hrgm ?_|refine XH (V:=rgV) ZZ chn [g1,g2,g3,g4,g5,g6,g7,g8,g9] ?_|refine ZK 22 [Pt b7 (.cells #[.int .i64 a1,_,_,_,_,_,_,_,_,_,_] _ _)] [(0,0),(1,0),(2,0),(3,0),(4,4),(5,0),(6,4)] [] ?_|refine ZK 25 [Mp Z0 prV _ _] [(0,0),(1,0),(2,0),(3,0),(4,0),(5,0),(6,4)] [] ?_|refine ZK 28 [Mp Z0 rgV _ _] [(0,0),(1,0),(2,0),(3,0),(4,0),(5,0),(6,4)] [] ?_|(refine ZF (fun hc=>?_) (fun hc=>?_)<;>(try simp at hc)<;>(try omega))|fail)
         refine k_prN (a:=chn) (x:=(⟨a1,1,a3,a4,a5,gs,chn,(i:Int),⟨a9,a9'⟩,a10⟩,qq.1,qq.2)) ?_
         refine YR (ms:=⟨ms.ep,mset chn (⟨a1,1,a3,a4,a5,gs,chn,(i:Int),⟨a9,a9'⟩,a10⟩,qq.1,qq.2) ms.pr,mset who (z+1) ms.ch,mset chn [g1,g2,g3,g4,g5,g6,g7,g8,g9] ms.rg,pl⟩) (r1:=r1) (r2:=r2) (r3:=r3) (r4:=r4) ?_
         refine ZG (⟨ms.ep,mset chn (⟨a1,1,a3,a4,a5,gs,chn,(i:Int),⟨a9,a9'⟩,a10⟩,qq.1,qq.2) ms.pr,mset who (z+1) ms.ch,mset chn [g1,g2,g3,g4,g5,g6,g7,g8,g9] ms.rg,pl⟩:Ms) rfl ?_
         have hr0:(absM ms).rg who=some [g1,g2,g3,g4,g5,g6,g7,g8,g9]:=hrgm
         unfold chS
         rw [hr0,hcv3,←hA1 _ qq.1 qq.2,←hA2]
         show absM _=AS.mk _ _ _ _ (cpyP (pgA ms.pg) a7 chn (i:Int))
         rw [←hpl]
         dsimp only
         rw [←hA3]
         rfl
def pchk2 (p:Pr):Int:=if gchk p.gs≠0 then gchk p.gs else if lvalid p.sp.data.toList=false then 12 else bchk p.dr
theorem pchk_2 {p:Pr} (h1:p.kd=1∨p.kd=2) (h2:1≤p.st∧p.st≤3) (h3:pfit p):pchk p=pchk2 p:=by
 unfold pchk pchk2
 rw [if_neg (by omega),if_neg (by omega),if_neg (by simp [h3])]
theorem pchk_11 {p:Pr} (h1:¬(p.kd=1∨p.kd=2)):pchk p=11:=by unfold pchk;rw [if_pos (by omega)]
theorem pchk_10 {p:Pr} (h1:p.kd=1∨p.kd=2) (h2:¬(1≤p.st∧p.st≤3)):pchk p=10:=by unfold pchk;rw [if_neg (by omega),if_pos (by omega)]
theorem pchk_02 {p:Pr} (h1:p.kd=1∨p.kd=2) (h2:1≤p.st∧p.st≤3) (h3:¬pfit p):pchk p=2:=by unfold pchk;rw [if_neg (by omega),if_neg (by omega),if_pos (by simp [h3])]
theorem pchk2_g {p:Pr} {z:Int} (h:gchk p.gs=z) (hz:z≠0):pchk2 p=z:=by unfold pchk2;rw [h,if_pos hz]
set_option maxHeartbeats 4000000 in
theorem check35_ok (p:Pr) (o:Option Addr) (c:Nat) (hl:p.gs.length≤1099511627776) (h1:p.sp.size≤1099511627776) (h2:p.dr.mkr.size≤1099511627776):Enters 16∧Spec prog 16 #[p.v o c] [Sl 3 zf o c p.gs] [] (RetV (.int .i64 (pchk p))):=by
 have n3:=Zu p.sp h1
 have n4:=VZ p.dr h2
 generalize hr:pchk p=r
 refine ZH [_] func16 ntmps16 fun G w hp=>?_
 refine k_cutd (Y:={b:Nat // (p.kd=1∨p.kd=2)∧1≤p.st∧p.st≤3}) 3 (fun y=>[(1,.pointer (some ⟨y.1,0,none⟩))]) (fun _=>[Sl 3 zf o c p.gs]) (fun y=>[Pt y.1 (.cells (prf p o c).toArray 44)]) ?_ ?_
 rotate_left
 ·intro hx
  repeat' (first|refine k_skp ?_|refine k_to hx ⟨b,by omega,by omega⟩ ⟨rfl,trivial⟩|refine ZC ?_|refine ZB ?_|refine ZU ?_|refine ZD ?_|refine ZP ?_|refine ZN (fun b=>?_)|refine ZJ ?_|refine ZE ?_|(refine ZT (fun hc=>?_) (fun hc=>?_)<;>(try simp at hc)<;>(try omega))|(refine ZF (fun hc=>?_) (fun hc=>?_)<;>(try simp at hc)<;>(try omega))|fail)
  all_goals
   (refine ZG () ?_ trivial
    refine congrArg (Value.int .i64) ?_
    rw [←hr]
    first
    | exact (pchk_11 (by omega)).symm
    | exact (pchk_10 (by omega) (by omega)).symm)
 rintro ⟨b,hk0⟩
 refine k_cutd (Y:={u:Unit // pfit p}) 1 (fun y=>[(1,.pointer (some ⟨b,0,none⟩))]) (fun _=>[Sl 3 zf o c p.gs]) (fun y=>[Pt b (.cells (prf p o c).toArray 44)]) ?_ ?_
 rotate_left
 ·intro hx
  by_cases hst:p.st=1
  ·repeat' (first|refine k_skp ?_|refine k_to hx ⟨(),by unfold pfit;omega⟩ ⟨rfl,trivial⟩|refine ZC ?_|refine ZB ?_|refine ZU ?_|refine ZD ?_|refine ZP ?_|refine ZJ ?_|(refine ZT (fun hc=>?_) (fun hc=>?_)<;>(try simp at hc)<;>(try omega))|(refine ZF (fun hc=>?_) (fun hc=>?_)<;>(try simp at hc)<;>(try omega))|fail)
   all_goals
    (refine ZG () ?_ trivial
     refine congrArg (Value.int .i64) ?_
     rw [←hr]
     exact (pchk_02 (by omega) (by omega) (by unfold pfit;omega)).symm)
  ·repeat' (first|refine k_skp ?_|refine k_to hx ⟨(),by unfold pfit;omega⟩ ⟨rfl,trivial⟩|refine ZC ?_|refine ZB ?_|refine ZU ?_|refine ZD ?_|refine ZP ?_|refine ZJ ?_|(refine ZT (fun hc=>?_) (fun hc=>?_)<;>(try simp at hc)<;>(try omega))|(refine ZF (fun hc=>?_) (fun hc=>?_)<;>(try simp at hc)<;>(try omega))|fail)
   all_goals
    (refine ZG () ?_ trivial
     refine congrArg (Value.int .i64) ?_
     rw [←hr]
     exact (pchk_02 (by omega) (by omega) (by unfold pfit;omega)).symm)
 rintro ⟨_,hk2⟩
 rw [pchk_2 hk0.1 hk0.2 hk2] at hr
 unfold pfit at hk2
 by_cases hl8:8<p.gs.length
 ·repeat' (first|refine ZC ?_|refine ZB ?_|refine ZD ?_|refine ZP ?_|(refine ZF (fun hc=>?_) (fun hc=>?_)<;>(try simp at hc)<;>(try omega))|fail)
  refine ZG () ?_ trivial
  refine congrArg (Value.int .i64) ?_
  rw [←hr]
  exact (pchk2_g (by unfold gchk;rw [if_pos (by omega)]) (by decide)).symm
 have hk1:=hk0
 repeat' (first|refine ZC ?_|refine ZB ?_|refine ZD ?_|refine ZP ?_|(refine ZF (fun hc=>?_) (fun hc=>?_)<;>(try simp at hc)<;>(try omega))|fail)
 refine YH (X:={i:Nat // i≤p.gs.length∧∀j<i,0≤p.gs.getD j 0∧p.gs.getD j 0≤65535}) (fun i=>[(1,.pointer (some ⟨b,0,none⟩)),(3,.slice o p.gs.length c),(4,.int .i64 (i.1:Int))]) (fun _=>[Sl 3 zf o c p.gs]) (fun _=>[Pt b (.cells (prf p o c).toArray 44)]) (fun i=>p.gs.length - i.1) ⟨0,by omega,fun j hj=>by omega⟩ ⟨rfl,rfl,rfl,trivial⟩ ?_
 rintro ⟨i,hi1,hi2⟩
 dsimp only
 by_cases hlt:i<p.gs.length
 ·obtain ⟨x,hx⟩:∃x,p.gs[i]? = some x:=⟨_,List.getElem?_eq_getElem hlt⟩
  have hg:=WW hx
  have bad:¬(0≤x∧x≤65535)→r=2:=fun hb=>by
   have h3:gchk p.gs=2:=by
    unfold gchk
    rw [if_neg hl8,if_pos]
    intro h
    have h4:=h i hlt
    rw [hg] at h4
    exact hb h4
   rw [←hr,pchk2_g h3 (by decide)]
  repeat' (first|refine ZC ?_|refine ZB ?_|refine ZU ?_|refine ZD ?_|refine ZJ ?_|refine XL (es:=p.gs) i x hx (fun b off=>?_)|refine YQ ?_|(refine ZT (fun hc=>?_) (fun hc=>?_)<;>(try simp at hc)<;>(try omega))|(refine ZF (fun hc=>?_) (fun hc=>?_)<;>(try simp at hc)<;>(try omega))|fail)
  all_goals try (
   have e:=bad (by omega)
   exact Y5 (XK (w_rv (congrArg (Value.int .i64) e) (YS () rfl trivial))))
  rw [wrapi (z:=(i:Int)+1) (by omega) (by omega)]
  refine ZW ⟨i+1,by omega,fun j hj=>?_⟩ (by show p.gs.length - (i+1)<p.gs.length - i;omega) ⟨rfl,rfl,rfl,trivial⟩
  by_cases hij:j=i
  ·subst hij
   rw [hg]
   omega
  ·exact hi2 j (by omega)
 ·have hk:gok p.gs:=fun j hj=>hi2 j (by omega)
  repeat' (first|refine ZC ?_|refine ZB ?_|refine ZD ?_|refine Zn ?_|(refine ZF (fun hc=>?_) (fun hc=>?_)<;>(try simp at hc)<;>(try omega))|fail)
  refine YH (X:={i:Nat // i≤p.gs.length∧∀j<i,j+1<p.gs.length→p.gs.getD j 0<p.gs.getD (j+1) 0}) (fun i=>[(1,.pointer (some ⟨b,0,none⟩)),(3,.slice o p.gs.length c),(5,.int .i64 ((i.1+1:Nat):Int))]) (fun _=>[Sl 3 zf o c p.gs]) (fun _=>[Pt b (.cells (prf p o c).toArray 44)]) (fun i=>p.gs.length - i.1) ⟨0,by omega,fun j hj=>by omega⟩ ⟨rfl,rfl,rfl,trivial⟩ ?_
  rintro ⟨k,hk1,hk2⟩
  dsimp only
  by_cases hlk:k+1<p.gs.length
  ·obtain ⟨x,hx⟩:∃x,p.gs[k]? = some x:=⟨_,List.getElem?_eq_getElem (by omega)⟩
   obtain ⟨y,hy⟩:∃y,p.gs[k+1]? = some y:=⟨_,List.getElem?_eq_getElem hlk⟩
   have hgx:=WW hx
   have hgy:=WW hy
   have hw1:IntKind.i64.wrap (((k+1:Nat):Int) - 1)=(k:Int):=by rw [wrapi (by omega) (by omega)];omega
   have hw2:IntKind.i64.wrap (((k+1:Nat):Int)+1)=((k+1+1:Nat):Int):=by rw [wrapi (by omega) (by omega)];omega
   have bad:¬x<y→r=32:=fun hb=>by
    have h3:gchk p.gs=32:=by
     unfold gchk
     rw [if_neg hl8,if_neg (by simp [hk]),if_pos]
     intro h
     have h4:=h k (by omega) hlk
     rw [hgx,hgy] at h4
     exact hb h4
    rw [←hr,pchk2_g h3 (by decide)]
   repeat' (first|refine ZC ?_|refine ZB ?_|refine ZD ?_|refine ZO ?_|refine ZQ ?_|rw [hw1]|rw [hw2]|refine Wp (es:=p.gs) (k+1) y hy (fun b off=>?_)|refine Wp (es:=p.gs) k x hx (fun b off=>?_)|refine r_ldC ?_|refine ZK 18 [] [(0,0),(1,0),(2,0),(3,0),(4,0),(5,0),(6,0),(7,0),(8,0),(9,0)] [] ?_|(refine ZF (fun hc=>?_) (fun hc=>?_)<;>(try simp at hc)<;>(try omega))|fail)
   ·have e:=bad (by omega)
    exact Y5 (XK (w_rv (congrArg (Value.int .i64) e) (YS () rfl trivial)))
   ·refine ZW ⟨k+1,by omega,fun j hj h1=>?_⟩ (by show p.gs.length - (k+1)<p.gs.length - k;omega) ⟨rfl,rfl,rfl,trivial⟩
    by_cases hjk:j=k
    ·subst hjk
     rw [hgx,hgy]
     omega
    ·exact hk2 j (by omega) h1
  ·have hs:gsq p.gs:=fun j hj h1=>hk2 j (by omega) h1
   have h3:gchk p.gs=0:=by
    unfold gchk
    rw [if_neg hl8,if_neg (by simp [hk]),if_neg (by simp [hs])]
   unfold pchk2 at hr
   rw [h3,if_neg (by simp)] at hr
   repeat' (first|refine ZC ?_|refine ZB ?_|refine ZD ?_|refine ZP ?_|refine Zn ?_|refine ZA (n3) (fun _ _=>?_)|refine ZA (n4) (fun _ _=>?_)|(refine ZF (fun hc=>?_) (fun hc=>?_)<;>(try simp at hc)<;>(try omega))|fail)
   all_goals (refine ZG () ?_ trivial;refine congrArg (Value.int .i64) ?_;rw [←hr])
   all_goals first
    | (rw [if_pos (by simp_all)];done)
    | (rw [if_neg (by simp_all)];done)
def amem (s:AS) (who:ByteArray):ByteArray×Int:=if (aget s who).2≠0 then (⟨#[]⟩,(aget s who).2) else match s.pr (aget s who).1.sp with
 | none=>(⟨#[]⟩,8)
 | some o=>(memA (s.pg (aget s who).1.sp) o.pg.toNat,0)
theorem amem_m (ms:Ms) (who:ByteArray):amem (absM ms) who=mmF ms who:=by
 unfold amem mmF
 rw [Yg]
 split
 ·rfl
 ·unfold absM
  dsimp only
  cases mget (mgP ms who).1.sp ms.pr<;>rfl
def stP (f:ByteArray→Int→Option ByteArray) (sp:ByteArray) (lo hi:Int) (b:ByteArray):ByteArray→Int→Option ByteArray:=fun a j=>if a=sp∧lo≤j∧j<hi then some (b.extract (64 * j.toNat) (64 * j.toNat+64)) else f a j
def zrP (f:ByteArray→Int→Option ByteArray) (sp:ByteArray) (lo hi:Int):ByteArray→Int→Option ByteArray:=fun a j=>if a=sp∧lo≤j∧j<hi then some Xm else f a j
def ldG (f:ByteArray→Int→Option ByteArray) (who:ByteArray) (l:List ByteArray) (n:Int):ByteArray→Int→Option ByteArray:=fun a j=>if a=who∧0≤j∧j<n then l[j.toNat]? else f a j
def ado (s:AS) (q:Oq):Rz×AS:=
 if q.k % 12=0 then
  (if lvalid (ZI q).data.toList=false then (er 12,s) else if pchk q.p≠0 then (er (pchk q.p),s) else if q.p.st≠1 then (er 10,s) else if (s.pr (ZI q)).isSome=true then (er 13,s) else (er 0,{s with pr:=fup s.pr (ZI q) (some {q.p with ep:=s.ep})}))
 else if q.k % 12=1 then achild s (ZI q) false
 else if q.k % 12=2 then achild s (ZI q) true
 else if q.k % 12=3 then
  (if (aget s (ZI q)).2≠0 then (er (aget s (ZI q)).2,s) else if (aget s (ZI q)).1.st≠1 then (er 10,s) else if ¬(0≤q.n∧q.n≤410) then (er 2,s) else (er 0,{s with pr:=fup s.pr (ZI q) (some {(aget s (ZI q)).1 with st:=2,cd:=q.n})}))
 else if q.k % 12=4 then
  (if (aget s (ZI q)).2≠0 then (er (aget s (ZI q)).2,s) else if q.n<1∨s.ch (ZI q)<q.n then (er 22,s) else
   if (aget s (childE (ZI q) q.n).1).2≠0 then (er 22,s) else if (aget s (childE (ZI q) q.n).1).1.st=1 then (er 19,s) else if (aget s (childE (ZI q) q.n).1).1.st=3 then (er 10,s) else
   (⟨(aget s (childE (ZI q) q.n).1).1.cd,⟨#[]⟩,Pr.z,0⟩,{s with pr:=fup s.pr (childE (ZI q) q.n).1 (some {(aget s (childE (ZI q) q.n).1).1 with st:=3})}))
 else if q.k % 12=5 then
  (if pchk q.p≠0 then (er (pchk q.p),s) else if (aget s (ZI q)).2≠0 then (er (aget s (ZI q)).2,s) else (er 0,{s with pr:=fup s.pr (ZI q) (some {q.p with ep:=(aget s (ZI q)).1.ep})}))
 else if q.k % 12=6 then
  (if (amem s (ZI q)).2≠0 then (er (amem s (ZI q)).2,s) else if q.t.size≠0∧(q.a<0∨4096<q.a∨((amem s (ZI q)).1.size:Int)<q.a+q.t.size) then (er 23,s) else if q.t.size=0 then (er 0,s) else
   (er 0,{s with pg:=stP s.pg (aget s (ZI q)).1.sp ((q.a.toNat / 64:Nat):Int) (((q.a.toNat+q.t.size - 1) / 64+1:Nat):Int) (spl (amem s (ZI q)).1 q.a.toNat q.t)}))
 else if q.k % 12=7 then
  (if q.n<0∨64<q.n then (er 2,s) else if (amem s (ZI q)).2≠0 then (er (amem s (ZI q)).2,s) else match s.pr (aget s (ZI q)).1.sp with
   | none=>(er 0,s)
   | some o=>if 64<o.pg+q.n then (er 26,s) else (⟨o.pg,⟨#[]⟩,Pr.z,0⟩,{s with pr:=fup s.pr (aget s (ZI q)).1.sp (some {o with pg:=o.pg+q.n}),pg:=zrP s.pg (aget s (ZI q)).1.sp o.pg (o.pg+q.n)}))
 else if q.k % 12=8 then
  (if imgC q.im≠0 then (er (imgC q.im),s) else if (aget s (ZI q)).2≠0 then (er (aget s (ZI q)).2,s) else if (aget s (ZI q)).1.st≠1 then (er 10,s) else
   (er 0,{s with pr:=fup s.pr (ZI q) (some (ldP (aget s (ZI q)).1 (ZI q) q.im)),rg:=fup s.rg (ZI q) (some [0,0,0,0,0,0,0,0,q.ie]),pg:=ldG s.pg (ZI q) (imPg q.im) (nPg q.im:Int)}))
 else if q.k % 12=9 then (⟨s.ep+1,⟨#[]⟩,Pr.z,0⟩,{s with ep:=s.ep+1})
 else if q.k % 12=10 then
  (if lvalid (ZI q).data.toList=false then (er 12,s) else (er 0,{s with rg:=fup s.rg (ZI q) (some (rgN q.n))}))
 else
  (if (aget s (ZI q)).2≠0 then (er (aget s (ZI q)).2,s) else (⟨0,⟨#[]⟩,(aget s (ZI q)).1,0⟩,s))
def DoP (b:Nat) (ms:Ms) (q:Oq):Post:=⟨Ms×(Option Addr×Nat),fun m=>(ado (absM ms) q).1.v m.2.1 m.2.2,fun m=>absM m.1=(ado (absM ms) q).2,fun m=>[PrF m.1.pr,Sl 3 zf m.2.1 m.2.2 (ado (absM ms) q).1.p.gs],fun m=>[MO b m.1]⟩
theorem UF {ms:Ms} {a:ByteArray} {x:Pr×Option Addr×Nat}:absM {ms with pr:=mset a x ms.pr}={absM ms with pr:=fup (absM ms).pr a (some x.1)}:=by
 rw [←absM_pr];rfl
theorem absM_reg {ms:Ms} {a:ByteArray} {x:List Int}:absM {ms with rg:=mset a x ms.rg}={absM ms with rg:=fup (absM ms).rg a (some x)}:=by
 rw [←absM_rg];rfl
set_option maxHeartbeats 8000000 in
theorem do9_ok (b:Nat) (ms:Ms) (q:Oq) (o:Option Addr) (c:Nat) (hk:q.k % 12=9) (hep:0≤ms.ep∧ms.ep≤1000000):Enters 101∧Spec prog 101 #[.pointer (some ⟨b,0,none⟩),q.v o c] [Sl 3 zf o c q.p.gs,PrF ms.pr,P10] [MO b ms] (DoP b ms q):=by
 have n0:=Zc
 obtain ⟨hwi,hw,hne⟩:=Zf q
 have n1:=Zs b ms (ZI q) hw
 have hlt7:q.w % 7<7:=Nat.mod_lt _ (by decide)
 have w1:(q.w:Int).tmod 7=((q.w % 7:Nat):Int):=(Int.ofNat_tmod q.w 7).symm
 have w2:(q.k:Int).tmod 12=9:=by rw [show (12:Int)=((12:Nat):Int) from rfl,←Int.ofNat_tmod,hk];rfl
 unfold DoP ado
 rw [hk]
 simp only [show ¬((9:Nat)=0) by decide,show ¬((9:Nat)=1) by decide,show ¬((9:Nat)=2) by decide,show ¬((9:Nat)=3) by decide,show ¬((9:Nat)=4) by decide,show ¬((9:Nat)=5) by decide,show ¬((9:Nat)=6) by decide,show ¬((9:Nat)=7) by decide,show ¬((9:Nat)=8) by decide,if_false,if_true]
 generalize mgP ms (ZI q)=X at *
 obtain ⟨⟨g1,g2,g3,g4,g5,ggs,g7,g8,⟨g9,g9'⟩,g10⟩,ge⟩:=X
 generalize ZI q=nw at *
 have w3:IntKind.i64.wrap (ms.ep+1)=ms.ep+1:=wrapi (by omega) (by omega)
 obtain ⟨y1,y2,y3,y4,y5,⟨x1,x2,x3,x4,x5,xs,x7,x8,⟨x9,x10⟩,x11⟩,y7,y8,y9,y10⟩:=q
 simp only [Oq.v,Pr.v,Pr.z,Bi.z,Rz.v] at *
 generalize b=bv at *
 refine ZH [_,_] func101 ntmps101 fun G w hp=>?_
 refine Zk (ZY 3 zf) ?_
 repeat' (first|refine ZC ?_|refine ZB ?_|refine ZD ?_|refine ZP ?_|refine ZS ?_|refine ZN (fun b=>?_)|refine ZJ ?_|refine ZE ?_|refine ZO ?_|refine Ze ?_|refine ZQ ?_|refine ZR (n0) (fun _ _=>?_)|refine ZA (n1) (fun _ _=>?_)|rw [w1]|rw [w2]|refine Zi (m:=7) (y2 % 7) hlt7 ?_|refine ZV 1 (y2 % 7) 0 hwi ?_|refine l_mo (ms:=ms) (fun r1 r2 r3 r4=>?_)|rw [w3]|refine ZK 1 [] [(1,0),(2,0),(3,0),(0,4),(4,0),(5,3),(6,0)] [] ?_|fail)
 refine YR (ms:={ms with ep:=ms.ep+1}) (r1:=r1) (r2:=r2) (r3:=r3) (r4:=r4) ?_
 exact ZG ({ms with ep:=ms.ep+1},none,0) rfl rfl
set_option maxHeartbeats 8000000 in
theorem do0_ok (b:Nat) (ms:Ms) (q:Oq) (o:Option Addr) (c:Nat) (hB:q.Bd) (hk:q.k % 12=0):Enters 101∧Spec prog 101 #[.pointer (some ⟨b,0,none⟩),q.v o c] [Sl 3 zf o c q.p.gs,PrF ms.pr,P10] [MO b ms] (DoP b ms q):=by
 have n0:=Zc
 obtain ⟨hwi,hw,hne⟩:=Zf q
 have n1:=Zs b ms (ZI q) hw
 have hlt7:q.w % 7<7:=Nat.mod_lt _ (by decide)
 have w1:(q.w:Int).tmod 7=((q.w % 7:Nat):Int):=(Int.ofNat_tmod q.w 7).symm
 have w2:(q.k:Int).tmod 12=0:=by rw [show (12:Int)=((12:Nat):Int) from rfl,←Int.ofNat_tmod,hk];rfl
 unfold DoP ado
 rw [hk]
 simp only [if_true]
 generalize mgP ms (ZI q)=X at *
 obtain ⟨⟨g1,g2,g3,g4,g5,ggs,g7,g8,⟨g9,g9'⟩,g10⟩,ge⟩:=X
 generalize hnw:ZI q=nw at *
 clear hnw
 have n2:=Zu nw (by omega)
 have n3:=check35_ok q.p o c hB.g hB.s hB.d
 cases hv:lvalid nw.data.toList with
 | false=>
  simp only [if_true]
  rw [hv] at n2
  clear hB n3
  obtain ⟨y1,y2,y3,y4,y5,⟨x1,x2,x3,x4,x5,xs,x7,x8,⟨x9,x10⟩,x11⟩,y7,y8,y9,y10⟩:=q
  simp only [Oq.v,Pr.v,er,Pr.z,Bi.z,Rz.v] at *
  generalize b=bv at *
  refine ZH [_,_] func101 ntmps101 fun G w hp=>?_
  refine Zk (ZY 3 zf) ?_
  repeat' (first|refine ZC ?_|refine ZB ?_|refine ZD ?_|refine ZP ?_|refine ZS ?_|refine ZN (fun b=>?_)|refine ZJ ?_|refine ZO ?_|refine Ze ?_|refine ZQ ?_|refine ZR (n0) (fun _ _=>?_)|refine ZA (n1) (fun _ _=>?_)|refine ZA (n2) (fun _ _=>?_)|rw [w1]|rw [w2]|refine Zi (m:=7) (y2 % 7) hlt7 ?_|refine ZV 1 (y2 % 7) 0 hwi ?_|refine ZK 1 [] [(1,0),(2,0),(3,0),(0,4),(4,0),(5,3),(6,0)] [] ?_|fail)
  exact ZG (ms,none,0) rfl rfl
 | true=>
  simp only [Bool.true_eq_false,if_false]
  rw [hv] at n2
  by_cases hc:pchk q.p≠0
  ·simp only [if_pos hc]
   clear hB
   generalize pchk q.p=e at *
   obtain ⟨y1,y2,y3,y4,y5,⟨x1,x2,x3,x4,x5,xs,x7,x8,⟨x9,x10⟩,x11⟩,y7,y8,y9,y10⟩:=q
   simp only [Oq.v,Pr.v,er,Pr.z,Bi.z,Rz.v] at *
   generalize b=bv at *
   refine ZH [_,_] func101 ntmps101 fun G w hp=>?_
   refine Zk (ZY 3 zf) ?_
   repeat' (first|refine ZC ?_|refine ZB ?_|refine ZD ?_|refine ZP ?_|refine ZS ?_|refine ZN (fun b=>?_)|refine ZJ ?_|refine ZE ?_|refine ZO ?_|refine Ze ?_|refine ZQ ?_|refine ZR (n0) (fun _ _=>?_)|refine ZA (n1) (fun _ _=>?_)|refine ZA (n2) (fun _ _=>?_)|refine ZA (n3) (fun _ _=>?_)|rw [w1]|rw [w2]|refine Zi (m:=7) (y2 % 7) hlt7 ?_|refine ZV 1 (y2 % 7) 0 hwi ?_|refine ZK 1 [] [(1,0),(2,0),(3,0),(0,4),(4,0),(5,3),(6,0)] [] ?_|(refine ZF (fun hc=>?_) (fun hc=>?_)<;>(try simp at hc)<;>(try omega))|fail)
   exact ZG (ms,none,0) rfl rfl
  ·simp only [if_neg hc]
   simp only [ne_eq,Decidable.not_not] at hc
   rw [hc] at n3
   by_cases hs:q.p.st≠1
   ·simp only [if_pos hs]
    clear hB hc
    obtain ⟨y1,y2,y3,y4,y5,⟨x1,x2,x3,x4,x5,xs,x7,x8,⟨x9,x10⟩,x11⟩,y7,y8,y9,y10⟩:=q
    simp only [Oq.v,Pr.v,er,Pr.z,Bi.z,Rz.v] at *
    generalize b=bv at *
    refine ZH [_,_] func101 ntmps101 fun G w hp=>?_
    refine Zk (ZY 3 zf) ?_
    repeat' (first|refine ZC ?_|refine ZB ?_|refine ZD ?_|refine ZP ?_|refine ZS ?_|refine ZN (fun b=>?_)|refine ZJ ?_|refine ZE ?_|refine ZO ?_|refine Ze ?_|refine ZQ ?_|refine ZR (n0) (fun _ _=>?_)|refine ZA (n1) (fun _ _=>?_)|refine ZA (n2) (fun _ _=>?_)|refine ZA (n3) (fun _ _=>?_)|rw [w1]|rw [w2]|refine Zi (m:=7) (y2 % 7) hlt7 ?_|refine ZV 1 (y2 % 7) 0 hwi ?_|refine ZK 1 [] [(1,0),(2,0),(3,0),(0,4),(4,0),(5,3),(6,0)] [] ?_|(refine ZF (fun hc=>?_) (fun hc=>?_)<;>(try simp at hc)<;>(try omega))|fail)
    exact ZG (ms,none,0) rfl rfl
   ·simp only [if_neg hs]
    simp only [ne_eq,Decidable.not_not] at hs
    cases hx:mget nw ms.pr with
    | some xx=>
     have hi:((absM ms).pr nw).isSome=true:=by unfold absM;dsimp only;rw [hx];rfl
     simp only [hi,if_true]
     obtain ⟨⟨c1,c2,c3,c4,c5,cgs,c7,c8,⟨c9,c9'⟩,c10⟩,co,cc⟩:=xx
     clear hB hc
     obtain ⟨y1,y2,y3,y4,y5,⟨x1,x2,x3,x4,x5,xs,x7,x8,⟨x9,x10⟩,x11⟩,y7,y8,y9,y10⟩:=q
     simp only [Oq.v,Pr.v,er,Pr.z,Bi.z,Rz.v] at *
     generalize b=bv at *
     refine ZH [_,_] func101 ntmps101 fun G w hp=>?_
     refine Zk (ZY 3 zf) ?_
     repeat' (first|refine ZC ?_|refine ZB ?_|refine ZD ?_|refine ZP ?_|refine ZS ?_|refine ZN (fun b=>?_)|refine ZJ ?_|refine ZE ?_|refine ZO ?_|refine Ze ?_|refine ZQ ?_|refine ZR (n0) (fun _ _=>?_)|refine ZA (n1) (fun _ _=>?_)|refine ZA (n2) (fun _ _=>?_)|refine ZA (n3) (fun _ _=>?_)|rw [w1]|rw [w2]|refine Zi (m:=7) (y2 % 7) hlt7 ?_|refine ZV 1 (y2 % 7) 0 hwi ?_|refine l_mo (ms:=ms) (fun r1 r2 r3 r4=>?_)|refine YW ZZ nw _ hx ?_|refine ZK 1 [] [(1,0),(2,0),(3,0),(0,4),(4,0),(5,3),(6,0)] [] ?_|(refine ZF (fun hc=>?_) (fun hc=>?_)<;>(try simp at hc)<;>(try omega))|fail)
     refine YR (ms:=ms) (r1:=r1) (r2:=r2) (r3:=r3) (r4:=r4) ?_
     exact ZG (ms,none,0) rfl rfl
    | none=>
     have hi:((absM ms).pr nw).isSome=false:=by unfold absM;dsimp only;rw [hx];rfl
     simp only [hi,Bool.false_eq_true,if_false]
     clear hB hc
     obtain ⟨y1,y2,y3,y4,y5,⟨x1,x2,x3,x4,x5,xs,x7,x8,⟨x9,x10⟩,x11⟩,y7,y8,y9,y10⟩:=q
     simp only [Oq.v,Pr.v,er,Pr.z,Bi.z,Rz.v] at *
     generalize b=bv at *
     refine ZH [_,_] func101 ntmps101 fun G w hp=>?_
     refine Zk (ZY 3 zf) ?_
     repeat' (first|refine ZC ?_|refine ZB ?_|refine ZD ?_|refine ZP ?_|refine ZS ?_|refine ZN (fun b=>?_)|refine ZJ ?_|refine ZE ?_|refine ZO ?_|refine Ze ?_|refine ZQ ?_|refine ZR (n0) (fun _ _=>?_)|refine ZA (n1) (fun _ _=>?_)|refine ZA (n2) (fun _ _=>?_)|refine ZA (n3) (fun _ _=>?_)|rw [w1]|rw [w2]|refine Zi (m:=7) (y2 % 7) hlt7 ?_|refine ZV 1 (y2 % 7) 0 hwi ?_|refine l_mo (ms:=ms) (fun r1 r2 r3 r4=>?_)|refine YW ZZ nw _ hx ?_|refine XH (V:=prV) ZZ nw (⟨x1,x2,x3,ms.ep,x5,xs,x7,x8,⟨x9,x10⟩,x11⟩,o,c) ?_|refine ZK 1 [] [(1,0),(2,0),(3,0),(0,4),(4,0),(5,3),(6,0)] [] ?_|refine ZK 16 [Mp Z0 prV _ _] [(0,0),(1,0),(2,0),(3,0),(4,0),(5,0),(6,0),(7,4)] [] ?_|(refine ZF (fun hc=>?_) (fun hc=>?_)<;>(try simp at hc)<;>(try omega))|fail)
     refine k_prN (a:=nw) (x:=(⟨x1,x2,x3,ms.ep,x5,xs,x7,x8,⟨x9,x10⟩,x11⟩,o,c)) ?_
     refine YR (ms:={ms with pr:=mset nw (⟨x1,x2,x3,ms.ep,x5,xs,x7,x8,⟨x9,x10⟩,x11⟩,o,c) ms.pr}) (r1:=r1) (r2:=r2) (r3:=r3) (r4:=r4) ?_
     exact ZG ({ms with pr:=mset nw (⟨x1,x2,x3,ms.ep,x5,xs,x7,x8,⟨x9,x10⟩,x11⟩,o,c) ms.pr},none,0) rfl UF
set_option maxHeartbeats 8000000 in
theorem do1_ok (b:Nat) (ms:Ms) (hok:ms.Ok2) (q:Oq) (o:Option Addr) (c:Nat) (_hB:q.Bd) (hk:q.k % 12=1):Enters 101∧Spec prog 101 #[.pointer (some ⟨b,0,none⟩),q.v o c] [Sl 3 zf o c q.p.gs,PrF ms.pr,P10] [MO b ms] (DoP b ms q):=by
 have n0:=Zc
 obtain ⟨hwi,hw,hne⟩:=Zf q
 have n1:=Zs b ms (ZI q) hw
 have hlt7:q.w % 7<7:=Nat.mod_lt _ (by decide)
 have w1:(q.w:Int).tmod 7=((q.w % 7:Nat):Int):=(Int.ofNat_tmod q.w 7).symm
 have w2:(q.k:Int).tmod 12=1:=by rw [show (12:Int)=((12:Nat):Int) from rfl,←Int.ofNat_tmod,hk];rfl
 unfold DoP ado
 rw [hk]
 simp only [show ¬((1:Nat)=0) by decide,if_false,if_true]
 have n2:=child35_ok b ms hok (ZI q) false hw hne
 unfold ChP at n2
 clear _hB hok
 have hz:(achild (absM ms) (ZI q) false).1.p=Pr.z:=by
  unfold achild er
  split;rfl
  split;rfl
  split;rfl
  split;rfl
  split;rfl
  split<;>rfl
 generalize achild (absM ms) (ZI q) false=Y at *
 obtain ⟨⟨yn,ynm,yp,ye⟩,ys⟩:=Y
 dsimp only at hz
 subst hz
 generalize mgP ms (ZI q)=X at *
 obtain ⟨⟨g1,g2,g3,g4,g5,ggs,g7,g8,⟨g9,g9'⟩,g10⟩,ge⟩:=X
 generalize ZI q=nw at *
 obtain ⟨y1,y2,y3,y4,y5,⟨x1,x2,x3,x4,x5,xs,x7,x8,⟨x9,x10⟩,x11⟩,y7,y8,y9,y10⟩:=q
 simp only [Oq.v,Pr.v,Pr.z,Bi.z,Rz.v] at *
 generalize b=bv at *
 refine ZH [_,_] func101 ntmps101 fun G w hp=>?_
 refine Zk (ZY 3 zf) ?_
 repeat' (first|refine ZC ?_|refine ZB ?_|refine ZD ?_|refine ZP ?_|refine ZS ?_|refine ZN (fun b=>?_)|refine ZJ ?_|refine ZE ?_|refine ZO ?_|refine Ze ?_|refine ZQ ?_|refine ZR (n0) (fun _ _=>?_)|refine ZA (n1) (fun _ _=>?_)|refine ZA (n2) (fun _ _=>?_)|rw [w1]|rw [w2]|refine Zi (m:=7) (y2 % 7) hlt7 ?_|refine ZV 1 (y2 % 7) 0 hwi ?_|refine ZK 1 [] [(1,0),(2,0),(3,0),(0,4),(4,0),(5,3),(6,0)] [] ?_|fail)
 rename_i m hm
 exact ZG (m,none,0) rfl hm
set_option maxHeartbeats 8000000 in
theorem do2_ok (b:Nat) (ms:Ms) (hok:ms.Ok2) (q:Oq) (o:Option Addr) (c:Nat) (_hB:q.Bd) (hk:q.k % 12=2):Enters 101∧Spec prog 101 #[.pointer (some ⟨b,0,none⟩),q.v o c] [Sl 3 zf o c q.p.gs,PrF ms.pr,P10] [MO b ms] (DoP b ms q):=by
 have n0:=Zc
 obtain ⟨hwi,hw,hne⟩:=Zf q
 have n1:=Zs b ms (ZI q) hw
 have hlt7:q.w % 7<7:=Nat.mod_lt _ (by decide)
 have w1:(q.w:Int).tmod 7=((q.w % 7:Nat):Int):=(Int.ofNat_tmod q.w 7).symm
 have w2:(q.k:Int).tmod 12=2:=by rw [show (12:Int)=((12:Nat):Int) from rfl,←Int.ofNat_tmod,hk];rfl
 unfold DoP ado
 rw [hk]
 simp only [show ¬((2:Nat)=0) by decide,show ¬((2:Nat)=1) by decide,if_false,if_true]
 have n2:=child35_ok b ms hok (ZI q) true hw hne
 unfold ChP at n2
 clear _hB hok
 have hz:(achild (absM ms) (ZI q) true).1.p=Pr.z:=by
  unfold achild er
  split;rfl
  split;rfl
  split;rfl
  split;rfl
  split;rfl
  split<;>rfl
 generalize achild (absM ms) (ZI q) true=Y at *
 obtain ⟨⟨yn,ynm,yp,ye⟩,ys⟩:=Y
 dsimp only at hz
 subst hz
 generalize mgP ms (ZI q)=X at *
 obtain ⟨⟨g1,g2,g3,g4,g5,ggs,g7,g8,⟨g9,g9'⟩,g10⟩,ge⟩:=X
 generalize ZI q=nw at *
 obtain ⟨y1,y2,y3,y4,y5,⟨x1,x2,x3,x4,x5,xs,x7,x8,⟨x9,x10⟩,x11⟩,y7,y8,y9,y10⟩:=q
 simp only [Oq.v,Pr.v,Pr.z,Bi.z,Rz.v] at *
 generalize b=bv at *
 refine ZH [_,_] func101 ntmps101 fun G w hp=>?_
 refine Zk (ZY 3 zf) ?_
 repeat' (first|refine ZC ?_|refine ZB ?_|refine ZD ?_|refine ZP ?_|refine ZS ?_|refine ZN (fun b=>?_)|refine ZJ ?_|refine ZE ?_|refine ZO ?_|refine Ze ?_|refine ZQ ?_|refine ZR (n0) (fun _ _=>?_)|refine ZA (n1) (fun _ _=>?_)|refine ZA (n2) (fun _ _=>?_)|rw [w1]|rw [w2]|refine Zi (m:=7) (y2 % 7) hlt7 ?_|refine ZV 1 (y2 % 7) 0 hwi ?_|refine ZK 1 [] [(1,0),(2,0),(3,0),(0,4),(4,0),(5,3),(6,0)] [] ?_|fail)
 rename_i m hm
 exact ZG (m,none,0) rfl hm
set_option maxHeartbeats 8000000 in
theorem do11_ok (b:Nat) (ms:Ms) (_hok:ms.Ok2) (q:Oq) (o:Option Addr) (c:Nat) (hB:q.Bd) (hk:q.k % 12=11):Enters 101∧Spec prog 101 #[.pointer (some ⟨b,0,none⟩),q.v o c] [Sl 3 zf o c q.p.gs,PrF ms.pr,P10] [MO b ms] (DoP b ms q):=by
 have n0:=Zc
 obtain ⟨hwi,hw,hne⟩:=Zf q
 have n1:=Zs b ms (ZI q) hw
 have hlt7:q.w % 7<7:=Nat.mod_lt _ (by decide)
 have w1:(q.w:Int).tmod 7=((q.w % 7:Nat):Int):=(Int.ofNat_tmod q.w 7).symm
 have w2:(q.k:Int).tmod 12=11:=by rw [show (12:Int)=((12:Nat):Int) from rfl,←Int.ofNat_tmod,hk];rfl
 unfold DoP ado
 rw [hk]
 simp only [show ¬((11:Nat)=0) by decide,show ¬((11:Nat)=1) by decide,show ¬((11:Nat)=2) by decide,show ¬((11:Nat)=3) by decide,show ¬((11:Nat)=4) by decide,show ¬((11:Nat)=5) by decide,show ¬((11:Nat)=6) by decide,show ¬((11:Nat)=7) by decide,show ¬((11:Nat)=8) by decide,show ¬((11:Nat)=9) by decide,show ¬((11:Nat)=10) by decide,if_false]
 clear _hok
 have n2:=YE q.im hB.c hB.e
 generalize imgC q.im=ei at *
 clear hB
 rw [Yg]
 generalize mgP ms (ZI q)=X at *
 obtain ⟨⟨g1,g2,g3,g4,g5,ggs,g7,g8,⟨g9,g9'⟩,g10⟩,ge⟩:=X
 generalize ZI q=nw at *
 dsimp only
 by_cases he:ge≠0
 ·simp only [if_pos he]
  obtain ⟨y1,y2,y3,y4,y5,⟨x1,x2,x3,x4,x5,xs,x7,x8,⟨x9,x10⟩,x11⟩,y7,y8,y9,y10⟩:=q
  simp only [Oq.v,Oq.im,Im.v,Pr.v,er,Pr.z,Bi.z,Rz.v] at *
  generalize b=bv at *
  refine ZH [_,_] func101 ntmps101 fun G w hp=>?_
  refine Zk (ZY 3 zf) ?_
  repeat' (first|refine ZC ?_|refine ZB ?_|refine ZU ?_|refine ZD ?_|refine ZP ?_|refine ZS ?_|refine ZN (fun b=>?_)|refine ZE ?_|refine ZO ?_|refine Ze ?_|refine ZQ ?_|refine ZR (n0) (fun _ _=>?_)|refine ZA (n1) (fun _ _=>?_)|refine ZA (n2) (fun _ _=>?_)|rw [w1]|rw [w2]|refine Zi (m:=7) (y2 % 7) hlt7 ?_|refine ZV 1 (y2 % 7) 0 hwi ?_|refine ZK 1 [] [(1,0),(2,0),(3,0),(0,4),(4,0),(5,3),(6,0)] [] ?_|(refine ZF (fun hc=>?_) (fun hc=>?_)<;>(try simp at hc)<;>(try omega))|fail)
  exact ZG (ms,none,0) rfl rfl
 ·obtain rfl:ge=0:=by omega
  simp only [if_neg he]
  obtain ⟨y1,y2,y3,y4,y5,⟨x1,x2,x3,x4,x5,xs,x7,x8,⟨x9,x10⟩,x11⟩,y7,y8,y9,y10⟩:=q
  simp only [Oq.v,Oq.im,Im.v,Pr.v,Rz.v] at *
  generalize b=bv at *
  refine ZH [_,_] func101 ntmps101 fun G w hp=>?_
  refine Zk (ZY 3 zf) ?_
  repeat' (first|refine ZC ?_|refine ZB ?_|refine ZU ?_|refine ZD ?_|refine ZP ?_|refine ZS ?_|refine ZN (fun b=>?_)|refine ZJ ?_|refine ZE ?_|refine ZO ?_|refine Ze ?_|refine ZQ ?_|refine ZR (n0) (fun _ _=>?_)|refine ZA (n1) (fun _ _=>?_)|refine ZA (n2) (fun _ _=>?_)|rw [w1]|rw [w2]|refine Zi (m:=7) (y2 % 7) hlt7 ?_|refine ZV 1 (y2 % 7) 0 hwi ?_|refine ZK 1 [] [(1,0),(2,0),(3,0),(0,4),(4,0),(5,3),(6,0)] [] ?_|fail)
  rename Option Addr×Nat=>qq
  exact ZG (ms,qq.1,qq.2) rfl rfl
set_option maxHeartbeats 8000000 in
theorem do3_ok (b:Nat) (ms:Ms) (_hok:ms.Ok2) (q:Oq) (o:Option Addr) (c:Nat) (hB:q.Bd) (hk:q.k % 12=3):Enters 101∧Spec prog 101 #[.pointer (some ⟨b,0,none⟩),q.v o c] [Sl 3 zf o c q.p.gs,PrF ms.pr,P10] [MO b ms] (DoP b ms q):=by
 have n0:=Zc
 obtain ⟨hwi,hw,hne⟩:=Zf q
 have n1:=Zs b ms (ZI q) hw
 have hlt7:q.w % 7<7:=Nat.mod_lt _ (by decide)
 have w1:(q.w:Int).tmod 7=((q.w % 7:Nat):Int):=(Int.ofNat_tmod q.w 7).symm
 have w2:(q.k:Int).tmod 12=3:=by rw [show (12:Int)=((12:Nat):Int) from rfl,←Int.ofNat_tmod,hk];rfl
 unfold DoP ado
 rw [hk]
 simp only [show ¬((3:Nat)=0) by decide,show ¬((3:Nat)=1) by decide,show ¬((3:Nat)=2) by decide,if_false,if_true]
 clear _hok
 have hB':=hB
 clear hB
 rw [Yg]
 generalize mgP ms (ZI q)=X at *
 obtain ⟨⟨g1,g2,g3,g4,g5,ggs,g7,g8,⟨g9,g9'⟩,g10⟩,ge⟩:=X
 generalize ZI q=nw at *
 dsimp only
 by_cases he:ge≠0
 ·simp only [if_pos he]
  have n2:=YE q.im hB'.c hB'.e
  generalize imgC q.im=ei at *
  clear hB'
  obtain ⟨y1,y2,y3,y4,y5,⟨x1,x2,x3,x4,x5,xs,x7,x8,⟨x9,x10⟩,x11⟩,y7,y8,y9,y10⟩:=q
  simp only [Oq.v,Oq.im,Im.v,Pr.v,er,Pr.z,Bi.z,Rz.v] at *
  generalize b=bv at *
  refine ZH [_,_] func101 ntmps101 fun G w hp=>?_
  refine Zk (ZY 3 zf) ?_
  repeat' (first|refine ZC ?_|refine ZB ?_|refine ZU ?_|refine ZD ?_|refine ZP ?_|refine ZS ?_|refine ZN (fun b=>?_)|refine ZE ?_|refine ZO ?_|refine Ze ?_|refine ZQ ?_|refine ZR (n0) (fun _ _=>?_)|refine ZA (n1) (fun _ _=>?_)|refine ZA (n2) (fun _ _=>?_)|rw [w1]|rw [w2]|refine Zi (m:=7) (y2 % 7) hlt7 ?_|refine ZV 1 (y2 % 7) 0 hwi ?_|refine ZK 1 [] [(1,0),(2,0),(3,0),(0,4),(4,0),(5,3),(6,0)] [] ?_|(refine ZF (fun hc=>?_) (fun hc=>?_)<;>(try simp at hc)<;>(try omega))|fail)
  exact ZG (ms,none,0) rfl rfl
 ·obtain rfl:ge=0:=by omega
  simp only [if_neg he]
  have n2:=YE q.im hB'.c hB'.e
  generalize imgC q.im=ei at *
  clear hB'
  by_cases hs:g2≠1
  ·simp only [if_pos hs]
   obtain ⟨y1,y2,y3,y4,y5,⟨x1,x2,x3,x4,x5,xs,x7,x8,⟨x9,x10⟩,x11⟩,y7,y8,y9,y10⟩:=q
   simp only [Oq.v,Oq.im,Im.v,Pr.v,er,Pr.z,Bi.z,Rz.v] at *
   generalize b=bv at *
   refine ZH [_,_] func101 ntmps101 fun G w hp=>?_
   refine Zk (ZY 3 zf) ?_
   repeat' (first|refine ZC ?_|refine ZB ?_|refine ZU ?_|refine ZD ?_|refine ZP ?_|refine ZS ?_|refine ZN (fun b=>?_)|refine ZJ ?_|refine ZE ?_|refine ZO ?_|refine Ze ?_|refine ZQ ?_|refine ZR (n0) (fun _ _=>?_)|refine ZA (n1) (fun _ _=>?_)|refine ZA (n2) (fun _ _=>?_)|rw [w1]|rw [w2]|refine Zi (m:=7) (y2 % 7) hlt7 ?_|refine ZV 1 (y2 % 7) 0 hwi ?_|refine ZK 1 [] [(1,0),(2,0),(3,0),(0,4),(4,0),(5,3),(6,0)] [] ?_|(refine ZF (fun hc=>?_) (fun hc=>?_)<;>(try simp at hc)<;>(try omega))|fail)
   exact ZG (ms,none,0) rfl rfl
  ·simp only [if_neg hs]
   simp only [ne_eq,Decidable.not_not] at hs
   subst hs
   by_cases hn:¬(0≤q.n∧q.n≤410)
   ·simp only [if_pos hn]
    obtain ⟨y1,y2,y3,y4,y5,⟨x1,x2,x3,x4,x5,xs,x7,x8,⟨x9,x10⟩,x11⟩,y7,y8,y9,y10⟩:=q
    simp only [Oq.v,Oq.im,Im.v,Pr.v,er,Pr.z,Bi.z,Rz.v] at *
    generalize b=bv at *
    refine ZH [_,_] func101 ntmps101 fun G w hp=>?_
    refine Zk (ZY 3 zf) ?_
    repeat' (first|refine ZC ?_|refine ZB ?_|refine ZU ?_|refine ZD ?_|refine ZP ?_|refine ZS ?_|refine ZN (fun b=>?_)|refine ZJ ?_|refine ZE ?_|refine ZO ?_|refine Ze ?_|refine ZQ ?_|refine ZR (n0) (fun _ _=>?_)|refine ZA (n1) (fun _ _=>?_)|refine ZA (n2) (fun _ _=>?_)|rw [w1]|rw [w2]|refine Zi (m:=7) (y2 % 7) hlt7 ?_|refine ZV 1 (y2 % 7) 0 hwi ?_|(refine ZT (fun hc=>?_) (fun hc=>?_)<;>(try simp at hc)<;>(try omega))|refine ZK 1 [] [(1,0),(2,0),(3,0),(0,4),(4,0),(5,3),(6,0)] [] ?_|(refine ZF (fun hc=>?_) (fun hc=>?_)<;>(try simp at hc)<;>(try omega))|fail)
    all_goals exact ZG (ms,none,0) rfl rfl
   ·simp only [if_neg hn]
    obtain ⟨y1,y2,y3,y4,y5,⟨x1,x2,x3,x4,x5,xs,x7,x8,⟨x9,x10⟩,x11⟩,y7,y8,y9,y10⟩:=q
    simp only [Oq.v,Oq.im,Im.v,Pr.v,er,Pr.z,Bi.z,Rz.v] at *
    generalize b=bv at *
    refine ZH [_,_] func101 ntmps101 fun G w hp=>?_
    refine Zk (ZY 3 zf) ?_
    repeat' (first|refine ZC ?_|refine ZB ?_|refine ZU ?_|refine ZD ?_|refine ZP ?_|refine ZS ?_|refine ZN (fun b=>?_)|refine ZJ ?_|refine ZE ?_|refine ZO ?_|refine Ze ?_|refine r_st ?_|refine ZQ ?_|refine ZR (n0) (fun _ _=>?_)|refine ZA (n1) (fun _ _=>?_)|refine ZA (n2) (fun _ _=>?_)|rw [w1]|rw [w2]|refine Zi (m:=7) (y2 % 7) hlt7 ?_|refine ZV 1 (y2 % 7) 0 hwi ?_|(refine ZT (fun hc=>?_) (fun hc=>?_)<;>(try simp at hc)<;>(try omega))|refine ZK 1 [] [(1,0),(2,0),(3,0),(0,4),(4,0),(5,3),(6,0)] [] ?_|refine ZK 79 [Pt _ (.cells #[.int .i64 g1,_,_,_,_,_,_,_,_,_,_] _ _)] [(0,0),(1,0),(2,0),(3,4),(4,0),(5,4)] [] ?_|(refine ZF (fun hc=>?_) (fun hc=>?_)<;>(try simp at hc)<;>(try omega))|fail)
    rename Option Addr×Nat=>qq
    refine k_mo fun qr=>?_
    obtain ⟨r1,r2,r3,r4⟩:=qr
    repeat' (first|refine ZC ?_|refine ZB ?_|refine ZD ?_|refine ZS ?_|refine ZO ?_|refine Ze ?_|refine ZQ ?_|refine XH (V:=prV) ZZ nw (⟨g1,2,y3,g4,g5,ggs,g7,g8,⟨g9,g9'⟩,g10⟩,qq.1,qq.2) ?_|refine ZK 80 [Mp Z0 prV _ _] [(0,0),(1,0),(2,0),(3,0),(4,0),(5,0),(6,4)] [] ?_|fail)
    refine k_prN (a:=nw) (x:=(⟨g1,2,y3,g4,g5,ggs,g7,g8,⟨g9,g9'⟩,g10⟩,qq.1,qq.2)) ?_
    refine YR (ms:={ms with pr:=mset nw (⟨g1,2,y3,g4,g5,ggs,g7,g8,⟨g9,g9'⟩,g10⟩,qq.1,qq.2) ms.pr}) (r1:=r1) (r2:=r2) (r3:=r3) (r4:=r4) ?_
    exact ZG ({ms with pr:=mset nw (⟨g1,2,y3,g4,g5,ggs,g7,g8,⟨g9,g9'⟩,g10⟩,qq.1,qq.2) ms.pr},none,0) rfl UF
set_option maxHeartbeats 8000000 in
theorem do10_ok (b:Nat) (ms:Ms) (q:Oq) (o:Option Addr) (c:Nat) (hk:q.k % 12=10):Enters 101∧Spec prog 101 #[.pointer (some ⟨b,0,none⟩),q.v o c] [Sl 3 zf o c q.p.gs,PrF ms.pr,P10] [MO b ms] (DoP b ms q):=by
 have n0:=Zc
 obtain ⟨hwi,hw,hne⟩:=Zf q
 have n1:=Zs b ms (ZI q) hw
 have hlt7:q.w % 7<7:=Nat.mod_lt _ (by decide)
 have w1:(q.w:Int).tmod 7=((q.w % 7:Nat):Int):=(Int.ofNat_tmod q.w 7).symm
 have w2:(q.k:Int).tmod 12=10:=by rw [show (12:Int)=((12:Nat):Int) from rfl,←Int.ofNat_tmod,hk];rfl
 unfold DoP ado
 rw [hk]
 simp only [show ¬((10:Nat)=0) by decide,show ¬((10:Nat)=1) by decide,show ¬((10:Nat)=2) by decide,show ¬((10:Nat)=3) by decide,show ¬((10:Nat)=4) by decide,show ¬((10:Nat)=5) by decide,show ¬((10:Nat)=6) by decide,show ¬((10:Nat)=7) by decide,show ¬((10:Nat)=8) by decide,show ¬((10:Nat)=9) by decide,if_false,if_true]
 have n3:=regsN_ok q.n
 obtain ⟨u1,u2,u3,u4,u5,u6,u7,u8,u9,hg⟩:=rgN_nine q.n
 rw [hg] at n3 ⊢
 clear hg
 generalize mgP ms (ZI q)=X at *
 obtain ⟨⟨g1,g2,g3,g4,g5,ggs,g7,g8,⟨g9,g9'⟩,g10⟩,ge⟩:=X
 generalize ZI q=nw at *
 have n2:=Zu nw (by omega)
 cases hv:lvalid nw.data.toList with
 | false=>
  simp only [if_true]
  rw [hv] at n2
  obtain ⟨y1,y2,y3,y4,y5,⟨x1,x2,x3,x4,x5,xs,x7,x8,⟨x9,x10⟩,x11⟩,y7,y8,y9,y10⟩:=q
  simp only [Oq.v,Pr.v,er,Pr.z,Bi.z,Rz.v] at *
  generalize b=bv at *
  refine ZH [_,_] func101 ntmps101 fun G w hp=>?_
  refine Zk (ZY 3 zf) ?_
  repeat' (first|refine ZC ?_|refine ZB ?_|refine ZD ?_|refine ZP ?_|refine ZS ?_|refine ZN (fun b=>?_)|refine ZJ ?_|refine ZE ?_|refine ZO ?_|refine Ze ?_|refine ZQ ?_|refine ZR (n0) (fun _ _=>?_)|refine ZA (n1) (fun _ _=>?_)|refine ZA (n2) (fun _ _=>?_)|rw [w1]|rw [w2]|refine Zi (m:=7) (y2 % 7) hlt7 ?_|refine ZV 1 (y2 % 7) 0 hwi ?_|refine ZK 1 [] [(1,0),(2,0),(3,0),(0,4),(4,0),(5,3),(6,0)] [] ?_|fail)
  exact ZG (ms,none,0) rfl rfl
 | true=>
  simp only [Bool.true_eq_false,if_false]
  rw [hv] at n2
  simp only [rgV,List.flatMap_cons,List.flatMap_nil,List.append_nil,List.cons_append,List.nil_append] at n3
  obtain ⟨y1,y2,y3,y4,y5,⟨x1,x2,x3,x4,x5,xs,x7,x8,⟨x9,x10⟩,x11⟩,y7,y8,y9,y10⟩:=q
  simp only [Oq.v,Pr.v,er,Pr.z,Bi.z,Rz.v] at *
  generalize b=bv at *
  refine ZH [_,_] func101 ntmps101 fun G w hp=>?_
  refine Zk (ZY 3 zf) ?_
  repeat' (first|refine ZC ?_|refine ZB ?_|refine ZD ?_|refine ZP ?_|refine ZS ?_|refine ZN (fun b=>?_)|refine ZJ ?_|refine ZE ?_|refine ZO ?_|refine Ze ?_|refine ZQ ?_|refine ZR (n0) (fun _ _=>?_)|refine ZA (n1) (fun _ _=>?_)|refine ZA (n2) (fun _ _=>?_)|rw [w1]|rw [w2]|refine Zi (m:=7) (y2 % 7) hlt7 ?_|refine ZV 1 (y2 % 7) 0 hwi ?_|refine ZK 1 [] [(1,0),(2,0),(3,0),(0,4),(4,0),(5,3),(6,0)] [] ?_|fail)
  refine k_mo fun qr=>?_
  obtain ⟨r1,r2,r3,r4⟩:=qr
  repeat' (first|refine ZC ?_|refine ZB ?_|refine ZD ?_|refine ZS ?_|refine ZO ?_|refine Ze ?_|refine ZQ ?_|refine XQ (n3) (fun _ _=>?_)|refine XH (V:=rgV) ZZ nw [u1,u2,u3,u4,u5,u6,u7,u8,u9] ?_|refine ZK 66 [Mp Z0 rgV _ _] [(0,0),(1,0),(2,0),(3,0),(4,0),(5,0),(6,0),(7,5),(8,4)] [] ?_|fail)
  refine YR (ms:={ms with rg:=mset nw [u1,u2,u3,u4,u5,u6,u7,u8,u9] ms.rg}) (r1:=r1) (r2:=r2) (r3:=r3) (r4:=r4) ?_
  exact ZG ({ms with rg:=mset nw [u1,u2,u3,u4,u5,u6,u7,u8,u9] ms.rg},none,0) rfl absM_reg
set_option maxHeartbeats 8000000 in
theorem do5_ok (b:Nat) (ms:Ms) (_hok:ms.Ok2) (q:Oq) (o:Option Addr) (c:Nat) (hB:q.Bd) (hk:q.k % 12=5):Enters 101∧Spec prog 101 #[.pointer (some ⟨b,0,none⟩),q.v o c] [Sl 3 zf o c q.p.gs,PrF ms.pr,P10] [MO b ms] (DoP b ms q):=by
 have n0:=Zc
 obtain ⟨hwi,hw,hne⟩:=Zf q
 have n1:=Zs b ms (ZI q) hw
 have hlt7:q.w % 7<7:=Nat.mod_lt _ (by decide)
 have w1:(q.w:Int).tmod 7=((q.w % 7:Nat):Int):=(Int.ofNat_tmod q.w 7).symm
 have w2:(q.k:Int).tmod 12=5:=by rw [show (12:Int)=((12:Nat):Int) from rfl,←Int.ofNat_tmod,hk];rfl
 unfold DoP ado
 rw [hk]
 simp only [show ¬((5:Nat)=0) by decide,show ¬((5:Nat)=1) by decide,show ¬((5:Nat)=2) by decide,show ¬((5:Nat)=3) by decide,show ¬((5:Nat)=4) by decide,if_false,if_true]
 clear _hok
 have n3:=check35_ok q.p o c hB.g hB.s hB.d
 clear hB
 rw [Yg]
 generalize mgP ms (ZI q)=X at *
 obtain ⟨⟨g1,g2,g3,g4,g5,ggs,g7,g8,⟨g9,g9'⟩,g10⟩,ge⟩:=X
 generalize hnw:ZI q=nw at *
 clear hnw
 dsimp only
 by_cases hc:pchk q.p≠0
 ·simp only [if_pos hc]
  generalize pchk q.p=e at *
  obtain ⟨y1,y2,y3,y4,y5,⟨x1,x2,x3,x4,x5,xs,x7,x8,⟨x9,x10⟩,x11⟩,y7,y8,y9,y10⟩:=q
  simp only [Oq.v,Pr.v,er,Pr.z,Bi.z,Rz.v] at *
  generalize b=bv at *
  refine ZH [_,_] func101 ntmps101 fun G w hp=>?_
  refine Zk (ZY 3 zf) ?_
  repeat' (first|refine ZC ?_|refine ZB ?_|refine ZD ?_|refine ZP ?_|refine ZS ?_|refine ZN (fun b=>?_)|refine ZJ ?_|refine ZE ?_|refine ZO ?_|refine Ze ?_|refine ZQ ?_|refine ZR (n0) (fun _ _=>?_)|refine ZA (n1) (fun _ _=>?_)|refine ZA (n3) (fun _ _=>?_)|rw [w1]|rw [w2]|refine Zi (m:=7) (y2 % 7) hlt7 ?_|refine ZV 1 (y2 % 7) 0 hwi ?_|refine ZK 1 [] [(1,0),(2,0),(3,0),(0,4),(4,0),(5,3),(6,0)] [] ?_|(refine ZF (fun hc=>?_) (fun hc=>?_)<;>(try simp at hc)<;>(try omega))|fail)
  exact ZG (ms,none,0) rfl rfl
 ·simp only [if_neg hc]
  simp only [ne_eq,Decidable.not_not] at hc
  rw [hc] at n3
  clear hc
  by_cases he:ge≠0
  ·simp only [if_pos he]
   obtain ⟨y1,y2,y3,y4,y5,⟨x1,x2,x3,x4,x5,xs,x7,x8,⟨x9,x10⟩,x11⟩,y7,y8,y9,y10⟩:=q
   simp only [Oq.v,Pr.v,er,Pr.z,Bi.z,Rz.v] at *
   generalize b=bv at *
   refine ZH [_,_] func101 ntmps101 fun G w hp=>?_
   refine Zk (ZY 3 zf) ?_
   repeat' (first|refine ZC ?_|refine ZB ?_|refine ZD ?_|refine ZP ?_|refine ZS ?_|refine ZN (fun b=>?_)|refine ZJ ?_|refine ZE ?_|refine ZO ?_|refine Ze ?_|refine ZQ ?_|refine ZR (n0) (fun _ _=>?_)|refine ZA (n1) (fun _ _=>?_)|refine ZA (n3) (fun _ _=>?_)|rw [w1]|rw [w2]|refine Zi (m:=7) (y2 % 7) hlt7 ?_|refine ZV 1 (y2 % 7) 0 hwi ?_|refine ZK 1 [] [(1,0),(2,0),(3,0),(0,4),(4,0),(5,3),(6,0)] [] ?_|(refine ZF (fun hc=>?_) (fun hc=>?_)<;>(try simp at hc)<;>(try omega))|fail)
   exact ZG (ms,none,0) rfl rfl
  ·obtain rfl:ge=0:=by omega
   simp only [if_neg he]
   obtain ⟨y1,y2,y3,y4,y5,⟨x1,x2,x3,x4,x5,xs,x7,x8,⟨x9,x10⟩,x11⟩,y7,y8,y9,y10⟩:=q
   simp only [Oq.v,Pr.v,er,Pr.z,Bi.z,Rz.v] at *
   generalize b=bv at *
   refine ZH [_,_] func101 ntmps101 fun G w hp=>?_
   refine Zk (ZY 3 zf) ?_
   repeat' (first|refine ZC ?_|refine ZB ?_|refine ZD ?_|refine ZP ?_|refine ZS ?_|refine ZN (fun b=>?_)|refine ZJ ?_|refine ZE ?_|refine ZO ?_|refine Ze ?_|refine ZQ ?_|refine ZR (n0) (fun _ _=>?_)|refine ZA (n1) (fun _ _=>?_)|refine ZA (n3) (fun _ _=>?_)|rw [w1]|rw [w2]|refine Zi (m:=7) (y2 % 7) hlt7 ?_|refine ZV 1 (y2 % 7) 0 hwi ?_|refine ZK 1 [] [(1,0),(2,0),(3,0),(0,4),(4,0),(5,3),(6,0)] [] ?_|fail)
   refine k_mo fun qr=>?_
   obtain ⟨r1,r2,r3,r4⟩:=qr
   repeat' (first|refine ZC ?_|refine ZB ?_|refine ZD ?_|refine ZS ?_|refine ZO ?_|refine Ze ?_|refine ZQ ?_|refine XH (V:=prV) ZZ nw (⟨x1,x2,x3,g4,x5,xs,x7,x8,⟨x9,x10⟩,x11⟩,o,c) ?_|refine ZK 28 [Mp Z0 prV _ _] [(0,0),(1,0),(2,0),(3,0),(4,0),(5,0),(6,0),(7,4)] [] ?_|fail)
   refine k_prN (a:=nw) (x:=(⟨x1,x2,x3,g4,x5,xs,x7,x8,⟨x9,x10⟩,x11⟩,o,c)) ?_
   refine YR (ms:={ms with pr:=mset nw (⟨x1,x2,x3,g4,x5,xs,x7,x8,⟨x9,x10⟩,x11⟩,o,c) ms.pr}) (r1:=r1) (r2:=r2) (r3:=r3) (r4:=r4) ?_
   exact ZG ({ms with pr:=mset nw (⟨x1,x2,x3,g4,x5,xs,x7,x8,⟨x9,x10⟩,x11⟩,o,c) ms.pr},none,0) rfl UF
set_option maxHeartbeats 8000000 in
theorem do4a_ok (b:Nat) (ms:Ms) (_hok:ms.Ok2) (q:Oq) (o:Option Addr) (c:Nat) (hB:q.Bd) (hk:q.k % 12=4) (cA:(mgP ms (ZI q)).2≠0∨(q.n<1∨(mget (ZI q) ms.ch).getD 0<q.n)):Enters 101∧Spec prog 101 #[.pointer (some ⟨b,0,none⟩),q.v o c] [Sl 3 zf o c q.p.gs,PrF ms.pr,P10] [MO b ms] (DoP b ms q):=by
 have n0:=Zc
 obtain ⟨hwi,hw,hne⟩:=Zf q
 have n1:=Zs b ms (ZI q) hw
 have hlt7:q.w % 7<7:=Nat.mod_lt _ (by decide)
 have w1:(q.w:Int).tmod 7=((q.w % 7:Nat):Int):=(Int.ofNat_tmod q.w 7).symm
 have w2:(q.k:Int).tmod 12=4:=by rw [show (12:Int)=((12:Nat):Int) from rfl,←Int.ofNat_tmod,hk];rfl
 unfold DoP ado
 rw [hk]
 simp only [show ¬((4:Nat)=0) by decide,show ¬((4:Nat)=1) by decide,show ¬((4:Nat)=2) by decide,show ¬((4:Nat)=3) by decide,if_false,if_true]
 have n2:=YE q.im hB.c hB.e
 generalize imgC q.im=ei at *
 clear hB
 have hch:(absM ms).ch (ZI q)=(mget (ZI q) ms.ch).getD 0:=rfl
 rw [hch]
 have n3:=XG (ZI q) q.n hw hne
 have hcsz:(childE (ZI q) q.n).1.size≤1000:=by
  by_cases h0:(childE (ZI q) q.n).2=0
  ·obtain ⟨h1,-,-,-,h2⟩:=YD hne h0
   rw [h1];exact Nat.le_trans h2 (by decide)
  ·unfold childE at h0 ⊢
   split;· exact Nat.zero_le _
   split;· exact Nat.zero_le _
   split;· exact Nat.zero_le _
   ·rename_i q1 q2 q3
    rw [if_neg q1,if_neg q2,if_neg q3] at h0;exact absurd rfl h0
 have n4:=Zs b ms (childE (ZI q) q.n).1 hcsz
 rw [Yg,Yg]
 clear _hok hcsz hne
 generalize childE (ZI q) q.n=Y at *
 obtain ⟨cn,ce⟩:=Y
 dsimp only at *
 generalize mgP ms (ZI q)=X at *
 obtain ⟨⟨g1,g2,g3,g4,g5,ggs,g7,g8,⟨g9,g9'⟩,g10⟩,ge⟩:=X
 generalize mgP ms cn=X2 at *
 obtain ⟨⟨h1,h2,h3,h4,h5,hgs,h7,h8,⟨h9,h9'⟩,h10⟩,he⟩:=X2
 generalize ZI q=nw at *
 generalize hz:(mget nw ms.ch).getD 0=z at *
 have hgz:∀o:Option Int,o=mget nw ms.ch→(o.map ziv).getD (.int .i64 0) = .int .i64 z:=fun o ho=>by
  subst ho
  cases hm:mget nw ms.ch with
  | none=>rw [hm] at hz;rw [←hz];rfl
  | some y=>rw [hm] at hz;rw [←hz];rfl
 have hgz':=hgz _ rfl
 clear hgz hch
 dsimp only
 by_cases hge:ge≠0
 ·simp only [if_pos hge]
  obtain ⟨y1,y2,y3,y4,y5,⟨x1,x2,x3,x4,x5,xs,x7,x8,⟨x9,x10⟩,x11⟩,y7,y8,y9,y10⟩:=q
  simp only [Oq.v,Oq.im,Im.v,Pr.v,er,Pr.z,Bi.z,Rz.v] at *
  generalize b=bv at *
  refine ZH [_,_] func101 ntmps101 fun G w hp=>?_
  refine Zk (ZY 3 zf) ?_
  repeat' (first|refine ZC ?_|refine ZB ?_|refine ZU ?_|refine ZD ?_|refine ZP ?_|refine ZS ?_|refine ZN (fun b=>?_)|refine ZE ?_|refine ZO ?_|refine Ze ?_|refine ZQ ?_|refine ZR (n0) (fun _ _=>?_)|refine ZA (n1) (fun _ _=>?_)|refine ZA (n2) (fun _ _=>?_)|rw [w1]|rw [w2]|refine Zi (m:=7) (y2 % 7) hlt7 ?_|refine ZV 1 (y2 % 7) 0 hwi ?_|refine ZK 1 [] [(1,0),(2,0),(3,0),(0,4),(4,0),(5,3),(6,0)] [] ?_|(refine ZF (fun hc=>?_) (fun hc=>?_)<;>(try simp at hc)<;>(try omega))|fail)
  exact ZG (ms,none,0) rfl rfl
 ·obtain rfl:ge=0:=by omega
  simp only [if_neg hge]
  by_cases hr:q.n<1∨z<q.n
  ·simp only [if_pos hr]
   obtain ⟨y1,y2,y3,y4,y5,⟨x1,x2,x3,x4,x5,xs,x7,x8,⟨x9,x10⟩,x11⟩,y7,y8,y9,y10⟩:=q
   simp only [Oq.v,Oq.im,Im.v,Pr.v,er,Pr.z,Bi.z,Rz.v] at *
   generalize b=bv at *
   refine ZH [_,_] func101 ntmps101 fun G w hp=>?_
   refine Zk (ZY 3 zf) ?_
   repeat' (first|refine ZC ?_|refine ZB ?_|refine ZU ?_|refine ZD ?_|refine ZP ?_|refine ZS ?_|refine ZN (fun b=>?_)|refine ZJ ?_|refine ZE ?_|refine ZO ?_|refine Ze ?_|refine ZQ ?_|refine ZR (n0) (fun _ _=>?_)|refine ZA (n1) (fun _ _=>?_)|refine ZA (n2) (fun _ _=>?_)|rw [w1]|rw [w2]|refine Zi (m:=7) (y2 % 7) hlt7 ?_|refine ZV 1 (y2 % 7) 0 hwi ?_|refine ZK 1 [] [(1,0),(2,0),(3,0),(0,4),(4,0),(5,3),(6,0)] [] ?_|fail)
   refine k_mo fun qr=>?_
   obtain ⟨r1,r2,r3,r4⟩:=qr
   repeat' (first|refine ZC ?_|refine ZB ?_|refine ZD ?_|refine ZS ?_|refine ZJ ?_|refine ZO ?_|refine Z4 ?_|refine Ze ?_|refine ZQ ?_|refine Yz ZZ nw _ rfl ?_|rw [hgz']|(refine Zl (fun hc=>?_) (fun hc=>?_)<;>(try simp at hc)<;>(try omega))|refine ZK 82 [] [(0,0),(1,0),(2,0),(3,0),(4,0),(5,0),(6,0),(7,0),(8,0),(9,0),(10,0),(11,0),(12,0),(13,0)] [] ?_|(refine ZF (fun hc=>?_) (fun hc=>?_)<;>(try simp at hc)<;>(try omega))|fail)
   all_goals refine YR (ms:=ms) (r1:=r1) (r2:=r2) (r3:=r3) (r4:=r4) ?_
   all_goals exact ZG (ms,none,0) rfl rfl
  ·simp only [if_neg hr]
   rcases cA with h|h
   ·exact absurd h hge
   ·exact absurd h hr
set_option maxHeartbeats 8000000 in
theorem do4b_ok (b:Nat) (ms:Ms) (_hok:ms.Ok2) (q:Oq) (o:Option Addr) (c:Nat) (hB:q.Bd) (hk:q.k % 12=4) (c1:(mgP ms (ZI q)).2=0) (c2:¬(q.n<1∨(mget (ZI q) ms.ch).getD 0<q.n)) (c3:(mgP ms (childE (ZI q) q.n).1).2≠0):Enters 101∧Spec prog 101 #[.pointer (some ⟨b,0,none⟩),q.v o c] [Sl 3 zf o c q.p.gs,PrF ms.pr,P10] [MO b ms] (DoP b ms q):=by
 have n0:=Zc
 obtain ⟨hwi,hw,hne⟩:=Zf q
 have n1:=Zs b ms (ZI q) hw
 have hlt7:q.w % 7<7:=Nat.mod_lt _ (by decide)
 have w1:(q.w:Int).tmod 7=((q.w % 7:Nat):Int):=(Int.ofNat_tmod q.w 7).symm
 have w2:(q.k:Int).tmod 12=4:=by rw [show (12:Int)=((12:Nat):Int) from rfl,←Int.ofNat_tmod,hk];rfl
 unfold DoP ado
 rw [hk]
 simp only [show ¬((4:Nat)=0) by decide,show ¬((4:Nat)=1) by decide,show ¬((4:Nat)=2) by decide,show ¬((4:Nat)=3) by decide,if_false,if_true]
 have n2:=YE q.im hB.c hB.e
 generalize imgC q.im=ei at *
 clear hB
 have hch:(absM ms).ch (ZI q)=(mget (ZI q) ms.ch).getD 0:=rfl
 rw [hch]
 have n3:=XG (ZI q) q.n hw hne
 have hcsz:(childE (ZI q) q.n).1.size≤1000:=by
  by_cases h0:(childE (ZI q) q.n).2=0
  ·obtain ⟨h1,-,-,-,h2⟩:=YD hne h0
   rw [h1];exact Nat.le_trans h2 (by decide)
  ·unfold childE at h0 ⊢
   split;· exact Nat.zero_le _
   split;· exact Nat.zero_le _
   split;· exact Nat.zero_le _
   ·rename_i q1 q2 q3
    rw [if_neg q1,if_neg q2,if_neg q3] at h0;exact absurd rfl h0
 have n4:=Zs b ms (childE (ZI q) q.n).1 hcsz
 rw [Yg,Yg]
 clear _hok hcsz hne
 generalize childE (ZI q) q.n=Y at *
 obtain ⟨cn,ce⟩:=Y
 dsimp only at *
 generalize mgP ms (ZI q)=X at *
 obtain ⟨⟨g1,g2,g3,g4,g5,ggs,g7,g8,⟨g9,g9'⟩,g10⟩,ge⟩:=X
 generalize mgP ms cn=X2 at *
 obtain ⟨⟨h1,h2,h3,h4,h5,hgs,h7,h8,⟨h9,h9'⟩,h10⟩,he⟩:=X2
 generalize ZI q=nw at *
 generalize hz:(mget nw ms.ch).getD 0=z at *
 have hgz:∀o:Option Int,o=mget nw ms.ch→(o.map ziv).getD (.int .i64 0) = .int .i64 z:=fun o ho=>by
  subst ho
  cases hm:mget nw ms.ch with
  | none=>rw [hm] at hz;rw [←hz];rfl
  | some y=>rw [hm] at hz;rw [←hz];rfl
 have hgz':=hgz _ rfl
 clear hgz hch
 dsimp only
 by_cases hge:ge≠0
 ·exact absurd c1 hge
 ·obtain rfl:ge=0:=by omega
  simp only [if_neg hge]
  by_cases hr:q.n<1∨z<q.n
  ·exact absurd hr c2
  ·simp only [if_neg hr]
   by_cases hhe:he≠0
   ·simp only [if_pos hhe]
    obtain ⟨y1,y2,y3,y4,y5,⟨x1,x2,x3,x4,x5,xs,x7,x8,⟨x9,x10⟩,x11⟩,y7,y8,y9,y10⟩:=q
    simp only [Oq.v,Oq.im,Im.v,Pr.v,er,Pr.z,Bi.z,Rz.v] at *
    generalize b=bv at *
    refine ZH [_,_] func101 ntmps101 fun G w hp=>?_
    refine Zk (ZY 3 zf) ?_
    repeat' (first|refine ZC ?_|refine ZB ?_|refine ZU ?_|refine ZD ?_|refine ZP ?_|refine ZS ?_|refine ZN (fun b=>?_)|refine ZJ ?_|refine ZE ?_|refine ZO ?_|refine Ze ?_|refine ZQ ?_|refine ZR (n0) (fun _ _=>?_)|refine ZA (n1) (fun _ _=>?_)|refine ZA (n2) (fun _ _=>?_)|rw [w1]|rw [w2]|refine Zi (m:=7) (y2 % 7) hlt7 ?_|refine ZV 1 (y2 % 7) 0 hwi ?_|refine ZK 1 [] [(1,0),(2,0),(3,0),(0,4),(4,0),(5,3),(6,0)] [] ?_|fail)
    refine k_mo fun qr=>?_
    obtain ⟨r1,r2,r3,r4⟩:=qr
    repeat' (first|refine ZC ?_|refine ZB ?_|refine ZD ?_|refine ZP ?_|refine ZS ?_|refine ZN (fun b=>?_)|refine ZO ?_|refine Z4 ?_|refine Ze ?_|refine ZQ ?_|refine ZA (n3) (fun _ _=>?_)|refine ZA (n4) (fun _ _=>?_)|refine Yz ZZ nw _ rfl ?_|rw [hgz']|refine l_mo' (ms:=ms) (r1:=r1) (r2:=r2) (r3:=r3) (r4:=r4) ?_|(refine Zl (fun hc=>?_) (fun hc=>?_)<;>(try simp at hc)<;>(try omega))|refine ZK 82 [] [(0,0),(1,0),(2,0),(3,0),(4,0),(5,0),(6,0),(7,0),(8,0),(9,0),(10,0),(11,0),(12,0),(13,0)] [] ?_|(refine ZF (fun hc=>?_) (fun hc=>?_)<;>(try simp at hc)<;>(try omega))|fail)
    exact ZG (ms,none,0) rfl rfl
   ·exact absurd c3 hhe
set_option maxHeartbeats 8000000 in
theorem do4c_ok (b:Nat) (ms:Ms) (_hok:ms.Ok2) (q:Oq) (o:Option Addr) (c:Nat) (hB:q.Bd) (hk:q.k % 12=4) (c1:(mgP ms (ZI q)).2=0) (c2:¬(q.n<1∨(mget (ZI q) ms.ch).getD 0<q.n)) (c3:(mgP ms (childE (ZI q) q.n).1).2=0) (c4:(mgP ms (childE (ZI q) q.n).1).1.st=1):Enters 101∧Spec prog 101 #[.pointer (some ⟨b,0,none⟩),q.v o c] [Sl 3 zf o c q.p.gs,PrF ms.pr,P10] [MO b ms] (DoP b ms q):=by
 have n0:=Zc
 obtain ⟨hwi,hw,hne⟩:=Zf q
 have n1:=Zs b ms (ZI q) hw
 have hlt7:q.w % 7<7:=Nat.mod_lt _ (by decide)
 have w1:(q.w:Int).tmod 7=((q.w % 7:Nat):Int):=(Int.ofNat_tmod q.w 7).symm
 have w2:(q.k:Int).tmod 12=4:=by rw [show (12:Int)=((12:Nat):Int) from rfl,←Int.ofNat_tmod,hk];rfl
 unfold DoP ado
 rw [hk]
 simp only [show ¬((4:Nat)=0) by decide,show ¬((4:Nat)=1) by decide,show ¬((4:Nat)=2) by decide,show ¬((4:Nat)=3) by decide,if_false,if_true]
 have n2:=YE q.im hB.c hB.e
 generalize imgC q.im=ei at *
 clear hB
 have hch:(absM ms).ch (ZI q)=(mget (ZI q) ms.ch).getD 0:=rfl
 rw [hch]
 have n3:=XG (ZI q) q.n hw hne
 have hcsz:(childE (ZI q) q.n).1.size≤1000:=by
  by_cases h0:(childE (ZI q) q.n).2=0
  ·obtain ⟨h1,-,-,-,h2⟩:=YD hne h0
   rw [h1];exact Nat.le_trans h2 (by decide)
  ·unfold childE at h0 ⊢
   split;· exact Nat.zero_le _
   split;· exact Nat.zero_le _
   split;· exact Nat.zero_le _
   ·rename_i q1 q2 q3
    rw [if_neg q1,if_neg q2,if_neg q3] at h0;exact absurd rfl h0
 have n4:=Zs b ms (childE (ZI q) q.n).1 hcsz
 rw [Yg,Yg]
 clear _hok hcsz hne
 generalize childE (ZI q) q.n=Y at *
 obtain ⟨cn,ce⟩:=Y
 dsimp only at *
 generalize mgP ms (ZI q)=X at *
 obtain ⟨⟨g1,g2,g3,g4,g5,ggs,g7,g8,⟨g9,g9'⟩,g10⟩,ge⟩:=X
 generalize mgP ms cn=X2 at *
 obtain ⟨⟨h1,h2,h3,h4,h5,hgs,h7,h8,⟨h9,h9'⟩,h10⟩,he⟩:=X2
 generalize ZI q=nw at *
 generalize hz:(mget nw ms.ch).getD 0=z at *
 have hgz:∀o:Option Int,o=mget nw ms.ch→(o.map ziv).getD (.int .i64 0) = .int .i64 z:=fun o ho=>by
  subst ho
  cases hm:mget nw ms.ch with
  | none=>rw [hm] at hz;rw [←hz];rfl
  | some y=>rw [hm] at hz;rw [←hz];rfl
 have hgz':=hgz _ rfl
 clear hgz hch
 dsimp only
 by_cases hge:ge≠0
 ·exact absurd c1 hge
 ·obtain rfl:ge=0:=by omega
  simp only [if_neg hge]
  by_cases hr:q.n<1∨z<q.n
  ·exact absurd hr c2
  ·simp only [if_neg hr]
   by_cases hhe:he≠0
   ·exact absurd c3 hhe
   ·obtain rfl:he=0:=by omega
    simp only [if_neg hhe]
    by_cases hs1:h2=1
    ·simp only [if_pos hs1]
     subst hs1
     obtain ⟨y1,y2,y3,y4,y5,⟨x1,x2,x3,x4,x5,xs,x7,x8,⟨x9,x10⟩,x11⟩,y7,y8,y9,y10⟩:=q
     simp only [Oq.v,Oq.im,Im.v,Pr.v,er,Pr.z,Bi.z,Rz.v] at *
     generalize b=bv at *
     refine ZH [_,_] func101 ntmps101 fun G w hp=>?_
     refine Zk (ZY 3 zf) ?_
     repeat' (first|refine ZC ?_|refine ZB ?_|refine ZU ?_|refine ZD ?_|refine ZP ?_|refine ZS ?_|refine ZN (fun b=>?_)|refine ZJ ?_|refine ZE ?_|refine ZO ?_|refine Ze ?_|refine ZQ ?_|refine ZR (n0) (fun _ _=>?_)|refine ZA (n1) (fun _ _=>?_)|refine ZA (n2) (fun _ _=>?_)|rw [w1]|rw [w2]|refine Zi (m:=7) (y2 % 7) hlt7 ?_|refine ZV 1 (y2 % 7) 0 hwi ?_|refine ZK 1 [] [(1,0),(2,0),(3,0),(0,4),(4,0),(5,3),(6,0)] [] ?_|fail)
     refine k_mo fun qr=>?_
     obtain ⟨r1,r2,r3,r4⟩:=qr
     repeat' (first|refine ZC ?_|refine ZB ?_|refine ZD ?_|refine ZP ?_|refine ZS ?_|refine ZN (fun b=>?_)|refine ZJ ?_|refine ZE ?_|refine ZO ?_|refine Z4 ?_|refine Ze ?_|refine ZQ ?_|refine ZA (n3) (fun _ _=>?_)|refine ZA (n4) (fun _ _=>?_)|refine Yz ZZ nw _ rfl ?_|rw [hgz']|refine l_mo' (ms:=ms) (r1:=r1) (r2:=r2) (r3:=r3) (r4:=r4) ?_|(refine Zl (fun hc=>?_) (fun hc=>?_)<;>(try simp at hc)<;>(try omega))|refine ZK 82 [] [(0,0),(1,0),(2,0),(3,0),(4,0),(5,0),(6,0),(7,0),(8,0),(9,0),(10,0),(11,0),(12,0),(13,0)] [] ?_|(refine ZF (fun hc=>?_) (fun hc=>?_)<;>(try simp at hc)<;>(try omega))|fail)
     exact ZG (ms,none,0) rfl rfl
    ·exact absurd c4 hs1
set_option maxHeartbeats 8000000 in
theorem do4d_ok (b:Nat) (ms:Ms) (_hok:ms.Ok2) (q:Oq) (o:Option Addr) (c:Nat) (hB:q.Bd) (hk:q.k % 12=4) (c1:(mgP ms (ZI q)).2=0) (c2:¬(q.n<1∨(mget (ZI q) ms.ch).getD 0<q.n)) (c3:(mgP ms (childE (ZI q) q.n).1).2=0) (c4:(mgP ms (childE (ZI q) q.n).1).1.st=3):Enters 101∧Spec prog 101 #[.pointer (some ⟨b,0,none⟩),q.v o c] [Sl 3 zf o c q.p.gs,PrF ms.pr,P10] [MO b ms] (DoP b ms q):=by
 have n0:=Zc
 obtain ⟨hwi,hw,hne⟩:=Zf q
 have n1:=Zs b ms (ZI q) hw
 have hlt7:q.w % 7<7:=Nat.mod_lt _ (by decide)
 have w1:(q.w:Int).tmod 7=((q.w % 7:Nat):Int):=(Int.ofNat_tmod q.w 7).symm
 have w2:(q.k:Int).tmod 12=4:=by rw [show (12:Int)=((12:Nat):Int) from rfl,←Int.ofNat_tmod,hk];rfl
 unfold DoP ado
 rw [hk]
 simp only [show ¬((4:Nat)=0) by decide,show ¬((4:Nat)=1) by decide,show ¬((4:Nat)=2) by decide,show ¬((4:Nat)=3) by decide,if_false,if_true]
 have n2:=YE q.im hB.c hB.e
 generalize imgC q.im=ei at *
 clear hB
 have hch:(absM ms).ch (ZI q)=(mget (ZI q) ms.ch).getD 0:=rfl
 rw [hch]
 have n3:=XG (ZI q) q.n hw hne
 have hcsz:(childE (ZI q) q.n).1.size≤1000:=by
  by_cases h0:(childE (ZI q) q.n).2=0
  ·obtain ⟨h1,-,-,-,h2⟩:=YD hne h0
   rw [h1];exact Nat.le_trans h2 (by decide)
  ·unfold childE at h0 ⊢
   split;· exact Nat.zero_le _
   split;· exact Nat.zero_le _
   split;· exact Nat.zero_le _
   ·rename_i q1 q2 q3
    rw [if_neg q1,if_neg q2,if_neg q3] at h0;exact absurd rfl h0
 have n4:=Zs b ms (childE (ZI q) q.n).1 hcsz
 rw [Yg,Yg]
 clear _hok hcsz hne
 generalize childE (ZI q) q.n=Y at *
 obtain ⟨cn,ce⟩:=Y
 dsimp only at *
 generalize mgP ms (ZI q)=X at *
 obtain ⟨⟨g1,g2,g3,g4,g5,ggs,g7,g8,⟨g9,g9'⟩,g10⟩,ge⟩:=X
 generalize mgP ms cn=X2 at *
 obtain ⟨⟨h1,h2,h3,h4,h5,hgs,h7,h8,⟨h9,h9'⟩,h10⟩,he⟩:=X2
 generalize ZI q=nw at *
 generalize hz:(mget nw ms.ch).getD 0=z at *
 have hgz:∀o:Option Int,o=mget nw ms.ch→(o.map ziv).getD (.int .i64 0) = .int .i64 z:=fun o ho=>by
  subst ho
  cases hm:mget nw ms.ch with
  | none=>rw [hm] at hz;rw [←hz];rfl
  | some y=>rw [hm] at hz;rw [←hz];rfl
 have hgz':=hgz _ rfl
 clear hgz hch
 dsimp only
 by_cases hge:ge≠0
 ·exact absurd c1 hge
 ·obtain rfl:ge=0:=by omega
  simp only [if_neg hge]
  by_cases hr:q.n<1∨z<q.n
  ·exact absurd hr c2
  ·simp only [if_neg hr]
   by_cases hhe:he≠0
   ·exact absurd c3 hhe
   ·obtain rfl:he=0:=by omega
    simp only [if_neg hhe]
    by_cases hs1:h2=1
    ·dsimp only at c4;omega
    ·simp only [if_neg hs1]
     by_cases hs3:h2=3
     ·simp only [if_pos hs3]
      subst hs3
      obtain ⟨y1,y2,y3,y4,y5,⟨x1,x2,x3,x4,x5,xs,x7,x8,⟨x9,x10⟩,x11⟩,y7,y8,y9,y10⟩:=q
      simp only [Oq.v,Oq.im,Im.v,Pr.v,er,Pr.z,Bi.z,Rz.v] at *
      generalize b=bv at *
      refine ZH [_,_] func101 ntmps101 fun G w hp=>?_
      refine Zk (ZY 3 zf) ?_
      repeat' (first|refine ZC ?_|refine ZB ?_|refine ZU ?_|refine ZD ?_|refine ZP ?_|refine ZS ?_|refine ZN (fun b=>?_)|refine ZJ ?_|refine ZE ?_|refine ZO ?_|refine Ze ?_|refine ZQ ?_|refine ZR (n0) (fun _ _=>?_)|refine ZA (n1) (fun _ _=>?_)|refine ZA (n2) (fun _ _=>?_)|rw [w1]|rw [w2]|refine Zi (m:=7) (y2 % 7) hlt7 ?_|refine ZV 1 (y2 % 7) 0 hwi ?_|refine ZK 1 [] [(1,0),(2,0),(3,0),(0,4),(4,0),(5,3),(6,0)] [] ?_|fail)
      refine k_mo fun qr=>?_
      obtain ⟨r1,r2,r3,r4⟩:=qr
      repeat' (first|refine ZC ?_|refine ZB ?_|refine ZD ?_|refine ZP ?_|refine ZS ?_|refine ZN (fun b=>?_)|refine ZJ ?_|refine ZE ?_|refine ZO ?_|refine Z4 ?_|refine Ze ?_|refine ZQ ?_|refine ZA (n3) (fun _ _=>?_)|refine ZA (n4) (fun _ _=>?_)|refine Yz ZZ nw _ rfl ?_|rw [hgz']|refine l_mo' (ms:=ms) (r1:=r1) (r2:=r2) (r3:=r3) (r4:=r4) ?_|(refine Zl (fun hc=>?_) (fun hc=>?_)<;>(try simp at hc)<;>(try omega))|refine ZK 82 [] [(0,0),(1,0),(2,0),(3,0),(4,0),(5,0),(6,0),(7,0),(8,0),(9,0),(10,0),(11,0),(12,0),(13,0)] [] ?_|(refine ZF (fun hc=>?_) (fun hc=>?_)<;>(try simp at hc)<;>(try omega))|fail)
      exact ZG (ms,none,0) rfl rfl
     ·exact absurd c4 hs3
set_option maxHeartbeats 8000000 in
theorem do4e_ok (b:Nat) (ms:Ms) (_hok:ms.Ok2) (q:Oq) (o:Option Addr) (c:Nat) (hB:q.Bd) (hk:q.k % 12=4) (c1:(mgP ms (ZI q)).2=0) (c2:¬(q.n<1∨(mget (ZI q) ms.ch).getD 0<q.n)) (c3:(mgP ms (childE (ZI q) q.n).1).2=0) (c4:(mgP ms (childE (ZI q) q.n).1).1.st≠1) (c5:(mgP ms (childE (ZI q) q.n).1).1.st≠3):Enters 101∧Spec prog 101 #[.pointer (some ⟨b,0,none⟩),q.v o c] [Sl 3 zf o c q.p.gs,PrF ms.pr,P10] [MO b ms] (DoP b ms q):=by
 have n0:=Zc
 obtain ⟨hwi,hw,hne⟩:=Zf q
 have n1:=Zs b ms (ZI q) hw
 have hlt7:q.w % 7<7:=Nat.mod_lt _ (by decide)
 have w1:(q.w:Int).tmod 7=((q.w % 7:Nat):Int):=(Int.ofNat_tmod q.w 7).symm
 have w2:(q.k:Int).tmod 12=4:=by rw [show (12:Int)=((12:Nat):Int) from rfl,←Int.ofNat_tmod,hk];rfl
 unfold DoP ado
 rw [hk]
 simp only [show ¬((4:Nat)=0) by decide,show ¬((4:Nat)=1) by decide,show ¬((4:Nat)=2) by decide,show ¬((4:Nat)=3) by decide,if_false,if_true]
 have n2:=YE q.im hB.c hB.e
 generalize imgC q.im=ei at *
 clear hB
 have hch:(absM ms).ch (ZI q)=(mget (ZI q) ms.ch).getD 0:=rfl
 rw [hch]
 have n3:=XG (ZI q) q.n hw hne
 have hcsz:(childE (ZI q) q.n).1.size≤1000:=by
  by_cases h0:(childE (ZI q) q.n).2=0
  ·obtain ⟨h1,-,-,-,h2⟩:=YD hne h0
   rw [h1];exact Nat.le_trans h2 (by decide)
  ·unfold childE at h0 ⊢
   split;· exact Nat.zero_le _
   split;· exact Nat.zero_le _
   split;· exact Nat.zero_le _
   ·rename_i q1 q2 q3
    rw [if_neg q1,if_neg q2,if_neg q3] at h0;exact absurd rfl h0
 have n4:=Zs b ms (childE (ZI q) q.n).1 hcsz
 rw [Yg,Yg]
 clear _hok hcsz hne
 generalize childE (ZI q) q.n=Y at *
 obtain ⟨cn,ce⟩:=Y
 dsimp only at *
 generalize mgP ms (ZI q)=X at *
 obtain ⟨⟨g1,g2,g3,g4,g5,ggs,g7,g8,⟨g9,g9'⟩,g10⟩,ge⟩:=X
 generalize mgP ms cn=X2 at *
 obtain ⟨⟨h1,h2,h3,h4,h5,hgs,h7,h8,⟨h9,h9'⟩,h10⟩,he⟩:=X2
 generalize ZI q=nw at *
 generalize hz:(mget nw ms.ch).getD 0=z at *
 have hgz:∀o:Option Int,o=mget nw ms.ch→(o.map ziv).getD (.int .i64 0) = .int .i64 z:=fun o ho=>by
  subst ho
  cases hm:mget nw ms.ch with
  | none=>rw [hm] at hz;rw [←hz];rfl
  | some y=>rw [hm] at hz;rw [←hz];rfl
 have hgz':=hgz _ rfl
 clear hgz hch
 dsimp only
 by_cases hge:ge≠0
 ·exact absurd c1 hge
 ·obtain rfl:ge=0:=by omega
  simp only [if_neg hge]
  by_cases hr:q.n<1∨z<q.n
  ·exact absurd hr c2
  ·simp only [if_neg hr]
   by_cases hhe:he≠0
   ·exact absurd c3 hhe
   ·obtain rfl:he=0:=by omega
    simp only [if_neg hhe]
    by_cases hs1:h2=1
    ·exact absurd hs1 c4
    ·simp only [if_neg hs1]
     by_cases hs3:h2=3
     ·exact absurd hs3 c5
     ·simp only [if_neg hs3]
      obtain ⟨y1,y2,y3,y4,y5,⟨x1,x2,x3,x4,x5,xs,x7,x8,⟨x9,x10⟩,x11⟩,y7,y8,y9,y10⟩:=q
      simp only [Oq.v,Oq.im,Im.v,Pr.v,Pr.z,Bi.z,Rz.v] at *
      generalize b=bv at *
      refine ZH [_,_] func101 ntmps101 fun G w hp=>?_
      refine Zk (ZY 3 zf) ?_
      repeat' (first|refine ZC ?_|refine ZB ?_|refine ZU ?_|refine ZD ?_|refine ZP ?_|refine ZS ?_|refine ZN (fun b=>?_)|refine ZJ ?_|refine ZE ?_|refine ZO ?_|refine Ze ?_|refine ZQ ?_|refine ZR (n0) (fun _ _=>?_)|refine ZA (n1) (fun _ _=>?_)|refine ZA (n2) (fun _ _=>?_)|rw [w1]|rw [w2]|refine Zi (m:=7) (y2 % 7) hlt7 ?_|refine ZV 1 (y2 % 7) 0 hwi ?_|refine ZK 1 [] [(1,0),(2,0),(3,0),(0,4),(4,0),(5,3),(6,0)] [] ?_|fail)
      refine k_mo fun qr=>?_
      obtain ⟨r1,r2,r3,r4⟩:=qr
      repeat' (first|refine ZC ?_|refine ZB ?_|refine ZD ?_|refine ZP ?_|refine ZS ?_|refine ZN (fun b=>?_)|refine ZE ?_|refine ZO ?_|refine Z4 ?_|refine Ze ?_|refine ZQ ?_|refine ZA (n3) (fun _ _=>?_)|refine ZA (n4) (fun _ _=>?_)|refine Yz ZZ nw _ rfl ?_|rw [hgz']|refine l_mo' (ms:=ms) (r1:=r1) (r2:=r2) (r3:=r3) (r4:=r4) ?_|(refine Zl (fun hc=>?_) (fun hc=>?_)<;>(try simp at hc)<;>(try omega))|refine ZK 82 [] [(0,0),(1,0),(2,0),(3,0),(4,0),(5,0),(6,0),(7,0),(8,0),(9,0),(10,0),(11,0),(12,0),(13,0)] [] ?_|(refine ZF (fun hc=>?_) (fun hc=>?_)<;>(try simp at hc)<;>(try omega))|fail)
      rename Option Addr×Nat=>qq
      refine k_mo fun qr=>?_
      obtain ⟨r1,r2,r3,r4⟩:=qr
      repeat' (first|refine ZC ?_|refine ZB ?_|refine ZD ?_|refine ZP ?_|refine ZS ?_|refine ZO ?_|refine Ze ?_|refine ZQ ?_|refine XH (V:=prV) ZZ cn (⟨h1,3,h3,h4,h5,hgs,h7,h8,⟨h9,h9'⟩,h10⟩,qq.1,qq.2) ?_|refine ZK 93 [Mp Z0 prV _ _] [(0,0),(1,0),(2,0),(3,0),(4,0),(5,0),(6,4)] [] ?_|fail)
      refine k_prN (a:=cn) (x:=(⟨h1,3,h3,h4,h5,hgs,h7,h8,⟨h9,h9'⟩,h10⟩,qq.1,qq.2)) ?_
      refine YR (ms:={ms with pr:=mset cn (⟨h1,3,h3,h4,h5,hgs,h7,h8,⟨h9,h9'⟩,h10⟩,qq.1,qq.2) ms.pr}) (r1:=r1) (r2:=r2) (r3:=r3) (r4:=r4) ?_
      exact ZG ({ms with pr:=mset cn (⟨h1,3,h3,h4,h5,hgs,h7,h8,⟨h9,h9'⟩,h10⟩,qq.1,qq.2) ms.pr},none,0) rfl UF
theorem do4_ok (b:Nat) (ms:Ms) (hok:ms.Ok2) (q:Oq) (o:Option Addr) (c:Nat) (hB:q.Bd) (hk:q.k % 12=4):Enters 101∧Spec prog 101 #[.pointer (some ⟨b,0,none⟩),q.v o c] [Sl 3 zf o c q.p.gs,PrF ms.pr,P10] [MO b ms] (DoP b ms q):=by
 by_cases cA:(mgP ms (ZI q)).2≠0∨(q.n<1∨(mget (ZI q) ms.ch).getD 0<q.n)
 ·exact do4a_ok b ms hok q o c hB hk cA
 ·have c1:(mgP ms (ZI q)).2=0:=Decidable.not_not.1 fun h=>cA (.inl h)
  have c2:¬(q.n<1∨(mget (ZI q) ms.ch).getD 0<q.n):=fun h=>cA (.inr h)
  by_cases c3:(mgP ms (childE (ZI q) q.n).1).2=0
  ·by_cases c4:(mgP ms (childE (ZI q) q.n).1).1.st=1
   ·exact do4c_ok b ms hok q o c hB hk c1 c2 c3 c4
   ·by_cases c5:(mgP ms (childE (ZI q) q.n).1).1.st=3
    ·exact do4d_ok b ms hok q o c hB hk c1 c2 c3 c5
    ·exact do4e_ok b ms hok q o c hB hk c1 c2 c3 c4 c5
  ·exact do4b_ok b ms hok q o c hB hk c1 c2 c3
theorem ldG_0 (f:ByteArray→Int→Option ByteArray) (who:ByteArray) (l:List ByteArray):ldG f who l 0=f:=by
 funext a j
 unfold ldG
 rw [if_neg (by omega)]
theorem ldG_step {f g:ByteArray→Int→Option ByteArray} {who:ByteArray} {l:List ByteArray} {i:Nat} {s:ByteArray} (h:l[i]? = some s) (hg:∀a j,g a j=if a=who∧j=(i:Int) then some s else ldG f who l (i:Int) a j):g=ldG f who l ((i+1:Nat):Int):=by
 funext a j
 rw [hg]
 unfold ldG
 by_cases hj:j=(i:Int)
 ·subst hj
  by_cases ha:a=who
  ·rw [if_pos ⟨ha,rfl⟩,if_pos ⟨ha,by omega,by omega⟩,Int.toNat_natCast,h]
  ·rw [if_neg (fun e=>ha e.1),if_neg (fun e=>ha e.1),if_neg (fun e=>ha e.1)]
 ·rw [if_neg (fun e=>hj e.2)]
  by_cases hc:a=who∧0≤j∧j<(i:Int)
  ·rw [if_pos hc,if_pos ⟨hc.1,hc.2.1,by omega⟩]
  ·rw [if_neg hc,if_neg (fun e=>hc ⟨e.1,e.2.1,by omega⟩)]
set_option maxHeartbeats 8000000 in
theorem do8_ok (b:Nat) (ms:Ms) (_hok:ms.Ok2) (q:Oq) (o:Option Addr) (c:Nat) (hB:q.Bd) (hk:q.k % 12=8):Enters 101∧Spec prog 101 #[.pointer (some ⟨b,0,none⟩),q.v o c] [Sl 3 zf o c q.p.gs,PrF ms.pr,P10] [MO b ms] (DoP b ms q):=by
 have n0:=Zc
 obtain ⟨hwi,hw,hne⟩:=Zf q
 have n1:=Zs b ms (ZI q) hw
 have hlt7:q.w % 7<7:=Nat.mod_lt _ (by decide)
 have w1:(q.w:Int).tmod 7=((q.w % 7:Nat):Int):=(Int.ofNat_tmod q.w 7).symm
 have w2:(q.k:Int).tmod 12=8:=by rw [show (12:Int)=((12:Nat):Int) from rfl,←Int.ofNat_tmod,hk];rfl
 unfold DoP ado
 rw [hk]
 simp only [show ¬((8:Nat)=0) by decide,show ¬((8:Nat)=1) by decide,show ¬((8:Nat)=2) by decide,show ¬((8:Nat)=3) by decide,show ¬((8:Nat)=4) by decide,show ¬((8:Nat)=5) by decide,show ¬((8:Nat)=6) by decide,show ¬((8:Nat)=7) by decide,if_false,if_true]
 clear _hok
 have n2:=YE q.im hB.c hB.e
 have n3:=pagesL_ok q.im hB.c hB.e
 have hI:=XZ (x:=q.im)
 have hln:=WI q.im
 have hms:=Yw q.im
 clear hB
 rw [Yg]
 generalize mgP ms (ZI q)=X at *
 obtain ⟨⟨g1,g2,g3,g4,g5,ggs,g7,g8,⟨g9,g9'⟩,g10⟩,ge⟩:=X
 generalize hnw:ZI q=nw at *
 clear hnw
 dsimp only
 by_cases hi:imgC q.im≠0
 ·simp only [if_pos hi]
  clear n3 hI hms
  generalize imgC q.im=ei at *
  obtain ⟨y1,y2,y3,y4,y5,⟨x1,x2,x3,x4,x5,xs,x7,x8,⟨x9,x10⟩,x11⟩,y7,y8,y9,y10⟩:=q
  simp only [Oq.v,Oq.im,Im.v,Pr.v,er,Pr.z,Bi.z,Rz.v] at *
  generalize b=bv at *
  refine ZH [_,_] func101 ntmps101 fun G w hp=>?_
  refine Zk (ZY 3 zf) ?_
  repeat' (first|refine ZC ?_|refine ZB ?_|refine ZU ?_|refine ZD ?_|refine ZP ?_|refine ZS ?_|refine ZN (fun b=>?_)|refine ZE ?_|refine ZO ?_|refine Ze ?_|refine ZQ ?_|refine ZR (n0) (fun _ _=>?_)|refine ZA (n1) (fun _ _=>?_)|refine ZA (n2) (fun _ _=>?_)|rw [w1]|rw [w2]|refine Zi (m:=7) (y2 % 7) hlt7 ?_|refine ZV 1 (y2 % 7) 0 hwi ?_|refine ZK 1 [] [(1,0),(2,0),(3,0),(0,4),(4,0),(5,3),(6,0)] [] ?_|(refine ZF (fun hc=>?_) (fun hc=>?_)<;>(try simp at hc)<;>(try omega))|fail)
  exact ZG (ms,none,0) rfl rfl
 ·simp only [if_neg hi]
  simp only [ne_eq,Decidable.not_not] at hi
  rw [hi] at n2
  have n3':=n3 hi
  have hI':=hI hi
  have hms':=(hms hi).2
  clear n3 hI hms hi
  by_cases hge:ge≠0
  ·simp only [if_pos hge]
   clear n3'
   obtain ⟨y1,y2,y3,y4,y5,⟨x1,x2,x3,x4,x5,xs,x7,x8,⟨x9,x10⟩,x11⟩,y7,y8,y9,y10⟩:=q
   simp only [Oq.v,Oq.im,Im.v,Pr.v,er,Pr.z,Bi.z,Rz.v] at *
   generalize b=bv at *
   refine ZH [_,_] func101 ntmps101 fun G w hp=>?_
   refine Zk (ZY 3 zf) ?_
   repeat' (first|refine ZC ?_|refine ZB ?_|refine ZU ?_|refine ZD ?_|refine ZP ?_|refine ZS ?_|refine ZN (fun b=>?_)|refine ZE ?_|refine ZO ?_|refine Ze ?_|refine ZQ ?_|refine ZR (n0) (fun _ _=>?_)|refine ZA (n1) (fun _ _=>?_)|refine ZA (n2) (fun _ _=>?_)|rw [w1]|rw [w2]|refine Zi (m:=7) (y2 % 7) hlt7 ?_|refine ZV 1 (y2 % 7) 0 hwi ?_|refine ZK 1 [] [(1,0),(2,0),(3,0),(0,4),(4,0),(5,3),(6,0)] [] ?_|(refine ZF (fun hc=>?_) (fun hc=>?_)<;>(try simp at hc)<;>(try omega))|fail)
   exact ZG (ms,none,0) rfl rfl
  ·obtain rfl:ge=0:=by omega
   simp only [if_neg hge]
   by_cases hs:g2≠1
   ·simp only [if_pos hs]
    clear n3'
    obtain ⟨y1,y2,y3,y4,y5,⟨x1,x2,x3,x4,x5,xs,x7,x8,⟨x9,x10⟩,x11⟩,y7,y8,y9,y10⟩:=q
    simp only [Oq.v,Oq.im,Im.v,Pr.v,er,Pr.z,Bi.z,Rz.v] at *
    generalize b=bv at *
    refine ZH [_,_] func101 ntmps101 fun G w hp=>?_
    refine Zk (ZY 3 zf) ?_
    repeat' (first|refine ZC ?_|refine ZB ?_|refine ZU ?_|refine ZD ?_|refine ZP ?_|refine ZS ?_|refine ZN (fun b=>?_)|refine ZJ ?_|refine ZE ?_|refine ZO ?_|refine Ze ?_|refine ZQ ?_|refine ZR (n0) (fun _ _=>?_)|refine ZA (n1) (fun _ _=>?_)|refine ZA (n2) (fun _ _=>?_)|rw [w1]|rw [w2]|refine Zi (m:=7) (y2 % 7) hlt7 ?_|refine ZV 1 (y2 % 7) 0 hwi ?_|refine ZK 1 [] [(1,0),(2,0),(3,0),(0,4),(4,0),(5,3),(6,0)] [] ?_|(refine ZF (fun hc=>?_) (fun hc=>?_)<;>(try simp at hc)<;>(try omega))|fail)
    exact ZG (ms,none,0) rfl rfl
   ·simp only [if_neg hs]
    simp only [ne_eq,Decidable.not_not] at hs
    subst hs
    have hen:0≤q.ie∧q.ie≤4096:=hI'.2.2.1
    clear hI'
    unfold ldP
    generalize hPL:imPg q.im=PL at *
    generalize hnp:nPg q.im=np at *
    clear hPL hnp
    obtain ⟨y1,y2,y3,y4,y5,⟨x1,x2,x3,x4,x5,xs,x7,x8,⟨x9,x10⟩,x11⟩,y7,y8,y9,y10⟩:=q
    simp only [Oq.v,Oq.im,Im.v,Pr.v,er,Pr.z,Bi.z,Rz.v] at *
    generalize b=bv at *
    refine ZH [_,_] func101 ntmps101 fun G w hp=>?_
    refine Zk (ZY 3 zf) ?_
    have w32:IntKind.u32.wrap y10=y10:=by simp [IntKind.wrap,IntKind.bits,IntKind.signed];omega
    repeat' (first|refine ZC ?_|refine ZB ?_|refine ZU ?_|refine ZD ?_|refine ZP ?_|refine ZS ?_|refine ZN (fun b=>?_)|refine ZJ ?_|refine ZE ?_|refine ZO ?_|refine Ze ?_|refine ZQ ?_|refine ZR (n0) (fun _ _=>?_)|refine ZA (n1) (fun _ _=>?_)|refine ZA (n2) (fun _ _=>?_)|refine ZA (n3') (fun _ _=>?_)|rw [w1]|rw [w2]|refine Zi (m:=7) (y2 % 7) hlt7 ?_|refine ZV 1 (y2 % 7) 0 hwi ?_|refine ZK 1 [] [(1,0),(2,0),(3,0),(0,4),(4,0),(5,3),(6,0)] [] ?_|fail)
    rename_i b3 b4 _ _ qq _ _ _ pl0 _
    refine k_frz (T:=9) (sz:=1) (f:=sf1) (o:=pl0.1) (m:=PL.length) (cap:=pl0.2) PL ?_ rfl rfl
    refine YH (X:={t:Nat×Pgs // t.1≤np∧pgA t.2=ldG (pgA ms.pg) nw PL (t.1:Int)}) (fun t=>[(0,.pointer (some ⟨bv,0,none⟩)),(3,.pointer (some ⟨b3,0,none⟩)),(4,.pointer (some ⟨b4,0,none⟩)),(5,.string nw),(7,.pointer (some ⟨b,0,none⟩)),(25,.slice pl0.1 PL.length pl0.2),(26,.int .i64 (t.1.1:Int))]) (fun _=>[PrF ms.pr,Sl 3 zf qq.1 qq.2 ggs,Sl 9 sf1 pl0.1 pl0.2 PL,Sl 3 zf none 0 []])
     (fun t=>[MO bv {ms with pg:=t.1.2},Pt b3 (.cells #[.int .u8 y1,.int .u8 y2,.int .i64 y3,.int .i64 y4,.string y5,.int .i64 x1,.int .i64 x2,.int .i64 x3,.int .i64 x4,.int .i64 x5,.slice o xs.length c,.string x7,.int .i64 x8,.string x9,.int .i64 x10,.int .i64 x11,.string y7,.string y8,.int .i64 y9,.int .i64 y10] 76),Pt b4 (.cells #[.int .i64 0,.string ⟨#[]⟩,.int .i64 0,.int .i64 0,.int .i64 0,.int .i64 0,.int .i64 0,.slice none 0 0,.string ⟨#[]⟩,.int .i64 0,.string ⟨#[]⟩,.int .i64 0,.int .i64 0,.int .i64 0] 79),Pt b (.cells #[.int .i64 g1,.int .i64 1,.int .i64 g3,.int .i64 g4,.int .i64 g5,.slice qq.1 ggs.length qq.2,.string g7,.int .i64 g8,.string g9,.int .i64 g9',.int .i64 g10] 44)])
     (fun t=>np - t.1.1) ⟨(0,ms.pg),Nat.zero_le _,by rw [show (((0:Nat):Int))=0 from rfl,ldG_0]⟩ ⟨rfl,rfl,rfl,rfl,rfl,rfl,rfl,trivial⟩ ?_
    rintro ⟨⟨i,pl⟩,hi,hpl⟩
    dsimp only at hi hpl ⊢
    by_cases hlt:i<np
    ·obtain ⟨s,hsi⟩:∃s,PL[i]? = some s:=⟨_,List.getElem?_eq_getElem (by omega)⟩
     have wi:IntKind.i64.wrap ((i:Int)+1)=((i+1:Nat):Int):=by rw [wrapi (by omega) (by omega)];omega
     have n4:=VM bv {ms with pg:=pl} nw (i:Int) s
     have hcd:decide ((i:Int)<(PL.length:Int))=true:=by simp;omega
     repeat' (first|refine ZC ?_|refine ZB ?_|refine ZD ?_|refine ZJ ?_|refine ZA (n4) (fun _ _=>?_)|rw [hcd]|rw [wi]|refine XL (es:=PL) (f:=sf1) i s hsi (fun b off=>?_)|refine YQ ?_|fail)
     rename_i pl' hpl'
     exact ZW ⟨(i+1,pl'),by dsimp only;omega,by dsimp only;exact ldG_step hsi (fun a j=>by rw [hpl' a j,←hpl])⟩ (by show np - (i+1)<np - i;omega) ⟨rfl,rfl,rfl,rfl,rfl,rfl,rfl,trivial⟩
    ·obtain rfl:i=np:=by omega
     have hcd:decide ((i:Int)<(PL.length:Int))=false:=by simp;omega
     repeat' (first|refine ZC ?_|refine ZB ?_|refine ZD ?_|refine ZS ?_|refine ZE ?_|refine Zn ?_|rw [hcd]|rw [hln]|fail)
     refine k_mo fun qr=>?_
     obtain ⟨r1,r2,r3,r4⟩:=qr
     repeat' (first|refine ZC ?_|refine ZB ?_|refine ZD ?_|refine ZS ?_|refine ZO ?_|refine Ze ?_|refine ZQ ?_|refine XH (V:=prV) ZZ nw (⟨1,1,g3,g4,g5,ggs,nw,(i:Int),⟨g9,g9'⟩,g10⟩,qq.1,qq.2) ?_|refine XH (V:=rgV) ZZ nw [0,0,0,0,0,0,0,0,y10] ?_|rw [w32]|refine ZK 104 [Mp Z0 prV _ _] [(0,0),(1,0),(2,0),(3,0),(4,0),(5,0),(6,4)] [] ?_|refine ZK 105 [Mp Z0 rgV _ _] [(0,0),(1,0),(2,0),(3,0),(4,0),(5,0),(6,0),(7,0),(8,0),(9,0),(10,4)] [] ?_|fail)
     refine k_prN (a:=nw) (x:=(⟨1,1,g3,g4,g5,ggs,nw,(i:Int),⟨g9,g9'⟩,g10⟩,qq.1,qq.2)) ?_
     refine YR (ms:=⟨ms.ep,mset nw (⟨1,1,g3,g4,g5,ggs,nw,(i:Int),⟨g9,g9'⟩,g10⟩,qq.1,qq.2) ms.pr,ms.ch,mset nw [0,0,0,0,0,0,0,0,y10] ms.rg,pl⟩) (r1:=r1) (r2:=r2) (r3:=r3) (r4:=r4) ?_
     exact ZG ((⟨ms.ep,mset nw (⟨1,1,g3,g4,g5,ggs,nw,(i:Int),⟨g9,g9'⟩,g10⟩,qq.1,qq.2) ms.pr,ms.ch,mset nw [0,0,0,0,0,0,0,0,y10] ms.rg,pl⟩:Ms),none,0) rfl (by
      rw [show (absM ms).pg=pgA ms.pg from rfl,←hpl,←absM_rg,←absM_pr (x:=(⟨1,1,g3,g4,g5,ggs,nw,(i:Int),⟨g9,g9'⟩,g10⟩,qq.1,qq.2))]
      rfl)
theorem zrP_0 (f:ByteArray→Int→Option ByteArray) (sp:ByteArray) (lo:Int):zrP f sp lo lo=f:=by
 funext a j
 unfold zrP
 rw [if_neg (by omega)]
theorem zrP_step {f g:ByteArray→Int→Option ByteArray} {sp:ByteArray} {lo i:Int} (h:lo≤i) (hg:∀a j,g a j=if a=sp∧j=i then some Xm else zrP f sp lo i a j):g=zrP f sp lo (i+1):=by
 funext a j
 rw [hg]
 unfold zrP
 by_cases hj:j=i
 ·subst hj
  by_cases ha:a=sp
  ·rw [if_pos ⟨ha,rfl⟩,if_pos ⟨ha,h,by omega⟩]
  ·rw [if_neg (fun e=>ha e.1),if_neg (fun e=>ha e.1),if_neg (fun e=>ha e.1)]
 ·rw [if_neg (fun e=>hj e.2)]
  by_cases hc:a=sp∧lo≤j∧j<i
  ·rw [if_pos hc,if_pos ⟨hc.1,hc.2.1,by omega⟩]
  ·rw [if_neg hc,if_neg (fun e=>hc ⟨e.1,e.2.1,by omega⟩)]
set_option maxHeartbeats 8000000 in
theorem do7_ok (b:Nat) (ms:Ms) (hok:ms.Ok2) (q:Oq) (o:Option Addr) (c:Nat) (_hB:q.Bd) (hk:q.k % 12=7):Enters 101∧Spec prog 101 #[.pointer (some ⟨b,0,none⟩),q.v o c] [Sl 3 zf o c q.p.gs,PrF ms.pr,P10] [MO b ms] (DoP b ms q):=by
 have n0:=Zc
 obtain ⟨hwi,hw,hne⟩:=Zf q
 have n1:=Zs b ms (ZI q) hw
 have hlt7:q.w % 7<7:=Nat.mod_lt _ (by decide)
 have w1:(q.w:Int).tmod 7=((q.w % 7:Nat):Int):=(Int.ofNat_tmod q.w 7).symm
 have w2:(q.k:Int).tmod 12=7:=by rw [show (12:Int)=((12:Nat):Int) from rfl,←Int.ofNat_tmod,hk];rfl
 unfold DoP ado
 rw [hk]
 simp only [show ¬((7:Nat)=0) by decide,show ¬((7:Nat)=1) by decide,show ¬((7:Nat)=2) by decide,show ¬((7:Nat)=3) by decide,show ¬((7:Nat)=4) by decide,show ¬((7:Nat)=5) by decide,show ¬((7:Nat)=6) by decide,if_false,if_true]
 have n2:=mmem35_ok b ms hok.ok (ZI q) hw
 have hpk:=hok.ok.p
 clear hok _hB
 rw [amem_m,Yg]
 have hm0:(mmF ms (ZI q)).2=0→(mgP ms (ZI q)).2=0∧∃x,mget (mgP ms (ZI q)).1.sp ms.pr=some x:=fun h=>by
  unfold mmF at h
  by_cases hg:(mgP ms (ZI q)).2≠0
  ·rw [if_pos hg] at h;exact absurd h hg
  ·rw [if_neg hg] at h
   cases hx:mget (mgP ms (ZI q)).1.sp ms.pr with
   | none=>rw [hx] at h;cases h
   | some x=>exact ⟨by omega,x,rfl⟩
 generalize mmF ms (ZI q)=MF at *
 obtain ⟨mb,me⟩:=MF
 generalize mgP ms (ZI q)=X at *
 obtain ⟨⟨g1,g2,g3,g4,g5,ggs,g7,g8,⟨g9,g9'⟩,g10⟩,ge⟩:=X
 generalize hnw:ZI q=nw at *
 clear hnw
 dsimp only at hm0 ⊢
 by_cases hr:q.n<0∨64<q.n
 ·simp only [if_pos hr]
  clear n2 hm0
  obtain ⟨y1,y2,y3,y4,y5,⟨x1,x2,x3,x4,x5,xs,x7,x8,⟨x9,x10⟩,x11⟩,y7,y8,y9,y10⟩:=q
  simp only [Oq.v,Pr.v,er,Pr.z,Bi.z,Rz.v] at *
  generalize b=bv at *
  refine ZH [_,_] func101 ntmps101 fun G w hp=>?_
  refine Zk (ZY 3 zf) ?_
  repeat' (first|refine ZC ?_|refine ZB ?_|refine ZU ?_|refine ZD ?_|refine ZP ?_|refine ZS ?_|refine ZN (fun b=>?_)|refine ZJ ?_|refine ZE ?_|refine ZO ?_|refine Ze ?_|refine ZQ ?_|refine ZR (n0) (fun _ _=>?_)|refine ZA (n1) (fun _ _=>?_)|rw [w1]|rw [w2]|refine Zi (m:=7) (y2 % 7) hlt7 ?_|refine ZV 1 (y2 % 7) 0 hwi ?_|(refine ZT (fun hc=>?_) (fun hc=>?_)<;>(try simp at hc)<;>(try omega))|refine ZK 1 [] [(1,0),(2,0),(3,0),(0,4),(4,0),(5,3),(6,0)] [] ?_|(refine ZF (fun hc=>?_) (fun hc=>?_)<;>(try simp at hc)<;>(try omega))|fail)
  all_goals exact ZG (ms,none,0) rfl rfl
 ·simp only [if_neg hr]
  by_cases hme:me≠0
  ·simp only [if_pos hme]
   clear hm0
   obtain ⟨y1,y2,y3,y4,y5,⟨x1,x2,x3,x4,x5,xs,x7,x8,⟨x9,x10⟩,x11⟩,y7,y8,y9,y10⟩:=q
   simp only [Oq.v,Pr.v,er,Pr.z,Bi.z,Rz.v] at *
   generalize b=bv at *
   refine ZH [_,_] func101 ntmps101 fun G w hp=>?_
   refine Zk (ZY 3 zf) ?_
   repeat' (first|refine ZC ?_|refine ZB ?_|refine ZU ?_|refine ZD ?_|refine ZP ?_|refine ZS ?_|refine ZN (fun b=>?_)|refine ZJ ?_|refine ZE ?_|refine ZO ?_|refine Ze ?_|refine ZQ ?_|refine ZR (n0) (fun _ _=>?_)|refine ZA (n1) (fun _ _=>?_)|refine ZA (n2) (fun _ _=>?_)|rw [w1]|rw [w2]|refine Zi (m:=7) (y2 % 7) hlt7 ?_|refine ZV 1 (y2 % 7) 0 hwi ?_|(refine ZT (fun hc=>?_) (fun hc=>?_)<;>(try simp at hc)<;>(try omega))|refine ZK 1 [] [(1,0),(2,0),(3,0),(0,4),(4,0),(5,3),(6,0)] [] ?_|(refine ZF (fun hc=>?_) (fun hc=>?_)<;>(try simp at hc)<;>(try omega))|fail)
   exact ZG (ms,none,0) rfl rfl
  ·obtain rfl:me=0:=by omega
   simp only [if_neg hme]
   obtain ⟨hge,⟨ow,oo,oc⟩,hx⟩:=hm0 rfl
   subst hge
   clear hm0
   have ha7:(absM ms).pr g7=some ow:=by unfold absM;dsimp only;rw [hx];rfl
   have hoc:=hpk _ _ hx
   obtain ⟨-,-,u3,-⟩:=Zg hoc
   unfold pfit at u3
   clear hoc hpk
   simp only [ha7]
   obtain ⟨o1,o2,o3,o4,o5,os,o7,o8,⟨o9,o9'⟩,o10⟩:=ow
   dsimp only at u3 ha7 ⊢
   obtain ⟨pgn,hpgn⟩:∃pgn:Nat,o8=(pgn:Int):=⟨o8.toNat,by omega⟩
   subst hpgn
   have wn:IntKind.i64.wrap ((pgn:Int)+q.n)=(pgn:Int)+q.n:=wrapi (by omega) (by omega)
   by_cases h26:64<(pgn:Int)+q.n
   ·simp only [if_pos h26]
    obtain ⟨y1,y2,y3,y4,y5,⟨x1,x2,x3,x4,x5,xs,x7,x8,⟨x9,x10⟩,x11⟩,y7,y8,y9,y10⟩:=q
    simp only [Oq.v,Pr.v,er,Pr.z,Bi.z,Rz.v] at *
    generalize b=bv at *
    refine ZH [_,_] func101 ntmps101 fun G w hp=>?_
    refine Zk (ZY 3 zf) ?_
    repeat' (first|refine ZC ?_|refine ZB ?_|refine ZU ?_|refine ZD ?_|refine ZP ?_|refine ZS ?_|refine ZN (fun b=>?_)|refine ZJ ?_|refine ZE ?_|refine ZO ?_|refine Ze ?_|refine ZQ ?_|refine ZR (n0) (fun _ _=>?_)|refine ZA (n1) (fun _ _=>?_)|refine ZA (n2) (fun _ _=>?_)|rw [w1]|rw [w2]|refine Zi (m:=7) (y2 % 7) hlt7 ?_|refine ZV 1 (y2 % 7) 0 hwi ?_|(refine ZT (fun hc=>?_) (fun hc=>?_)<;>(try simp at hc)<;>(try omega))|refine ZK 1 [] [(1,0),(2,0),(3,0),(0,4),(4,0),(5,3),(6,0)] [] ?_|(refine ZF (fun hc=>?_) (fun hc=>?_)<;>(try simp at hc)<;>(try omega))|fail)
    refine k_mo fun qr=>?_
    obtain ⟨r1,r2,r3,r4⟩:=qr
    repeat' (first|refine ZC ?_|refine ZB ?_|refine ZD ?_|refine ZP ?_|refine ZS ?_|refine ZO ?_|refine Ze ?_|refine r_al (fun b=>?_)|refine ZQ ?_|refine Yz ZZ g7 _ hx ?_|rw [wn]|refine ZK 49 [] [(0,0),(1,0),(2,0),(3,0),(4,0),(5,0),(6,0),(7,1)] [8] ?_|(refine ZF (fun hc=>?_) (fun hc=>?_)<;>(try simp at hc)<;>(try omega))|fail)
    refine YR (ms:=ms) (r1:=r1) (r2:=r2) (r3:=r3) (r4:=r4) ?_
    exact ZG (ms,none,0) rfl rfl
   ·simp only [if_neg h26]
    obtain ⟨kn,hkn⟩:∃kn:Nat,q.n=(kn:Int):=⟨q.n.toNat,by omega⟩
    rw [hkn] at wn ⊢
    have n3:=zerosM_ok
    obtain ⟨y1,y2,y3,y4,y5,⟨x1,x2,x3,x4,x5,xs,x7,x8,⟨x9,x10⟩,x11⟩,y7,y8,y9,y10⟩:=q
    dsimp only at hkn
    subst hkn
    simp only [Oq.v,Pr.v,Pr.z,Bi.z,Rz.v] at *
    generalize b=bv at *
    refine ZH [_,_] func101 ntmps101 fun G w hp=>?_
    refine Zk (ZY 3 zf) ?_
    repeat' (first|refine ZC ?_|refine ZB ?_|refine ZU ?_|refine ZD ?_|refine ZP ?_|refine ZS ?_|refine ZN (fun b=>?_)|refine ZJ ?_|refine ZE ?_|refine ZO ?_|refine Ze ?_|refine ZQ ?_|refine ZR (n0) (fun _ _=>?_)|refine ZA (n1) (fun _ _=>?_)|refine ZA (n2) (fun _ _=>?_)|rw [w1]|rw [w2]|refine Zi (m:=7) (y2 % 7) hlt7 ?_|refine ZV 1 (y2 % 7) 0 hwi ?_|refine ZK 1 [] [(1,0),(2,0),(3,0),(0,4),(4,0),(5,3),(6,0)] [] ?_|(refine ZF (fun hc=>?_) (fun hc=>?_)<;>(try simp at hc)<;>(try omega))|fail)
    refine k_mo fun qr=>?_
    obtain ⟨r1,r2,r3,r4⟩:=qr
    repeat' (first|refine ZC ?_|refine ZB ?_|refine ZD ?_|refine ZP ?_|refine ZS ?_|refine ZO ?_|refine Ze ?_|refine r_al (fun b=>?_)|refine ZQ ?_|refine Yz ZZ g7 _ hx ?_|rw [wn]|refine ZK 49 [] [(0,0),(1,0),(2,0),(3,0),(4,0),(5,0),(6,0),(7,1)] [8] ?_|(refine ZF (fun hc=>?_) (fun hc=>?_)<;>(try simp at hc)<;>(try omega))|fail)
    refine YR (ms:=ms) (r1:=r1) (r2:=r2) (r3:=r3) (r4:=r4) ?_
    rename_i b3 b4 _ _ qq _ b7 _ _ _
    refine YH (X:={t:Nat×Pgs // t.1≤kn∧pgA t.2=zrP (pgA ms.pg) g7 (pgn:Int) ((pgn+t.1:Nat):Int)}) (fun t=>[(0,.pointer (some ⟨bv,0,none⟩)),(3,.pointer (some ⟨b3,0,none⟩)),(4,.pointer (some ⟨b4,0,none⟩)),(5,.string nw),(7,.pointer (some ⟨b7,0,none⟩)),(17,.pointer (some ⟨b,0,none⟩)),(18,.int .i64 (pgn:Int)),(19,.int .i64 ((pgn+t.1.1:Nat):Int))]) (fun _=>[PrF ms.pr,Sl 3 zf none 0 []])
     (fun t=>[MO bv {ms with pg:=t.1.2},Pt b3 (.cells #[.int .u8 y1,.int .u8 y2,.int .i64 (kn:Int),.int .i64 y4,.string y5,.int .i64 x1,.int .i64 x2,.int .i64 x3,.int .i64 x4,.int .i64 x5,.slice o xs.length c,.string x7,.int .i64 x8,.string x9,.int .i64 x10,.int .i64 x11,.string y7,.string y8,.int .i64 y9,.int .i64 y10] 76),Pt b4 (.cells #[.int .i64 0,.string ⟨#[]⟩,.int .i64 0,.int .i64 0,.int .i64 0,.int .i64 0,.int .i64 0,.slice none 0 0,.string ⟨#[]⟩,.int .i64 0,.string ⟨#[]⟩,.int .i64 0,.int .i64 0,.int .i64 0] 79),Pt b7 (.cells #[.int .i64 g1,.int .i64 g2,.int .i64 g3,.int .i64 g4,.int .i64 g5,.slice qq.1 ggs.length qq.2,.string g7,.int .i64 g8,.string g9,.int .i64 g9',.int .i64 g10] 44),Pt b (.cells #[.int .i64 o1,.int .i64 o2,.int .i64 o3,.int .i64 o4,.int .i64 o5,.slice oo os.length oc,.string o7,.int .i64 (pgn:Int),.string o9,.int .i64 o9',.int .i64 o10] 44)])
     (fun t=>kn - t.1.1) ⟨(0,ms.pg),Nat.zero_le _,by dsimp only;rw [Nat.add_zero,zrP_0]⟩ ⟨rfl,rfl,rfl,rfl,rfl,rfl,rfl,rfl,trivial⟩ ?_
    rintro ⟨⟨i,pl⟩,hi,hpl⟩
    dsimp only at hi hpl ⊢
    by_cases hlt:i<kn
    ·have wi:IntKind.i64.wrap (((pgn+i:Nat):Int)+1)=((pgn+(i+1):Nat):Int):=by rw [wrapi (by omega) (by omega)];omega
     have n4:=VM bv {ms with pg:=pl} g7 ((pgn+i:Nat):Int) Xm
     have hcd:decide (((pgn+i:Nat):Int)<(pgn:Int)+(kn:Int))=true:=by simp;omega
     have hii:((pgn+(i+1):Nat):Int)=((pgn+i:Nat):Int)+1:=by omega
     repeat' (first|refine ZC ?_|refine ZB ?_|refine ZD ?_|refine ZP ?_|refine ZJ ?_|refine ZO ?_|refine Ze ?_|refine ZQ ?_|refine XQ (n3) (fun _ _=>?_)|refine ZR (n4) (fun _ _=>?_)|rw [wn]|rw [hcd]|rw [wi]|refine ZK 56 [MO _ _] [(0,0),(1,0),(2,0),(3,0),(4,5),(5,4)] [] ?_|fail)
     rename_i pl' hpl'
     exact ZW ⟨(i+1,pl'),by dsimp only;omega,by dsimp only;rw [hii];exact zrP_step (by omega) (fun a j=>by rw [hpl' a j,←hpl])⟩ (by show kn - (i+1)<kn - i;omega) ⟨rfl,rfl,rfl,rfl,rfl,rfl,rfl,rfl,trivial⟩
    ·obtain rfl:i=kn:=by omega
     have hcd:decide (((pgn+i:Nat):Int)<(pgn:Int)+(i:Int))=false:=by simp
     repeat' (first|refine ZC ?_|refine ZB ?_|refine ZD ?_|refine ZP ?_|refine ZS ?_|refine ZE ?_|refine Zn ?_|rw [wn]|rw [hcd]|fail)
     refine k_mo fun qr=>?_
     obtain ⟨r1,r2,r3,r4⟩:=qr
     repeat' (first|refine ZC ?_|refine ZB ?_|refine ZD ?_|refine ZS ?_|refine ZO ?_|refine Ze ?_|refine ZQ ?_|refine XH (V:=prV) ZZ g7 (⟨o1,o2,o3,o4,o5,os,o7,(pgn:Int)+(i:Int),⟨o9,o9'⟩,o10⟩,oo,oc) ?_|refine ZK 58 [Mp Z0 prV _ _] [(0,0),(1,0),(2,0),(3,0),(4,0),(5,0),(6,0),(7,4)] [] ?_|fail)
     refine k_prF hx ?_
     refine k_prN (a:=g7) (x:=(⟨o1,o2,o3,o4,o5,os,o7,(pgn:Int)+(i:Int),⟨o9,o9'⟩,o10⟩,oo,oc)) ?_
     refine YR (ms:=⟨ms.ep,mset g7 (⟨o1,o2,o3,o4,o5,os,o7,(pgn:Int)+(i:Int),⟨o9,o9'⟩,o10⟩,oo,oc) ms.pr,ms.ch,ms.rg,pl⟩) (r1:=r1) (r2:=r2) (r3:=r3) (r4:=r4) ?_
     exact ZG ((⟨ms.ep,mset g7 (⟨o1,o2,o3,o4,o5,os,o7,(pgn:Int)+(i:Int),⟨o9,o9'⟩,o10⟩,oo,oc) ms.pr,ms.ch,ms.rg,pl⟩:Ms),none,0) rfl (by
      rw [Int.natCast_add] at hpl
      rw [show (absM ms).pg=pgA ms.pg from rfl,←hpl,←absM_pr (x:=(⟨o1,o2,o3,o4,o5,os,o7,(pgn:Int)+(i:Int),⟨o9,o9'⟩,o10⟩,oo,oc))]
      rfl)
section
variable {k:List Fr} {y2:Operand} {gd:Option (Nat×Bool)}
theorem r_sLH2 {s:ByteArray} {z1 z2:Int} {rs:TRow} (lo hi:Nat) (h1:lo≤hi) (h2:hi≤s.size) (nx:Wr n C ops k Q Tl Fs R L ((d,.string (s.extract lo hi))::E) F N)
  (ho:nth ops i=some ⟨some d,.slice t x (some y) (some y2) none,ty0,pos,aft,gd⟩:=by rfl) (hw:wantL ops E ⟨some d,.slice t x (some y) (some y2) none,ty0,pos,aft,gd⟩=some true:=by rfl) (hx:ev E x=some (.string s):=by rfl) (hy:ev E y=some (.int .i64 z1):=by rfl) (hy2:ev E y2=some (.int .i64 z2):=by rfl)
  (hts:lookT tab t=some rs:=by rfl) (hrs:rs.k = .str:=by rfl) (hz1:z1=(lo:Int):=by first|rfl|omega) (hz2:z2=(hi:Int):=by first|rfl|omega):Wr n C ops k Q Tl Fs R ((i,0)::L) E F N:=
 r_q (fun a w ha=>by
  simp only [execOp,Option.map_some,Option.map_none,ha.ev (x:=x) (by rw [ZL];exact hx),ha.ev (x:=y) (by rw [ZL];exact hy),ha.ev (x:=y2) (by rw [ZL];exact hy2),Sem.run_bind,run_sLH2 (w:=w) lo hi h1 h2 hts hrs hz1 hz2,Result.andThen,Sem.run_pure]) nx ho hw
end
theorem stP_0 (f:ByteArray→Int→Option ByteArray) (sp:ByteArray) (lo:Int) (b:ByteArray):stP f sp lo lo b=f:=by
 funext a j
 unfold stP
 rw [if_neg (by omega)]
theorem stP_step {f g:ByteArray→Int→Option ByteArray} {sp b:ByteArray} {lo:Int} {i:Nat} (h:lo≤(i:Int)) (hg:∀a j,g a j=if a=sp∧j=(i:Int) then some (b.extract (64 * i) (64 * i+64)) else stP f sp lo (i:Int) b a j):g=stP f sp lo ((i+1:Nat):Int) b:=by
 funext a j
 rw [hg]
 unfold stP
 by_cases hj:j=(i:Int)
 ·subst hj
  by_cases ha:a=sp
  ·rw [if_pos ⟨ha,rfl⟩,if_pos ⟨ha,h,by omega⟩,Int.toNat_natCast]
  ·rw [if_neg (fun e=>ha e.1),if_neg (fun e=>ha e.1),if_neg (fun e=>ha e.1)]
 ·rw [if_neg (fun e=>hj e.2)]
  by_cases hc:a=sp∧lo≤j∧j<(i:Int)
  ·rw [if_pos hc,if_pos ⟨hc.1,hc.2.1,by omega⟩]
  ·rw [if_neg hc,if_neg (fun e=>hc ⟨e.1,e.2.1,by omega⟩)]
theorem mmF_size {ms:Ms} (hok:ms.Ok) (who:ByteArray):(mmF ms who).1.size≤4096∧((mmF ms who).2=0→∃n,(mmF ms who).1.size=64 * n∧n≤64∧(mgP ms who).2=0):=by
 unfold mmF
 by_cases hg:(mgP ms who).2≠0
 ·rw [if_pos hg];exact ⟨Nat.zero_le _,fun h=>absurd h hg⟩
 ·rw [if_neg hg]
  cases hx:mget (mgP ms who).1.sp ms.pr with
  | none=>exact ⟨Nat.zero_le _,fun h=>by cases h⟩
  | some x=>
   dsimp only
   have hoc:=hok.p _ _ hx
   obtain ⟨-,-,u3,-⟩:=Zg hoc
   unfold pfit at u3
   have hs:=VN (f:=pgA ms.pg (mgP ms who).1.sp) (fun j s h=>hok.g _ j s h) x.1.pg.toNat
   exact ⟨by rw [hs];omega,fun _=>⟨x.1.pg.toNat,hs,by omega,Decidable.not_not.1 hg⟩⟩
set_option maxHeartbeats 8000000 in
theorem do6_ok (b:Nat) (ms:Ms) (hok:ms.Ok2) (q:Oq) (o:Option Addr) (c:Nat) (hB:q.Bd) (hk:q.k % 12=6):Enters 101∧Spec prog 101 #[.pointer (some ⟨b,0,none⟩),q.v o c] [Sl 3 zf o c q.p.gs,PrF ms.pr,P10] [MO b ms] (DoP b ms q):=by
 have n0:=Zc
 obtain ⟨hwi,hw,hne⟩:=Zf q
 have n1:=Zs b ms (ZI q) hw
 have hlt7:q.w % 7<7:=Nat.mod_lt _ (by decide)
 have w1:(q.w:Int).tmod 7=((q.w % 7:Nat):Int):=(Int.ofNat_tmod q.w 7).symm
 have w2:(q.k:Int).tmod 12=6:=by rw [show (12:Int)=((12:Nat):Int) from rfl,←Int.ofNat_tmod,hk];rfl
 unfold DoP ado
 rw [hk]
 simp only [show ¬((6:Nat)=0) by decide,show ¬((6:Nat)=1) by decide,show ¬((6:Nat)=2) by decide,show ¬((6:Nat)=3) by decide,show ¬((6:Nat)=4) by decide,show ¬((6:Nat)=5) by decide,if_false,if_true]
 have n2:=mmem35_ok b ms hok.ok (ZI q) hw
 have hms:=mmF_size hok.ok (ZI q)
 have htb:=hB.t
 clear hok hB
 rw [amem_m,Yg]
 generalize mmF ms (ZI q)=MF at *
 obtain ⟨mb,me⟩:=MF
 generalize mgP ms (ZI q)=X at *
 obtain ⟨⟨g1,g2,g3,g4,g5,ggs,g7,g8,⟨g9,g9'⟩,g10⟩,ge⟩:=X
 generalize hnw:ZI q=nw at *
 clear hnw
 dsimp only at hms ⊢
 obtain ⟨hms1,hms2⟩:=hms
 by_cases hme:me≠0
 ·simp only [if_pos hme]
  clear hms2
  obtain ⟨y1,y2,y3,y4,y5,⟨x1,x2,x3,x4,x5,xs,x7,x8,⟨x9,x10⟩,x11⟩,y7,y8,y9,y10⟩:=q
  simp only [Oq.v,Pr.v,er,Pr.z,Bi.z,Rz.v] at *
  generalize b=bv at *
  refine ZH [_,_] func101 ntmps101 fun G w hp=>?_
  refine Zk (ZY 3 zf) ?_
  repeat' (first|refine ZC ?_|refine ZB ?_|refine ZD ?_|refine ZP ?_|refine ZS ?_|refine ZN (fun b=>?_)|refine ZJ ?_|refine ZE ?_|refine ZO ?_|refine Ze ?_|refine ZQ ?_|refine ZR (n0) (fun _ _=>?_)|refine ZA (n1) (fun _ _=>?_)|refine ZA (n2) (fun _ _=>?_)|rw [w1]|rw [w2]|refine Zi (m:=7) (y2 % 7) hlt7 ?_|refine ZV 1 (y2 % 7) 0 hwi ?_|refine ZK 1 [] [(1,0),(2,0),(3,0),(0,4),(4,0),(5,3),(6,0)] [] ?_|(refine ZF (fun hc=>?_) (fun hc=>?_)<;>(try simp at hc)<;>(try omega))|fail)
  exact ZG (ms,none,0) rfl rfl
 ·obtain rfl:me=0:=by omega
  simp only [if_neg hme]
  obtain ⟨npg,hmn,hnp,hge⟩:=hms2 rfl
  subst hge
  clear hms2
  by_cases ht0:q.t.size=0
  ·have hE:(q.t.toList == (⟨#[]⟩:ByteArray).toList)=true:=by
    have e0:q.t=⟨#[]⟩:=by
     have:q.t.data.size=0:=ht0
     exact XT (by rw [Array.eq_empty_of_size_eq_zero this])
    rw [e0];simp
   simp only [ht0,ne_eq,not_true_eq_false,false_and,if_false,if_true]
   clear ht0
   obtain ⟨y1,y2,y3,y4,y5,⟨x1,x2,x3,x4,x5,xs,x7,x8,⟨x9,x10⟩,x11⟩,y7,y8,y9,y10⟩:=q
   simp only [Oq.v,Pr.v,er,Pr.z,Bi.z,Rz.v] at *
   generalize b=bv at *
   refine ZH [_,_] func101 ntmps101 fun G w hp=>?_
   refine Zk (ZY 3 zf) ?_
   repeat' (first|refine ZC ?_|refine ZB ?_|refine ZU ?_|refine ZD ?_|refine ZP ?_|refine ZS ?_|refine ZN (fun b=>?_)|refine ZJ ?_|refine ZE ?_|refine ZO ?_|refine Ze ?_|refine ZQ ?_|refine ZR (n0) (fun _ _=>?_)|refine ZA (n1) (fun _ _=>?_)|refine ZA (n2) (fun _ _=>?_)|rw [w1]|rw [w2]|refine Zi (m:=7) (y2 % 7) hlt7 ?_|refine ZV 1 (y2 % 7) 0 hwi ?_|rw [hE]|refine ZK 1 [] [(1,0),(2,0),(3,0),(0,4),(4,0),(5,3),(6,0)] [] ?_|fail)
   exact ZG (ms,none,0) rfl rfl
  ·have hE:(q.t.toList == (⟨#[]⟩:ByteArray).toList)=false:=by
    rw [beqSv]
    simp only [decide_eq_false_iff_not]
    intro e
    rw [e] at ht0
    exact ht0 rfl
   simp only [ht0,ne_eq,not_false_eq_true,true_and,if_false]
   by_cases hin:0≤q.a∧q.a≤4096
   ·have wa:IntKind.i64.wrap (q.a+(q.t.size:Int))=q.a+(q.t.size:Int):=wrapi (by omega) (by omega)
    by_cases hbad:(mb.size:Int)<q.a+(q.t.size:Int)
    ·rw [if_pos (.inr (.inr hbad))]
     obtain ⟨y1,y2,y3,y4,y5,⟨x1,x2,x3,x4,x5,xs,x7,x8,⟨x9,x10⟩,x11⟩,y7,y8,y9,y10⟩:=q
     simp only [Oq.v,Pr.v,er,Pr.z,Bi.z,Rz.v] at *
     generalize b=bv at *
     refine ZH [_,_] func101 ntmps101 fun G w hp=>?_
     refine Zk (ZY 3 zf) ?_
     repeat' (first|refine ZC ?_|refine ZB ?_|refine ZU ?_|refine ZD ?_|refine ZP ?_|refine ZS ?_|refine ZN (fun b=>?_)|refine ZJ ?_|refine ZE ?_|refine ZO ?_|refine Ze ?_|refine ZQ ?_|refine ZR (n0) (fun _ _=>?_)|refine ZA (n1) (fun _ _=>?_)|refine ZA (n2) (fun _ _=>?_)|rw [w1]|rw [w2]|refine Zi (m:=7) (y2 % 7) hlt7 ?_|refine ZV 1 (y2 % 7) 0 hwi ?_|rw [hE]|rw [wa]|(refine ZT (fun hc=>?_) (fun hc=>?_)<;>(try simp at hc)<;>(try omega))|refine ZK 1 [] [(1,0),(2,0),(3,0),(0,4),(4,0),(5,3),(6,0)] [] ?_|(refine ZF (fun hc=>?_) (fun hc=>?_)<;>(try simp at hc)<;>(try omega))|fail)
     all_goals exact ZG (ms,none,0) rfl rfl
    ·rw [if_neg (by omega)]
     obtain ⟨kk,hkk⟩:∃kk:Nat,q.a=(kk:Int):=⟨q.a.toNat,by omega⟩
     rw [hkk] at wa hbad ⊢
     simp only [Int.toNat_natCast]
     have hfit:kk+q.t.size≤mb.size:=by omega
     generalize htz:q.t.size=tz at *
     have hsp:spl mb kk q.t=mb.extract 0 kk++q.t++mb.extract (kk+tz) mb.size:=by unfold spl;rw [htz]
     rw [hsp]
     have hsz:(spl mb kk q.t).size=mb.size:=by rw [hsp,ByteArray.size_append,ByteArray.size_append,ByteArray.size_extract,ByteArray.size_extract,htz];omega
     have hk8:kk≤mb.size:=by omega
     have hc1:(mb.extract 0 kk).size+q.t.size≤9223372036854775807:=by rw [ByteArray.size_extract];omega
     have hc2:(mb.extract 0 kk++q.t).size+(mb.extract (kk+tz) mb.size).size≤9223372036854775807:=by rw [ByteArray.size_append,ByteArray.size_extract,ByteArray.size_extract];omega
     have wa2:IntKind.i64.wrap ((kk:Int)+(tz:Int))=((kk+tz:Nat):Int):=by rw [wrapi (by omega) (by omega)];omega
     have wa3:IntKind.i64.wrap (((kk+tz:Nat):Int) - 1)=((kk+tz - 1:Nat):Int):=by rw [wrapi (by omega) (by omega)];omega
     have td1:(kk:Int).tdiv 64=((kk / 64:Nat):Int):=by rw [Int.tdiv_eq_ediv_of_nonneg (Int.natCast_nonneg _)];exact (Int.natCast_ediv _ 64).symm
     have td2:((kk+tz - 1:Nat):Int).tdiv 64=(((kk+tz - 1) / 64:Nat):Int):=by rw [Int.tdiv_eq_ediv_of_nonneg (Int.natCast_nonneg _)];exact (Int.natCast_ediv _ 64).symm
     have wd1:IntKind.i64.wrap ((kk / 64:Nat):Int)=((kk / 64:Nat):Int):=wrapi (by omega) (by omega)
     have wd2:IntKind.i64.wrap (((kk+tz - 1) / 64:Nat):Int)=(((kk+tz - 1) / 64:Nat):Int):=wrapi (by omega) (by omega)
     have hgt:decide (((kk+tz:Nat):Int) > (mb.size:Int))=false:=by simp;omega
     have hkk2:=hkk
     obtain ⟨y1,y2,y3,y4,y5,⟨x1,x2,x3,x4,x5,xs,x7,x8,⟨x9,x10⟩,x11⟩,y7,y8,y9,y10⟩:=q
     dsimp only at hkk hkk2 htz hsp hsz hc1 hc2
     subst hkk
     simp only [Oq.v,Pr.v,er,Pr.z,Bi.z,Rz.v] at *
     generalize b=bv at *
     refine ZH [_,_] func101 ntmps101 fun G w hp=>?_
     refine Zk (ZY 3 zf) ?_
     repeat' (first|refine ZC ?_|refine ZB ?_|refine ZU ?_|refine ZD ?_|refine ZP ?_|refine ZS ?_|refine ZN (fun b=>?_)|refine ZJ ?_|refine ZE ?_|refine ZO ?_|refine Ze ?_|refine ZQ ?_|refine ZR (n0) (fun _ _=>?_)|refine ZA (n1) (fun _ _=>?_)|refine ZA (n2) (fun _ _=>?_)|rw [w1]|rw [w2]|refine Zi (m:=7) (y2 % 7) hlt7 ?_|refine ZV 1 (y2 % 7) 0 hwi ?_|rw [hE]|rw [htz]|rw [wa2]|rw [td1]|rw [wd1]|refine r_sH kk hk8 ?_|refine r_send (kk+tz) hfit ?_|refine r_cat ?_ (h:=hc1)|refine r_cat ?_ (h:=hc2)|(refine ZT (fun hc=>?_) (fun hc=>?_)<;>(try simp at hc)<;>(try omega))|refine ZK 1 [] [(1,0),(2,0),(3,0),(0,4),(4,0),(5,3),(6,0)] [] ?_|refine ZK 37 [] [(0,0),(1,0),(2,0),(3,0),(4,0),(5,0),(6,0),(7,0),(8,0),(9,0),(10,0),(11,0),(12,0),(13,0),(14,0),(15,0),(16,0)] [] ?_|(refine ZF (fun hc=>?_) (fun hc=>?_)<;>(try simp at hc)<;>(try omega))|fail)
     rename_i b3 b4 _ _ qq _ _ _ _
     have hBz:(mb.extract 0 kk++y5++mb.extract (kk+tz) mb.size).size=mb.size:=by rw [←hsp];exact hsz
     clear hsp hsz hc1 hc2
     generalize mb.extract 0 kk++y5++mb.extract (kk+tz) mb.size=BB at *
     refine YH (X:={t:Nat×Pgs // (kk / 64≤t.1∧t.1≤(kk+tz - 1) / 64+1)∧pgA t.2=stP (pgA ms.pg) g7 ((kk / 64:Nat):Int) (t.1:Int) BB}) (fun t=>[(0,.pointer (some ⟨bv,0,none⟩)),(3,.pointer (some ⟨b3,0,none⟩)),(4,.pointer (some ⟨b4,0,none⟩)),(7,.pointer (some ⟨b,0,none⟩)),(12,.string BB),(14,.int .i64 (t.1.1:Int))]) (fun _=>[PrF ms.pr,Sl 3 zf none 0 []])
      (fun t=>[MO bv {ms with pg:=t.1.2},Pt b3 (.cells #[.int .u8 y1,.int .u8 y2,.int .i64 y3,.int .i64 (kk:Int),.string y5,.int .i64 x1,.int .i64 x2,.int .i64 x3,.int .i64 x4,.int .i64 x5,.slice o xs.length c,.string x7,.int .i64 x8,.string x9,.int .i64 x10,.int .i64 x11,.string y7,.string y8,.int .i64 y9,.int .i64 y10] 76),Pt b4 (.cells #[.int .i64 0,.string ⟨#[]⟩,.int .i64 0,.int .i64 0,.int .i64 0,.int .i64 0,.int .i64 0,.slice none 0 0,.string ⟨#[]⟩,.int .i64 0,.string ⟨#[]⟩,.int .i64 0,.int .i64 0,.int .i64 0] 79),Pt b (.cells #[.int .i64 g1,.int .i64 g2,.int .i64 g3,.int .i64 g4,.int .i64 g5,.slice qq.1 ggs.length qq.2,.string g7,.int .i64 g8,.string g9,.int .i64 g9',.int .i64 g10] 44)])
      (fun t=>(kk+tz - 1) / 64+1 - t.1.1) ⟨(kk / 64,ms.pg),⟨Nat.le_refl _,by dsimp only;omega⟩,by dsimp only;rw [stP_0]⟩ ⟨rfl,rfl,rfl,rfl,rfl,rfl,trivial⟩ ?_
     rintro ⟨⟨i,pl⟩,⟨hi1,hi2⟩,hpl⟩
     dsimp only at hi1 hi2 hpl ⊢
     by_cases hlt:i≤(kk+tz - 1) / 64
     ·have wi:IntKind.i64.wrap ((i:Int)+1)=((i+1:Nat):Int):=by rw [wrapi (by omega) (by omega)];omega
      have w64:IntKind.i64.wrap (64 * (i:Int))=((64 * i:Nat):Int):=by rw [wrapi (by omega) (by omega)];omega
      have w65:IntKind.i64.wrap (((64 * i:Nat):Int)+64)=((64 * i+64:Nat):Int):=by rw [wrapi (by omega) (by omega)];omega
      have n4:=VM bv {ms with pg:=pl} g7 (i:Int) (BB.extract (64 * i) (64 * i+64))
      have hlo:64 * i≤64 * i+64:=by omega
      have hhi:64 * i+64≤BB.size:=by omega
      repeat' (first|refine ZC ?_|refine ZB ?_|refine ZD ?_|refine ZP ?_|refine ZO ?_|refine Ze ?_|refine ZQ ?_|refine ZR (n4) (fun _ _=>?_)|rw [htz]|rw [wa2]|rw [wa3]|rw [td2]|rw [wd2]|rw [w64]|rw [w65]|rw [wi]|refine r_sLH2 (64 * i) (64 * i+64) hlo hhi ?_|refine ZK 41 [MO _ _] [(0,0),(1,0),(2,0),(3,0),(4,0),(5,0),(6,0),(7,0),(8,0),(9,0),(10,0),(11,4)] [] ?_|(refine ZF (fun hc=>?_) (fun hc=>?_)<;>(try simp at hc)<;>(try omega))|fail)
      rename_i pl' hpl'
      exact ZW ⟨(i+1,pl'),⟨by dsimp only;omega,by dsimp only;omega⟩,by dsimp only;exact stP_step (by omega) (fun a j=>by rw [hpl' a j,←hpl])⟩ (by show (kk+tz - 1) / 64+1 - (i+1)<(kk+tz - 1) / 64+1 - i;omega) ⟨rfl,rfl,rfl,rfl,rfl,rfl,trivial⟩
     ·obtain rfl:i=(kk+tz - 1) / 64+1:=by omega
      repeat' (first|refine ZC ?_|refine ZB ?_|refine ZD ?_|refine ZP ?_|refine ZS ?_|refine Zn ?_|rw [htz]|rw [wa2]|rw [wa3]|rw [td2]|rw [wd2]|(refine ZF (fun hc=>?_) (fun hc=>?_)<;>(try simp at hc)<;>(try omega))|fail)
      exact ZG (({ms with pg:=pl}:Ms),none,0) rfl (by
       rw [show (absM ms).pg=pgA ms.pg from rfl,←hpl]
       rfl)
   ·have hb2:q.a<0∨4096<q.a:=by omega
    rw [if_pos (by rcases hb2 with h|h;exact .inl h;exact .inr (.inl h))]
    obtain ⟨y1,y2,y3,y4,y5,⟨x1,x2,x3,x4,x5,xs,x7,x8,⟨x9,x10⟩,x11⟩,y7,y8,y9,y10⟩:=q
    simp only [Oq.v,Pr.v,er,Pr.z,Bi.z,Rz.v] at *
    generalize b=bv at *
    refine ZH [_,_] func101 ntmps101 fun G w hp=>?_
    refine Zk (ZY 3 zf) ?_
    repeat' (first|refine ZC ?_|refine ZB ?_|refine ZU ?_|refine ZD ?_|refine ZP ?_|refine ZS ?_|refine ZN (fun b=>?_)|refine ZJ ?_|refine ZE ?_|refine ZO ?_|refine Ze ?_|refine ZQ ?_|refine ZR (n0) (fun _ _=>?_)|refine ZA (n1) (fun _ _=>?_)|refine ZA (n2) (fun _ _=>?_)|rw [w1]|rw [w2]|refine Zi (m:=7) (y2 % 7) hlt7 ?_|refine ZV 1 (y2 % 7) 0 hwi ?_|rw [hE]|(refine ZT (fun hc=>?_) (fun hc=>?_)<;>(try simp at hc)<;>(try omega))|refine ZK 1 [] [(1,0),(2,0),(3,0),(0,4),(4,0),(5,3),(6,0)] [] ?_|fail)
    all_goals exact ZG (ms,none,0) rfl rfl
set_option maxHeartbeats 4000000 in
theorem equal35_ok (p q:Pr) (o1 o2:Option Addr) (c1 c2:Nat) (h1:p.gs.length≤1099511627776) (h2:q.gs.length≤1099511627776):Enters 20∧Spec prog 20 #[p.v o1 c1,q.v o2 c2] [Sl 3 zf o1 c1 p.gs,Sl 3 zf o2 c2 q.gs] [] (RetV (.bool (decide (p=q)))):=by
 have he:=pr_eq p q
 have hsp:(p.sp.toList == q.sp.toList)=decide (p.sp=q.sp):=beqSv _ _
 have hdr:=eqBi2 p.dr q.dr
 generalize hr:decide (p=q)=r
 obtain ⟨a1,a2,a3,a4,a5,xs,a7,a8,a9,a10⟩:=p
 obtain ⟨b1,b2,b3,b4,b5,ys,b7,b8,b9,b10⟩:=q
 dsimp only at *
 obtain ⟨d1,d2⟩:=a9
 obtain ⟨e1,e2⟩:=b9
 simp only [Bi.v] at hdr
 have bad:xs≠ys→r=false:=fun h=>by
  rw [←hr,decide_eq_false_iff_not,he]
  rintro ⟨⟨⟨⟨⟨_,g⟩,_⟩,_⟩,_⟩,_⟩
  exact h g
 refine ZH [_,_] func20 ntmps20 fun G w hp=>?_
 by_cases hlen:xs.length=ys.length
 ·repeat' (first|refine ZC ?_|refine ZB ?_|refine ZD ?_|refine ZP ?_|refine ZN (fun b=>?_)|(refine ZF (fun hc=>?_) (fun hc=>?_)<;>(try simp at hc)<;>(try omega))|fail)
  rename_i bA
  refine YH (X:={i:Nat // i≤xs.length∧xs.take i=ys.take i}) (fun i=>[(2,.pointer (some ⟨bA,0,none⟩)),(3,.pointer (some ⟨b,0,none⟩)),(5,.int .i64 (i.1:Int))]) (fun _=>[Sl 3 zf o1 c1 xs,Sl 3 zf o2 c2 ys]) (fun _=>[Pt bA (.cells #[.int .i64 a1,.int .i64 a2,.int .i64 a3,.int .i64 a4,.int .i64 a5,.slice o1 xs.length c1,.string a7,.int .i64 a8,.string d1,.int .i64 d2,.int .i64 a10] 44),Pt b (.cells #[.int .i64 b1,.int .i64 b2,.int .i64 b3,.int .i64 b4,.int .i64 b5,.slice o2 ys.length c2,.string b7,.int .i64 b8,.string e1,.int .i64 e2,.int .i64 b10] 44)]) (fun i=>xs.length - i.1) ⟨0,by omega,rfl⟩ ⟨rfl,rfl,rfl,trivial⟩ ?_
  rintro ⟨i,hi1,hi2⟩
  dsimp only
  by_cases hlt:i<xs.length
  ·obtain ⟨u,ha⟩:∃u,xs[i]? = some u:=⟨_,List.getElem?_eq_getElem hlt⟩
   obtain ⟨v,hb⟩:∃v,ys[i]? = some v:=⟨_,List.getElem?_eq_getElem (by omega)⟩
   by_cases hab:u=v
   ·repeat' (first|refine ZC ?_|refine ZB ?_|refine ZD ?_|refine ZP ?_|refine ZO ?_|refine Ze ?_|refine ZQ ?_|refine Wp (es:=xs) i u ha (fun b off=>?_)|refine Wp (es:=ys) i v hb (fun b off=>?_)|refine r_ldC ?_|refine ZK 6 [] [(0,0),(1,0),(2,0),(3,0),(4,0),(5,0),(6,0),(7,0),(8,0),(9,0),(10,0),(11,0),(12,0)] [] ?_|(refine ZF (fun hc=>?_) (fun hc=>?_)<;>(try simp at hc)<;>(try omega))|fail)
    rw [wrapi (z:=(i:Int)+1) (by omega) (by omega)]
    refine ZW ⟨i+1,by omega,?_⟩ (by show xs.length - (i+1)<xs.length - i;omega) ⟨rfl,rfl,rfl,trivial⟩
    rw [List.take_add_one,List.take_add_one,hi2,ha,hb,hab]
   ·have e:r=false:=bad fun h=>by
     subst h
     exact hab (Option.some.inj (ha.symm.trans hb))
    rw [e]
    repeat' (first|refine ZC ?_|refine ZB ?_|refine ZD ?_|refine ZP ?_|refine ZO ?_|refine Ze ?_|refine ZQ ?_|refine Wp (es:=xs) i u ha (fun b off=>?_)|refine Wp (es:=ys) i v hb (fun b off=>?_)|refine r_ldC ?_|refine ZK 6 [] [(0,0),(1,0),(2,0),(3,0),(4,0),(5,0),(6,0),(7,0),(8,0),(9,0),(10,0),(11,0),(12,0)] [] ?_|(refine ZF (fun hc=>?_) (fun hc=>?_)<;>(try simp at hc)<;>(try omega))|fail)
    exact Y5 (XK (YS () rfl trivial))
  ·have e:xs=ys:=by
    rw [List.take_of_length_le (by omega),List.take_of_length_le (by omega)] at hi2
    exact hi2
   repeat' (first|refine l_seq ?_ (he:=hdr)|refine ZC ?_|refine ZB ?_|refine ZU ?_|refine ZD ?_|refine ZP ?_|refine Zn ?_|rw [hsp]|(refine ZT (fun hc=>?_) (fun hc=>?_)<;>(try simp at hc)<;>(try omega))|(refine ZF (fun hc=>?_) (fun hc=>?_)<;>(try simp at hc)<;>(try omega))|fail)
   all_goals (
    refine ZG () ?_ trivial
    clear hsp hdr bad hi2
    refine congrArg Value.bool ?_
    rw [←hr,Bool.eq_iff_iff,decide_eq_true_iff,he]
    simp_all)
 ·have e:r=false:=bad fun h=>hlen (by rw [h])
  rw [e]
  repeat' (first|refine ZC ?_|refine ZB ?_|refine ZD ?_|refine ZP ?_|refine ZN (fun b=>?_)|(refine ZF (fun hc=>?_) (fun hc=>?_)<;>(try simp at hc)<;>(try omega))|fail)
  exact ZG () rfl trivial
theorem do35_ok (b:Nat) (ms:Ms) (hok:ms.Ok2) (hep:0≤ms.ep∧ms.ep≤1000000) (q:Oq) (o:Option Addr) (c:Nat) (hB:q.Bd):Enters 101∧Spec prog 101 #[.pointer (some ⟨b,0,none⟩),q.v o c] [Sl 3 zf o c q.p.gs,PrF ms.pr,P10] [MO b ms] (DoP b ms q):=by
 have h:=Nat.mod_lt q.k (show 0<12 by decide)
 rcases (show q.k % 12=0∨q.k % 12=1∨q.k % 12=2∨q.k % 12=3∨q.k % 12=4∨q.k % 12=5∨q.k % 12=6∨q.k % 12=7∨q.k % 12=8∨q.k % 12=9∨q.k % 12=10∨q.k % 12=11 by omega) with h|h|h|h|h|h|h|h|h|h|h|h
 ·exact do0_ok b ms q o c hB h
 ·exact do1_ok b ms hok q o c hB h
 ·exact do2_ok b ms hok q o c hB h
 ·exact do3_ok b ms hok q o c hB h
 ·exact do4_ok b ms hok q o c hB h
 ·exact do5_ok b ms hok q o c hB h
 ·exact do6_ok b ms hok q o c hB h
 ·exact do7_ok b ms hok q o c hB h
 ·exact do8_ok b ms hok q o c hB h
 ·exact do9_ok b ms q o c h hep
 ·exact do10_ok b ms q o c h
 ·exact do11_ok b ms hok q o c hB h
theorem same35_ok (r:Rz) (hl:r.p.gs.length≤1099511627776) (o1 o2:Option Addr) (c1 c2:Nat):Enters 103∧Spec prog 103 #[r.v o1 c1,r.v o2 c2] [Sl 3 zf o1 c1 r.p.gs,Sl 3 zf o2 c2 r.p.gs] [] (RetV (.bool true)):=by
 have n1:=equal35_ok r.p r.p o1 o2 c1 c2 hl hl
 rw [show decide (r.p=r.p)=true by simp] at n1
 obtain ⟨rn,rm,⟨a1,a2,a3,a4,a5,gs,a7,a8,⟨a9,a9'⟩,a10⟩,re⟩:=r
 simp only [Rz.v,Pr.v] at n1 ⊢
 have hE:(rm.toList == rm.toList)=true:=by simp
 have hn:(rn == rn)=true:=by simp
 have he:(re == re)=true:=by simp
 refine ZH [_,_] func103 ntmps103 fun G w hp=>?_
 repeat' (first|refine ZC ?_|refine ZB ?_|refine ZU ?_|refine ZD ?_|refine ZP ?_|refine ZN (fun b=>?_)|refine ZA (n1) (fun _ _=>?_)|rw [hE]|rw [hn]|rw [he]|fail)
 all_goals exact ZG () rfl trivial
section
open VP
section
variable (b:Nat) (ps:Option Addr) (es:Al) (q:Oq) (o:Option Addr) (c:Nat) (hS:Sml es []) (hB:q.Bd)
include hS in
theorem perf7_ok (rs:List (Nm×Ch)) (hk:q.k % 12=7):Enters 33∧Spec prog 33 #[.pointer (some ⟨b,0,none⟩),q.v o c] [Sl 3 zf o c q.p.gs,St ps es,Usg,P10] [Vw b ps rs []] (PfP b ps es q rs):=by
 have n0:=Zc
 obtain ⟨hwi,hw,hne⟩:=Zf q
 have m:=growG_ok b ps es rs [] (ZI q) q.n hS hw (Nat.zero_le _)
 have hN:PN es q ((pGrow (ZI q) q.n).run es []).2.1:=by
  unfold PN perfN
  rw [hk]
  simp
 unfold PfP perfF
 rw [hk]
 simp only [show ¬((7:Nat)=0) by decide,show ¬((7:Nat)=1) by decide,show ¬((7:Nat)=2) by decide,show ¬((7:Nat)=3) by decide,show ¬((7:Nat)=4) by decide,show ¬((7:Nat)=5) by decide,show ¬((7:Nat)=6) by decide,if_false,if_true]
 generalize (pGrow (ZI q) q.n).run es []=X at *
 generalize ZI q=nw at *
 have hlt7:q.w % 7<7:=Nat.mod_lt _ (by decide)
 have w1:(q.w:Int).tmod 7=((q.w % 7:Nat):Int):=(Int.ofNat_tmod q.w 7).symm
 have w2:(q.k:Int).tmod 12=7:=by rw [show (12:Int)=((12:Nat):Int) from rfl,←Int.ofNat_tmod,hk];rfl
 obtain ⟨y1,y2,y3,y4,y5,⟨x1,x2,x3,x4,x5,xs,x7,x8,⟨x9,x10⟩,x11⟩,y7,y8,y9,y10⟩:=q
 simp only [Oq.v,Pr.z,Bi.z,Rz.v] at *
 generalize b=bv at *
 refine ZH [_,_] func33 ntmps33 fun G w hp=>?_
 refine Zk (ZY 3 zf) ?_
 repeat' (first|refine ZC ?_|refine ZB ?_|refine ZD ?_|refine ZP ?_|refine ZS ?_|refine ZN (fun b=>?_)|refine ZJ ?_|refine ZE ?_|refine ZO ?_|refine Ze ?_|refine ZQ ?_|refine ZR (n0) (fun _ _=>?_)|refine ZA (m) (fun _ _=>?_)|rw [w1]|rw [w2]|refine Zi (m:=7) (y2 % 7) hlt7 ?_|refine ZV 1 (y2 % 7) 0 hwi ?_|refine ZK 2 [] [(1,0),(2,0),(3,0),(0,4),(4,0),(5,3),(6,0)] [] ?_|fail)
 exact ZG ((none,0),_) rfl ⟨_,rfl,hN⟩
include hS hB in
theorem perf8_ok (rs:List (Nm×Ch)) (hk:q.k % 12=8):Enters 33∧Spec prog 33 #[.pointer (some ⟨b,0,none⟩),q.v o c] [Sl 3 zf o c q.p.gs,St ps es,Usg,P10] [Vw b ps rs []] (PfP b ps es q rs):=by
 have n0:=Zc
 obtain ⟨hwi,hw,hne⟩:=Zf q
 have m:=loadG_ok q.im hB.c hB.e b ps es rs (ZI q) hS hw
 have hN:PN es q ((pLoad (ZI q) q.im).run es []).2.1:=by
  unfold PN perfN
  rw [hk]
  simp
 unfold PfP perfF
 rw [hk]
 simp only [show ¬((8:Nat)=0) by decide,show ¬((8:Nat)=1) by decide,show ¬((8:Nat)=2) by decide,show ¬((8:Nat)=3) by decide,show ¬((8:Nat)=4) by decide,show ¬((8:Nat)=5) by decide,show ¬((8:Nat)=6) by decide,show ¬((8:Nat)=7) by decide,if_false,if_true]
 generalize (pLoad (ZI q) q.im).run es []=X at *
 generalize ZI q=nw at *
 have hlt7:q.w % 7<7:=Nat.mod_lt _ (by decide)
 have w1:(q.w:Int).tmod 7=((q.w % 7:Nat):Int):=(Int.ofNat_tmod q.w 7).symm
 have w2:(q.k:Int).tmod 12=8:=by rw [show (12:Int)=((12:Nat):Int) from rfl,←Int.ofNat_tmod,hk];rfl
 clear hB
 obtain ⟨y1,y2,y3,y4,y5,⟨x1,x2,x3,x4,x5,xs,x7,x8,⟨x9,x10⟩,x11⟩,y7,y8,y9,y10⟩:=q
 simp only [Oq.v,Pr.z,Bi.z,Rz.v,Oq.im,Im.v] at *
 generalize b=bv at *
 refine ZH [_,_] func33 ntmps33 fun G w hp=>?_
 refine Zk (ZY 3 zf) ?_
 repeat' (first|refine ZC ?_|refine ZB ?_|refine ZD ?_|refine ZP ?_|refine ZS ?_|refine ZN (fun b=>?_)|refine ZJ ?_|refine ZE ?_|refine ZO ?_|refine Ze ?_|refine ZQ ?_|refine ZR (n0) (fun _ _=>?_)|refine ZA (m) (fun _ _=>?_)|rw [w1]|rw [w2]|refine Zi (m:=7) (y2 % 7) hlt7 ?_|refine ZV 1 (y2 % 7) 0 hwi ?_|refine ZK 2 [] [(1,0),(2,0),(3,0),(0,4),(4,0),(5,3),(6,0)] [] ?_|fail)
 exact ZG ((none,0),_) rfl ⟨_,rfl,hN⟩
include hS in
theorem perf9_ok (rs:List (Nm×Ch)) (hk:q.k % 12=9):Enters 33∧Spec prog 33 #[.pointer (some ⟨b,0,none⟩),q.v o c] [Sl 3 zf o c q.p.gs,St ps es,Usg,P10] [Vw b ps rs []] (PfP b ps es q rs):=by
 have n0:=Zc
 obtain ⟨hwi,hw,hne⟩:=Zf q
 have m:=bootG_ok b ps es rs [] hS (Nat.zero_le _)
 have hN:PN es q (pBoot.run es []).2.1:=by
  unfold PN perfN
  rw [hk]
  simp
 unfold PfP perfF
 rw [hk]
 simp only [show ¬((9:Nat)=0) by decide,show ¬((9:Nat)=1) by decide,show ¬((9:Nat)=2) by decide,show ¬((9:Nat)=3) by decide,show ¬((9:Nat)=4) by decide,show ¬((9:Nat)=5) by decide,show ¬((9:Nat)=6) by decide,show ¬((9:Nat)=7) by decide,show ¬((9:Nat)=8) by decide,if_false,if_true]
 generalize pBoot.run es []=X at *
 generalize ZI q=nw at *
 have hlt7:q.w % 7<7:=Nat.mod_lt _ (by decide)
 have w1:(q.w:Int).tmod 7=((q.w % 7:Nat):Int):=(Int.ofNat_tmod q.w 7).symm
 have w2:(q.k:Int).tmod 12=9:=by rw [show (12:Int)=((12:Nat):Int) from rfl,←Int.ofNat_tmod,hk];rfl
 obtain ⟨y1,y2,y3,y4,y5,⟨x1,x2,x3,x4,x5,xs,x7,x8,⟨x9,x10⟩,x11⟩,y7,y8,y9,y10⟩:=q
 simp only [Oq.v,Pr.z,Bi.z,Rz.v] at *
 generalize b=bv at *
 refine ZH [_,_] func33 ntmps33 fun G w hp=>?_
 refine Zk (ZY 3 zf) ?_
 repeat' (first|refine ZC ?_|refine ZB ?_|refine ZD ?_|refine ZP ?_|refine ZS ?_|refine ZN (fun b=>?_)|refine ZJ ?_|refine ZE ?_|refine ZO ?_|refine Ze ?_|refine ZQ ?_|refine ZR (n0) (fun _ _=>?_)|refine ZA (m) (fun _ _=>?_)|rw [w1]|rw [w2]|refine Zi (m:=7) (y2 % 7) hlt7 ?_|refine ZV 1 (y2 % 7) 0 hwi ?_|refine ZK 2 [] [(1,0),(2,0),(3,0),(0,4),(4,0),(5,3),(6,0)] [] ?_|fail)
 exact ZG ((none,0),_) rfl ⟨_,rfl,hN⟩
include hS in
theorem perf11_ok (rs:List (Nm×Ch)) (hk:q.k % 12=11):Enters 33∧Spec prog 33 #[.pointer (some ⟨b,0,none⟩),q.v o c] [Sl 3 zf o c q.p.gs,St ps es,Usg,P10] [Vw b ps rs []] (PfP b ps es q rs):=by
 have n0:=Zc
 obtain ⟨hwi,hw,hne⟩:=Zf q
 have m:=VO b ps es rs [] (ZI q) hS hw
 have hN:PN es q ((pGet (ZI q)).run es []).2.1:=by
  unfold PN perfN
  rw [hk]
  simp
 unfold PfP perfF
 rw [hk]
 simp only [show ¬((11:Nat)=0) by decide,show ¬((11:Nat)=1) by decide,show ¬((11:Nat)=2) by decide,show ¬((11:Nat)=3) by decide,show ¬((11:Nat)=4) by decide,show ¬((11:Nat)=5) by decide,show ¬((11:Nat)=6) by decide,show ¬((11:Nat)=7) by decide,show ¬((11:Nat)=8) by decide,show ¬((11:Nat)=9) by decide,show ¬((11:Nat)=10) by decide,if_false]
 generalize (pGet (ZI q)).run es []=X at *
 generalize ZI q=nw at *
 obtain ⟨⟨⟨r1,r2,r3,r4,r5,rgs,r7,r8,⟨r9,r9'⟩,r10⟩,re⟩,N,cs1⟩:=X
 simp only [Pr.v] at m
 have hlt7:q.w % 7<7:=Nat.mod_lt _ (by decide)
 have w1:(q.w:Int).tmod 7=((q.w % 7:Nat):Int):=(Int.ofNat_tmod q.w 7).symm
 have w2:(q.k:Int).tmod 12=11:=by rw [show (12:Int)=((12:Nat):Int) from rfl,←Int.ofNat_tmod,hk];rfl
 obtain ⟨y1,y2,y3,y4,y5,⟨x1,x2,x3,x4,x5,xs,x7,x8,⟨x9,x10⟩,x11⟩,y7,y8,y9,y10⟩:=q
 simp only [Oq.v,Rz.v] at *
 generalize b=bv at *
 refine ZH [_,_] func33 ntmps33 fun G w hp=>?_
 refine Zk (ZY 3 zf) ?_
 repeat' (first|refine ZC ?_|refine ZB ?_|refine ZD ?_|refine ZP ?_|refine ZS ?_|refine ZN (fun b=>?_)|refine ZE ?_|refine ZO ?_|refine Ze ?_|refine ZQ ?_|refine ZR (n0) (fun _ _=>?_)|refine ZA (m) (fun _ _=>?_)|rw [w1]|rw [w2]|refine Zi (m:=7) (y2 % 7) hlt7 ?_|refine ZV 1 (y2 % 7) 0 hwi ?_|refine ZK 2 [] [(1,0),(2,0),(3,0),(0,4),(4,0),(5,3),(6,0)] [] ?_|fail)
 rename_i rr _
 exact ZG (rr,_) rfl ⟨_,rfl,hN⟩
theorem perf10_ok (rs:List (Nm×Ch)) (hk:q.k % 12=10):Enters 33∧Spec prog 33 #[.pointer (some ⟨b,0,none⟩),q.v o c] [Sl 3 zf o c q.p.gs,St ps es,Usg,P10] [Vw b ps rs []] (PfP b ps es q rs):=by
 have n0:=Zc
 obtain ⟨hwi,hw,hne⟩:=Zf q
 have n1:=regsN_ok q.n
 have hr:=rgN_rng q.n
 obtain ⟨a1,a2,a3,a4,a5,a6,a7,a8,a9,hg⟩:=rgN_nine q.n
 rw [hg] at hr n1
 have m:=setRG_ok b ps es rs [] (ZI q) hw (Nat.zero_le _) a1 a2 a3 a4 a5 a6 a7 a8 a9 hr
 rw [←hg] at m
 have hN:PN es q ((pSetR (ZI q) ⟨(encR (rgN q.n)).toArray⟩).run es []).2.1:=by
  unfold PN perfN
  rw [hk]
  simp
 unfold PfP perfF
 rw [hk]
 simp only [show ¬((10:Nat)=0) by decide,show ¬((10:Nat)=1) by decide,show ¬((10:Nat)=2) by decide,show ¬((10:Nat)=3) by decide,show ¬((10:Nat)=4) by decide,show ¬((10:Nat)=5) by decide,show ¬((10:Nat)=6) by decide,show ¬((10:Nat)=7) by decide,show ¬((10:Nat)=8) by decide,show ¬((10:Nat)=9) by decide,if_false,if_true]
 generalize (pSetR (ZI q) ⟨(encR (rgN q.n)).toArray⟩).run es []=X at *
 generalize ZI q=nw at *
 have hlt7:q.w % 7<7:=Nat.mod_lt _ (by decide)
 have w1:(q.w:Int).tmod 7=((q.w % 7:Nat):Int):=(Int.ofNat_tmod q.w 7).symm
 have w2:(q.k:Int).tmod 12=10:=by rw [show (12:Int)=((12:Nat):Int) from rfl,←Int.ofNat_tmod,hk];rfl
 clear hg hr
 obtain ⟨y1,y2,y3,y4,y5,⟨x1,x2,x3,x4,x5,xs,x7,x8,⟨x9,x10⟩,x11⟩,y7,y8,y9,y10⟩:=q
 simp only [Oq.v,Pr.z,Bi.z,Rz.v,rgV,List.flatMap_cons,List.flatMap_nil,List.append_nil,List.cons_append,List.nil_append] at *
 generalize b=bv at *
 refine ZH [_,_] func33 ntmps33 fun G w hp=>?_
 refine Zk (ZY 3 zf) ?_
 repeat' (first|refine ZC ?_|refine ZB ?_|refine ZD ?_|refine ZP ?_|refine ZS ?_|refine ZN (fun b=>?_)|refine ZJ ?_|refine ZE ?_|refine ZO ?_|refine Ze ?_|refine ZQ ?_|refine ZR (n0) (fun _ _=>?_)|refine ZA (n1) (fun _ _=>?_)|refine ZA (m) (fun _ _=>?_)|rw [w1]|rw [w2]|refine Zi (m:=7) (y2 % 7) hlt7 ?_|refine ZV 1 (y2 % 7) 0 hwi ?_|refine ZK 2 [] [(1,0),(2,0),(3,0),(0,4),(4,0),(5,3),(6,0)] [] ?_|fail)
 exact ZG ((none,0),_) rfl ⟨_,rfl,hN⟩
end
end
section
open VP
theorem chLi_u:∀n,chLi (fun _=>.u) n=[]
 | 0=>rfl
 | n+1=>by rw [UU,chLi_u n];rfl
section
variable (b:Nat) (ps:Option Addr) (es:Al) (q:Oq) (o:Option Addr) (c:Nat) (hS:Sml es []) (hB:q.Bd)
include hS hB in
set_option maxHeartbeats 4000000 in
theorem perf6_ok (rs:List (Nm×Ch)) (hk:q.k % 12=6):Enters 33∧Spec prog 33 #[.pointer (some ⟨b,0,none⟩),q.v o c] [Sl 3 zf o c q.p.gs,St ps es,Usg,P10] [Vw b ps rs []] (PfP b ps es q rs):=by
 have n0:=Zc
 obtain ⟨hwi,hw,hne⟩:=Zf q
 have hlt7:q.w % 7<7:=Nat.mod_lt _ (by decide)
 have w1:(q.w:Int).tmod 7=((q.w % 7:Nat):Int):=(Int.ofNat_tmod q.w 7).symm
 have w2:(q.k:Int).tmod 12=6:=by rw [show (12:Int)=((12:Nat):Int) from rfl,←Int.ofNat_tmod,hk];rfl
 have hcs:=VF es [] (ZI q)
 have hck:=pMof_chk es [] (ZI q)
 have ht:=hB.t
 clear hB
 have hPN:∀N,MRd es (ZI q) q.a q.t N→PN es q N:=fun N h=>by
  unfold PN
  rw [if_pos hk]
  exact h
 unfold PfP perfF
 rw [hk]
 simp only [show ¬((6:Nat)=0) by decide,show ¬((6:Nat)=1) by decide,show ¬((6:Nat)=2) by decide,show ¬((6:Nat)=3) by decide,show ¬((6:Nat)=4) by decide,show ¬((6:Nat)=5) by decide,if_false,if_true]
 unfold memF
 by_cases he:((pMof (ZI q)).run es []).1.2≠0
 ·simp only [if_pos he]
  have m:=memGe_ok b ps es rs [] (ZI q) hS hw he
  have hN:=hPN _ (show MRd es (ZI q) q.a q.t ((pMof (ZI q)).run es []).2.1 from ⟨Vq es _ _,fun _ h=>h,fun _ h=>.inl h,fun h=>absurd h he⟩)
  clear hPN
  generalize (pMof (ZI q)).run es []=X at *
  generalize ZI q=nw at *
  clear hck hcs
  obtain ⟨y1,y2,y3,y4,y5,⟨x1,x2,x3,x4,x5,xs,x7,x8,⟨x9,x10⟩,x11⟩,y7,y8,y9,y10⟩:=q
  simp only [Oq.v,Pr.z,Bi.z,Rz.v] at *
  generalize b=bv at *
  refine ZH [_,_] func33 ntmps33 fun G w hp=>?_
  refine Zk (ZY 3 zf) ?_
  repeat' (first|refine ZC ?_|refine ZB ?_|refine ZD ?_|refine ZP ?_|refine ZS ?_|refine ZN (fun b=>?_)|refine ZJ ?_|refine ZE ?_|refine ZO ?_|refine Ze ?_|refine ZQ ?_|refine ZR (n0) (fun _ _=>?_)|refine ZA (m) (fun _ _=>?_)|rw [w1]|rw [w2]|refine Zi (m:=7) (y2 % 7) hlt7 ?_|refine ZV 1 (y2 % 7) 0 hwi ?_|refine ZK 2 [] [(1,0),(2,0),(3,0),(0,4),(4,0),(5,3),(6,0)] [] ?_|(refine ZF (fun hc=>?_) (fun hc=>?_)<;>(try simp at hc)<;>(try omega))|fail)
  exact ZG ((none,0),_) rfl ⟨_,rfl,hN⟩
 ·simp only [if_neg he]
  have he0:((pMof (ZI q)).run es []).1.2=0:=by omega
  obtain ⟨hpc,hoc,hv⟩:=hck he0
  rcases hX:(pMof (ZI q)).run es [] with ⟨⟨⟨p,ow⟩,e⟩,N,cs1⟩
  rw [hX] at hcs he0 hpc hoc
  dsimp only at hcs he0 hpc hoc ⊢
  subst hcs he0
  obtain ⟨z0,z1,z2⟩:=Z7 hpc
  obtain ⟨-,-,-,-,hpv,-⟩:=Zg hpc
  obtain ⟨-,-,u3,-⟩:=Zg hoc
  unfold pfit at u3
  obtain ⟨pg,hpg⟩:∃pg:Nat,ow.pg=(pg:Int):=⟨ow.pg.toNat,by omega⟩
  have hp64:pg≤64:=by omega
  have hNc:∀n ∈ N,nchk n=0:=fun n hn=>Vq es (pMof (ZI q)) [] n (by rw [hX];exact hn)
  have hMd:∀L:List Nm,(∀n ∈ N,n ∈ L)→(∀n ∈ L,n ∈ N∨(nchk n=0∧∃i:Nat,i<64∧n=gnm p.sp (i:Int)))→(q.t.size≠0→0≤q.a→q.a+q.t.size≤64 * (pg:Int)→∀i:Nat,q.a.toNat / 64≤i→i<(q.a.toNat+q.t.size - 1) / 64+1→∀n ∈ vrN [] (gnm p.sp (i:Int)),n ∈ L)→PN es q L:=fun L h1 h2 h3=>hPN L (by
   unfold MRd
   rw [hX]
   dsimp only
   rw [hpg]
   exact ⟨fun n hn=>(h2 n hn).elim (hNc n) (·.1),h1,fun n hn=>(h2 n hn).imp id fun h=>⟨rfl,h.2⟩,fun _=>h3⟩)
  clear hPN
  have m1:=memGs_ok b ps es rs [] (ZI q) p ow N hS hw hX
  rw [hpg]
  simp only [Int.toNat_natCast]
  by_cases hbad:q.t.size≠0∧¬(0≤q.a∧q.a+q.t.size≤64 * pg)
  ·simp only [if_pos hbad]
   have hfin:∀N2:List Nm,(∀n ∈ N2,nchk n=0∧∃i:Nat,i<64∧n=gnm p.sp (i:Int))→PN es q (N++N2):=fun N2 h=>hMd _ (fun n hn=>List.mem_append_left _ hn) (fun n hn=>(List.mem_append.1 hn).imp id (h n)) (fun _ h1 h2=>absurd ⟨h1,h2⟩ hbad.2)
   clear hMd hNc
   have m2:=fun (x:Mb) q0=>storeBad_ok (x.s b p ow) ps es [] (by show p.sp.size≤1000;omega) pg hpg q.a q.t hbad.1 ht hbad.2 hp64 x.bk q0
   generalize ZI q=nw at *
   clear hck hX hpc hoc hbad
   obtain ⟨y1,y2,y3,y4,y5,⟨x1,x2,x3,x4,x5,xs,x7,x8,⟨x9,x10⟩,x11⟩,y7,y8,y9,y10⟩:=q
   simp only [Oq.v,Pr.z,Bi.z,Rz.v] at *
   generalize b=bv at *
   refine ZH [_,_] func33 ntmps33 fun G w hp=>?_
   refine Zk (ZY 3 zf) ?_
   repeat' (first|refine ZC ?_|refine ZB ?_|refine ZD ?_|refine ZP ?_|refine ZS ?_|refine ZN (fun b=>?_)|refine ZJ ?_|refine ZE ?_|refine ZO ?_|refine Ze ?_|refine ZQ ?_|refine ZR (n0) (fun _ _=>?_)|refine ZA (m1) (fun _ _=>?_)|refine ZA (m2 _ _) (fun _ _=>?_)|rw [w1]|rw [w2]|refine Zi (m:=7) (y2 % 7) hlt7 ?_|refine ZV 1 (y2 % 7) 0 hwi ?_|refine ZK 2 [] [(1,0),(2,0),(3,0),(0,4),(4,0),(5,3),(6,0)] [] ?_|fail)
   rename_i x hx qq hq
   have hx':x.q.2.2=rsOf es N rs:=hx
   obtain ⟨N2,e1,e2,-⟩:=hq
   exact ZG ((none,0),qq.2.2) rfl ⟨N++N2,by show qq.2.2=_;rw [e1,hx',Zm],hfin N2 e2⟩
  ·simp only [if_neg hbad]
   by_cases ht0:q.t.size=0
   ·simp only [if_pos ht0]
    have hfin:∀N2:List Nm,(∀n ∈ N2,nchk n=0∧∃i:Nat,i<64∧n=gnm p.sp (i:Int))→PN es q (N++N2++N):=fun N2 h=>hMd _ (fun n hn=>List.mem_append_right _ hn) (fun n hn=>(List.mem_append.1 hn).elim (fun h1=>(List.mem_append.1 h1).imp id (h n)) .inl) (fun h0=>absurd ht0 h0)
    clear hMd hNc
    have e0:q.t=⟨#[]⟩:=by
     have:q.t.data.size=0:=ht0
     exact XT (by rw [Array.eq_empty_of_size_eq_zero this])
    have m2:=fun (x:Mb) q0=>UX (x.s b p ow) ps es [] (by show p.sp.size≤1000;omega) x.bk (fun _=>.u) q0 q.a q.t ht (fun j hj=>by unfold accR at hj;rw [if_pos ht0] at hj;cases hj)
    have hacc:∀src:Nat→Pg,accR src (fun _=>.u) q.a q.t.size=(fun _=>.u,0):=fun src=>by unfold accR;rw [if_pos ht0]
    simp only [hacc,if_true,show q.t.data.toList=[] by rw [e0],stM] at m2
    have m3:=fun (x:Mb) q0=>pstoreG_ok (x.s b p ow) ps es [] (ZI q) p ow N hS hw hX hpv x.bk (fun _=>.u) q0 (fun i _ hi=>by cases hi) (fun i _ hi=>by cases hi) (Nat.zero_le _)
    simp only [chLi_u,List.map_nil,List.append_nil] at m3
    generalize ZI q=nw at *
    clear hck hX hpc hoc hbad hacc e0 ht0
    obtain ⟨y1,y2,y3,y4,y5,⟨x1,x2,x3,x4,x5,xs,x7,x8,⟨x9,x10⟩,x11⟩,y7,y8,y9,y10⟩:=q
    simp only [Oq.v,Pr.z,Bi.z,Rz.v] at *
    generalize b=bv at *
    refine ZH [_,_] func33 ntmps33 fun G w hp=>?_
    refine Zk (ZY 3 zf) ?_
    repeat' (first|refine ZC ?_|refine ZB ?_|refine ZD ?_|refine ZP ?_|refine ZS ?_|refine ZN (fun b=>?_)|refine ZJ ?_|refine ZE ?_|refine ZO ?_|refine Ze ?_|refine ZQ ?_|refine ZR (n0) (fun _ _=>?_)|refine ZA (m1) (fun _ _=>?_)|refine ZA (m2 _ _) (fun _ _=>?_)|refine ZA (m3 _ _) (fun _ _=>?_)|rw [w1]|rw [w2]|refine Zi (m:=7) (y2 % 7) hlt7 ?_|refine ZV 1 (y2 % 7) 0 hwi ?_|refine ZK 2 [] [(1,0),(2,0),(3,0),(0,4),(4,0),(5,3),(6,0)] [] ?_|fail)
    rename_i x hx q2 hq r hr
    have hx':x.q.2.2=rsOf es N rs:=hx
    have hr':r=rsOf es N q2.2.2:=hr
    obtain ⟨N2,e1,e2,e3⟩:=hq
    exact ZG ((none,0),r) rfl ⟨N++N2++N,by show r=_;rw [hr',e1,hx',Zm,Zm],hfin N2 e2⟩
   ·simp only [if_neg ht0]
    obtain ⟨k,hka⟩:∃k:Nat,q.a=(k:Int):=⟨q.a.toNat,by omega⟩
    have hkt:k+q.t.size≤64 * pg:=by omega
    have hfin:∀N2:List Nm,(∀n ∈ N2,nchk n=0∧∃i:Nat,i<64∧n=gnm p.sp (i:Int))→(∀i:Nat,isH ((accR (srcP es [] p.sp (pg:Int)) (fun _=>.u) (k:Int) q.t.size).1 i)=true→∀n ∈ vrN [] (gnm p.sp (i:Int)),n ∈ N2)→PN es q (N++N2++N):=fun N2 h h9=>hMd _ (fun n hn=>List.mem_append_right _ hn) (fun n hn=>(List.mem_append.1 hn).elim (fun h1=>(List.mem_append.1 h1).imp id (h n)) .inl) (fun _ _ _ i h1 h2 n hn=>List.mem_append_left _ (List.mem_append_right _ (h9 i (by
      rw [hka] at h1 h2
      simp only [Int.toNat_natCast] at h1 h2
      have hs:∀i,i<pg→∃bs,srcP es [] p.sp (pg:Int) i = .h bs false∧bs.length=64:=fun i hi=>⟨_,Xo hi,Yr _⟩
      have hR:=(Xg hp64 hkt hs).2.2
      obtain ⟨j,j1,j2,j3⟩:∃j,k≤j∧j<k+q.t.size∧j / 64=i:=by
       by_cases h5:k≤64 * i
       ·exact ⟨64 * i,h5,by omega,by omega⟩
       ·exact ⟨k,Nat.le_refl _,by omega,by omega⟩
      have h6:=hR j j1 j2
      rw [j3] at h6
      rw [h6,Xo (by omega)]
      rfl) n hn)))
    clear hMd hNc
    rw [hka]
    simp only [Int.toNat_natCast]
    have m2:=fun (x:Mb) q0=>storeN_ok (x.s b p ow) ps es [] (by show p.sp.size≤1000;omega) pg hpg hp64 k q.t hkt x.bk q0 q.a hka
    have m3:=fun (x:Mb) q0=>pstoreNG_ok (x.s b p ow) ps es [] pg hp64 k q.t hkt (ZI q) p ow N hS hw hX hpg rfl hpv x.bk q0 (Nat.zero_le _)
    generalize putS es [] p.sp pg k q.t=cs3 at *
    generalize ZI q=nw at *
    clear hck hX hpc hoc hbad ht0 hkt
    obtain ⟨y1,y2,y3,y4,y5,⟨x1,x2,x3,x4,x5,xs,x7,x8,⟨x9,x10⟩,x11⟩,y7,y8,y9,y10⟩:=q
    simp only [Oq.v,Pr.z,Bi.z,Rz.v] at *
    generalize b=bv at *
    refine ZH [_,_] func33 ntmps33 fun G w hp=>?_
    refine Zk (ZY 3 zf) ?_
    repeat' (first|refine ZC ?_|refine ZB ?_|refine ZD ?_|refine ZP ?_|refine ZS ?_|refine ZN (fun b=>?_)|refine ZJ ?_|refine ZE ?_|refine ZO ?_|refine Ze ?_|refine ZQ ?_|refine ZR (n0) (fun _ _=>?_)|refine ZA (m1) (fun _ _=>?_)|refine ZA (m2 _ _) (fun _ _=>?_)|refine ZA (m3 _ _) (fun _ _=>?_)|rw [w1]|rw [w2]|refine Zi (m:=7) (y2 % 7) hlt7 ?_|refine ZV 1 (y2 % 7) 0 hwi ?_|refine ZK 2 [] [(1,0),(2,0),(3,0),(0,4),(4,0),(5,3),(6,0)] [] ?_|fail)
    rename_i x hx q2 hq r hr
    have hx':x.q.2.2=rsOf es N rs:=hx
    have hr':r=rsOf es N q2.2.2:=hr
    obtain ⟨N2,e1,e2,e3⟩:=hq
    exact ZG ((none,0),r) rfl ⟨N++N2++N,by show r=_;rw [hr',e1,hx',Zm,Zm],hfin N2 e2 fun i h=>e3 i rfl h⟩
include hS hB in
theorem perf_ok (rs:List (Nm×Ch)):Enters 33∧Spec prog 33 #[.pointer (some ⟨b,0,none⟩),q.v o c] [Sl 3 zf o c q.p.gs,St ps es,Usg,P10] [Vw b ps rs []] (PfP b ps es q rs):=by
 have h:=Nat.mod_lt q.k (show 0<12 by decide)
 rcases (show q.k % 12=0∨q.k % 12=1∨q.k % 12=2∨q.k % 12=3∨q.k % 12=4∨q.k % 12=5∨q.k % 12=6∨q.k % 12=7∨q.k % 12=8∨q.k % 12=9∨q.k % 12=10∨q.k % 12=11 by omega) with h|h|h|h|h|h|h|h|h|h|h|h
 ·exact perf0_ok b ps es q o c hS hB rs h
 ·exact perf1_ok b ps es q o c hS rs h
 ·exact perf2_ok b ps es q o c hS rs h
 ·exact perf3_ok b ps es q o c hS rs h
 ·exact perf4_ok b ps es q o c hS rs h
 ·exact perf5_ok b ps es q o c hS hB rs h
 ·exact perf6_ok b ps es q o c hS hB rs h
 ·exact perf7_ok b ps es q o c hS rs h
 ·exact perf8_ok b ps es q o c hS hB rs h
 ·exact perf9_ok b ps es q o c hS rs h
 ·exact perf10_ok b ps es q o c rs h
 ·exact perf11_ok b ps es q o c hS rs h
end
end
variable {k:Nat} {es:Al} {cs:List Ch} {s:AS}
section
open VP
def opt (o:Option ByteArray):ByteArray×Bool:=(o.getD ⟨#[]⟩,o.isSome)
structure RelV (k:Nat) (V:Nm→ByteArray×Bool) (s:AS):Prop where
 e1:0≤s.ep∧s.ep≤(k:Int)
 e2:V enm=if s.ep=0 then (⟨#[]⟩,false) else (encB s.ep,true)
 p1:∀a,lvalid a.data.toList=true→V (pnm a)=opt ((s.pr a).map pencS)
 p2:∀a p,s.pr a=some p→pchk p=0∧lvalid a.data.toList=true∧isE a=false
 c1:∀a,lvalid a.data.toList=true→V (cnm a)=if s.ch a=0 then (⟨#[]⟩,false) else (cvs ⟨0,0,s.ch a⟩,true)
 c2:∀a,0≤s.ch a∧s.ch a≤(k:Int)
 r1:∀a,lvalid a.data.toList=true→V (rnm a)=opt ((s.rg a).map fun g=>⟨(encR g).toArray⟩)
 r2:∀a g,s.rg a=some g→g.length=9∧∀z ∈ g,0≤z∧z<4294967296
 g1:∀a j,lvalid a.data.toList=true→0≤j∧j≤63→V (gnm a j)=opt (s.pg a j)
 g2:∀a j b,s.pg a j=some b→b.size=64∧0≤j∧j≤63
theorem edec_enc {n:Int} (h0:0≤n) (h:n≤1073741824):edec (encB n)=(n,0):=by
 have h1:=YM n.toNat (by omega) [] 0 1073741824 (by omega)
 rw [List.append_nil] at h1
 unfold edec encB
 rw [show (⟨(venc n.toNat).toArray⟩:ByteArray).data.toList=venc n.toNat by simp,h1]
 dsimp only
 rw [if_pos ⟨rfl,rfl⟩,show ((n.toNat:Nat):Int)=n by omega]
section
variable (h:RelV k (vget es cs) s) (hk:k≤1000)
include h hk in
theorem pEpo_v:(pEpo.run es cs).1=(s.ep,0):=by
 unfold pEpo
 simp only [VP.run]
 rw [h.e2]
 have:=h.e1
 by_cases h0:s.ep=0
 ·rw [if_pos h0,h0];rfl
 ·rw [if_neg h0]
  simp only [if_true]
  exact edec_enc (by omega) (by omega)
include h
theorem pAny_v {who:ByteArray} (hv:lvalid who.data.toList=true):((pAny who).run es cs).1=match s.pr who with
  | none=>(Pr.z,8)
  | some p=>(p,0):=by
 unfold pAny
 simp only [VP.run]
 rw [h.p1 who hv]
 cases hp:s.pr who with
 | none=>simp [opt]
 | some p=>
  obtain ⟨q1,q2,q3⟩:=h.p2 _ _ hp
  obtain ⟨z0,z1,z2⟩:=Z7 q1
  have hd:=pdec_enc q1 (by omega) (by omega)
  simp [opt,hd]
include hk
theorem Vb (who:ByteArray):((pGet who).run es cs).1=aget s who:=by
 unfold pGet aget
 cases hv:lvalid who.data.toList with
 | false=>rw [if_neg (by simp),if_neg (by simp)];rfl
 | true=>
  rw [if_pos rfl,if_pos rfl,run_bind]
  have ha:=pAny_v h hv
  have hc:=WU es cs who
  generalize (pAny who).run es cs=A at *
  obtain ⟨⟨p,e⟩,N,cs1⟩:=A
  dsimp only at *
  subst hc
  cases hp:s.pr who with
  | none=>
   rw [hp] at ha
   cases ha
   rfl
  | some p'=>
   rw [hp] at ha
   cases ha
   dsimp only
   rw [if_neg (by simp),run_bind,pEpo_v h hk]
   dsimp only
   rw [if_neg (by simp)]
   by_cases he:p.ep≠s.ep
   ·rw [if_pos he,if_pos he];rfl
   ·rw [if_neg he,if_neg he];rfl
theorem pRun_v (who:ByteArray):((pRun who).run es cs).1=if (aget s who).2≠0 then (Pr.z,(aget s who).2) else if (aget s who).1.st≠1 then (Pr.z,10) else ((aget s who).1,0):=by
 rw [W0]
 dsimp only
 rw [Vb h hk]
omit hk in
theorem pMade_v {who:ByteArray} (hk:k≤1000) (hv:lvalid who.data.toList=true):((pMade who).run es cs).1=(⟨0,0,s.ch who⟩,0):=by
 unfold pMade
 rw [if_pos hv]
 simp only [VP.run]
 rw [h.c1 who hv]
 have:=h.c2 who
 by_cases h0:s.ch who=0
 ·rw [if_pos h0,h0];rfl
 ·rw [if_neg h0]
  simp only [if_true]
  rw [enc_cdec ⟨Int.le_refl 0,(by decide:(0:Int)≤1048576),Int.le_refl 0,(by decide:(0:Int)≤1048576),this.1,by dsimp only;omega⟩]
  simp
end
end
section
open VP
theorem pencS_le {p:Pr} (h:pchk p=0):(pencS p).size≤65536:=by
 have h1:=psz p h (by obtain ⟨_,y1,_⟩:=Z7 h;omega) (by obtain ⟨_,_,y2⟩:=Z7 h;omega)
 omega
theorem encR_len (g:List Int):(encR g).length=4 * g.length:=by
 induction g with
 | nil=>rfl
 | cons a g ih=>show (encW a++encR g).length=_;rw [List.length_append,ih,List.length_cons];simp [encW];omega
def Gd (n:Nat) (cs:List Ch):Prop:=cs.length≤n∧∀c ∈ cs,FitC c
theorem gd_nil (n:Nat):Gd n []:=⟨Nat.zero_le _,fun _ h=>by cases h⟩
theorem Gd.snoc {n:Nat} {cs:List Ch} {c:Ch} (h:Gd n cs) (hc:FitC c):Gd (n+1) (cs++[c]):=⟨by rw [List.length_append,List.length_singleton];have:=h.1;omega,fun d hd=>by
 rcases List.mem_append.1 hd with h1|h1
 ·exact h.2 d h1
 ·rw [List.mem_singleton.1 h1];exact hc⟩
theorem Gd.le {n m:Nat} {cs:List Ch} (h:Gd n cs) (hm:n≤m):Gd m cs:=⟨Nat.le_trans h.1 hm,h.2⟩
theorem V4 {n:Nm} {v:ByteArray} (h1:nchk n=0) (h2:v.size≤65536) (h3:lvalid n.owner.data.toList=true) (h4:n.text=⟨#[]⟩):FitC ⟨n,v,false⟩:=by
 have:=lv_size h3
 exact ⟨h1,h2,rfl,by dsimp only;omega,by dsimp only;rw [h4];exact Nat.zero_le _⟩
section
variable {V W:Nm→ByteArray×Bool}
theorem RelV.mono (h:RelV k V s) {j:Nat} (hj:k≤j):RelV j V s:=
 ⟨by have:=h.e1;omega,h.e2,h.p1,h.p2,h.c1,fun a=>by have:=h.c2 a;omega,h.r1,h.r2,h.g1,h.g2⟩
theorem RelV.congr (h:RelV k V s) (hW:∀n,W n=V n):RelV k W s:=by
 have:W=V:=funext hW
 rw [this];exact h
theorem rel_p (h:RelV k V s) {p:Pr} {a:ByteArray} (hp:pchk p=0) (hv:lvalid a.data.toList=true) (he:isE a=false) (h1:W (pnm a)=(pencS p,true)) (h2:∀n,n≠pnm a→W n=V n):RelV k W {s with pr:=fup s.pr a (some p)} where
 e1:=h.e1
 e2:=by rw [h2 _ (by simp [enm,pnm])];exact h.e2
 p1:=fun b hb=>by
  unfold fup;dsimp only
  by_cases hab:a=b
  ·subst hab;rw [if_pos rfl,h1];rfl
  ·rw [if_neg hab,h2 _ (by simp [pnm];exact fun e=>hab e.symm)];exact h.p1 b hb
 p2:=fun b q hq=>by
  unfold fup at hq;dsimp only at hq
  by_cases hab:a=b
  ·subst hab;rw [if_pos rfl] at hq;cases hq;exact ⟨hp,hv,he⟩
  ·rw [if_neg hab] at hq;exact h.p2 b q hq
 c1:=fun b hb=>by rw [h2 _ (by simp [cnm,pnm])];exact h.c1 b hb
 c2:=h.c2
 r1:=fun b hb=>by rw [h2 _ (by simp [rnm,pnm])];exact h.r1 b hb
 r2:=h.r2
 g1:=fun b j hb hj=>by rw [h2 _ (by simp [gnm,pnm])];exact h.g1 b j hb hj
 g2:=h.g2
theorem rel_c (h:RelV k V s) {z:Int} {a:ByteArray} (h0:1≤z∧z≤(k:Int)+1) (h1:W (cnm a)=(cvs ⟨0,0,z⟩,true)) (h2:∀n,n≠cnm a→W n=V n):RelV (k+1) W {s with ch:=fup s.ch a z} where
 e1:=by have:=h.e1;dsimp only;omega
 e2:=by rw [h2 _ (by simp [enm,cnm])];exact h.e2
 p1:=fun b hb=>by rw [h2 _ (by simp [cnm,pnm])];exact h.p1 b hb
 p2:=h.p2
 c1:=fun b hb=>by
  show W (cnm b)=if fup s.ch a z b=0 then (⟨#[]⟩,false) else (cvs ⟨0,0,fup s.ch a z b⟩,true)
  by_cases hab:a=b
  ·subst hab;rw [show fup s.ch a z a=z by unfold fup;rw [if_pos rfl],h1,if_neg (by omega)]
  ·rw [show fup s.ch a z b=s.ch b by unfold fup;rw [if_neg hab],h2 _ (by simp [cnm];exact fun e=>hab e.symm)];exact h.c1 b hb
 c2:=fun b=>by
  unfold fup;dsimp only
  by_cases hab:a=b
  ·rw [if_pos hab];omega
  ·rw [if_neg hab];have:=h.c2 b;omega
 r1:=fun b hb=>by rw [h2 _ (by simp [rnm,cnm])];exact h.r1 b hb
 r2:=h.r2
 g1:=fun b j hb hj=>by rw [h2 _ (by simp [gnm,cnm])];exact h.g1 b j hb hj
 g2:=h.g2
theorem rel_r (h:RelV k V s) {g:List Int} {a:ByteArray} (h0:g.length=9∧∀z ∈ g,0≤z∧z<4294967296) (h1:W (rnm a)=(⟨(encR g).toArray⟩,true)) (h2:∀n,n≠rnm a→W n=V n):RelV k W {s with rg:=fup s.rg a (some g)} where
 e1:=h.e1
 e2:=by rw [h2 _ (by simp [enm,rnm])];exact h.e2
 p1:=fun b hb=>by rw [h2 _ (by simp [rnm,pnm])];exact h.p1 b hb
 p2:=h.p2
 c1:=fun b hb=>by rw [h2 _ (by simp [rnm,cnm])];exact h.c1 b hb
 c2:=h.c2
 r1:=fun b hb=>by
  unfold fup;dsimp only
  by_cases hab:a=b
  ·subst hab;rw [if_pos rfl,h1];rfl
  ·rw [if_neg hab,h2 _ (by simp [rnm];exact fun e=>hab e.symm)];exact h.r1 b hb
 r2:=fun b q hq=>by
  unfold fup at hq;dsimp only at hq
  by_cases hab:a=b
  ·subst hab;rw [if_pos rfl] at hq;cases hq;exact h0
  ·rw [if_neg hab] at hq;exact h.r2 b q hq
 g1:=fun b j hb hj=>by rw [h2 _ (by simp [gnm,rnm])];exact h.g1 b j hb hj
 g2:=h.g2
theorem rel_e (h:RelV k V s) (h1:W enm=(encB (s.ep+1),true)) (h2:∀n,n≠enm→W n=V n):RelV (k+1) W {s with ep:=s.ep+1} where
 e1:=by have:=h.e1;dsimp only;omega
 e2:=by have:=h.e1;dsimp only;rw [h1,if_neg (by omega)]
 p1:=fun b hb=>by rw [h2 _ (by simp [enm,pnm])];exact h.p1 b hb
 p2:=h.p2
 c1:=fun b hb=>by rw [h2 _ (by simp [enm,cnm])];exact h.c1 b hb
 c2:=fun b=>by have:=h.c2 b;dsimp only;omega
 r1:=fun b hb=>by rw [h2 _ (by simp [enm,rnm])];exact h.r1 b hb
 r2:=h.r2
 g1:=fun b j hb hj=>by rw [h2 _ (by simp [gnm,enm])];exact h.g1 b j hb hj
 g2:=h.g2
theorem rel_g (h:RelV k V s) {f:ByteArray→Int→Option ByteArray} (h0:∀a j b,f a j=some b→b.size=64∧0≤j∧j≤63) (h1:∀a j,lvalid a.data.toList=true→0≤j∧j≤63→W (gnm a j)=opt (f a j)) (h2:∀n,(∀a j,n≠gnm a j)→W n=V n):RelV k W {s with pg:=f} where
 e1:=h.e1
 e2:=by rw [h2 _ (by simp [enm,gnm])];exact h.e2
 p1:=fun b hb=>by rw [h2 _ (by simp [gnm,pnm])];exact h.p1 b hb
 p2:=h.p2
 c1:=fun b hb=>by rw [h2 _ (by simp [gnm,cnm])];exact h.c1 b hb
 c2:=h.c2
 r1:=fun b hb=>by rw [h2 _ (by simp [gnm,rnm])];exact h.r1 b hb
 r2:=h.r2
 g1:=h1
 g2:=h0
end
section
def Sm (k n:Nat) (es:Al) (cs:List Ch) (s:AS):Prop:=RelV k (vget es cs) s∧Gd n cs
theorem sm_p (h:Sm k n es cs s) {p:Pr} {a:ByteArray} (hp:pchk p=0) (hv:lvalid a.data.toList=true) (he:isE a=false):Sm k (n+1) es (cs++[⟨pnm a,pencS p,false⟩]) {s with pr:=fup s.pr a (some p)}:=
 ⟨rel_p h.1 hp hv he (Wo rfl (Wm hv)) fun _m hm=>Yd fun e=>hm e.symm,h.2.snoc (V4 (Wm hv) (pencS_le hp) hv rfl)⟩
theorem sm_c (h:Sm k n es cs s) {z:Int} {a:ByteArray} (hk:k≤1000) (hv:lvalid a.data.toList=true) (h0:1≤z∧z≤(k:Int)+1):Sm (k+1) (n+1) es (cs++[⟨cnm a,cvs ⟨0,0,z⟩,false⟩]) {s with ch:=fup s.ch a z}:=by
 have hc:CtOK ⟨0,0,z⟩:=⟨Int.le_refl 0,(by decide:(0:Int)≤1048576),Int.le_refl 0,(by decide:(0:Int)≤1048576),by dsimp only;omega,by dsimp only;omega⟩
 have:=UA hc
 exact ⟨rel_c h.1 h0 (Wo rfl (VK hv)) fun m hm=>Yd fun e=>hm e.symm,h.2.snoc (V4 (VK hv) (by omega) hv rfl)⟩
theorem sm_r (h:Sm k n es cs s) {g:List Int} {a:ByteArray} (hv:lvalid a.data.toList=true) (h0:g.length=9∧∀z ∈ g,0≤z∧z<4294967296):Sm k (n+1) es (cs++[⟨rnm a,⟨(encR g).toArray⟩,false⟩]) {s with rg:=fup s.rg a (some g)}:=
 ⟨rel_r h.1 h0 (Wo rfl (V5 hv)) fun m hm=>Yd fun e=>hm e.symm,h.2.snoc (V4 (V5 hv) (by show (List.toArray _).size≤_;rw [List.size_toArray,encR_len,h0.1];decide) hv rfl)⟩
theorem sm_e (h:Sm k n es cs s) (hk:k≤1000):Sm (k+1) (n+1) es (cs++[⟨enm,encB (s.ep+1),false⟩]) {s with ep:=s.ep+1}:=by
 have h1:=h.1.e1
 have h2:=encB_size (z:=s.ep+1) (by omega) (by omega)
 exact ⟨rel_e h.1 (Wo rfl chk_enm) fun m hm=>Yd fun e=>hm e.symm,h.2.snoc ⟨chk_enm,by dsimp only;omega,rfl,Nat.zero_le _,Nat.zero_le _⟩⟩
theorem sm_g (h:Sm k n es cs s) {a b:ByteArray} {j:Int} (hv:lvalid a.data.toList=true) (hb:b.size=64) (hj:0≤j∧j≤63):Sm k (n+1) es (cs++[⟨gnm a j,b,false⟩]) {s with pg:=fun a' j'=>if a'=a∧j'=j then some b else s.pg a' j'}:=by
 refine ⟨rel_g h.1 (fun a' j' b' hb'=>?_) (fun a' j' hv' hj'=>?_) fun m hm=>Yd fun e=>hm _ _ e.symm,h.2.snoc (V4 (Wb hv hj) (by omega) hv rfl)⟩
 ·split at hb'
  ·rename_i h1;cases hb';exact ⟨hb,by omega⟩
  ·exact h.1.g2 _ _ _ hb'
 ·by_cases h1:a'=a∧j'=j
  ·rw [if_pos h1,h1.1,h1.2,Wo rfl (Wb hv hj)];rfl
  ·rw [if_neg h1,Yd (by show gnm a j≠gnm a' j';exact gnm_ne (by by_cases h2:a=a';exact .inr fun e=>h1 ⟨h2.symm,e.symm⟩;exact .inl h2))]
   exact h.1.g1 a' j' hv' hj'
theorem Sm.pg {f:ByteArray→Int→Option ByteArray} (h:Sm k n es cs s) (hf:∀a j,f a j=s.pg a j):Sm k n es cs {s with pg:=f}:=by
 have:f=s.pg:=funext fun a=>funext fun j=>hf a j
 rw [this];exact h
theorem sm_gs {a:ByteArray} (hv:lvalid a.data.toList=true):∀(l:List ByteArray) (f:Nat) (n:Nat) (cs:List Ch) (s:AS),Sm k n es cs s→(∀b ∈ l,b.size=64)→f+l.length≤64→Sm k (n+l.length) es (cs++pgsC a f l) {s with pg:=fun a' j=>if a'=a∧(f:Int)≤j∧j<(f:Int)+l.length then l[(j - f).toNat]? else s.pg a' j}
 | [],f,n,cs,s,h,_,_=>by
  rw [pgsC,List.append_nil]
  exact h.pg fun a' j=>by rw [if_neg (by simp only [List.length_nil];omega)]
 | x::l,f,n,cs,s,h,hb,hf=>by
  rw [List.length_cons] at hf
  have h1:=sm_g h hv (hb x List.mem_cons_self) (j:=(f:Int)) (by omega)
  have h2:=sm_gs hv l (f+1) (n+1) _ _ h1 (fun b hb'=>hb b (List.mem_cons_of_mem _ hb')) (by omega)
  rw [pgsC,List.length_cons,show n+(l.length+1)=n+1+l.length by omega,show cs++⟨gnm a (f:Int),x,false⟩::pgsC a (f+1) l=cs++[⟨gnm a (f:Int),x,false⟩]++pgsC a (f+1) l by simp]
  have h3:=h2.pg (f:=fun a' j=>if a'=a∧(f:Int)≤j∧j<(f:Int)+((l.length+1:Nat):Int) then (x::l)[(j - f).toNat]? else s.pg a' j) ?_
  ·exact h3
  intro a' j
  dsimp only
  by_cases ha:a'=a
  ·subst ha
   by_cases hj:j=(f:Int)
   ·subst hj
    rw [if_pos ⟨rfl,by omega,by omega⟩,if_neg (by omega),if_pos ⟨rfl,rfl⟩,show ((f:Int) - f).toNat=0 by omega];rfl
   ·by_cases h5:(f:Int)+1≤j∧j<(f:Int)+1+l.length
    ·rw [if_pos ⟨rfl,by omega,by omega⟩,if_pos ⟨rfl,by omega,by omega⟩,show (j - f).toNat=(j - ((f+1:Nat):Int)).toNat+1 by omega];rfl
    ·rw [if_neg (by omega),if_neg (by omega),if_neg (by omega)]
  ·rw [if_neg (fun e=>ha e.1),if_neg (fun e=>ha e.1),if_neg (fun e=>ha e.1)]
end
end
section
open VP
theorem pchk_ep {p:Pr} {e:Int} (h:pchk p=0) (he:0≤e∧e≤1073741824):pchk {p with ep:=e}=0:=by
 obtain ⟨q1,q2,q3,q4,q5,q6⟩:=Zg h
 unfold pfit at q3
 unfold pchk pfit
 dsimp only
 rw [if_neg (by omega),if_neg (by omega),if_neg (by simp only [Decidable.not_not];omega),if_neg (by simp [q4]),if_neg (by simp [q5])]
 exact q6
theorem pchk_st {p:Pr} {z c:Int} (h:pchk p=0) (hz:z=2∨z=3) (hc:0≤c∧c≤410):pchk {p with st:=z,cd:=c}=0:=by
 obtain ⟨q1,q2,q3,q4,q5,q6⟩:=Zg h
 unfold pfit at q3
 unfold pchk pfit
 dsimp only
 rw [if_neg (by omega),if_neg (by omega),if_neg (by simp only [Decidable.not_not];omega),if_neg (by simp [q4]),if_neg (by simp [q5])]
 exact q6
theorem pchk_pg {p:Pr} {z:Int} (h:pchk p=0) (hz:0≤z∧z≤64):pchk {p with pg:=z}=0:=by
 obtain ⟨q1,q2,q3,q4,q5,q6⟩:=Zg h
 unfold pfit at q3
 unfold pchk pfit
 dsimp only
 rw [if_neg (by omega),if_neg (by omega),if_neg (by simp only [Decidable.not_not];omega),if_neg (by simp [q4]),if_neg (by simp [q5])]
 exact q6
theorem Vs {es:Al} {cs:List Ch} {who:ByteArray} {p:Pr} (h:pchk p=0):(pPut who p).run es cs=(0,[],cs++[⟨pnm who,pencS p,false⟩]):=by
 unfold pPut;rw [if_pos h];rfl
theorem fup_self {β:Type} {f:ByteArray→β} {a:ByteArray} {v:β} (h:f a=v):fup f a v=f:=funext fun b=>by
 unfold fup
 split
 ·rename_i e;rw [←e,h]
 ·rfl
section
theorem Wg (h:RelV k (vget es cs) s) {who:ByteArray} (h0:(aget s who).2=0):pchk (aget s who).1=0∧lvalid who.data.toList=true∧isE who=false∧s.pr who=some (aget s who).1∧(aget s who).1.ep=s.ep:=by
 unfold aget at h0 ⊢
 cases hv:lvalid who.data.toList with
 | false=>rw [hv,if_neg (by simp)] at h0;cases h0
 | true=>
  rw [hv,if_pos rfl] at h0
  rw [if_pos rfl]
  cases hp:s.pr who with
  | none=>rw [hp] at h0;cases h0
  | some p=>
   rw [hp] at h0
   dsimp only at h0 ⊢
   by_cases he:p.ep≠s.ep
   ·rw [if_pos he] at h0;cases h0
   ·rw [if_neg he]
    obtain ⟨x1,x2,x3⟩:=h.p2 _ _ hp
    exact ⟨x1,rfl,x3,rfl,by simpa using he⟩
theorem pOwn_v (h:RelV k (vget es cs) s) {who:ByteArray} {p:Pr} (hp:pchk p=0) (hw:s.pr who=some p):((pOwn who p).run es cs).1=match s.pr p.sp with
  | none=>(Pr.z,8)
  | some o=>(o,0):=by
 unfold pOwn
 by_cases he:p.sp=who
 ·rw [if_pos he,he,hw];rfl
 ·rw [if_neg he]
  exact pAny_v h (Zg hp).2.2.2.2.1
theorem pMof_v (h:RelV k (vget es cs) s) (hk:k≤1000) (who:ByteArray):((pMof who).run es cs).1=if (aget s who).2≠0 then ((Pr.z,Pr.z),(aget s who).2) else match s.pr (aget s who).1.sp with
  | none=>((Pr.z,Pr.z),8)
  | some o=>(((aget s who).1,o),0):=by
 have hA:=Wg h (who:=who)
 unfold pMof
 rw [run_bind,Vb h hk,YG]
 generalize aget s who=A at *
 dsimp only
 by_cases he:A.2≠0
 ·rw [if_pos he,if_pos he];rfl
 ·rw [if_neg he,if_neg he]
  obtain ⟨x1,x2,x3,x4,x5⟩:=hA (by omega)
  rw [run_bind,pOwn_v h x1 x4]
  cases s.pr A.1.sp with
  | none=>rfl
  | some o=>rfl
end
section
variable (h:RelV k (vget es []) s) (hk:k≤900) (q:Oq)
def SimP (k:Nat) (es:Al) (s:AS) (q:Oq):Prop:=(perfF es q).1=(ado s q).1∧Sm (k+1) 130 es (perfF es q).2 (ado s q).2
theorem Sm.up {k n m:Nat} {es:Al} {cs:List Ch} {s:AS} (h:Sm k n es cs s) (hm:n≤m):Sm (k+1) m es cs s:=⟨h.1.mono (Nat.le_succ k),h.2.le hm⟩
theorem Sm.le {k n m:Nat} {es:Al} {cs:List Ch} {s:AS} (h:Sm k n es cs s) (hm:n≤m):Sm k m es cs s:=⟨h.1,h.2.le hm⟩
theorem Yh {k n:Nat} {es:Al} {s:AS} (h:RelV k (vget es []) s):Sm k n es [] s:=⟨h,gd_nil n⟩
include h hk
theorem sim0 (hj:q.k % 12=0):SimP k es s q:=by
 unfold SimP perfF ado
 rw [hj]
 simp only [if_true]
 have h0:Sm (k+1) 130 es [] s:=(Yh (n:=0) h).up (by omega)
 have hne:=(Zf q).2.2
 generalize ZI q=who at *
 unfold pStart
 cases hv:lvalid who.data.toList with
 | false=>rw [if_pos (.inl rfl),if_pos rfl];exact ⟨rfl,h0⟩
 | true=>
  simp only [hne,Bool.true_eq_false,Bool.false_eq_true,or_self,if_false]
  by_cases hc:pchk q.p≠0
  ·simp only [if_pos hc];exact ⟨rfl,h0⟩
  ·simp only [if_neg hc]
   have hc0:pchk q.p=0:=by omega
   by_cases hs:q.p.st≠1
   ·simp only [if_pos hs];exact ⟨rfl,h0⟩
   ·simp only [if_neg hs]
    rw [run_bind,pEpo_v h (by omega),XB]
    dsimp only
    rw [if_neg (by simp),run_bind]
    have hp:=h.p1 who hv
    simp only [pHas,VP.run,hp]
    have he:=h.e1
    cases hx:s.pr who with
    | some x=>exact ⟨rfl,h0⟩
    | none=>
     have hc2:=pchk_ep (e:=s.ep) hc0 (by omega)
     simp only [opt,Option.map_none,Option.isSome_none,Bool.false_eq_true,if_false]
     rw [Vs hc2]
     exact ⟨rfl,(sm_p (Yh (n:=0) h) hc2 hv hne).up (by omega)⟩
theorem sim3 (hj:q.k % 12=3):SimP k es s q:=by
 unfold SimP perfF ado
 rw [hj]
 simp only [show ¬((3:Nat)=0) by decide,show ¬((3:Nat)=1) by decide,show ¬((3:Nat)=2) by decide,if_false,if_true]
 have h0:Sm (k+1) 130 es [] s:=(Yh (n:=0) h).up (by omega)
 have hA:=Wg h (who:=ZI q)
 generalize ZI q=who at *
 unfold pExit
 rw [run_bind,pRun_v h (by omega),Yn]
 dsimp only
 generalize aget s who=A at *
 by_cases he:A.2≠0
 ·simp only [if_pos he,VP.run];exact ⟨rfl,h0⟩
 ·simp only [if_neg he]
  obtain ⟨x1,x2,x3,x4,x5⟩:=hA (by omega)
  by_cases hs:A.1.st≠1
  ·simp only [if_pos hs,show (10:Int)≠0 by decide,ne_eq,not_false_iff,if_true,VP.run];exact ⟨rfl,h0⟩
  ·simp only [if_neg hs,ne_eq,not_true,if_false]
   by_cases hn:¬(0≤q.n∧q.n≤410)
   ·simp only [if_pos hn,VP.run];exact ⟨rfl,h0⟩
   ·simp only [if_neg hn]
    have hc2:=pchk_st (z:=2) (c:=q.n) x1 (.inl rfl) (by omega)
    rw [Vs hc2]
    exact ⟨rfl,(sm_p (Yh (n:=0) h) hc2 x2 x3).up (by omega)⟩
theorem sim4 (hj:q.k % 12=4):SimP k es s q:=by
 unfold SimP perfF ado
 rw [hj]
 simp only [show ¬((4:Nat)=0) by decide,show ¬((4:Nat)=1) by decide,show ¬((4:Nat)=2) by decide,show ¬((4:Nat)=3) by decide,if_false,if_true]
 have h0:Sm (k+1) 130 es [] s:=(Yh (n:=0) h).up (by omega)
 have hA:=Wg h (who:=ZI q)
 have hM:=pMade_v h (who:=ZI q) (by omega)
 generalize ZI q=who at *
 unfold pWait
 rw [run_bind,Vb h (by omega),YG]
 dsimp only
 generalize aget s who=A at *
 by_cases he:A.2≠0
 ·simp only [if_pos he,VP.run];exact ⟨rfl,h0⟩
 ·simp only [if_neg he]
  obtain ⟨x1,x2,x3,x4,x5⟩:=hA (by omega)
  rw [run_bind,hM x2,Y6]
  dsimp only
  simp only [ne_eq,not_true,if_false]
  by_cases hn:q.n<1∨s.ch who<q.n
  ·simp only [if_pos hn,VP.run];exact ⟨rfl,h0⟩
  ·simp only [if_neg hn]
   have hE:¬((childE who q.n).2=0)→(aget s (childE who q.n).1).2≠0:=fun hx=>by
    have:(childE who q.n).1=⟨#[]⟩:=by
     unfold childE at hx ⊢
     split
     ·rfl
     ·split
      ·rfl
      ·split
       ·rfl
       ·rename_i y1 y2 y3;rw [if_neg y1,if_neg y2,if_neg y3] at hx;exact absurd rfl hx
    rw [this]
    unfold aget
    split
    ·cases hz:s.pr ⟨#[]⟩ with
     | none=>simp
     | some z=>have:=(h.p2 _ _ hz).2.2;simp [isE] at this
    ·simp
   by_cases hc:(childE who q.n).2=0
   ·simp only [hc,not_true,if_false]
    have hB:=Wg h (who:=(childE who q.n).1)
    rw [run_bind,Vb h (by omega),YG]
    dsimp only
    generalize (childE who q.n).1=ch at *
    generalize aget s ch=B at *
    by_cases hb:B.2≠0
    ·simp only [ne_eq] at hb
     simp only [hb,not_false_iff,if_true,VP.run]
     exact ⟨rfl,h0⟩
    ·have hb0:B.2=0:=by omega
     obtain ⟨z1,z2,z3,z4,z5⟩:=hB hb0
     simp only [hb0,not_true,if_false]
     by_cases h1:B.1.st=1
     ·simp only [if_pos h1,VP.run];exact ⟨rfl,h0⟩
     ·simp only [if_neg h1]
      by_cases h3:B.1.st=3
      ·simp only [if_pos h3,VP.run];exact ⟨rfl,h0⟩
      ·simp only [if_neg h3]
       have hcd:=(Zg z1).2.2.1
       unfold pfit at hcd
       have hc2:=pchk_st (z:=3) (c:=B.1.cd) z1 (.inr rfl) (by omega)
       rw [run_bind,show ({B.1 with st:=3}:Pr)={B.1 with st:=3,cd:=B.1.cd} from rfl,Vs hc2]
       exact ⟨rfl,(sm_p (Yh (n:=0) h) hc2 z2 z3).up (by omega)⟩
   ·have hb:=hE hc
    simp only [hc,not_false_iff,if_true,VP.run]
    simp only [ne_eq] at hb
    simp only [hb,not_false_iff,if_true]
    exact ⟨rfl,h0⟩
theorem sim5 (hj:q.k % 12=5):SimP k es s q:=by
 unfold SimP perfF ado
 rw [hj]
 simp only [show ¬((5:Nat)=0) by decide,show ¬((5:Nat)=1) by decide,show ¬((5:Nat)=2) by decide,show ¬((5:Nat)=3) by decide,show ¬((5:Nat)=4) by decide,if_false,if_true]
 have h0:Sm (k+1) 130 es [] s:=(Yh (n:=0) h).up (by omega)
 have hA:=Wg h (who:=ZI q)
 generalize ZI q=who at *
 unfold pSet
 by_cases hc:pchk q.p≠0
 ·simp only [if_pos hc,VP.run];exact ⟨rfl,h0⟩
 ·simp only [if_neg hc]
  rw [run_bind,Vb h (by omega),YG]
  dsimp only
  generalize aget s who=A at *
  by_cases he:A.2≠0
  ·simp only [if_pos he,VP.run];exact ⟨rfl,h0⟩
  ·simp only [if_neg he]
   obtain ⟨x1,x2,x3,x4,x5⟩:=hA (by omega)
   by_cases hq:({q.p with ep:=A.1.ep}:Pr)=A.1
   ·rw [if_pos hq,hq,fup_self x4];exact ⟨rfl,h0⟩
   ·rw [if_neg hq]
    have hep:=(Zg x1).2.2.1
    unfold pfit at hep
    have hc2:=pchk_ep (e:=A.1.ep) (p:=q.p) (by omega) (by omega)
    rw [Vs hc2]
    exact ⟨rfl,(sm_p (Yh (n:=0) h) hc2 x2 x3).up (by omega)⟩
theorem sim9 (hj:q.k % 12=9):SimP k es s q:=by
 unfold SimP perfF ado
 rw [hj]
 simp only [show ¬((9:Nat)=0) by decide,show ¬((9:Nat)=1) by decide,show ¬((9:Nat)=2) by decide,show ¬((9:Nat)=3) by decide,show ¬((9:Nat)=4) by decide,show ¬((9:Nat)=5) by decide,show ¬((9:Nat)=6) by decide,show ¬((9:Nat)=7) by decide,show ¬((9:Nat)=8) by decide,if_false,if_true]
 unfold pBoot
 rw [run_bind,pEpo_v h (by omega),XB]
 have he:=h.e1
 dsimp only
 rw [if_neg (by simp),if_neg (by omega)]
 exact ⟨rfl,(sm_e (Yh (n:=0) h) (by omega)).le (by omega)⟩
omit hk in
theorem sim10 (hj:q.k % 12=10):SimP k es s q:=by
 unfold SimP perfF ado
 rw [hj]
 simp only [show ¬((10:Nat)=0) by decide,show ¬((10:Nat)=1) by decide,show ¬((10:Nat)=2) by decide,show ¬((10:Nat)=3) by decide,show ¬((10:Nat)=4) by decide,show ¬((10:Nat)=5) by decide,show ¬((10:Nat)=6) by decide,show ¬((10:Nat)=7) by decide,show ¬((10:Nat)=8) by decide,show ¬((10:Nat)=9) by decide,if_false,if_true]
 have h0:Sm (k+1) 130 es [] s:=(Yh (n:=0) h).up (by omega)
 generalize ZI q=who at *
 unfold pSetR
 cases hv:lvalid who.data.toList with
 | false=>rw [if_neg (by simp),if_pos rfl];exact ⟨rfl,h0⟩
 | true=>
  rw [if_pos rfl,if_neg (by simp)]
  exact ⟨rfl,(sm_r (Yh (n:=0) h) hv ⟨by unfold rgN;simp,rgN_rng q.n⟩).up (by omega)⟩
theorem sim11 (hj:q.k % 12=11):SimP k es s q:=by
 unfold SimP perfF ado
 rw [hj]
 simp only [show ¬((11:Nat)=0) by decide,show ¬((11:Nat)=1) by decide,show ¬((11:Nat)=2) by decide,show ¬((11:Nat)=3) by decide,show ¬((11:Nat)=4) by decide,show ¬((11:Nat)=5) by decide,show ¬((11:Nat)=6) by decide,show ¬((11:Nat)=7) by decide,show ¬((11:Nat)=8) by decide,show ¬((11:Nat)=9) by decide,show ¬((11:Nat)=10) by decide,if_false]
 have h0:Sm (k+1) 130 es [] s:=(Yh (n:=0) h).up (by omega)
 generalize ZI q=who at *
 rw [Vb h (by omega),YG]
 by_cases he:(aget s who).2≠0
 ·rw [if_pos he]
  have hz:(aget s who).1=Pr.z:=by
   unfold aget at he ⊢
   split
   ·split
    ·rfl
    ·rename_i p hp
     split
     ·rfl
     ·rename_i hv _ h9;rw [if_pos hv,hp] at he;dsimp only at he;rw [if_neg h9] at he;exact absurd rfl he
   ·rfl
  rw [hz]
  exact ⟨rfl,h0⟩
 ·rw [if_neg he]
  have he0:(aget s who).2=0:=by omega
  rw [he0]
  exact ⟨rfl,h0⟩
end
end
section
open VP
theorem chN_ne (who:ByteArray) (k:Int):isE (chN who k)=false:=by
 rw [isE_eq]
 simp only [decide_eq_false_iff_not]
 intro h
 have:=congrArg ByteArray.size h
 unfold chN at this
 rw [ByteArray.size_append,ByteArray.size_append] at this
 have h1:(⟨#[46]⟩:ByteArray).size=1:=rfl
 have h2:(⟨#[]⟩:ByteArray).size=0:=rfl
 omega
theorem setB_ne {M:Nat→Pg} {k j:Nat} {c:UInt8} (h:k / 64≠j):setB M k c j=M j:=by
 unfold setB
 cases M (k / 64) with
 | h bs d=>exact Wu _ _ (fun e=>h e.symm)
 | _=>rfl
theorem stM_ne:∀(l:List UInt8) {M:Nat→Pg} {k j:Nat},(∀i,k≤i→i<k+l.length→i / 64≠j)→stM M k l j=M j
 | [],_,_,_,_=>rfl
 | c::l,M,k,j,h=>by
  rw [stM,stM_ne l fun i h1 h2=>h i (by omega) (by rw [List.length_cons];omega),setB_ne (h k (Nat.le_refl _) (by rw [List.length_cons];omega))]
theorem stM_keep:∀(l:List UInt8) {M:Nat→Pg} {k:Nat} (i:Nat),stM M k l i=M i∨(stM M k l i).chg=true
 | [],M,k,i=>.inl rfl
 | c::l,M,k,i=>by
  rw [stM]
  rcases stM_keep l (M:=setB M k c) (k:=k+1) i with h|h
  ·rcases setB_un (M:=M) (k:=k) (c:=c) i with h2|h2
   ·left;rw [h,h2]
   ·right;rw [h,h2]
  ·right;exact h
theorem stM_chg:∀(l:List UInt8) {M:Nat→Pg} {k:Nat} (i:Nat),(∀i,k≤i→i<k+l.length→okP (M (i / 64)))→k≤i→i<k+l.length→(stM M k l (i / 64)).chg=true
 | [],M,k,i,_,h1,h2=>by rw [List.length_nil] at h2;omega
 | c::l,M,k,i,h,h1,h2=>by
  rw [List.length_cons] at h2
  rw [stM]
  by_cases hi:i=k
  ·subst hi
   have hc:(setB M i c (i / 64)).chg=true:=by
    have h3:=h i (Nat.le_refl _) (by rw [List.length_cons];omega)
    unfold setB
    cases hm:M (i / 64) with
    | h bs d=>dsimp only;rw [Xk];rfl
    | _=>rw [hm] at h3;cases h3
   rcases stM_keep l (M:=setB M i c) (k:=i+1) (i / 64) with h4|h4
   ·rw [h4];exact hc
   ·exact h4
  ·exact stM_chg l i (fun j h3 h4=>setB_ok (h j (by omega) (by rw [List.length_cons];omega))) (by omega) (by omega)
theorem memS_page (es:Al) (cs:List Ch) (sp:ByteArray) {n i:Nat} (h:i<n):(memS es cs sp n).extract (64 * i) (64 * i+64)=⟨(padS (vget es cs (gnm sp (i:Int))).1).toArray⟩:=by
 have hl:(memS es cs sp n).data.toList.length=64 * n:=by rw [←Xu es cs sp n];simp
 apply XT
 rw [ByteArray.data_extract,Array.toList_extract,List.extract_eq_drop_take']
 apply List.ext_getElem?
 intro j
 have hp:=Yr (vget es cs (gnm sp (i:Int))).1
 by_cases hj:j<64
 ·rw [List.getElem?_drop,List.getElem?_take,if_pos (by omega),UE _ _ _ (by omega),show (64 * i+j) / 64=i by omega,show (64 * i+j) % 64=j by omega]
 ·rw [List.getElem?_eq_none (by rw [List.length_drop,List.length_take];omega),List.getElem?_eq_none (by simp only [];omega)]
section
variable {sp:ByteArray} {pg:Nat} {tx:ByteArray} (hv:lvalid sp.data.toList=true) (hpg:pg≤64) (hk:k+tx.size≤64 * pg)
include hv hpg hk
theorem putS_in (h0:tx.size≠0) {i:Nat} (h1:k / 64≤i) (h2:i<(k+tx.size - 1) / 64+1):vget es (putS es cs sp pg k tx) (gnm sp (i:Int))=((spl (memS es cs sp pg) k tx).extract (64 * i) (64 * i+64),true):=by
 have hsz:tx.data.toList.length=tx.size:=by simp
 have hs:∀i,i<pg→∃bs,srcP es cs sp (pg:Int) i = .h bs false∧bs.length=64:=fun i hi=>⟨_,Xo hi,Yr _⟩
 have hR:=(Xg hpg hk hs).2.2
 have hc:(nwM (srcP es cs sp (pg:Int)) k tx i).chg=true:=by
  have hok:∀j,k≤j→j<k+tx.data.toList.length→okP ((accR (srcP es cs sp (pg:Int)) (fun _=>.u) (k:Int) tx.size).1 (j / 64)):=fun j h3 h4=>by
   rw [hR j h3 (by omega)]
   obtain ⟨bs,hb,hl⟩:=hs (j / 64) (by omega)
   rw [hb];exact hl
  by_cases h5:k≤64 * i
  ·have:=stM_chg tx.data.toList (64 * i) hok h5 (by omega)
   rw [show 64 * i / 64=i by omega] at this
   exact this
  ·have:=stM_chg tx.data.toList k hok (Nat.le_refl _) (by omega)
   rw [show k / 64=i by omega] at this
   exact this
 have hx:∃x,chO (nwM (srcP es cs sp (pg:Int)) k tx) i=some x:=by
  unfold chO
  cases hm:nwM (srcP es cs sp (pg:Int)) k tx i with
  | h bs d=>rw [hm] at hc;obtain rfl:d=true:=hc;exact ⟨_,rfl⟩
  | _=>rw [hm] at hc;cases hc
 obtain ⟨x,hx⟩:=hx
 have hi:i<pg:=by omega
 have hg:(vget es (putS es cs sp pg k tx) (gnm sp (i:Int))).2=true:=by
  unfold putS
  rw [VJ hv _ (Nat.le_refl 64),hx]
  dsimp only
  rw [if_pos (by omega)]
 rw [←putS_spl hv hpg hk,memS_page es _ sp hi]
 rcases putS_pg (es:=es) (cs:=cs) hv hpg hk i with ⟨s,h6,h7⟩|h7
 ·rw [h7,VT h6]
 ·have:vget es (putS es cs sp pg k tx) (gnm sp (i:Int))=(x.val,true):=by
   unfold putS
   rw [VJ hv _ (Nat.le_refl 64),hx]
   dsimp only
   rw [if_pos (by omega)]
  have hxs:x.val.size=64:=by
   unfold chO at hx
   split at hx
   ·rename_i bs hm
    cases hx
    show (List.toArray bs).size=64
    rw [List.size_toArray]
    rcases nw_ok hpg hk hs i with h|⟨_,h⟩
    ·rw [hm] at h;cases h
    ·rw [hm] at h;exact h
   ·cases hx
  rw [this,VT hxs]
theorem putS_out {i:Nat} (h:¬(k / 64≤i∧i<(k+tx.size - 1) / 64+1)∨tx.size=0):vget es (putS es cs sp pg k tx) (gnm sp (i:Int))=vget es cs (gnm sp (i:Int)):=by
 have hsz:tx.data.toList.length=tx.size:=by simp
 have hs:∀i,i<pg→∃bs,srcP es cs sp (pg:Int) i = .h bs false∧bs.length=64:=fun i hi=>⟨_,Xo hi,Yr _⟩
 have hc:(nwM (srcP es cs sp (pg:Int)) k tx i).chg=false:=by
  unfold nwM
  rw [stM_ne _ fun j h1 h2=>by omega]
  exact nw_chg0 hpg hk hs i
 unfold putS
 rw [VJ hv _ (Nat.le_refl 64)]
 have hx:chO (nwM (srcP es cs sp (pg:Int)) k tx) i=none:=by
  unfold chO
  cases hm:nwM (srcP es cs sp (pg:Int)) k tx i with
  | h bs d=>rw [hm] at hc;obtain rfl:d=false:=hc;rfl
  | _=>rfl
 rw [hx]
theorem putS_gd {n:Nat} (h:Gd n cs):Gd (n+64) (putS es cs sp pg k tx):=by
 have hs:∀i,i<pg→∃bs,srcP es cs sp (pg:Int) i = .h bs false∧bs.length=64:=fun i hi=>⟨_,Xo hi,Yr _⟩
 refine ⟨by have:=putS_len (es:=es) (cs:=cs) (sp:=sp) (pg:=pg) (k:=k) (tx:=tx);have:=h.1;omega,fun c hc=>?_⟩
 unfold putS at hc
 rcases List.mem_append.1 hc with h1|h1
 ·exact h.2 c h1
 ·obtain ⟨x,hx,rfl⟩:=List.mem_map.1 h1
  obtain ⟨h2,bs,h3,h4⟩:=chLi_mem hx
  refine V4 (n:=gnm sp (x.pg:Int)) (Wb hv (by omega)) ?_ hv rfl
  rw [h4]
  show (List.toArray bs).size≤_
  rw [List.size_toArray]
  rcases nw_ok hpg hk hs x.pg with h|⟨_,h⟩
  ·rw [h3] at h;cases h
  ·rw [h3] at h;have:bs.length=64:=h;omega
end
section
theorem memS_A (h:RelV k (vget es cs) s) {sp:ByteArray} (hv:lvalid sp.data.toList=true):∀{m:Nat},m≤64→memS es cs sp m=memA (s.pg sp) m
 | 0,_=>rfl
 | m+1,hm=>by
  rw [memS,memA,memS_A h hv (by omega),h.g1 sp (m:Int) hv (by omega)]
  congr 1
  cases hx:s.pg sp (m:Int) with
  | none=>rfl
  | some b=>
   have:=(h.g2 _ _ _ hx).1
   show (⟨(padS b).toArray⟩:ByteArray)=b
   rw [VT this]
theorem sm_cp (h:Sm k n es cs s) {x y:ByteArray} (hx:lvalid x.data.toList=true) (hy:lvalid y.data.toList=true):Sm k (n+1) es (cpC es cs (rnm x) (rnm y)) {s with rg:=match s.rg x with
  | none=>s.rg
  | some g=>fup s.rg y (some g)}:=by
 have h1:=h.1.r1 x hx
 unfold cpC
 rw [h1]
 cases hg:s.rg x with
 | none=>exact h.le (Nat.le_succ n)
 | some g=>exact sm_r h hy (h.1.r2 _ _ hg)
theorem sm_cps {f ch:ByteArray} (hne:ch≠f) (hf:lvalid f.data.toList=true) (hc:lvalid ch.data.toList=true) (h:Sm k n es cs s):∀(m:Nat),m≤64→Sm k (n+m) es (spP es cs f ch m) {s with pg:=cpyP s.pg f ch (m:Int)}
 | 0,_=>h.pg fun a j=>by unfold cpyP;rw [if_neg (by omega)]
 | m+1,hm=>by
  have ih:=sm_cps hne hf hc h m (by omega)
  have hv:=vsp_f (es:=es) (cs:=cs) hne m (m:Int)
  rw [h.1.g1 f (m:Int) hf (by omega)] at hv
  rw [spP]
  unfold cpC
  rw [hv]
  cases hg:s.pg f (m:Int) with
  | none=>
   refine Sm.pg (s:={s with pg:=cpyP s.pg f ch (m:Int)}) (f:=cpyP s.pg f ch ((m+1:Nat):Int)) (ih.le (by omega)) fun a j=>?_
   unfold cpyP
   dsimp only
   by_cases hj:j=(m:Int)
   ·subst hj
    rw [if_neg (by rw [hg];simp),if_neg (by omega)]
   ·have:(0≤j∧j<((m+1:Nat):Int))↔(0≤j∧j<(m:Int)):=by omega
    simp only [this]
  | some b=>
   have h1:=sm_g ih hc (h.1.g2 _ _ _ hg).1 (j:=(m:Int)) (by omega)
   have h5:=Sm.pg (f:=cpyP s.pg f ch ((m+1:Nat):Int)) h1 ?_
   ·exact h5
   intro a j
   unfold cpyP
   dsimp only
   by_cases hj:j=(m:Int)
   ·subst hj
    by_cases ha:a=ch
    ·subst ha
     rw [if_pos ⟨rfl,by omega,by rw [hg];rfl⟩,if_pos ⟨rfl,rfl⟩,hg]
    ·rw [if_neg (fun e=>ha e.1),if_neg (fun e=>ha e.1),if_neg (fun e=>ha e.1)]
   ·have:(0≤j∧j<((m+1:Nat):Int))↔(0≤j∧j<(m:Int)):=by omega
    simp only [this]
    rw [if_neg (c:=a=ch∧j=(m:Int)) (fun e=>hj e.2)]
end
section
variable (h:RelV k (vget es []) s) (hk:k≤900) (q:Oq)
include h hk
theorem sim8 (hj:q.k % 12=8):SimP k es s q:=by
 unfold SimP perfF ado
 rw [hj]
 simp only [show ¬((8:Nat)=0) by decide,show ¬((8:Nat)=1) by decide,show ¬((8:Nat)=2) by decide,show ¬((8:Nat)=3) by decide,show ¬((8:Nat)=4) by decide,show ¬((8:Nat)=5) by decide,show ¬((8:Nat)=6) by decide,show ¬((8:Nat)=7) by decide,if_false,if_true]
 have h0:Sm (k+1) 130 es [] s:=(Yh (n:=0) h).up (by omega)
 have hA:=Wg h (who:=ZI q)
 generalize ZI q=who at *
 unfold pLoad
 by_cases hc:imgC q.im≠0
 ·simp only [if_pos hc];exact ⟨rfl,h0⟩
 ·simp only [if_neg hc]
  have hc0:imgC q.im=0:=by omega
  rw [run_bind,pRun_v h (by omega),Yn]
  dsimp only
  generalize aget s who=A at *
  by_cases he:A.2≠0
  ·simp only [if_pos he,VP.run];exact ⟨rfl,h0⟩
  ·simp only [if_neg he]
   obtain ⟨x1,x2,x3,x4,x5⟩:=hA (by omega)
   by_cases hs:A.1.st≠1
   ·simp only [if_pos hs,show (10:Int)≠0 by decide,ne_eq,not_false_iff,if_true,VP.run];exact ⟨rfl,h0⟩
   ·simp only [if_neg hs,ne_eq,not_true,if_false]
    have hlc:=ldP_chk (who:=who) (x:=q.im) x1 x2 hc0
    have hpl:=WI q.im
    have hp64:=(Yw q.im hc0).2
    have hen:=(XZ hc0).2.2.1
    simp only [VP.run]
    rw [run_bind,Xt]
    dsimp only
    unfold pSetR
    rw [if_pos x2]
    simp only [VP.run,List.nil_append]
    have h1:=sm_p (Yh (n:=0) h) hlc x2 x3
    have h2:=sm_gs x2 (imPg q.im) 0 _ _ _ h1 (fun b hb=>imPg_size hc0 hb) (by omega)
    have h3:=sm_r h2 x2 (g:=[0,0,0,0,0,0,0,0,q.im.en]) ⟨rfl,fun z hz=>by simp at hz;omega⟩
    rw [List.nil_append] at h3
    have h4:=Sm.pg (f:=ldG s.pg who (imPg q.im) (nPg q.im:Int)) h3 fun a j=>by
     unfold ldG
     dsimp only
     rw [hpl]
     simp only [Int.natCast_zero,Int.zero_add,Int.sub_zero]
    exact ⟨rfl,Sm.up h4 (by omega)⟩
theorem sim7 (hj:q.k % 12=7):SimP k es s q:=by
 unfold SimP perfF ado
 rw [hj]
 simp only [show ¬((7:Nat)=0) by decide,show ¬((7:Nat)=1) by decide,show ¬((7:Nat)=2) by decide,show ¬((7:Nat)=3) by decide,show ¬((7:Nat)=4) by decide,show ¬((7:Nat)=5) by decide,show ¬((7:Nat)=6) by decide,if_false,if_true]
 have h0:Sm (k+1) 130 es [] s:=(Yh (n:=0) h).up (by omega)
 have hA:=Wg h (who:=ZI q)
 generalize ZI q=who at *
 unfold pGrow amem
 by_cases hn:¬(0≤q.n∧q.n≤64)
 ·rw [if_pos hn,if_pos (by omega)];exact ⟨rfl,h0⟩
 ·rw [if_neg hn,if_neg (by omega)]
  rw [run_bind,pMof_v h (by omega),VF]
  dsimp only
  generalize aget s who=A at *
  by_cases he:A.2≠0
  ·simp only [if_pos he,VP.run];exact ⟨rfl,h0⟩
  ·simp only [if_neg he]
   obtain ⟨x1,x2,x3,x4,x5⟩:=hA (by omega)
   cases ho:s.pr A.1.sp with
   | none=>exact ⟨rfl,h0⟩
   | some o=>
    obtain ⟨y1,y2,y3⟩:=h.p2 _ _ ho
    have hop:=(Zg y1).2.2.1
    unfold pfit at hop
    simp only [ne_eq,not_true,if_false]
    by_cases h64:64<o.pg+q.n
    ·simp only [if_pos h64,gt_iff_lt,VP.run];exact ⟨rfl,h0⟩
    ·simp only [if_neg h64,gt_iff_lt]
     by_cases hn0:q.n=0
     ·simp only [hn0,if_true,VP.run]
      refine ⟨trivial,?_⟩
      rw [Int.add_zero,show ({o with pg:=o.pg}:Pr)=o from rfl,fup_self ho]
      refine h0.pg fun a j=>?_
      unfold zrP
      rw [if_neg (by omega)]
     ·simp only [if_neg hn0,VP.run]
      rw [run_bind,Xt]
      simp only [VP.run,List.nil_append]
      have h1:=sm_p (Yh (n:=0) h) (pchk_pg (z:=o.pg+q.n) y1 (by omega)) y2 y3
      have h2:=sm_gs y2 (List.replicate q.n.toNat Xm) o.pg.toNat _ _ _ h1 (fun b hb=>by rw [List.eq_of_mem_replicate hb];exact WO) (by rw [List.length_replicate];omega)
      rw [List.nil_append] at h2
      have h4:=Sm.pg (f:=zrP s.pg A.1.sp o.pg (o.pg+q.n)) h2 fun a j=>by
       unfold zrP
       dsimp only
       rw [List.length_replicate,show ((o.pg.toNat:Nat):Int)=o.pg by omega,show ((q.n.toNat:Nat):Int)=q.n by omega]
       by_cases hh:a=A.1.sp∧o.pg≤j∧j<o.pg+q.n
       ·rw [if_pos hh,if_pos hh,List.getElem?_replicate,if_pos (by omega)]
       ·rw [if_neg hh,if_neg hh]
      exact ⟨trivial,Sm.up h4 (by rw [List.length_replicate];omega)⟩
theorem sim6 (hj:q.k % 12=6):SimP k es s q:=by
 unfold SimP perfF ado
 rw [hj]
 simp only [show ¬((6:Nat)=0) by decide,show ¬((6:Nat)=1) by decide,show ¬((6:Nat)=2) by decide,show ¬((6:Nat)=3) by decide,show ¬((6:Nat)=4) by decide,show ¬((6:Nat)=5) by decide,if_false,if_true]
 have h0:Sm (k+1) 130 es [] s:=(Yh (n:=0) h).up (by omega)
 have hA:=Wg h (who:=ZI q)
 generalize ZI q=who at *
 unfold memF amem
 rw [pMof_v h (by omega)]
 generalize aget s who=A at *
 by_cases he:A.2≠0
 ·simp only [if_pos he];exact ⟨rfl,h0⟩
 ·simp only [if_neg he]
  obtain ⟨x1,x2,x3,x4,x5⟩:=hA (by omega)
  cases ho:s.pr A.1.sp with
  | none=>exact ⟨rfl,h0⟩
  | some o=>
   obtain ⟨y1,y2,y3⟩:=h.p2 _ _ ho
   have hop:=(Zg y1).2.2.1
   unfold pfit at hop
   have hms:=VN (f:=s.pg A.1.sp) (fun j b hb=>(h.g2 _ _ _ hb).1) o.pg.toNat
   have hmA:=memS_A h y2 (m:=o.pg.toNat) (by omega)
   simp only [ne_eq,not_true,if_false,hms]
   by_cases hz:q.t.size=0
   ·simp only [hz,not_true,false_and,if_false,if_true];exact ⟨rfl,h0⟩
   ·simp only [hz,not_false_iff,true_and,if_false]
    by_cases hb:¬(0≤q.a∧q.a+q.t.size≤64 * o.pg)
    ·rw [if_pos hb,if_pos (by omega)];exact ⟨rfl,h0⟩
    ·rw [if_neg hb,if_neg (by omega)]
     have hkk:q.a.toNat+q.t.size≤64 * o.pg.toNat:=by omega
     have hpg:o.pg.toNat≤64:=by omega
     refine ⟨rfl,⟨rel_g (V:=vget es []) (s:=s) h ?_ ?_ ?_ |>.mono (Nat.le_succ k),(putS_gd (n:=0) y2 hpg hkk (gd_nil 0)).le (by omega)⟩⟩
     ·intro a j b hb'
      unfold stP at hb'
      split at hb'
      ·rename_i hh
       cases hb'
       have hsl:(spl (memA (s.pg A.1.sp) o.pg.toNat) q.a.toNat q.t).size=64 * o.pg.toNat:=by rw [←hmA,←putS_spl y2 hpg hkk,Xu]
       refine ⟨?_,by omega,by omega⟩
       rw [ByteArray.size_extract,hsl]
       omega
      ·exact h.g2 _ _ _ hb'
     ·intro a j hva hjr
      obtain ⟨i,rfl⟩:∃i:Nat,j=(i:Int):=⟨j.toNat,by omega⟩
      unfold stP
      by_cases ha:a=A.1.sp
      ·subst ha
       by_cases hi:q.a.toNat / 64≤i∧i<(q.a.toNat+q.t.size - 1) / 64+1
       ·rw [putS_in y2 hpg hkk hz hi.1 hi.2,if_pos ⟨rfl,by omega,by omega⟩,hmA];rfl
       ·rw [putS_out y2 hpg hkk (.inl hi),if_neg (by omega)]
        exact h.g1 _ _ y2 hjr
      ·rw [if_neg (fun e=>ha e.1),putS_ne fun i'=>gnm_ne (.inl fun e=>ha e.symm)]
       exact h.g1 _ _ hva hjr
     ·intro m hm
      exact putS_ne fun i' e=>hm _ _ e.symm
end
end
section
open VP
section
variable (h:RelV k (vget es []) s) (hk:k≤900)
include h hk
theorem simS (who:ByteArray) (share:Bool) (hne:isE who=false):(⟨0,((pSpawn who share).run es []).1.1,Pr.z,((pSpawn who share).run es []).1.2⟩:Rz)=(achild s who share).1∧Sm (k+1) 130 es ((pSpawn who share).run es []).2.2 (achild s who share).2:=by
 have h0:Sm (k+1) 130 es [] s:=(Yh (n:=0) h).up (by omega)
 have hA:=Wg h (who:=who)
 unfold pSpawn achild
 rw [run_bind,pRun_v h (by omega),Yn]
 dsimp only
 generalize aget s who=A at *
 by_cases he:A.2≠0
 ·simp only [if_pos he,VP.run];exact ⟨rfl,h0⟩
 ·simp only [if_neg he]
  obtain ⟨x1,x2,x3,x4,x5⟩:=hA (by omega)
  by_cases hs:A.1.st≠1
  ·simp only [if_pos hs,show (10:Int)≠0 by decide,ne_eq,not_false_iff,if_true,VP.run];exact ⟨rfl,h0⟩
  ·simp only [if_neg hs,ne_eq,not_true,if_false]
   have hc:=h.c2 who
   rw [run_bind,pMade_v h (by omega) x2,Y6]
   dsimp only
   simp only [not_true,if_false]
   rw [if_neg (show ¬s.ch who=1048576 by omega)]
   by_cases hE:(childE who (s.ch who+1)).2=0
   ·obtain ⟨e1,e2,e3,e4,e5⟩:=YD hne hE
    have hcn:=chN_ne who (s.ch who+1)
    simp only [hE,not_true,if_false]
    rw [e1]
    dsimp only
    generalize chN who (s.ch who+1)=ch at *
    rw [run_bind]
    simp only [pHas,VP.run,h.p1 ch e4]
    cases hx:s.pr ch with
    | some x=>exact ⟨rfl,h0⟩
    | none=>
     simp only [opt,Option.map_none,Option.isSome_none,Bool.false_eq_true,if_false]
     have h1:=sm_c (Yh (n:=0) h) (z:=s.ch who+1) (a:=who) (by omega) x2 (by omega)
     cases share with
     | true=>
      simp only [if_true]
      rw [run_bind]
      simp only [VP.run,not_true,if_false]
      rw [run_bind,Xv,show (kidS true A.1 A.1 ch).pg.toNat=0 from rfl,run_bind]
      have hkc:=UJ (share:=true) (p:=A.1) (o:=A.1) (ch:=ch) x1 e4 (by obtain ⟨-,-,y,-⟩:=Zg x1;unfold pfit at y;omega)
      have h2:=sm_p h1 hkc e4 hcn
      have h3:=sm_cp h2 x2 e4
      exact ⟨rfl,h3.le (by omega)⟩
     | false=>
      simp only [Bool.false_eq_true,if_false]
      rw [run_bind,pOwn_v h x1 x4,VI]
      cases ho:s.pr A.1.sp with
      | none=>exact ⟨rfl,h0⟩
      | some o=>
       obtain ⟨y1,y2,y3⟩:=h.p2 _ _ ho
       have hop:=(Zg y1).2.2.1
       unfold pfit at hop
       have hdn:ch≠A.1.sp:=fun e=>by rw [e,ho] at hx;cases hx
       have hkc:=UJ (share:=false) (p:=A.1) (o:=o) (ch:=ch) x1 e4 (by omega)
       simp only [VP.run,not_true,if_false]
       rw [run_bind,Xv,run_bind]
       dsimp only
       simp only [VP.run]
       rw [(UI _ _ _ _ _).2]
       have h2:=sm_p h1 hkc e4 hcn
       have h3:=sm_cp h2 x2 e4
       have h4:=sm_cps hdn y2 e4 h3 (kidS false A.1 o ch).pg.toNat (by show o.pg.toNat≤64;omega)
       have h5:=Sm.pg (f:=cpyP s.pg A.1.sp ch o.pg) h4 fun a j=>by
        show cpyP s.pg A.1.sp ch o.pg a j=cpyP s.pg A.1.sp ch ((o.pg.toNat:Nat):Int) a j
        rw [show ((o.pg.toNat:Nat):Int)=o.pg by omega]
       first|exact ⟨rfl,h5.le (by show 0+1+1+1+o.pg.toNat≤130;omega)⟩|exact ⟨trivial,h5.le (by show 0+1+1+1+o.pg.toNat≤130;omega)⟩
   ·simp only [hE,not_false_iff,if_true,VP.run];exact ⟨rfl,h0⟩
variable (q:Oq)
theorem sim1 (hj:q.k % 12=1):SimP k es s q:=by
 unfold SimP perfF ado
 rw [hj]
 simp only [show ¬((1:Nat)=0) by decide,if_false,if_true]
 exact simS h hk _ _ (Zf q).2.2
theorem sim2 (hj:q.k % 12=2):SimP k es s q:=by
 unfold SimP perfF ado
 rw [hj]
 simp only [show ¬((2:Nat)=0) by decide,show ¬((2:Nat)=1) by decide,if_false,if_true]
 exact simS h hk _ _ (Zf q).2.2
theorem sim_ok:SimP k es s q:=by
 have hm:=Nat.mod_lt q.k (show 0<12 by decide)
 rcases (show q.k % 12=0∨q.k % 12=1∨q.k % 12=2∨q.k % 12=3∨q.k % 12=4∨q.k % 12=5∨q.k % 12=6∨q.k % 12=7∨q.k % 12=8∨q.k % 12=9∨q.k % 12=10∨q.k % 12=11 by omega) with g|g|g|g|g|g|g|g|g|g|g|g
 ·exact sim0 h hk q g
 ·exact sim1 h hk q g
 ·exact sim2 h hk q g
 ·exact sim3 h hk q g
 ·exact sim4 h hk q g
 ·exact sim5 h hk q g
 ·exact sim6 h hk q g
 ·exact sim7 h hk q g
 ·exact sim8 h hk q g
 ·exact sim9 h hk q g
 ·exact sim10 h q g
 ·exact sim11 h hk q g
end
theorem fup_ep {s:AS} {x:ByteArray} {p:Pr} {e:Int} (h:∀a q,s.pr a=some q→q.ep≤e) (hp:p.ep≤e):∀a q,fup s.pr x (some p) a=some q→q.ep≤e:=fun a q hq=>by
 unfold fup at hq
 split at hq
 ·cases hq;exact hp
 ·exact h a q hq
theorem aget_le {s:AS} (h0:0≤s.ep) (h:∀a q,s.pr a=some q→q.ep≤s.ep) (who:ByteArray):(aget s who).1.ep≤s.ep:=by
 unfold aget
 split
 ·split
  ·exact h0
  ·rename_i p hp
   split
   ·exact h0
   ·exact h _ _ hp
 ·exact h0
theorem chS_ep {s:AS} {who ch:ByteArray} {p:Pr} {pg:ByteArray→Int→Option ByteArray} (h:∀a q,s.pr a=some q→q.ep≤s.ep) (hp:p.ep≤s.ep):∀a q,(chS s who ch p pg).pr a=some q→q.ep≤(chS s who ch p pg).ep:=fup_ep h hp
theorem achild_ep {s:AS} (h0:0≤s.ep) (h:∀a q,s.pr a=some q→q.ep≤s.ep) (who:ByteArray) (share:Bool):∀a q,(achild s who share).2.pr a=some q→q.ep≤(achild s who share).2.ep:=by
 have hA:=aget_le h0 h who
 unfold achild
 generalize aget s who=A at *
 split
 ·exact h
 ·split
  ·exact h
  ·split
   ·exact h
   ·split
    ·exact h
    ·split
     ·exact chS_ep h hA
     ·split
      ·exact h
      ·exact chS_ep h hA
def EpX (r:Rz×AS):Prop:=∀a p,r.2.pr a=some p→p.ep≤r.2.ep
theorem Vm {β:Type} {P:β→Prop} {c:Prop} [Decidable c] {a b:β} (h1:c→P a) (h2:¬c→P b):P (if c then a else b):=by
 by_cases h:c
 ·rw [if_pos h];exact h1 h
 ·rw [if_neg h];exact h2 h
theorem ado_epx {s:AS} (h0:0≤s.ep) (h:∀a q,s.pr a=some q→q.ep≤s.ep) (q:Oq):EpX (ado s q):=by
 have hA:=aget_le h0 h (ZI q)
 have hB:=aget_le h0 h (childE (ZI q) q.n).1
 have h1:EpX (achild s (ZI q) false):=achild_ep h0 h (ZI q) false
 have h2:EpX (achild s (ZI q) true):=achild_ep h0 h (ZI q) true
 have hs:∀z,EpX (er z,s):=fun _=>h
 unfold ado
 generalize achild s (ZI q) false=C1 at *
 generalize achild s (ZI q) true=C2 at *
 repeat' refine Vm (fun _=>?_) (fun _=>?_)
 all_goals first
  | exact hs _
  | exact h1
  | exact h2
  | exact fup_ep h (Int.le_refl _)
  | exact fup_ep h hA
  | exact fup_ep h hB
  | exact h
  | exact fun a p hp=>by have:=h a p hp;show p.ep≤s.ep+1;omega
  | skip
 split
 ·exact h
 ·rename_i o ho
  exact Vm (P:=EpX) (fun _=>h) (fun _=>fup_ep (p:={o with pg:=o.pg+q.n}) h (show o.ep≤s.ep from h _ _ ho))
theorem ado_ep {s:AS} (h0:0≤s.ep) (h:∀a q,s.pr a=some q→q.ep≤s.ep) (q:Oq):∀a p,(ado s q).2.pr a=some p→p.ep≤(ado s q).2.ep:=ado_epx h0 h q
theorem fup_rv {s:AS} {x:ByteArray} {g:List Int} (h:∀a g,s.rg a=some g→lvalid a.data.toList=true) (hx:lvalid x.data.toList=true):∀a q,fup s.rg x (some g) a=some q→lvalid a.data.toList=true:=fun a q hq=>by
 unfold fup at hq
 split at hq
 ·rename_i e;rw [←e];exact hx
 ·exact h a q hq
theorem chS_rv {s:AS} {who ch:ByteArray} {p:Pr} {pg:ByteArray→Int→Option ByteArray} (h:∀a g,s.rg a=some g→lvalid a.data.toList=true) (hx:lvalid ch.data.toList=true):∀a g,(chS s who ch p pg).rg a=some g→lvalid a.data.toList=true:=by
 unfold chS
 dsimp only
 cases hr:s.rg who with
 | none=>exact h
 | some g=>exact fup_rv h hx
theorem achild_rv {s:AS} (h:∀a g,s.rg a=some g→lvalid a.data.toList=true) {who:ByteArray} (hne:isE who=false) (share:Bool):∀a g,(achild s who share).2.rg a=some g→lvalid a.data.toList=true:=by
 have hC:=YD (k:=s.ch who+1) hne
 unfold achild
 split
 ·exact h
 ·split
  ·exact h
  ·split
   ·exact h
   ·rename_i h0
    obtain ⟨c1,_,_,c4,_⟩:=hC (by omega)
    rw [c1]
    dsimp only
    split
    ·exact h
    ·split
     ·exact chS_rv h c4
     ·split
      ·exact h
      ·exact chS_rv h c4
theorem aget_v {s:AS} {who:ByteArray} (h:¬(aget s who).2≠0):lvalid who.data.toList=true:=by
 unfold aget at h
 split at h
 ·assumption
 ·exact absurd (by decide) h
def RvX (r:Rz×AS):Prop:=∀a g,r.2.rg a=some g→lvalid a.data.toList=true
theorem ado_rvx {s:AS} (h:∀a g,s.rg a=some g→lvalid a.data.toList=true) (q:Oq):RvX (ado s q):=by
 have h1:RvX (achild s (ZI q) false):=achild_rv h (Zf q).2.2 false
 have h2:RvX (achild s (ZI q) true):=achild_rv h (Zf q).2.2 true
 have hs:∀z,RvX (er z,s):=fun _=>h
 unfold ado
 generalize achild s (ZI q) false=C1 at *
 generalize achild s (ZI q) true=C2 at *
 repeat' refine Vm (fun hc=>?_) (fun hc=>?_)
 all_goals first
  | exact hs _
  | exact h1
  | exact h2
  | exact h
  | exact fup_rv h (aget_v (by assumption))
  | exact fup_rv h (by simpa using hc)
  | skip
 split
 ·exact h
 ·exact Vm (P:=RvX) (fun _=>h) (fun _=>h)
theorem ado_rv {s:AS} (h:∀a g,s.rg a=some g→lvalid a.data.toList=true) (q:Oq):∀a g,(ado s q).2.rg a=some g→lvalid a.data.toList=true:=ado_rvx h q
structure RelS (k:Nat) (es:Al) (ms:Ms):Prop where
 r:RelV k (vget es []) (absM ms)
 s:Sml es []
 l:es.length≤130 * k
 e:∀a p,(absM ms).pr a=some p→p.ep≤(absM ms).ep
 v:∀a g,(absM ms).rg a=some g→lvalid a.data.toList=true
theorem RelS.ok2 {k:Nat} {es:Al} {ms:Ms} (h:RelS k es ms) (hk:k≤900):ms.Ok2∧0≤ms.ep∧ms.ep≤1000000:=by
 refine ⟨⟨⟨fun a x hx=>?_,fun a j b hb=>(h.r.g2 a j b hb).1⟩,fun a=>?_,fun a g hg=>(h.r.r2 a g hg).1⟩,h.r.e1.1,?_⟩
 ·exact (h.r.p2 a x.1 (by show (mget a ms.pr).map _=_;rw [hx];rfl)).1
 ·have:0≤(mget a ms.ch).getD 0∧(mget a ms.ch).getD 0≤(k:Int):=h.r.c2 a
  omega
 ·have:0≤ms.ep∧ms.ep≤(k:Int):=h.r.e1
  omega
theorem vget_aft {es:Al} {cs:List Ch} (h:∀c ∈ cs,c.abs=false) (n:Nm):vget (applyE es (vwr cs)) [] n=vget es cs n:=by
 unfold vget
 split
 ·rfl
 ·show ((getO n (applyE es (vwr cs))).getD ⟨#[]⟩,(getO n (applyE es (vwr cs))).isSome)=_
  rw [getO_after]
  cases hc:vcall cs n with
  | none=>rfl
  | some c=>
   have:=h c (Vx hc).2
   simp [this]
theorem mset_l5 {α β:Type} [DecidableEq α] (a:α) (v:β):∀(m:List (α×β)),(mset a v m).length≤m.length+1
 | []=>by simp [mset]
 | (c,u)::m=>by
  have:=mset_l5 a v m
  unfold mset
  split<;>simp only [List.length_cons]<;>omega
theorem lastL_l5 (cs:List Ch):(lastL cs).length≤cs.length:=by
 refine VB (P:=fun cs=>(lastL cs).length≤cs.length) (by simp [lastL,lastG]) (fun l a ih=>?_) cs
 rw [WR]
 have:=mset_l5 a.nm l.length (lastL l)
 simp only [List.length_append,List.length_singleton];omega
theorem vwr_l5 (cs:List Ch):(vwr cs).length≤cs.length:=by
 rw [vwr,(Ya _).length_eq,List.length_map]
 exact lastL_l5 cs
theorem sml_0:Sml [] []:=fun n=>by
 unfold vget
 split
 ·exact Nat.zero_le _
 ·exact Nat.zero_le _
theorem relS_0:RelS 0 [] ⟨0,[],[],[],[]⟩ where
 r:=by
  have hv:∀n,vget [] [] n=(⟨#[]⟩,false):=fun n=>by
   unfold vget
   split<;>rfl
  have h1:∀(a:ByteArray) (p:Pr),(absM ⟨0,[],[],[],[]⟩).pr a=some p→False:=fun a p hp=>by cases hp
  have h2:∀(a:ByteArray) (g:List Int),(absM ⟨0,[],[],[],[]⟩).rg a=some g→False:=fun a g hp=>by cases hp
  have h3:∀(a:ByteArray) (j:Int) (b:ByteArray),(absM ⟨0,[],[],[],[]⟩).pg a j=some b→False:=fun a j b hp=>by cases hp
  exact ⟨⟨Int.le_refl 0,Int.le_refl 0⟩,hv _,fun a _=>hv _,fun a p hp=>(h1 a p hp).elim,fun a _=>hv _,fun a=>⟨Int.le_refl 0,Int.le_refl 0⟩,fun a _=>hv _,fun a g hg=>(h2 a g hg).elim,fun a j _ _=>hv _,fun a j b hb=>(h3 a j b hb).elim⟩
 s:=sml_0
 l:=Nat.zero_le _
 e:=fun a p hp=>by cases hp
 v:=fun a p hp=>by cases hp
theorem Sml.gd {es:Al}:∀{cs:List Ch},Sml es []→(∀c ∈ cs,FitC c)→Sml es cs:=by
 intro cs h
 refine fun hc=>?_
 have:∀(r:List Ch),(∀c ∈ r,FitC c)→∀l,Sml es l→Sml es (l++r):=by
  intro r
  induction r with
  | nil=>intro _ l hl;rw [List.append_nil];exact hl
  | cons c r ih=>
   intro hr l hl
   have h1:=hr c List.mem_cons_self
   have h2:=ih (fun d hd=>hr d (List.mem_cons_of_mem _ hd)) (l++[c]) (by
    obtain ⟨n,v,a⟩:=c
    have f2:=h1.val
    have f3:=h1.abs
    dsimp only at f2 f3
    subst f3
    exact hl.set n f2)
   rw [List.append_assoc] at h2
   exact h2
 have h3:=this cs hc [] h
 exact h3
theorem RelS.next {k:Nat} {es:Al} {ms ms':Ms} (h:RelS k es ms) (hk:k≤900) (q:Oq) (hm:absM ms'=(ado (absM ms) q).2):(perfF es q).1=(ado (absM ms) q).1∧Gd 130 (perfF es q).2∧RelS (k+1) (applyE es (vwr (perfF es q).2)) ms':=by
 obtain ⟨h1,h2,h3⟩:=sim_ok h.r hk q
 have hab:∀c ∈ (perfF es q).2,c.abs=false:=fun c hc=>(h3.2 c hc).abs
 refine ⟨h1,h3,⟨?_,fun n=>?_,?_,by rw [hm];exact ado_ep h.r.e1.1 h.e q,by rw [hm];exact ado_rv h.v q⟩⟩
 ·rw [hm]
  exact h2.congr fun n=>vget_aft hab n
 ·rw [vget_aft hab]
  exact Sml.gd h.s h3.2 n
 ·have:=applyE_len es (vwr (perfF es q).2)
  have:=vwr_l5 (perfF es q).2
  have:=h3.1
  have:=h.l
  omega
end
section
open VP
section
theorem aget_gs {s:AS} (h:∀a p,s.pr a=some p→p.gs.length≤8) (who:ByteArray):(aget s who).1.gs.length≤8:=by
 unfold aget
 split
 ·split
  ·exact Nat.zero_le _
  ·rename_i p hp
   split
   ·exact Nat.zero_le _
   ·exact h _ _ hp
 ·exact Nat.zero_le _
def GsX (r:Rz×AS):Prop:=r.1.p.gs.length≤8
theorem achild_gs (s:AS) (who:ByteArray) (share:Bool):GsX (achild s who share):=by
 have h0:∀z,GsX (er z,s):=fun _=>Nat.zero_le _
 have h1:∀(nm:ByteArray) (s':AS),GsX (⟨0,nm,Pr.z,0⟩,s'):=fun _ _=>Nat.zero_le _
 unfold achild
 repeat' refine Vm (fun _=>?_) (fun _=>?_)
 all_goals first
  | exact h0 _
  | exact h1 _ _
  | skip
 split
 ·exact h0 _
 ·exact h1 _ _
theorem ado_gsx {s:AS} (h:∀a p,s.pr a=some p→p.gs.length≤8) (q:Oq):GsX (ado s q):=by
 have hA:=aget_gs h (ZI q)
 have h1:=achild_gs s (ZI q) false
 have h2:=achild_gs s (ZI q) true
 have hs:∀(n:Int) (s':AS) (e:Int),GsX (⟨n,⟨#[]⟩,Pr.z,e⟩,s'):=fun _ _ _=>Nat.zero_le _
 unfold ado
 generalize achild s (ZI q) false=C1 at *
 generalize achild s (ZI q) true=C2 at *
 repeat' refine Vm (fun hc=>?_) (fun hc=>?_)
 all_goals first
  | exact hs _ _ _
  | exact h1
  | exact h2
  | exact hA
  | skip
 split
 ·exact hs _ _ _
 ·exact Vm (P:=GsX) (fun _=>hs _ _ _) (fun _=>hs _ _ _)
theorem ado_gs {s:AS} (h:∀a p,s.pr a=some p→p.gs.length≤8) (q:Oq):(ado s q).1.p.gs.length≤8:=ado_gsx h q
end
end
section
open Go.ChangeShapes Go.WideShapes Go.ChangeAt
structure Kept (W W':World):Prop where
 os:W'.os=W.os
 output:W'.output=W.output
 heap:∀(b:Nat) (o:Obj),W.heap[b]? = some o→W'.heap[b]? = some o
theorem Kept.but {W W':World} (h:Kept W W') (may:MemPlace→Prop):W.keptBut W' may:=by
 refine ⟨h.os,h.output,fun i hi=>?_⟩
 have h1:W.heap[i]? = some W.heap[i]:=Array.getElem?_eq_getElem hi
 have h2:=h.heap i _ h1
 rw [h1,h2]
 split
 ·rename_i c t fr c' t' fr' e1 e2
  rw [e1] at e2
  injection e2 with e2
  injection e2 with a1 a2 a3
  subst a1 a2 a3
  exact ⟨rfl,rfl,rfl,fun _ _=>rfl⟩
 ·rename_i es clock es' clock' e1 e2
  rw [e1] at e2
  injection e2 with e2
  injection e2 with a1 a2
  subst a1 a2
  exact .inr ⟨rfl,rfl⟩
 ·rfl
theorem calls_law {f:FuncId} {args:Array Value} {F:List Pf} {v:Value} (h:Spec prog f args F [] (RetV v)) (W:World) (hF:∀x ∈ F,x.p fun b=>W.heap[b]?) :
  Calls prog f args W fun e W'=>e = .returned v∧Kept W W':=by
 have hs:Sat emp W (fun b=>W.heap[b]?) F [] W:=⟨fun b=>W.heap[b]?,emp,fun _ _ e=>e,(fun _ _ e=>by cases e),(fun _ _ e=>by cases e),fun _=>.inr rfl,fun _=>.inr rfl,fun _=>.inr rfl,Sub.refl _,hF,trivial,Same.refl _⟩
 refine (h _ _ _ hs).mono ?_
 rintro e W' ⟨_,rfl,_,hp',hr,st⟩
 exact ⟨rfl,st.same.os,st.same.output,fun b o hb=>st.inp b o (st.sub b o hb)⟩
def contig (P:Program):Nat→List Field→Option Nat
 | o,[]=>some o
 | o,f::fs=>if f.offset=o then contig P (o+P.cellsOf f.type) fs else none
def plainT (P:Program):Nat→TypeId→Bool
 | 0,_=>false
 | k+1,t=>match P.underlying t with
  | some .bool=>true
  | some (.int _)=>true
  | some .string=>true
  | some (.struct fs)=>(fs.toList.all fun f=>plainT P k f.type) && (contig P 0 fs.toList == some (P.cellsOf t))
  | some (.array n e)=>plainT P k e && (P.cellsOf t == n * P.cellsOf e)
  | _=>false
variable {H:Type} {enc:TypeId×Value→H} {P:Program}
theorem YZ {α β:Type} {f g:α→Option β}:∀{l:List α} {r:List β},(∀a ∈ l,∀x,f a=some x→g a=some x)→l.mapM f=some r→l.mapM g=some r
 | [],r,_,h=>h
 | a::l,r,hfg,h=>by
  rw [List.mapM_cons] at h ⊢
  simp only [Option.bind_eq_bind,Option.bind_eq_some_iff,Option.pure_def,Option.some.injEq] at h ⊢
  obtain ⟨x,hx,xs,hxs,rfl⟩:=h
  exact ⟨x,hfg a (by simp) x hx,xs,YZ (fun b hb=>hfg b (by simp [hb])) hxs,rfl⟩
theorem mapM_all {α β:Type} {f:α→Option β} {p:β→Prop}:∀{l:List α} {r:List β},(∀a ∈ l,∀x,f a=some x→p x)→l.mapM f=some r→∀x ∈ r,p x
 | [],r,_,h=>by simp at h;subst h;simp
 | a::l,r,hfg,h=>by
  rw [List.mapM_cons] at h
  simp only [Option.bind_eq_bind,Option.bind_eq_some_iff,Option.pure_def,Option.some.injEq] at h
  obtain ⟨x,hx,xs,hxs,rfl⟩:=h
  intro y hy
  rcases List.mem_cons.1 hy with rfl|hy
  ·exact hfg a (by simp) y hx
  ·exact mapM_all (fun b hb=>hfg b (by simp [hb])) hxs y hy
theorem WY {β γ:Type} {f:β→List γ}:∀{l:List β},(∀x ∈ l,f x=[])→l.flatMap f=[]
 | [],_=>rfl
 | a::l,h=>by rw [List.flatMap_cons,h a (by simp),WY (fun x hx=>h x (by simp [hx]))];rfl
theorem Xy:∀(n k:Nat) (t:TypeId) (w:World) (base:Nat) (sp:Nat→Bool) (hd:Bool) (cs:List Value) (x:DataW H×List MemPlace),plainT P k t=true→DataW.trod enc P w base sp hd n t cs=some x→
  x.2=[]∧∀w' base' sp' hd',DataW.trod enc P w' base' sp' hd' n t cs=some x
 | 0,_,_,_,_,_,_,_,_,_,h=>by simp [DataW.trod] at h
 | n+1,0,_,_,_,_,_,_,_,hp,_=>by simp [plainT] at hp
 | n+1,k+1,t,w,base,sp,hd,cs,x,hp,h=>by
  unfold plainT at hp
  split at hp
  ·rename_i hu
   obtain ⟨b,rfl,rfl⟩:=DataW.trod_bool hu h
   exact ⟨rfl,fun _ _ _ _=>by simp [DataW.trod,hu]⟩
  ·rename_i hu
   obtain ⟨z,rfl,rfl,hz⟩:=DataW.trod_int hu h
   exact ⟨rfl,fun _ _ _ _=>by simp [DataW.trod,hu,hz]⟩
  ·rename_i hu
   obtain ⟨s,rfl,rfl,hs⟩:=DataW.trod_string hu h
   exact ⟨rfl,fun _ _ _ _=>by simp [DataW.trod,hu,hs]⟩
  ·rename_i fs hu
   rw [Bool.and_eq_true,List.all_eq_true] at hp
   simp only [DataW.trod,hu] at h ⊢
   split at h
   ·rename_i hl
    simp only [Option.map_eq_some_iff] at h
    obtain ⟨xs,hxs,rfl⟩:=h
    have ih:∀f ∈ fs.toList,∀y,DataW.trod enc P w base sp hd n f.type ((cs.drop f.offset).take (P.cellsOf f.type))=some y→y.2=[]∧∀w' base' sp' hd',DataW.trod enc P w' base' sp' hd' n f.type ((cs.drop f.offset).take (P.cellsOf f.type))=some y:=fun f hf y hy=>
     Xy n k f.type w base sp hd _ y (hp.1 f hf) hy
    refine ⟨WY (mapM_all (fun f hf y hy=>(ih f hf y hy).1) hxs),fun w' base' sp' hd'=>?_⟩
    rw [if_pos hl,YZ (fun f hf y hy=>(ih f hf y hy).2 w' base' sp' hd') hxs]
    rfl
   ·cases h
  ·rename_i m e hu
   rw [Bool.and_eq_true] at hp
   simp only [DataW.trod,hu] at h ⊢
   split at h
   ·rename_i hl
    simp only [Option.map_eq_some_iff] at h
    obtain ⟨xs,hxs,rfl⟩:=h
    have ih:∀i ∈ List.range m,∀y,DataW.trod enc P w base sp hd n e ((cs.drop (i * P.cellsOf e)).take (P.cellsOf e))=some y→y.2=[]∧∀w' base' sp' hd',DataW.trod enc P w' base' sp' hd' n e ((cs.drop (i * P.cellsOf e)).take (P.cellsOf e))=some y:=fun i _ y hy=>
     Xy n k e w base sp hd _ y hp.1 hy
    refine ⟨WY (mapM_all (fun i hi y hy=>(ih i hi y hy).1) hxs),fun w' base' sp' hd'=>?_⟩
    rw [if_pos hl,YZ (fun i hi y hy=>(ih i hi y hy).2 w' base' sp' hd') hxs]
    rfl
   ·cases h
  ·cases hp
theorem YV {α β:Type} {f:α→Option β}:∀{l:List α} {r:List β},l.mapM f=some r→∀(i:Nat) (a:α),l[i]? = some a→∃b,r[i]? = some b∧f a=some b
 | [],r,_,i,a,hi=>by simp at hi
 | c::l,r,h,i,a,hi=>by
  rw [List.mapM_cons] at h
  simp only [Option.bind_eq_bind,Option.bind_eq_some_iff,Option.pure_def,Option.some.injEq] at h
  obtain ⟨x,hx,xs,hxs,rfl⟩:=h
  cases i with
  | zero=>simp at hi;subst hi;exact ⟨x,by simp,hx⟩
  | succ i=>simpa using YV hxs i a (by simpa using hi)
theorem cover:∀(fs:List Field) (o total:Nat) (cs cs':List Value),contig P o fs=some total→cs.length=total→cs'.length=total→
  (∀f ∈ fs,(cs.drop f.offset).take (P.cellsOf f.type)=(cs'.drop f.offset).take (P.cellsOf f.type))→cs.drop o=cs'.drop o
 | [],o,total,cs,cs',h,h1,h2,_=>by
  simp only [contig,Option.some.injEq] at h
  rw [List.drop_eq_nil_of_le (by omega),List.drop_eq_nil_of_le (by omega)]
 | f::fs,o,total,cs,cs',h,h1,h2,hp=>by
  unfold contig at h
  split at h
  ·rename_i ho
   have ih:=cover fs (o+P.cellsOf f.type) total cs cs' h h1 h2 fun g hg=>hp g (by simp [hg])
   have h3:=hp f (by simp)
   rw [ho] at h3
   rw [←List.take_append_drop (P.cellsOf f.type) (cs.drop o),←List.take_append_drop (P.cellsOf f.type) (cs'.drop o),List.drop_drop,List.drop_drop,h3,ih]
  ·cases h
theorem UK {H':Type} {enc':TypeId×Value→H'}:∀(n n' k:Nat) (t:TypeId) (w w':World) (base base':Nat) (sp sp':Nat→Bool) (hd hd':Bool) (cs cs':List Value) (x x':DataW H×List MemPlace),plainT P k t=true→
  DataW.trod enc P w base sp hd n t cs=some x→DataW.trod enc P w' base' sp' hd' n' t cs'=some x'→x.1=x'.1→cs=cs'
 | 0,_,_,_,_,_,_,_,_,_,_,_,_,_,_,_,_,h,_,_=>by simp [DataW.trod] at h
 | _+1,0,_,_,_,_,_,_,_,_,_,_,_,_,_,_,_,_,h,_=>by simp [DataW.trod] at h
 | n+1,n'+1,0,_,_,_,_,_,_,_,_,_,_,_,_,_,hp,_,_,_=>by simp [plainT] at hp
 | n+1,n'+1,k+1,t,w,w',base,base',sp,sp',hd,hd',cs,cs',x,x',hp,h,h',he=>by
  unfold plainT at hp
  split at hp
  ·rename_i hu
   obtain ⟨b,rfl,rfl⟩:=DataW.trod_bool hu h
   obtain ⟨b',rfl,rfl⟩:=DataW.trod_bool hu h'
   simp at he;subst he;rfl
  ·rename_i hu
   obtain ⟨z,rfl,rfl,hz⟩:=DataW.trod_int hu h
   obtain ⟨z',rfl,rfl,hz'⟩:=DataW.trod_int hu h'
   simp at he;subst he;rfl
  ·rename_i hu
   obtain ⟨s,rfl,rfl,hs⟩:=DataW.trod_string hu h
   obtain ⟨s',rfl,rfl,hs'⟩:=DataW.trod_string hu h'
   simp at he
   rw [XT (by rw [he]:s.data.toList=s'.data.toList)]
  ·rename_i fs hu
   rw [Bool.and_eq_true,List.all_eq_true,beq_iff_eq] at hp
   simp only [DataW.trod,hu] at h h'
   split at h
   ·rename_i hl
    split at h'
    ·rename_i hl'
     simp only [Option.map_eq_some_iff] at h h'
     obtain ⟨xs,hxs,rfl⟩:=h
     obtain ⟨xs',hxs',rfl⟩:=h'
     simp only [DataW.agg.injEq] at he
     have:=cover fs.toList 0 _ cs cs' hp.2 hl hl' fun f hf=>by
      obtain ⟨i,hi,rfl⟩:=List.mem_iff_getElem.1 hf
      have hi':=List.getElem?_eq_getElem hi
      obtain ⟨y,hy1,hy2⟩:=YV hxs i _ hi'
      obtain ⟨y',hy1',hy2'⟩:=YV hxs' i _ hi'
      have hyy:y.1=y'.1:=by
       have h1:(xs.map (·.1))[i]? = some y.1:=by simp [hy1]
       have h2:(xs'.map (·.1))[i]? = some y'.1:=by simp [hy1']
       rw [he] at h1
       exact Option.some.inj (h1.symm.trans h2)
      exact UK (enc':=enc') n n' k _ w w' base base' sp sp' hd hd' _ _ y y' (hp.1 _ hf) hy2 hy2' hyy
     simpa using this
    ·cases h'
   ·cases h
  ·rename_i m e hu
   rw [Bool.and_eq_true,beq_iff_eq] at hp
   simp only [DataW.trod,hu] at h h'
   split at h
   ·rename_i hl
    split at h'
    ·rename_i hl'
     simp only [Option.map_eq_some_iff] at h h'
     obtain ⟨xs,hxs,rfl⟩:=h
     obtain ⟨xs',hxs',rfl⟩:=h'
     simp only [DataW.agg.injEq] at he
     have hpart:∀i,i<m→(cs.drop (i * P.cellsOf e)).take (P.cellsOf e)=(cs'.drop (i * P.cellsOf e)).take (P.cellsOf e):=fun i hi=>by
      have hi':(List.range m)[i]? = some i:=by simp [hi]
      obtain ⟨y,hy1,hy2⟩:=YV hxs i _ hi'
      obtain ⟨y',hy1',hy2'⟩:=YV hxs' i _ hi'
      have hyy:y.1=y'.1:=by
       have h1:(xs.map (·.1))[i]? = some y.1:=by simp [hy1]
       have h2:(xs'.map (·.1))[i]? = some y'.1:=by simp [hy1']
       rw [he] at h1
       exact Option.some.inj (h1.symm.trans h2)
      exact UK (enc':=enc') n n' k _ w w' base base' sp sp' hd hd' _ _ y y' hp.1 hy2 hy2' hyy
     apply List.ext_getElem?
     intro j
     by_cases hj:j<m * P.cellsOf e
     ·have hc:0<P.cellsOf e:=Nat.pos_of_ne_zero fun h0=>by rw [h0] at hj;simp at hj
      have h1:=congrArg (fun l=>l[j % P.cellsOf e]?) (hpart (j / P.cellsOf e) (Nat.div_lt_of_lt_mul (by rw [Nat.mul_comm];exact hj)))
      simp only [List.getElem?_take,List.getElem?_drop,if_pos (Nat.mod_lt j hc)] at h1
      rw [show j / P.cellsOf e * P.cellsOf e+j % P.cellsOf e=j by rw [Nat.mul_comm];exact Nat.div_add_mod j _] at h1
      exact h1
     ·rw [List.getElem?_eq_none (by omega),List.getElem?_eq_none (by omega)]
    ·cases h'
   ·cases h
  ·cases hp
theorem post_kept {f:Func} {s:ChangeSpec} {apart fresh handsOn again:Bool} {W W':World} {args:Array Value} {v:Value} {ds gs:List (DataW H)} {before pa pv:List MemPlace}
  (hW:DataW.Whole enc P f.params.toList s.vars apart W args.toList ds gs before)
  (hres:∀(b:Nat) (sp:Nat→Bool) (hd:Bool),DataW.TrodAll enc P W' b sp hd f.resultTypes.toList (v.resultList f.resultTypes.size) (s.fn H (ds++gs)).results [])
  (hargs:∀sp:Nat→Bool,(∀b<W.heap.size,sp b=true)→DataW.TrodAll enc P W' 0 sp true f.params.toList args.toList (s.fn H (ds++gs)).args pa)
  (hvars:∀sp:Nat→Bool,(∀b<W.heap.size,sp b=true)→DataW.TrodVars enc P W' sp s.vars (s.fn H (ds++gs)).vars pv)
  (hps:before=pa++pv) (hk:Kept W W')
  (hok:∀(j:Nat) (t:TypeId) (r:Value),f.resultTypes[j]? = some t→(v.resultList f.resultTypes.size)[j]? = some r→Value.okWide P W' .any 0 t r) :
  s.post enc P f apart fresh handsOn again W args v W':=by
 have hlt:=hW.lt
 refine ⟨ds,gs,before,[],pa,pv,hW,hres _ _ _,hargs _ (fun b hb=>by simpa using hb),hvars _ (fun b hb=>by simpa using hb),World.keptBut_mono (fun p hp=>⟨hp,?_⟩) (hk.but (· ∈ before)),fun _=>?_⟩
 ·rw [hps,List.mem_append] at hp
  exact Or.inr hp
 ·obtain ⟨_,_,_,_,_,hz,hn⟩:=hW
  refine ⟨hok,_,_,([]++pa)++pv,⟨[]++pa,pv,trodAll_append (hargs _ (fun _ _=>rfl)) (hres _ _ _),hvars _ (fun _ _=>rfl),rfl,?_,?_⟩,?_⟩
  ·intro b off hp
   have hm:MemPlace.cell b off ∈ before:=by rw [hps];simpa using hp
   have h1:=hz b off hm
   have h2:b<W.heap.size:=hlt _ hm
   have h4:W.heap[b]? = some W.heap[b]:=Array.getElem?_eq_getElem h2
   have h3:=hk.heap b _ h4
   unfold World.frozen? at h1 ⊢
   dsimp only at h1 ⊢
   rw [h4] at h1
   rw [h3]
   exact h1
  ·intro ha
   have:=hn ha
   rw [hps] at this
   simpa using this
  ·intro p hp _
   rw [hps]
   simpa using hp
def laidU : List (String × DataW Unit) := [("replevin/object.usages", Rows.laid_replevin_object_usages)]
theorem gUsg : prog.globalNamed "replevin/object.usages" = some 0 := by kernel_rfl
theorem tUsg:(prog.globals[0]?).map (·.type)=some 236:=by kernel_rfl
theorem plUsg:plainT prog 5 236=true:=by decide +kernel
theorem rdUsg (w:World):DataW.trod (fun _=>()) prog w 0 (fun _=>true) false 8 236 (usages.flatMap uf)=some (Rows.laid_replevin_object_usages,[]):=by kernel_rfl
inductive SK where
 | b
 | i (k:IntKind)
 | s
def sksF (g:TypeId→Option (List SK)):List Field→Option (List SK)
 | []=>some []
 | f::fs=>match g f.type,sksF g fs with
  | some a,some r=>some (a++r)
  | _,_=>none
def sks (P:Program):Nat→TypeId→Option (List SK)
 | 0,_=>none
 | k+1,t=>match P.underlying t with
  | some .bool=>some [.b]
  | some (.int ik)=>some [.i ik]
  | some .string=>some [.s]
  | some (.struct fs)=>sksF (sks P k) fs.toList
  | some (.array n e)=>(sks P k e).map fun l=>(List.replicate n l).flatten
  | _=>none
def CellOK (M:Nat):SK→Value→Prop
 | .b,v=>∃b,v = .bool b
 | .i k,v=>∃z,v = .int k z∧(Lit.int k z).wf=true
 | .s,v=>∃s:ByteArray,v = .string s∧s.size≤M
def CellsOK (M:Nat):List SK→List Value→Prop
 | [],[]=>True
 | k::ks,v::vs=>CellOK M k v∧CellsOK M ks vs
 | _,_=>False
theorem X3 {M:Nat}:∀{a b:List SK} {x y:List Value},CellsOK M a x→CellsOK M b y→CellsOK M (a++b) (x++y)
 | [],_,[],_,_,h=>h
 | _::_,_,_::_,_,⟨h1,h2⟩,h=>⟨h1,X3 h2 h⟩
theorem Xn {M M':Nat} (hM:M≤M'):∀{a:List SK} {x:List Value},CellsOK M a x→CellsOK M' a x
 | [],[],_=>trivial
 | k::_,_::_,⟨h1,h2⟩=>⟨by
   cases k with
   | b=>exact h1
   | i k=>exact h1
   | s=>obtain ⟨s,hs,hl⟩:=h1;exact ⟨s,hs,Nat.le_trans hl hM⟩,Xn hM h2⟩
theorem WJ:∀{l:List (DataW H)} {d:DataW H},d ∈ l→Rows.uptoBulk d≤Rows.uptoBulkAll l
 | c::l,d,h=>by
  rcases List.mem_cons.1 h with rfl|h
  ·simp only [Rows.uptoBulkAll];omega
  ·have:=WJ h
   simp only [Rows.uptoBulkAll];omega
theorem sksF_ok {M:Nat} {g:TypeId→Option (List SK)}:∀(fs:List Field) (o total:Nat) (cs:List Value) (ks:List SK),contig P o fs=some total→cs.length=total→sksF g fs=some ks→
  (∀f ∈ fs,∀k,g f.type=some k→CellsOK M k ((cs.drop f.offset).take (P.cellsOf f.type)))→CellsOK M ks (cs.drop o)
 | [],o,total,cs,ks,h,h1,h2,_=>by
  simp only [contig,Option.some.injEq] at h
  simp only [sksF,Option.some.injEq] at h2
  rw [←h2,List.drop_eq_nil_of_le (by omega)];trivial
 | f::fs,o,total,cs,ks,h,h1,h2,hp=>by
  unfold contig at h
  split at h
  ·rename_i ho
   unfold sksF at h2
   split at h2
   ·rename_i a r ha hr
    obtain rfl:=Option.some.inj h2
    have ih:=sksF_ok fs (o+P.cellsOf f.type) total cs r h h1 hr fun g hg=>hp g (by simp [hg])
    have h3:=hp f (by simp) a ha
    rw [ho] at h3
    rw [←List.take_append_drop (P.cellsOf f.type) (cs.drop o),List.drop_drop]
    exact X3 h3 ih
   ·cases h2
  ·cases h
theorem arr_cells {M c:Nat} {l:List SK}:∀(m:Nat) (cs:List Value),cs.length=m * c→(∀i,i<m→CellsOK M l ((cs.drop (i * c)).take c))→CellsOK M (List.replicate m l).flatten cs
 | 0,cs,h,_=>by
  have:cs=[]:=List.length_eq_zero_iff.1 (by omega)
  subst this;trivial
 | m+1,cs,h,hp=>by
  have h0:=hp 0 (by omega)
  rw [Nat.zero_mul,List.drop_zero] at h0
  have hl:cs.length=m * c+c:=by rw [h,Nat.succ_mul]
  have ih:=arr_cells (M:=M) (c:=c) (l:=l) m (cs.drop c) (by rw [List.length_drop];omega) fun i hi=>by
   have:=hp (i+1) (by omega)
   rw [List.drop_drop,show c+i * c=(i+1) * c by rw [Nat.succ_mul];omega]
   exact this
  rw [List.replicate_succ,List.flatten_cons,←List.take_append_drop c cs]
  exact X3 h0 ih
theorem Vl:∀(n k:Nat) (t:TypeId) (w:World) (base:Nat) (sp:Nat→Bool) (hd:Bool) (cs:List Value) (x:DataW H×List MemPlace) (ks:List SK),plainT P k t=true→sks P k t=some ks→DataW.trod enc P w base sp hd n t cs=some x→CellsOK (Rows.uptoBulk x.1) ks cs
 | 0,_,_,_,_,_,_,_,_,_,_,_,h=>by simp [DataW.trod] at h
 | n+1,0,_,_,_,_,_,_,_,_,hp,_,_=>by simp [plainT] at hp
 | n+1,k+1,t,w,base,sp,hd,cs,x,ks,hp,hk,h=>by
  unfold plainT at hp
  unfold sks at hk
  split at hp
  ·rename_i hu
   rw [hu] at hk
   obtain rfl:=Option.some.inj hk
   obtain ⟨b,rfl,rfl⟩:=DataW.trod_bool hu h
   exact ⟨⟨b,rfl⟩,trivial⟩
  ·rename_i hu
   rw [hu] at hk
   obtain rfl:=Option.some.inj hk
   obtain ⟨z,rfl,rfl,hz⟩:=DataW.trod_int hu h
   exact ⟨⟨z,rfl,hz⟩,trivial⟩
  ·rename_i hu
   rw [hu] at hk
   obtain rfl:=Option.some.inj hk
   obtain ⟨s,rfl,rfl,hs⟩:=DataW.trod_string hu h
   refine ⟨⟨s,rfl,?_⟩,trivial⟩
   have hsz:s.data.toList.length=s.size:=by simp
   simp only [Rows.uptoBulk];omega
  ·rename_i fs hu
   rw [hu] at hk
   rw [Bool.and_eq_true,List.all_eq_true,beq_iff_eq] at hp
   simp only [DataW.trod,hu] at h
   split at h
   ·rename_i hl
    simp only [Option.map_eq_some_iff] at h
    obtain ⟨xs,hxs,rfl⟩:=h
    have:=sksF_ok (M:=Rows.uptoBulk (.agg (xs.map (·.1)))) (g:=sks P k) fs.toList 0 _ cs ks hp.2 hl hk fun f hf k' hk'=>by
     obtain ⟨i,hi,rfl⟩:=List.mem_iff_getElem.1 hf
     obtain ⟨y,hy1,hy2⟩:=YV hxs i _ (List.getElem?_eq_getElem hi)
     refine Xn ?_ (Vl n k _ w base sp hd _ y k' (hp.1 _ hf) hk' hy2)
     have hm:y.1 ∈ xs.map (·.1):=List.mem_map.2 ⟨y,List.mem_of_getElem? hy1,rfl⟩
     have:=WJ hm
     simp only [Rows.uptoBulk];omega
    simpa using this
   ·cases h
  ·rename_i m e hu
   rw [hu] at hk
   rw [Bool.and_eq_true,beq_iff_eq] at hp
   simp only [DataW.trod,hu] at h
   split at h
   ·rename_i hl
    simp only [Option.map_eq_some_iff] at h hk
    obtain ⟨xs,hxs,rfl⟩:=h
    obtain ⟨l,hl2,rfl⟩:=hk
    refine arr_cells m cs (by rw [hl,hp.2]) fun i hi=>?_
    have hi':(List.range m)[i]? = some i:=by simp [hi]
    obtain ⟨y,hy1,hy2⟩:=YV hxs i _ hi'
    refine Xn ?_ (Vl n k _ w base sp hd _ y l hp.1 hl2 hy2)
    have hm:y.1 ∈ xs.map (·.1):=List.mem_map.2 ⟨y,List.mem_of_getElem? hy1,rfl⟩
    have:=WJ hm
    simp only [Rows.uptoBulk];omega
   ·cases h
  ·cases hp
end
end Go.Proofs.YtgfohjbcccfolaaGreatDoor
