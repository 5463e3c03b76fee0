/-
  Contracts of the package process over a view, where they succeed: Epoch, Get, running, put, Start, Exit, Wait.
  The library's contracts, laid at this program: strconv.Itoa.
  Rules for texts that are joined.
  Contracts of the package process over a view, where they succeed: Fork, Exit, Wait.
  The contract of process.Fork, where it succeeds and nothing of the memory is there.
  What a view holds of the counts of three processes that make nodes in turn.
  The example of layer 35, known.
  From contracts to the statements' form: memory that was there stays; plain data read the same everywhere; the table of the kinds.
  Slices of plain data as arguments: the fact that they lie in memory, and that they read the same later.
  The settled world; arguments of plain types, opened.
  The contract of consequence.Compare.
  Contracts of the statements' own functions: names, out, build.
  The statements' arguments, opened: items, bytes.
  The laid tables: the kinds of objects, the powers of ten.
  Conditions: those that each theorem states.
-/
import Derived.Test.YtgfohjbcccfolaaGreatDoorW2
import Derived.Shelf.LaysM
import Derived.Shelf.Strconv.Itoa3
import Derived.Test.YtgfohjbcccfolaaGreatDoorW1
import Derived.Test.YtgfohjbcccfolaaGreatDoorRows
import Derived.Test.YtgfohjbcccfolaaGreatDoorCards
import Derived.Test.YtgfohjbcccfolaaGreatDoorTie
import Derived.ChangeSame
import Derived.ProofKit
import Derived.OpenShut
import Derived.MakeChecks
import Derived.Deep.DeepHandedRow
set_option maxRecDepth 10000
namespace Go.Proofs.YtgfohjbcccfolaaGreatDoor
open Go.RowKit Go.Proofs.Tryz
def pnm (who:ByteArray):Nm:=⟨1,who,0,0,⟨#[]⟩⟩
def rnm (who:ByteArray):Nm:=⟨2,who,0,0,⟨#[]⟩⟩
def gnm (who:ByteArray) (i:Int):Nm:=⟨3,who,0,i,⟨#[]⟩⟩
def enm:Nm:=⟨20,⟨#[]⟩,0,0,⟨#[]⟩⟩
theorem ofEpoch_ok:Enters 93∧Spec prog 93 #[] [] [] (RetV enm.v):=by
 refine ZI [] func93 ntmps93 fun G w hp=>?_
 repeat' (first|refine ZC ?_|refine ZB ?_|refine ZD ?_|refine ZV ?_|refine ZO (fun b=>?_)|fail)
 exact ZF () rfl trivial
theorem Zt (who:ByteArray):Enters 43∧Spec prog 43 #[.string who] [] [] (RetV (pnm who).v):=by
 refine ZI [_] func43 ntmps43 fun G w hp=>?_
 repeat' (first|refine ZC ?_|refine ZB ?_|refine ZD ?_|refine ZV ?_|refine ZO (fun b=>?_)|fail)
 exact ZF () rfl trivial
theorem Zx (who:ByteArray):Enters 44∧Spec prog 44 #[.string who] [] [] (RetV (rnm who).v):=by
 refine ZI [_] func44 ntmps44 fun G w hp=>?_
 repeat' (first|refine ZC ?_|refine ZB ?_|refine ZD ?_|refine ZV ?_|refine ZO (fun b=>?_)|fail)
 exact ZF () rfl trivial
theorem ofPage_ok (who:ByteArray) (i:Int):Enters 78∧Spec prog 78 #[.string who,.int .i64 i] [] [] (RetV (gnm who i).v):=by
 refine ZI [_,_] func78 ntmps78 fun G w hp=>?_
 repeat' (first|refine ZC ?_|refine ZB ?_|refine ZD ?_|refine ZV ?_|refine ZO (fun b=>?_)|fail)
 exact ZF () rfl trivial
theorem YF {who:ByteArray} (h:lvalid who.data.toList=true):nchk (pnm who)=0:=by
 have h2:isE ⟨#[]⟩=true:=by simp [isE]
 rw [nchk,if_pos (by simp [pnm])]
 show uchk ⟨_,true,false,false,false,0⟩ (pnm who)=0
 simp [uchk,pnm,h,h2]
theorem psz (p:Pr) (h:pchk p=0) (h1:p.sp.size≤1000) (h2:p.dr.mkr.size≤1000):(pencS p).size≤5000:=by
 obtain ⟨q1,q2,q3,q4,q5,q6⟩:=Zs h
 obtain ⟨q7,q8,q9⟩:=Z7 q4
 obtain ⟨q10,q11,q12⟩:=XZ q6
 unfold pfit at q3
 have l1:=ZM p.kd.toNat (by omega)
 have l2:=ZM p.st.toNat (by omega)
 have l3:=ZM p.cd.toNat (by omega)
 have l4:=ZM p.ep.toNat (by omega)
 have l5:=ZM p.us.toNat (by omega)
 have l6:=ZM p.gs.length (by omega)
 have l7:=ZM p.sp.size (by omega)
 have l8:=ZM p.pg.toNat (by omega)
 have l9:=ZM p.dr.mkr.size (by omega)
 have l10:=ZM p.dr.nu.toNat (by omega)
 have l11:=ZM p.tm.toNat (by omega)
 have l12:(genc p.gs).length≤p.gs.length * 10:=WD p.gs (fun z hz=>by have:=q8 z hz;omega)
 have s1:p.sp.data.toList.length=p.sp.size:=by simp
 have s2:p.dr.mkr.data.toList.length=p.dr.mkr.size:=by simp
 rw [pencS,if_pos h]
 show (penc p).toArray.size≤5000
 rw [List.size_toArray]
 simp only [penc,List.length_append]
 omega
section
variable (b:Nat) (ps:Option Addr) (es:Al) (rs:List (Nm×Ch)) (cs:List Ch)
theorem WK (h:vget es cs enm=(⟨#[]⟩,false)):Enters 35∧Spec prog 35 #[.pointer (some ⟨b,0,none⟩)] [St ps es,Usg] [Vw b ps rs cs]
  ⟨Unit,fun _=>.tuple #[.int .i64 0,.int .i64 0],fun _=>True,fun _=>[],fun _=>[Vw b ps (vread es rs cs enm) cs]⟩:=by
 have n1:=YZ b ps es rs cs enm (Nat.zero_le _) (Nat.zero_le _)
 rw [h] at n1
 have n2:=ofEpoch_ok
 refine ZI [_] func35 ntmps35 fun G w hp=>?_
 repeat' (first|refine ZC ?_|refine ZB ?_|refine ZD ?_|refine ZL ?_|refine ZG ?_|refine ZA (n1) (fun _ _=>?_)|refine ZA (n2) (fun _ _=>?_)|fail)
 exact ZF () rfl trivial
variable (who:ByteArray) (p:Pr)
structure PrAt (es:Al) (cs:List Ch) (who:ByteArray) (p:Pr):Prop where
 v:lvalid who.data.toList=true
 w:who.size≤1000
 g:vget es cs (pnm who)=(pencS p,true)
 c:pchk p=0
 s:p.sp.size≤1000
 d:p.dr.mkr.size≤1000
 e:p.ep=0
 n:vget es cs enm=(⟨#[]⟩,false)
theorem anyEpoch_ok (h:PrAt es cs who p):Enters 95∧Spec prog 95 #[.pointer (some ⟨b,0,none⟩),.string who] [St ps es,Usg] [Vw b ps rs cs]
  ⟨Option Addr×Nat,fun q=>.tuple #[p.v q.1 q.2,.int .i64 0],fun _=>True,fun q=>[Sl 3 zf q.1 q.2 p.gs],fun _=>[Vw b ps (vread es rs cs (pnm who)) cs]⟩:=by
 have hsz:=psz p h.c h.s h.d
 have hs:=h.s
 have hd:=h.d
 have hw:=h.w
 have n1:=YZ b ps es rs cs (pnm who) (by show who.size≤_;omega) (Nat.zero_le _)
 rw [h.g] at n1
 have n2:=Zt who
 have n3:=Zu (pencS p) (by omega)
 rw [pdec_enc h.c (by omega) (by omega)] at n3
 simp only [Option.getD_some,Option.isSome_some,if_true] at n3
 refine ZI [_,_] func95 ntmps95 fun G w hp=>?_
 repeat' (first|refine ZC ?_|refine ZB ?_|refine ZD ?_|refine ZV ?_|refine ZO (fun b=>?_)|refine ZG ?_|refine ZA (n1) (fun _ _=>?_)|refine ZA (n2) (fun _ _=>?_)|refine ZA (n3) (fun _ _=>?_)|fail)
 rename_i q _
 exact ZF q rfl trivial
def pgR (es:Al) (rs:List (Nm×Ch)) (cs:List Ch) (who:ByteArray):List (Nm×Ch):=vread es (vread es rs cs (pnm who)) cs enm
theorem Ys (h:PrAt es cs who p):Enters 39∧Spec prog 39 #[.pointer (some ⟨b,0,none⟩),.string who] [St ps es,Usg] [Vw b ps rs cs]
  ⟨Option Addr×Nat,fun q=>.tuple #[p.v q.1 q.2,.int .i64 0],fun _=>True,fun q=>[Sl 3 zf q.1 q.2 p.gs],fun _=>[Vw b ps (pgR es rs cs who) cs]⟩:=by
 have hw:=h.w
 have n1:=ZY who (by omega)
 rw [h.v] at n1
 have n2:=anyEpoch_ok b ps es rs cs who p h
 have n3:=WK b ps es (vread es rs cs (pnm who)) cs h.n
 have he:=h.e
 obtain ⟨a1,a2,a3,a4,a5,gs,a7,a8,a9,a10⟩:=p
 dsimp only at he
 subst he
 simp only [Pr.v] at n2 ⊢
 refine ZI [_,_] func39 ntmps39 fun G w hp=>?_
 repeat' (first|refine ZC ?_|refine ZB ?_|refine ZD ?_|refine ZR ?_|refine ZV ?_|refine ZO (fun b=>?_)|refine ZG ?_|refine ZA (n1) (fun _ _=>?_)|refine ZA (n2) (fun _ _=>?_)|refine ZA (n3) (fun _ _=>?_)|fail)
 rename_i q _ _ _
 exact ZF q rfl trivial
theorem running_ok (h:PrAt es cs who p) (hr:p.st=1):Enters 92∧Spec prog 92 #[.pointer (some ⟨b,0,none⟩),.string who] [St ps es,Usg] [Vw b ps rs cs]
  ⟨Option Addr×Nat,fun q=>.tuple #[p.v q.1 q.2,.int .i64 0],fun _=>True,fun q=>[Sl 3 zf q.1 q.2 p.gs],fun _=>[Vw b ps (pgR es rs cs who) cs]⟩:=by
 have n2:=Ys b ps es rs cs who p h
 obtain ⟨a1,a2,a3,a4,a5,gs,a7,a8,a9,a10⟩:=p
 dsimp only at hr
 subst hr
 simp only [Pr.v] at n2 ⊢
 refine ZI [_,_] func92 ntmps92 fun G w hp=>?_
 repeat' (first|refine ZC ?_|refine ZB ?_|refine ZD ?_|refine ZR ?_|refine ZV ?_|refine ZO (fun b=>?_)|refine ZG ?_|refine ZA (n2) (fun _ _=>?_)|fail)
 rename_i q _
 exact ZF q rfl trivial
theorem XU (o:Option Addr) (c:Nat) (hc:pchk p=0) (h1:p.sp.size≤1000) (h2:p.dr.mkr.size≤1000) (hw:who.size≤1000) (hv:lvalid who.data.toList=true) (hl:cs.length≤1000000) :
  Enters 60∧Spec prog 60 #[.pointer (some ⟨b,0,none⟩),.string who,p.v o c] [Sl 3 zf o c p.gs,Usg] [Vw b ps rs cs]
  ⟨Unit,fun _=>.int .i64 0,fun _=>True,fun _=>[],fun _=>[Vw b ps rs (cs++[⟨pnm who,pencS p,false⟩])]⟩:=by
 have n1:=X9 p o c hc h1 h2
 have n2:=Zt who
 have hsz:=psz p hc h1 h2
 have n3:=YP b ps rs cs (pnm who) (pencS p) (by show who.size≤_;omega) (Nat.zero_le _) hl
 have e9:vset cs (pnm who) (pencS p)=(0,cs++[⟨pnm who,pencS p,false⟩]):=by
  unfold vset
  rw [if_neg (by rw [YF hv];simp),if_neg (by omega)]
 rw [e9] at n3
 generalize pencS p=S at *
 obtain ⟨a1,a2,a3,a4,a5,gs,a7,a8,a9,a10⟩:=p
 simp only [Pr.v] at n1 ⊢
 refine ZI [_,_,_] func60 ntmps60 fun G w hp=>?_
 repeat' (first|refine ZC ?_|refine ZB ?_|refine ZD ?_|refine ZR ?_|refine ZO (fun b=>?_)|refine ZG ?_|refine ZA (n1) (fun _ _=>?_)|refine ZA (n2) (fun _ _=>?_)|refine ZA (n3) (fun _ _=>?_)|fail)
 exact ZF () rfl trivial
theorem vwHas_ok (a:Nm) (ha:a.owner.size≤1099511627770) (hat:a.text.size≤1099511627776):Enters 96∧Spec prog 96 #[.pointer (some ⟨b,0,none⟩),a.v] [St ps es,Usg] [Vw b ps rs cs]
  ⟨Unit,fun _=>.bool (vget es cs a).2,fun _=>True,fun _=>[],fun _=>[Vw b ps (vread es rs cs a) cs]⟩:=by
 have n1:=YZ b ps es rs cs a ha hat
 refine ZI [_,_] func96 ntmps96 fun G w hp=>?_
 repeat' (first|refine ZC ?_|refine ZB ?_|refine ZD ?_|refine ZR ?_|refine ZO (fun b=>?_)|refine ZA (n1) (fun _ _=>?_)|fail)
 exact ZF () rfl trivial
theorem copy0_ok (x y:Nm) (hx:x.owner.size≤1099511627770) (hxt:x.text.size≤1099511627776) (h:(vget es cs x).2=false):Enters 111∧Spec prog 111 #[.pointer (some ⟨b,0,none⟩),x.v,y.v] [St ps es,Usg] [Vw b ps rs cs]
  ⟨Unit,fun _=>.int .i64 0,fun _=>True,fun _=>[],fun _=>[Vw b ps (vread es rs cs x) cs]⟩:=by
 have n1:=YZ b ps es rs cs x hx hxt
 rw [h] at n1
 refine ZI [_,_,_] func111 ntmps111 fun G w hp=>?_
 repeat' (first|refine ZC ?_|refine ZB ?_|refine ZD ?_|refine ZR ?_|refine ZO (fun b=>?_)|refine ZL ?_|refine ZA (n1) (fun _ _=>?_)|fail)
 exact ZF () rfl trivial
theorem proStart_ok (o:Option Addr) (c:Nat) (hc:pchk p=0) (hs:p.st=1) (h1:p.sp.size≤1000) (h2:p.dr.mkr.size≤1000) (hw:who.size≤1000) (hv:lvalid who.data.toList=true) (hne:isE who=false) (hep:p.ep=0) (hl:cs.length≤1000000)
  (hn:vget es cs enm=(⟨#[]⟩,false)) (hp:(vget es cs (pnm who)).2=false) :
  Enters 40∧Spec prog 40 #[.pointer (some ⟨b,0,none⟩),.string who,p.v o c] [Sl 3 zf o c p.gs,St ps es,Usg] [Vw b ps rs cs]
  ⟨Unit,fun _=>.int .i64 0,fun _=>True,fun _=>[],fun _=>[Vw b ps (vread es (vread es rs cs enm) cs (pnm who)) (cs++[⟨pnm who,pencS p,false⟩])]⟩:=by
 obtain ⟨q1,q2,q3,q4,q5,q6⟩:=Zs hc
 obtain ⟨q7,q8,q9⟩:=Z7 q4
 have n0:=ZY who (by omega)
 rw [hv] at n0
 have n1:=YI p o c (by omega) (by omega) (by omega)
 rw [hc] at n1
 have n2:=Zt who
 have n3:=WK b ps es rs cs hn
 have n4:=vwHas_ok b ps es (vread es rs cs enm) cs (pnm who) (by show who.size≤_;omega) (Nat.zero_le _)
 rw [hp] at n4
 have n5:=XU b ps (vread es (vread es rs cs enm) cs (pnm who)) cs who p o c hc h1 h2 hw hv hl
 generalize pencS p=S at *
 obtain ⟨a1,a2,a3,a4,a5,gs,a7,a8,a9,a10⟩:=p
 dsimp only at hs hep
 subst hs hep
 simp only [Pr.v] at n1 n5 ⊢
 have hE:(who.toList == (⟨#[]⟩:ByteArray).toList)=false:=by rw [isE] at hne;exact hne
 refine ZI [_,_,_] func40 ntmps40 fun G w hp=>?_
 repeat' (first|refine ZC ?_|refine ZB ?_|refine ZS ?_|refine ZD ?_|refine ZR ?_|refine ZV ?_|refine ZO (fun b=>?_)|refine ZG ?_|refine ZA (n0) (fun _ _=>?_)|refine ZA (n1) (fun _ _=>?_)|refine ZA (n2) (fun _ _=>?_)|refine ZA (n3) (fun _ _=>?_)|refine ZA (n4) (fun _ _=>?_)|refine ZA (n5) (fun _ _=>?_)|rw [hE]|fail)
 exact ZF () rfl trivial
end
end Go.Proofs.YtgfohjbcccfolaaGreatDoor
set_option maxRecDepth 10000
namespace Go.Proofs
open Go.Shelf
def Tryz.laysM171_ren:Go.Shelf.Ren:=⟨fun|171=>55|243=>113|246=>160|283=>196|284=>197|285=>198|286=>199|129=>186|317=>218|318=>219|319=>220|320=>221|337=>227|338=>228|n=>n,fun|3=>3|9=>9|2=>2|4=>4|171=>290|0=>0|53=>202|37=>22|5=>5|173=>292|212=>309|51=>55|20=>20|213=>310|46=>174|232=>315|233=>141|n=>n,fun|17=>2|18=>3|19=>4|n=>n⟩
theorem Tryz.laysM171:Go.Proofs.LaysM.n171 Tryz.prog Tryz.laysM171_ren:={
 mixed:=by kernel_rfl
 f129:=Tryz.func186.trans (congrArg some (by kernel_rfl))
 f171:=Tryz.func55.trans (congrArg some (by kernel_rfl))
 f243:=Tryz.func113.trans (congrArg some (by kernel_rfl))
 f246:=Tryz.func160.trans (congrArg some (by kernel_rfl))
 f283:=Tryz.func196.trans (congrArg some (by kernel_rfl))
 f284:=Tryz.func197.trans (congrArg some (by kernel_rfl))
 f285:=Tryz.func198.trans (congrArg some (by kernel_rfl))
 f286:=Tryz.func199.trans (congrArg some (by kernel_rfl))
 f317:=Tryz.func218.trans (congrArg some (by kernel_rfl))
 f318:=Tryz.func219.trans (congrArg some (by kernel_rfl))
 f319:=Tryz.func220.trans (congrArg some (by kernel_rfl))
 f320:=Tryz.func221.trans (congrArg some (by kernel_rfl))
 f337:=Tryz.func227.trans (congrArg some (by kernel_rfl))
 f338:=Tryz.func228.trans (congrArg some (by kernel_rfl))
 t0:=Tryz.underlying0
 a0:=Tryz.isAgg0
 z0:=Tryz.sizeOf0
 v0:=Tryz.zeroValue0
 t2:=Tryz.underlying2
 a2:=Tryz.isAgg2
 z2:=Tryz.sizeOf2
 v2:=Tryz.zeroValue2
 t3:=Tryz.underlying3
 a3:=Tryz.isAgg3
 z3:=Tryz.sizeOf3
 v3:=Tryz.zeroValue3
 t4:=Tryz.underlying4
 a4:=Tryz.isAgg4
 z4:=Tryz.sizeOf4
 v4:=Tryz.zeroValue4
 t5:=Tryz.underlying5
 a5:=Tryz.isAgg5
 z5:=Tryz.sizeOf5
 v5:=Tryz.zeroValue5
 t9:=Tryz.underlying9
 a9:=Tryz.isAgg9
 z9:=Tryz.sizeOf9
 v9:=Tryz.zeroValue9
 t20:=Tryz.underlying20
 a20:=Tryz.isAgg20
 z20:=Tryz.sizeOf20
 v20:=Tryz.zeroValue20
 t37:=Tryz.underlying22
 a37:=Tryz.isAgg22
 z37:=Tryz.sizeOf22
 v37:=Tryz.zeroValue22
 t46:=Tryz.underlying174
 a46:=Tryz.isAgg174
 z46:=Tryz.sizeOf174
 v46:=Tryz.zeroValue174
 t51:=Tryz.underlying55
 a51:=Tryz.isAgg55
 z51:=Tryz.sizeOf55
 v51:=Tryz.zeroValue55
 t53:=Tryz.underlying202
 a53:=Tryz.isAgg202
 z53:=Tryz.sizeOf202
 v53:=Tryz.zeroValue202
 t171:=Tryz.underlying290
 a171:=Tryz.isAgg290
 z171:=Tryz.sizeOf290
 v171:=Tryz.zeroValue290
 t173:=Tryz.underlying292
 a173:=Tryz.isAgg292
 z173:=Tryz.sizeOf292
 v173:=Tryz.zeroValue292
 t212:=Tryz.underlying309
 a212:=Tryz.isAgg309
 z212:=Tryz.sizeOf309
 v212:=Tryz.zeroValue309
 t213:=Tryz.underlying310
 a213:=Tryz.isAgg310
 z213:=Tryz.sizeOf310
 t232:=Tryz.underlying315
 a232:=Tryz.isAgg315
 z232:=Tryz.sizeOf315
 v232:=Tryz.zeroValue315
 t233:=Tryz.underlying141
 a233:=Tryz.isAgg141
 z233:=Tryz.sizeOf141
 v233:=Tryz.zeroValue141
 g17:=by kernel_rfl
 g18:=by kernel_rfl
 g19:=by kernel_rfl
 i0:=by kernel_rfl
 i2:=by kernel_rfl
 i3:=by kernel_rfl
 i4:=by kernel_rfl
 i5:=by kernel_rfl
 i9:=by kernel_rfl
 i20:=by kernel_rfl
 i37:=by kernel_rfl
 i46:=by kernel_rfl
 i51:=by kernel_rfl
 i53:=by kernel_rfl
 i171:=by kernel_rfl
 i173:=by kernel_rfl
 i212:=by kernel_rfl
 i232:=by kernel_rfl
 i233:=by kernel_rfl
 m17:=by kernel_rfl
 m18:=by kernel_rfl
 m19:=by kernel_rfl}
end Go.Proofs
namespace Go.Proofs.YtgfohjbcccfolaaGreatDoor
open Go.Proofs.Tryz
open Go.RowKit
theorem ext_grow (w:World) (k:Nat) (os:Array Obj):Ext w (Sort.grow (w.drewN k) os):=
 ⟨rfl,rfl,rfl,by simp [Sort.grow,World.drewN],fun j hj=>by
  show (w.heap++os)[j]? = _
  rw [Array.getElem?_append_left hj]⟩
def P10:Pf:=⟨fun h=>∃T fz,h 2=some (.cells (Lib.pow10Tab.map fun z=>Value.int .u64 z).toArray T fz),fun _ _ s ⟨T,fz,h⟩=>⟨T,fz,s _ _ h⟩⟩
theorem g10 : prog.globalNamed "internal/strconv.uint64pow10" = some 2 := by kernel_rfl
theorem tab10 {w : World} {T : TypeId} {fz : Nat × Nat} (h : w.heap[2]? = some (.cells (Lib.pow10Tab.map fun z => Value.int .u64 z).toArray T fz)) : Lib.TabIs prog w "internal/strconv.uint64pow10" .u64 Lib.pow10Tab := by
 unfold Lib.TabIs World.var?
 rw [g10]
 simp only [Option.bind_some]
 rw [h]
theorem itoa_ok (n:Int) (h0 : -9223372036854775808≤n) (h1:n≤9223372036854775807):Enters 55∧Spec prog 55 #[.int .i64 n] [P10] [] (RetV (.string ⟨(Lib.itoa n).toArray⟩)):=by
 refine ⟨enters_of func55 (by kernel_rfl) rfl,fun G w hp hs=>?_⟩
 obtain ⟨hp',hr,st⟩:=hs
 obtain ⟨T,fz,h⟩:=st.f P10 (by simp)
 refine (Any.strconv_Itoa Tryz.laysM171 n h0 h1 w (tab10 (st.inp _ _ h))).mono ?_
 rintro e w' ⟨rfl,k,os,rfl⟩
 exact ⟨(),rfl,trivial,(Sat.ext ⟨hp',hr,st⟩ (ext_grow w k os)).facts fun _ _ x hx=>by simp [RetV] at hx⟩
end Go.Proofs.YtgfohjbcccfolaaGreatDoor
namespace Go.Proofs.YtgfohjbcccfolaaGreatDoor
open Go.RowKit Go.Proofs.Tryz
theorem bsz (a:Array UInt8):(ByteArray.mk a).size=a.size:=rfl
variable {i:Nat}
section
variable {n:Nat} {C:Cx} {Q:Exit→Act→World→Prop} {E E':List (Nat×Value)} {F F' F1 Fs F0:List Pf} {R R' R0 Rs N N' A:List HP} {k k':List Fr} {ops l:List Oper} {L L':List (Nat×Nat)} {Tl:List Nat} {d:Nat} {t t2 ty0:TypeId} {x y:Operand} {pos:String} {aft:Array Edge} {gd:Option (Nat×Bool)}
theorem run_cat {a b:ByteArray} {ac:Act} {w:World} (h:a.size+b.size≤9223372036854775807) (ha:Agree n C.ds (look E) ac) (hx:ev E x=some (.string a)) (hy:ev E y=some (.string b)) :
  (execOp ac.eval ⟨some d,.binOp .add t x y t2,ty0,pos,aft,gd⟩).run prog w = .ok (.value (.string (a++b))) w:=by
 have h1:¬(((a.size+b.size:Nat):Int) > IntKind.i64.max):=by
  have:IntKind.i64.max=9223372036854775807:=by decide
  omega
 have hg:(eqGuard .add t x y (.string a) (.string b)).run prog w = .ok () w:=by simp [eqGuard]
 have hb:(binOp .add t (.string a) (.string b)).run prog w = .ok (.string (a++b)) w:=by
  simp only [binOp,Op.stringOp]
  rw [if_neg h1];rfl
 simp only [execOp,ha.ev (x:=x) (by rw [ZK];exact hx),ha.ev (x:=y) (by rw [ZK];exact hy),Sem.run_bind,hg,Result.andThen,hb,Sem.run_pure]
theorem l_cat {a b:ByteArray} (nx:Wl n C ops.toArray k Q l ((d,.string (a++b))::E) F R) (hw:wantL ops E ⟨some d,.binOp .add t x y t2,ty0,pos,aft,gd⟩=some true:=by rfl) (hn:Nat.blt d n=true:=by rfl)
  (hx:ev E x=some (.string a):=by rfl) (hy:ev E y=some (.string b):=by rfl) (h:a.size+b.size≤9223372036854775807:=by simp only [ByteArray.size_append,bsz,List.size_toArray,List.length_cons,List.length_nil,List.length_append]<;>omega) :
  Wl n C ops.toArray k Q (⟨some d,.binOp .add t x y t2,ty0,pos,aft,gd⟩::l) E F R:=
 l_q (fun _ _ ha=>run_cat h ha hx hy) nx (by intro c h;cases h) hw hn
end
theorem isOrd_ok (k:Int):Enters 53∧Spec prog 53 #[.int .i64 k] [] [] (RetV (.bool (decide (1≤k) && decide (k≤999999)))):=by
 refine ZI [_] func53 ntmps53 fun G w hp=>?_
 repeat' (first|refine ZC ?_|refine ZB ?_|refine ZS ?_|refine ZD ?_|(refine ZN (fun hc=>?_) (fun hc=>?_)<;>(try simp at hc))|fail)
 all_goals (refine ZF () ?_ trivial;simp_all [RetV,resV]<;>omega)
theorem depth_ok (s:ByteArray) (hs:s.size≤1099511627776):Enters 54∧Spec prog 54 #[.string s] [] [] (RetV (.int .i64 ((lords s.data.toList).length:Int))):=by
 have n1:=XS s hs
 refine ZI [_] func54 ntmps54 fun G w hp=>?_
 repeat' (first|refine ZC ?_|refine ZB ?_|refine ZD ?_|refine ZA (n1) (fun _ _=>?_)|fail)
 exact ZF () rfl trivial
def chN (who:ByteArray) (k:Int):ByteArray:=who++⟨#[46]⟩++⟨(Lib.itoa k).toArray⟩
theorem child_ok (who:ByteArray) (k:Int) (hv:lvalid who.data.toList=true) (hw:who.size≤1000) (hk:1≤k∧k≤999999) (hd:(lords who.data.toList).length≠8) (hne:isE who=false) (hi:(Lib.itoa k).length≤100) :
  Enters 12∧Spec prog 12 #[.string who,.int .i64 k] [P10] [] (RetV (.tuple #[.string (chN who k),.int .i64 0])):=by
 have n0:=ZY who (by omega)
 rw [hv] at n0
 have n1:=isOrd_ok k
 rw [show (decide (1≤k) && decide (k≤999999))=true by simp;omega] at n1
 have n2:=depth_ok who (by omega)
 have n3:=itoa_ok k (by omega) (by omega)
 have hE:(who.toList == (⟨#[]⟩:ByteArray).toList)=false:=by rw [isE] at hne;exact hne
 have hD:(((lords who.data.toList).length:Int) == 8)=false:=by rw [beq_eq_false_iff_ne];omega
 have z1:(⟨#[46]⟩:ByteArray).size=1:=rfl
 have z2:(⟨(Lib.itoa k).toArray⟩:ByteArray).size=(Lib.itoa k).length:=by show (List.toArray _).size=_;rw [List.size_toArray]
 unfold chN
 generalize (⟨(Lib.itoa k).toArray⟩:ByteArray)=I at *
 refine ZI [_,_] func12 ntmps12 fun G w hp=>?_
 repeat' (first|refine ZC ?_|refine ZB ?_|refine ZD ?_|refine ZG ?_|refine ZA (n0) (fun _ _=>?_)|refine ZA (n1) (fun _ _=>?_)|refine ZA (n2) (fun _ _=>?_)|refine ZA (n3) (fun _ _=>?_)|rw [hE]|rw [hD]|refine l_cat ?_ (h:=by rw [z1];omega)|refine l_cat ?_ (h:=by rw [ByteArray.size_append,z1,z2];omega)|fail)
 exact ZF () rfl trivial
section
variable (b:Nat) (ps:Option Addr) (es:Al) (rs:List (Nm×Ch)) (cs:List Ch) (who:ByteArray) (p:Pr)
theorem owner_ok (o:Option Addr) (c:Nat) (h:p.sp=who):Enters 109∧Spec prog 109 #[.pointer (some ⟨b,0,none⟩),.string who,p.v o c] [] [] (RetV (.tuple #[p.v o c,.int .i64 0])):=by
 obtain ⟨a1,a2,a3,a4,a5,gs,a7,a8,a9,a10⟩:=p
 dsimp only at h
 subst h
 have hE:(a7.toList == a7.toList)=true:=by simp
 refine ZI [_,_,_] func109 ntmps109 fun G w hp=>?_
 repeat' (first|refine ZC ?_|refine ZB ?_|refine ZD ?_|refine ZR ?_|refine ZV ?_|refine ZO (fun b=>?_)|refine ZL ?_|rw [hE]|fail)
 exact ZF () rfl trivial
theorem exitF_ok (bx bc:Nat) (o:Option Addr) (c:Nat) (k:Int) (hk:0≤k∧k≤410):Enters 57∧Spec prog 57 #[.pointer (some ⟨bx,0,none⟩),.pointer (some ⟨bc,0,none⟩)] []
  [Pt bx (.cells (prf p o c).toArray 44),Pt bc (.cells #[.int .i64 k] 3)] ⟨Unit,fun _=>.int .i64 0,fun _=>True,fun _=>[],fun _=>[Pt bx (.cells (prf {p with st:=2,cd:=k} o c).toArray 44),Pt bc (.cells #[.int .i64 k] 3)]⟩:=by
 have n1:=Xm k 410
 rw [show (decide (0≤k) && decide (k≤410))=true by simp;omega] at n1
 obtain ⟨a1,a2,a3,a4,a5,gs,a7,a8,a9,a10⟩:=p
 unfold prf
 refine ZI [_,_] func57 ntmps57 fun G w hp=>?_
 repeat' (first|refine ZC ?_|refine ZB ?_|refine ZD ?_|refine ZR ?_|refine ZG ?_|refine Zv ?_|refine Yd ?_|refine r_st ?_|refine Zw ?_|refine ZA (n1) (fun _ _=>?_)|refine Zb 3 [Pt bx (.cells _ 44 _)] [(0,0),(1,0),(2,0),(3,0),(4,0),(5,4),(6,0),(7,0),(8,4)] [] ?_|fail)
 exact ZF () rfl trivial
set_option maxHeartbeats 1000000 in
theorem proExit_ok (h:PrAt es cs who p) (hr:p.st=1) (k:Int) (hk:0≤k∧k≤410) (hc:pchk {p with st:=2,cd:=k}=0) (hl:cs.length≤1000000):Enters 13∧Spec prog 13 #[.pointer (some ⟨b,0,none⟩),.string who,.int .i64 k] [St ps es,Usg] [Vw b ps rs cs]
  ⟨Unit,fun _=>.int .i64 0,fun _=>True,fun _=>[],fun _=>[Vw b ps (pgR es rs cs who) (cs++[⟨pnm who,pencS {p with st:=2,cd:=k},false⟩])]⟩:=by
 have n1:=running_ok b ps es rs cs who p h hr
 have n2:=fun bx bc o c=>exitF_ok p bx bc o c k hk
 have n3:=fun o c=>XU b ps (pgR es rs cs who) cs who {p with st:=2,cd:=k} o c hc h.s h.d h.w h.v hl
 generalize pgR es rs cs who=rs2 at *
 generalize pencS {p with st:=2,cd:=k}=S at *
 have hch:∀bc:Nat,Enters 56∧Spec prog 56 #[.pointer (some ⟨b,0,none⟩),.string who,.func (.func 57) #[] #[.pointer (some ⟨bc,0,none⟩)]] [St ps es,Usg] [Vw b ps rs cs,Pt bc (.cells #[.int .i64 k] 3)]
   ⟨Unit,fun _=>.int .i64 0,fun _=>True,fun _=>[],fun _=>[Vw b ps rs2 (cs++[⟨pnm who,S,false⟩])]⟩:=fun bc=>by
  obtain ⟨a1,a2,a3,a4,a5,gs,a7,a8,a9,a10⟩:=p
  dsimp only at *
  simp only [Pr.v,prf] at n1 n2 n3
  generalize b=bv at *
  refine ZI [_,_,_] func56 ntmps56 fun G w hp=>?_
  repeat' (first|refine ZC ?_|refine ZB ?_|refine ZD ?_|refine ZR ?_|refine ZV ?_|refine ZO (fun b=>?_)|refine ZG ?_|refine ZA (n1) (fun _ _=>?_)|refine ZA (n3 _ _) (fun _ _=>?_)|refine Xw (n2 _ _ _ _) (fun _ _=>?_)|fail)
  exact ZF () rfl trivial
 generalize b=bv at *
 refine ZI [_,_,_] func13 ntmps13 fun G w hp=>?_
 repeat' (first|refine ZC ?_|refine ZB ?_|refine ZD ?_|refine ZO (fun b=>?_)|refine ZA (hch _) (fun _ _=>?_)|fail)
 exact ZF () rfl trivial
theorem Y6 (h:PrAt es cs who p) (c:Ct) (hm:madeE es cs who=(c,0)) (hmv:(vget es cs (cnm who)).1.size≤1099511627776) (k:Int) (hk:1≤k∧k≤c.c) (hk2:k≤999999) (hd:(lords who.data.toList).length≠8) (hne:isE who=false) (hi:(Lib.itoa k).length≤100) (q:Pr)
  (hq:PrAt es cs (chN who k) q) (hl:cs.length≤1000000) (hc:q.st=2→pchk {q with st:=3}=0) :
  Enters 14∧Spec prog 14 #[.pointer (some ⟨b,0,none⟩),.string who,.int .i64 k] [St ps es,Usg,P10] [Vw b ps rs cs]
   ⟨Unit,fun _=>.tuple #[.int .i64 (if q.st=2 then q.cd else 0),.int .i64 (if q.st=1 then 19 else if q.st=3 then 10 else 0)],fun _=>True,fun _=>[],fun _=>[Vw b ps (pgR es (madeR es (pgR es rs cs who) cs who) cs (chN who k)) (if q.st=2 then cs++[⟨pnm (chN who k),pencS {q with st:=3},false⟩] else cs)]⟩:=by
 have hw:=h.w
 have n1:=Ys b ps es rs cs who p h
 have n2:=made_ok b ps es (pgR es rs cs who) cs who (by omega) hmv
 rw [hm] at n2
 have n3:=child_ok who k h.v hw ⟨hk.1,hk2⟩ hd hne hi
 have n4:=Ys b ps es (madeR es (pgR es rs cs who) cs who) cs (chN who k) q hq
 have n5:=fun o c hc=>XU b ps (pgR es (madeR es (pgR es rs cs who) cs who) cs (chN who k)) cs (chN who k) {q with st:=3} o c hc hq.s hq.d hq.w hq.v hl
 have hst:1≤q.st∧q.st≤3:=by
  obtain ⟨q1,q2,q3,q4,q5,q6⟩:=Zs hq.c
  omega
 generalize pencS {q with st:=3}=S at *
 generalize pgR es (madeR es (pgR es rs cs who) cs who) cs (chN who k)=rs4 at *
 generalize madeR es (pgR es rs cs who) cs who=rs3 at *
 generalize pgR es rs cs who=rs2 at *
 generalize chN who k=ch at *
 clear h hq
 obtain ⟨c1,c2,c3⟩:=c
 obtain ⟨a1,a2,a3,a4,a5,gs,a7,a8,a9,a10⟩:=q
 dsimp only at *
 simp only [Pr.v] at n4 n5
 rcases (show a2=1∨a2=2∨a2=3 by omega) with rfl|rfl|rfl
 ·refine ZI [_,_,_] func14 ntmps14 fun G w hp=>?_
  repeat' (first|refine ZC ?_|refine ZB ?_|refine ZS ?_|refine ZD ?_|refine ZR ?_|refine ZV ?_|refine ZO (fun b=>?_)|refine ZL ?_|refine ZG ?_|refine ZA (n1) (fun _ _=>?_)|refine ZA (n2) (fun _ _=>?_)|refine ZA (n3) (fun _ _=>?_)|refine ZA (n4) (fun _ _=>?_)|(refine ZN (fun hc=>?_) (fun hc=>?_)<;>(try simp at hc)<;>(try omega))|(refine ZJ (fun hc=>?_) (fun hc=>?_)<;>(try simp at hc)<;>(try omega))|fail)
  exact ZF () rfl trivial
 ·have n6:=fun o c=>n5 o c (hc rfl)
  refine ZI [_,_,_] func14 ntmps14 fun G w hp=>?_
  repeat' (first|refine ZC ?_|refine ZB ?_|refine ZS ?_|refine ZD ?_|refine ZR ?_|refine ZV ?_|refine ZO (fun b=>?_)|refine ZG ?_|refine ZA (n1) (fun _ _=>?_)|refine ZA (n2) (fun _ _=>?_)|refine ZA (n3) (fun _ _=>?_)|refine ZA (n4) (fun _ _=>?_)|refine ZA (n6 _ _) (fun _ _=>?_)|(refine ZN (fun hc=>?_) (fun hc=>?_)<;>(try simp at hc)<;>(try omega))|(refine ZJ (fun hc=>?_) (fun hc=>?_)<;>(try simp at hc)<;>(try omega))|fail)
  exact ZF () rfl trivial
 ·refine ZI [_,_,_] func14 ntmps14 fun G w hp=>?_
  repeat' (first|refine ZC ?_|refine ZB ?_|refine ZS ?_|refine ZD ?_|refine ZR ?_|refine ZV ?_|refine ZO (fun b=>?_)|refine ZL ?_|refine ZG ?_|refine ZA (n1) (fun _ _=>?_)|refine ZA (n2) (fun _ _=>?_)|refine ZA (n3) (fun _ _=>?_)|refine ZA (n4) (fun _ _=>?_)|(refine ZN (fun hc=>?_) (fun hc=>?_)<;>(try simp at hc)<;>(try omega))|(refine ZJ (fun hc=>?_) (fun hc=>?_)<;>(try simp at hc)<;>(try omega))|fail)
  exact ZF () rfl trivial
end
section
variable (b:Nat) (ps:Option Addr) (es:Al) (rs:List (Nm×Ch)) (cs:List Ch) (who:ByteArray) (p:Pr)
def kidP (p:Pr) (ch:ByteArray):Pr:={p with sp:=ch}
theorem kid_chk {p:Pr} {ch:ByteArray} (h:pchk p=0) (hv:lvalid ch.data.toList=true):pchk (kidP p ch)=0:=by
 obtain ⟨q1,q2,q3,q4,q5,q6⟩:=Zs h
 unfold pfit at q3
 unfold pchk pfit kidP
 dsimp only
 rw [if_neg (by omega),if_neg (by omega),if_neg (by simp only [Decidable.not_not];omega),if_neg (by simp [q4]),if_neg (by simp [hv])]
 exact q6
def frkC (cs:List Ch) (who ch:ByteArray) (c:Ct) (p:Pr):List Ch:=cs++[⟨cnm who,cvs {c with c:=c.c+1},false⟩]++[⟨pnm ch,pencS (kidP p ch),false⟩]
set_option maxHeartbeats 4000000 in
theorem fork_ok (h:PrAt es cs who p) (hr:p.st=1) (hsp:p.sp=who) (c:Ct) (hm:madeE es cs who=(c,0)) (hmv:(vget es cs (cnm who)).1.size≤1099511627776) (hct:CtOK c) (hk2:c.c+1≤999999) (hd:(lords who.data.toList).length≠8) (hne:isE who=false) (hi:(Lib.itoa (c.c+1)).length≤100)
  (hcv:lvalid (chN who (c.c+1)).data.toList=true) (hcw:(chN who (c.c+1)).size≤1000) (hg:(vget es cs (pnm (chN who (c.c+1)))).2=false) (hreg:(vget es cs (rnm who)).2=false) (hpg:∀i:Nat,(vget es cs (gnm who (i:Int))).2=false) (hl:cs.length≤900000) :
  Enters 52∧Spec prog 52 #[.pointer (some ⟨b,0,none⟩),.string who,.bool false] [St ps es,Usg,P10] [Vw b ps rs cs]
   ⟨List (Nm×Ch),fun _=>.tuple #[.string (chN who (c.c+1)),.int .i64 0],fun _=>True,fun _=>[],fun rs'=>[Vw b ps rs' (frkC cs who (chN who (c.c+1)) c p)]⟩:=by
 have hw:=h.w
 obtain ⟨q1,q2,q3,q4,q5,q6⟩:=Zs h.c
 unfold pfit at q3
 have n1:=running_ok b ps es rs cs who p h hr
 have n2:=made_ok b ps es (pgR es rs cs who) cs who (by omega) hmv
 rw [hm] at n2
 have hc0:=hct.c0
 have n3:=child_ok who (c.c+1) h.v hw ⟨by omega,hk2⟩ hd hne hi
 have n4:=Zt (chN who (c.c+1))
 have n5:=fun rs'=>vwHas_ok b ps es rs' cs (pnm (chN who (c.c+1))) (by show (chN who (c.c+1)).size≤_;omega) (Nat.zero_le _)
 rw [hg] at n5
 have n6:=fun o c'=>owner_ok b who p o c' hsp
 have n7:=fun rs'=>vwMark_ok b ps rs' cs
 have hct2:CtOK {c with c:=c.c+1}:=⟨hct.b0,hct.b1,hct.o0,hct.o1,by show 0≤c.c+1;omega,by show c.c+1≤_;omega⟩
 have n8:=fun rs'=>setMade_ok b ps rs' cs who {c with c:=c.c+1} (by omega) h.v hct2 (by omega)
 have hcs:=cvs_size hct2
 have e8:vset cs (cnm who) ⟨(cenc {c with c:=c.c+1}).toArray⟩=(0,cs++[⟨cnm who,cvs {c with c:=c.c+1},false⟩]):=by
  unfold vset
  rw [if_neg (by rw [chk_cnm h.v];simp),if_neg (by show ¬65536<(cvs {c with c:=c.c+1}).size;omega)]
  rfl
 rw [e8] at n8
 have hkc:=kid_chk h.c hcv
 have n9:=fun rs' o c'=>XU b ps rs' (cs++[⟨cnm who,cvs {c with c:=c.c+1},false⟩]) (chN who (c.c+1)) (kidP p (chN who (c.c+1))) o c' hkc hcw h.d hcw hcv (by simp;omega)
 have hfr:cs++[⟨cnm who,cvs {c with c:=c.c+1},false⟩]++[⟨pnm (chN who (c.c+1)),pencS (kidP p (chN who (c.c+1))),false⟩]=frkC cs who (chN who (c.c+1)) c p:=rfl
 rw [hfr] at n9
 have hreg2:(vget es (frkC cs who (chN who (c.c+1)) c p) (rnm who)).2=false:=by
  rw [←hfr,Zn (by simp [pnm,rnm]),Zn (by simp [cnm,rnm])];exact hreg
 have hpg2:∀i:Nat,(vget es (frkC cs who (chN who (c.c+1)) c p) (gnm who (i:Int))).2=false:=fun i=>by
  rw [←hfr,Zn (by simp [pnm,gnm]),Zn (by simp [cnm,gnm])];exact hpg i
 have n10:=fun rs'=>copy0_ok b ps es rs' (frkC cs who (chN who (c.c+1)) c p) (rnm who) (rnm (chN who (c.c+1))) (by show who.size≤_;omega) (Nat.zero_le _) hreg2
 have n11:=fun rs' (i:Nat)=>copy0_ok b ps es rs' (frkC cs who (chN who (c.c+1)) c p) (gnm who (i:Int)) (gnm (chN who (c.c+1)) (i:Int)) (by show who.size≤_;omega) (Nat.zero_le _) (hpg2 i)
 have n12:=Zx who
 have n13:=Zx (chN who (c.c+1))
 have n14:=fun i:Nat=>ofPage_ok who (i:Int)
 have n15:=fun i:Nat=>ofPage_ok (chN who (c.c+1)) (i:Int)
 have w1:IntKind.i64.wrap (c.c+1)=c.c+1:=wrapi (by omega) (by omega)
 generalize frkC cs who (chN who (c.c+1)) c p=cs3 at *
 generalize (cs++[⟨cnm who,cvs {c with c:=c.c+1},false⟩]:List Ch)=cs2 at *
 generalize chN who (c.c+1)=ch at *
 clear h hkc hfr e8 hcs hcv hcw hg
 obtain ⟨c1,c2,c3⟩:=c
 obtain ⟨a1,a2,a3,a4,a5,gs,a7,a8,⟨d1,d2⟩,a10⟩:=p
 dsimp only at *
 obtain ⟨pg,hpge⟩:∃pg:Nat,a8=(pg:Int):=⟨a8.toNat,by omega⟩
 subst hr hsp hpge
 simp only [Pr.v,kidP] at n1 n6 n9
 generalize b=bv at *
 refine ZI [_,_,_] func52 ntmps52 fun G w hp=>?_
 repeat' (first|refine ZC ?_|refine ZB ?_|refine ZD ?_|refine ZR ?_|refine ZV ?_|refine ZO (fun b=>?_)|refine ZL ?_|refine ZG ?_|refine Zv ?_|refine Yd ?_|refine r_al (fun b=>?_)|refine r_st ?_|refine Zw ?_|refine ZA (n1) (fun _ _=>?_)|refine ZA (n2) (fun _ _=>?_)|refine ZA (n3) (fun _ _=>?_)|refine ZA (n4) (fun _ _=>?_)|refine ZA (n5 _) (fun _ _=>?_)|refine ZA (n6 _ _) (fun _ _=>?_)|refine ZA (n7 _) (fun _ _=>?_)|refine ZA (n8 _) (fun _ _=>?_)|refine ZA (n9 _ _ _) (fun _ _=>?_)|refine ZA (n10 _) (fun _ _=>?_)|refine ZA (n12) (fun _ _=>?_)|refine ZA (n13) (fun _ _=>?_)|rw [w1]|refine Zb 15 [] [(0,0),(1,0),(2,0),(3,1),(4,0)] [5] ?_|refine Zb 21 [Pt _ (.cells #[_,_,_,_,_,_,_,.int .i64 0,_,_,_] 44 _)] [(0,0),(1,0),(2,0),(3,0),(4,4),(5,0),(6,4)] [] ?_|(refine ZJ (fun hc=>?_) (fun hc=>?_)<;>(try simp at hc)<;>(try omega))|fail)
 rename_i q _ b8 _ _ b10 _ _ _ _ _ _ b13 _ _ _ _ _ _ _ _ _ _ _ _ _ _
 obtain ⟨o,c⟩:=q
 refine k_lp (X:={q:Nat×List (Nm×Ch) // q.1≤pg}) (fun q=>[(0,.pointer (some ⟨bv,0,none⟩)),(9,.int .i64 0),(11,.string ch),(12,.string a7),(13,.pointer (some ⟨b13,0,none⟩)),(17,.int .i64 (q.1.1:Int))]) (fun _=>[St ps es,Usg,P10]) (fun q=>[Vw bv ps q.1.2 cs3,Pt b13 (.cells #[.int .i64 a1,.int .i64 1,.int .i64 a3,.int .i64 a4,.int .i64 a5,.slice o gs.length c,.string ch,.int .i64 (pg:Int),.string d1,.int .i64 d2,.int .i64 a10] 44)]) (fun q=>pg - q.1.1) ⟨(0,_),by omega⟩ ⟨rfl,rfl,rfl,rfl,rfl,rfl,trivial⟩ ?_
 rintro ⟨⟨i,rs'⟩,hi'⟩
 dsimp only at hi' ⊢
 by_cases hlt:i<pg
 ·have m1:=n11 rs' i
  have m2:=n14 i
  have m3:=n15 i
  generalize vread es rs' cs3 (gnm a7 (i:Int))=rs2 at *
  repeat' (first|refine ZC ?_|refine ZB ?_|refine ZS ?_|refine ZD ?_|refine ZR ?_|refine ZL ?_|refine ZA (m1) (fun _ _=>?_)|refine ZA (m2) (fun _ _=>?_)|refine ZA (m3) (fun _ _=>?_)|(refine ZN (fun hc=>?_) (fun hc=>?_)<;>(try simp at hc)<;>(try omega))|fail)
  rw [wrapi (z:=(i:Int)+1) (by omega) (by omega)]
  exact Zi ⟨(i+1,rs2),by dsimp only;omega⟩ (by show pg - (i+1)<pg - i;omega) ⟨rfl,rfl,rfl,rfl,rfl,rfl,trivial⟩
 ·repeat' (first|refine ZC ?_|refine ZB ?_|refine ZS ?_|refine ZD ?_|refine ZR ?_|refine ZG ?_|refine Zj ?_|(refine ZN (fun hc=>?_) (fun hc=>?_)<;>(try simp at hc)<;>(try omega))|fail)
  exact ZF rs' rfl trivial
end
section
def mk2:ByteArray:=⟨#[50,46,51]⟩
def mk3:ByteArray:=⟨#[]⟩
def mk27 (k:Nat):ByteArray:=if k=0 then o1 else if k=1 then mk2 else mk3
theorem mk27_valid (k:Nat):lvalid (mk27 k).data.toList=true:=by
 unfold mk27
 split
 ·exact Zy
 ·split
  ·have h:=(ZW [50,46,51] 0 0 (by simp)).2.2.2
   rw [show ffirst (([50,46,51]:List UInt8).drop 0) 0 0=(⟨2,0,0⟩,1) from rfl] at h
   have h2:=(ZW [50,46,51] 2 1 (by simp)).2.2.2
   rw [show ffirst (([50,46,51]:List UInt8).drop 2) 2 1=(⟨3,2,0⟩,3) from rfl] at h2
   simp at h h2
   simp [mk2,lvalid,lparts,h,h2]
  ·simp [mk3,lvalid,lparts]
def ndF:Ino:=⟨1,0,0,0,0,0,⟨#[]⟩⟩
structure BI (i:Nat) (cs:List Ch) (ns:List Int) (m:List (Bi×Bool)):Prop where
 len:ns.length=3
 cl:cs.length≤2 * i
 g:∀(k:Nat) (z:Int),ns[k]? = some z→0≤z∧z≤(i:Int)∧vget [] cs (cnm (mk27 k))=if z=0 then (⟨#[]⟩,false) else (cvs ⟨z,0,0⟩,true)
 s:∀(b:Bi) (u:Bool),mget b m=some u→∃(k:Nat) (z:Int),ns[k]? = some z∧b.mkr=mk27 k∧b.nu<z
variable {cs:List Ch} {ns:List Int} {m:List (Bi×Bool)} {k:Nat} {z:Int}
end
def c11:ByteArray:=⟨#[49,46,49]⟩
def c12:ByteArray:=⟨#[49,46,50]⟩
theorem itoa1:Lib.itoa 1=[49]:=by decide +kernel
theorem itoa2:Lib.itoa 2=[50]:=by decide +kernel
theorem chN1:chN o1 1=c11:=by rw [chN,itoa1];decide
theorem chN2:chN o1 2=c12:=by rw [chN,itoa2];decide
theorem o1_parts:lparts o1.data.toList=[⟨1,0,0⟩]:=by
 have h:=(ZW [49] 0 0 (by simp)).2.2.2
 rw [show ffirst (([49]:List UInt8).drop 0) 0 0=(⟨1,0,0⟩,1) from rfl] at h
 simp at h
 simp [o1,lparts,h]
theorem YN:(lords o1.data.toList).length≠8:=by
 rw [lords,if_pos Zy,o1_parts];decide
theorem Zz:lvalid c11.data.toList=true:=by
 have h:=(ZW [49,46,49] 0 0 (by simp)).2.2.2
 rw [show ffirst (([49,46,49]:List UInt8).drop 0) 0 0=(⟨1,0,0⟩,1) from rfl] at h
 have h2:=(ZW [49,46,49] 2 1 (by simp)).2.2.2
 rw [show ffirst (([49,46,49]:List UInt8).drop 2) 2 1=(⟨1,2,0⟩,3) from rfl] at h2
 simp at h h2
 simp [c11,lvalid,lparts,h,h2]
theorem WG:lvalid c12.data.toList=true:=by
 have h:=(ZW [49,46,50] 0 0 (by simp)).2.2.2
 rw [show ffirst (([49,46,50]:List UInt8).drop 0) 0 0=(⟨1,0,0⟩,1) from rfl] at h
 have h2:=(ZW [49,46,50] 2 1 (by simp)).2.2.2
 rw [show ffirst (([49,46,50]:List UInt8).drop 2) 2 1=(⟨2,2,0⟩,3) from rfl] at h2
 simp at h h2
 simp [c12,lvalid,lparts,h,h2]
def Zf:Pr:=⟨1,1,0,0,7,[1,5],o1,2,⟨⟨#[]⟩,0⟩,3⟩
theorem pr_chk {st cd:Int} {sp:ByteArray} (hs:1≤st∧st≤3) (hc:0≤cd∧cd≤410) (h1:st=1→cd=0) (hv:lvalid sp.data.toList=true):pchk ⟨1,st,cd,0,7,[1,5],sp,2,⟨⟨#[]⟩,0⟩,3⟩=0:=by
 have hg:gchk [1,5]=0:=by decide
 have hb:bchk ⟨⟨#[]⟩,0⟩=0:=by
  have h3:lvalid mk3.data.toList=true:=mk27_valid 2
  unfold bchk
  rw [if_neg (by show ¬lvalid mk3.data.toList=false;simp [h3]),if_pos (by decide)]
 unfold pchk pfit
 dsimp only
 rw [if_neg (by omega),if_neg (by omega),if_neg (by simp only [Decidable.not_not];omega),hg,if_neg (by simp),if_neg (by simp [hv]),hb]
theorem one35_chk:pchk Zf=0:=pr_chk (by decide) (by decide) (fun _=>rfl) Zy
theorem Zk:Enters 41∧Spec prog 41 #[] [] [] ⟨Nat,fun b=>Zf.v (some ⟨b,0,none⟩) 2,fun _=>True,fun b=>[Sl 3 zf (some ⟨b,0,none⟩) 2 Zf.gs],fun _=>[]⟩:=by
 refine ZI [] func41 ntmps41 fun G w hp=>?_
 repeat' (first|refine ZC ?_|refine ZB ?_|refine ZD ?_|refine ZV ?_|refine ZO (fun b=>?_)|refine YE (fun b=>?_)|fail)
 refine YB (r:=Row 3 1 (some ⟨b,0,none⟩) 2 2 [.int .i64 1,.int .i64 5]) (Lx:=[Pt b (.cells #[.int .i64 1,.int .i64 5] 3)]) (fun h hh=>by
  obtain ⟨h1,h2,_,s1,_,hx,_⟩:=hh
  exact .inr ⟨b,[],(0,0),rfl,s1 _ _ hx,rfl,rfl,Nat.le_refl _,.inl rfl⟩) ?_
 refine k_frz (T:=3) (f:=zf) Zf.gs ?_ rfl rfl
 exact ZF b rfl trivial
def cA:List Ch:=[]++[⟨pnm o1,pencS Zf,false⟩]
theorem begun_ok:Enters 9∧Spec prog 9 #[] [Usg] [] ⟨Nat×Nat×List (Nm×Ch),fun q=>.tuple #[.pointer (some ⟨q.1,0,none⟩),.bool true],fun _=>True,fun q=>[St (some ⟨q.2.1,0,none⟩) []],fun q=>[Vw q.1 (some ⟨q.2.1,0,none⟩) q.2.2 cA]⟩:=by
 have n1:=fun v s o c=>proStart_ok v (some ⟨s,0,none⟩) [] [] [] o1 Zf o c one35_chk rfl (by decide) (by decide) (by decide) Zy (by simp [isE,o1,Zg]) rfl (by simp) (Yi _) (by rw [Yi])
 rw [show ([]++[⟨pnm o1,pencS Zf,false⟩]:List Ch)=cA from rfl] at n1
 generalize cA=cs1 at *
 generalize (vread [] (vread [] [] [] enm) [] (pnm o1))=rs1 at *
 refine ZI [] func9 ntmps9 fun G w hp=>?_
 repeat' (first|refine ZC ?_|refine ZB ?_|refine ZS ?_|refine ZD ?_|refine ZA (Za) (fun _ _=>?_)|refine ZA (Zc _) (fun _ _=>?_)|refine ZA (Zk) (fun _ _=>?_)|refine ZA (n1 _ _ _ _) (fun _ _=>?_)|fail)
 rename_i s _ v _ _ _ _ _
 exact ZF (v,s,rs1) rfl trivial
theorem fork2_ok {b:Nat} {ps:Option Addr} {es:Al} {rs:List (Nm×Ch)} {cs cs':List Ch} {who s:ByteArray} (h:Enters 52∧Spec prog 52 #[.pointer (some ⟨b,0,none⟩),.string who,.bool false] [St ps es,Usg,P10] [Vw b ps rs cs] ⟨List (Nm×Ch),fun _=>.tuple #[.string s,.int .i64 0],fun _=>True,fun _=>[],fun rs'=>[Vw b ps rs' cs']⟩) :
  Enters 11∧Spec prog 11 #[.pointer (some ⟨b,0,none⟩),.string who] [St ps es,Usg,P10] [Vw b ps rs cs] ⟨List (Nm×Ch),fun _=>.tuple #[.string s,.int .i64 0],fun _=>True,fun _=>[],fun rs'=>[Vw b ps rs' cs']⟩:=by
 refine ZI [_,_] func11 ntmps11 fun G w hp=>?_
 repeat' (first|refine ZC ?_|refine ZB ?_|refine ZD ?_|refine ZA (h) (fun _ _=>?_)|fail)
 rename_i x _
 exact ZF x rfl trivial
section
variable {es:Al} {cs:List Ch} {w ch:ByteArray} {c:Ct} {p:Pr}
theorem vF_p (hv:lvalid ch.data.toList=true) (x:ByteArray):vget es (frkC cs w ch c p) (pnm x)=if x=ch then (pencS (kidP p ch),true) else vget es cs (pnm x):=by
 unfold frkC
 by_cases h:x=ch
 ·subst h
  rw [if_pos rfl,XA rfl (YF hv)];rfl
 ·rw [if_neg h,Zn (fun e=>h (by simpa [pnm] using e.symm)),Zn (by simp [pnm,cnm])]
theorem vF_c (hv:lvalid w.data.toList=true):vget es (frkC cs w ch c p) (cnm w)=(cvs {c with c:=c.c+1},true):=by
 unfold frkC
 rw [Zn (by simp [pnm,cnm]),XA rfl (chk_cnm hv)];rfl
theorem vF_o (n:Nm) (h1:n.kind≠1) (h5:n.kind≠5):vget es (frkC cs w ch c p) n=vget es cs n:=by
 unfold frkC
 rw [Zn (fun e=>h1 (by rw [←e];rfl)),Zn (fun e=>h5 (by rw [←e];rfl))]
end
def cB:List Ch:=frkC cA o1 c11 ⟨0,0,0⟩ Zf
def cC:List Ch:=frkC cB o1 c12 ⟨0,0,1⟩ Zf
def q4:Pr:={kidP Zf c11 with st:=2,cd:=9}
def q5:Pr:={q4 with st:=3}
def cD:List Ch:=cC++[⟨pnm c11,pencS q4,false⟩]
def cE:List Ch:=cD++[⟨pnm c11,pencS q5,false⟩]
theorem one_at {cs:List Ch} (h1:vget [] cs (pnm o1)=(pencS Zf,true)) (h2:vget [] cs enm=(⟨#[]⟩,false)):PrAt [] cs o1 Zf:=⟨Zy,by decide,h1,one35_chk,by decide,by decide,rfl,h2⟩
theorem kid_at {cs:List Ch} {q:Pr} (hc:pchk q=0) (hs:q.sp=c11) (hd:q.dr=⟨⟨#[]⟩,0⟩) (he:q.ep=0) (h1:vget [] cs (pnm c11)=(pencS q,true)) (h2:vget [] cs enm=(⟨#[]⟩,false)):PrAt [] cs c11 q:=⟨Zz,by decide,h1,hc,by rw [hs];decide,by rw [hd];decide,he,h2⟩
theorem Xp {cs:List Ch} {z:Int} (hz:0≤z∧z≤1000) (h:vget [] cs (cnm o1)=(cvs ⟨0,0,z⟩,true)):madeE [] cs o1=(⟨0,0,z⟩,0)∧(vget [] cs (cnm o1)).1.size≤1099511627776:=by
 have hc:CtOK ⟨0,0,z⟩:=⟨Int.le_refl 0,by show (0:Int)≤1048576;decide,Int.le_refl 0,by show (0:Int)≤1048576;decide,hz.1,by show z≤1048576;omega⟩
 have:=cvs_size hc
 rw [madeE,if_pos Zy,h]
 refine ⟨?_,by dsimp only;omega⟩
 simp only [if_true,enc_cdec hc]
 rfl
theorem vA_p (x:ByteArray):vget [] cA (pnm x)=if x=o1 then (pencS Zf,true) else (⟨#[]⟩,false):=by
 unfold cA
 by_cases h:x=o1
 ·subst h
  rw [if_pos rfl,XA rfl (YF Zy)];rfl
 ·rw [if_neg h,Zn (fun e=>h (by simpa [pnm] using e.symm)),Yi]
theorem vA_o (n:Nm) (h1:n.kind≠1):vget [] cA n=(⟨#[]⟩,false):=by
 unfold cA
 rw [Zn (fun e=>h1 (by rw [←e];rfl)),Yi]
theorem d1:c11≠o1:=by decide
theorem d2:c12≠o1:=by decide
theorem d3:c11≠c12:=by decide
theorem q4_chk:pchk q4=0:=pr_chk (by decide) (by decide) (fun h=>by cases h) Zz
theorem q5_chk:pchk q5=0:=pr_chk (by decide) (by decide) (fun h=>by cases h) Zz
theorem k11_chk:pchk (kidP Zf c11)=0:=pr_chk (by decide) (by decide) (fun _=>rfl) Zz
set_option maxHeartbeats 4000000 in
theorem ZP:Enters 10∧Spec prog 10 #[] [Usg,P10] [] (RetV (.bool true)):=by
 have hne:isE o1=false:=by simp [isE,o1,Zg]
 have i1:(Lib.itoa 1).length≤100:=by rw [itoa1];decide
 have i2:(Lib.itoa 2).length≤100:=by rw [itoa2];decide
 have a1:PrAt [] cA o1 Zf:=one_at (by rw [vA_p,if_pos rfl]) (vA_o _ (by decide))
 have a2:madeE [] cA o1=(⟨0,0,0⟩,0):=by rw [madeE,if_pos Zy,vA_o _ (by decide)];rfl
 have f1:=fun v s rs=>fork2_ok (fork_ok v (some ⟨s,0,none⟩) [] rs cA o1 Zf a1 rfl rfl ⟨0,0,0⟩ a2 (by rw [vA_o _ (by decide)];exact Nat.zero_le _) ⟨by decide,by decide,by decide,by decide,by decide,by decide⟩ (by decide) YN hne i1 (by show lvalid (chN o1 1).data.toList=true;rw [chN1];exact Zz) (by show (chN o1 1).size≤_;rw [chN1];decide)
  (by show (vget [] cA (pnm (chN o1 1))).2=false;rw [chN1,vA_p,if_neg d1]) (by rw [vA_o _ (by decide)]) (fun i=>by rw [vA_o _ (by simp [gnm])]) (by decide))
 rw [show chN o1 ((Ct.mk 0 0 0).c+1)=c11 from chN1,show frkC cA o1 c11 ⟨0,0,0⟩ Zf=cB from rfl] at f1
 have b1:PrAt [] cB o1 Zf:=one_at (by unfold cB;rw [vF_p Zz,if_neg (fun e=>d1 e.symm),vA_p,if_pos rfl]) (by unfold cB;rw [vF_o _ (by decide) (by decide),vA_o _ (by decide)])
 obtain ⟨b2,b3⟩:=Xp (cs:=cB) (z:=1) (by decide) (by unfold cB;rw [vF_c Zy];rfl)
 have f2:=fun v s rs=>fork2_ok (fork_ok v (some ⟨s,0,none⟩) [] rs cB o1 Zf b1 rfl rfl ⟨0,0,1⟩ b2 b3 ⟨by decide,by decide,by decide,by decide,by decide,by decide⟩ (by decide) YN hne i2 (by show lvalid (chN o1 2).data.toList=true;rw [chN2];exact WG) (by show (chN o1 2).size≤_;rw [chN2];decide)
  (by show (vget [] cB (pnm (chN o1 2))).2=false;unfold cB;rw [chN2,vF_p Zz,if_neg (fun e=>d3 e.symm),vA_p,if_neg d2]) (by unfold cB;rw [vF_o _ (by decide) (by decide),vA_o _ (by decide)]) (fun i=>by unfold cB;rw [vF_o _ (by simp [gnm]) (by simp [gnm]),vA_o _ (by simp [gnm])]) (by decide))
 rw [show chN o1 ((Ct.mk 0 0 1).c+1)=c12 from chN2,show frkC cB o1 c12 ⟨0,0,1⟩ Zf=cC from rfl] at f2
 have e1:vget [] cC enm=(⟨#[]⟩,false):=by unfold cC cB;rw [vF_o _ (by decide) (by decide),vF_o _ (by decide) (by decide),vA_o _ (by decide)]
 have e2:vget [] cC (pnm o1)=(pencS Zf,true):=by unfold cC cB;rw [vF_p WG,if_neg (fun e=>d2 e.symm),vF_p Zz,if_neg (fun e=>d1 e.symm),vA_p,if_pos rfl]
 have e3:vget [] cC (pnm c11)=(pencS (kidP Zf c11),true):=by unfold cC cB;rw [vF_p WG,if_neg d3,vF_p Zz,if_pos rfl]
 have e4:vget [] cC (cnm o1)=(cvs ⟨0,0,2⟩,true):=by unfold cC;rw [vF_c Zy];rfl
 have hpo:pnm c11≠pnm o1:=fun e=>d1 (by simpa [pnm] using e)
 have hpe:pnm c11≠enm:=by simp [pnm,enm]
 have hpc:pnm c11≠cnm o1:=by simp [pnm,cnm]
 have g1:vget [] cD enm=(⟨#[]⟩,false):=by unfold cD;rw [Zn hpe];exact e1
 have g2:vget [] cD (pnm o1)=(pencS Zf,true):=by unfold cD;rw [Zn hpo];exact e2
 have g3:vget [] cD (pnm c11)=(pencS q4,true):=by unfold cD;rw [XA rfl (YF Zz)];rfl
 have g4:vget [] cD (cnm o1)=(cvs ⟨0,0,2⟩,true):=by unfold cD;rw [Zn hpc];exact e4
 have h1:vget [] cE enm=(⟨#[]⟩,false):=by unfold cE;rw [Zn hpe];exact g1
 have h2:vget [] cE (pnm o1)=(pencS Zf,true):=by unfold cE;rw [Zn hpo];exact g2
 have h3:vget [] cE (pnm c11)=(pencS q5,true):=by unfold cE;rw [XA rfl (YF Zz)];rfl
 have h4:vget [] cE (cnm o1)=(cvs ⟨0,0,2⟩,true):=by unfold cE;rw [Zn hpc];exact g4
 obtain ⟨m1,m2⟩:=Xp (z:=2) (by decide) e4
 obtain ⟨m3,m4⟩:=Xp (z:=2) (by decide) g4
 obtain ⟨m5,m6⟩:=Xp (z:=2) (by decide) h4
 have k1:PrAt [] cC c11 (kidP Zf c11):=kid_at k11_chk rfl rfl rfl e3 e1
 have k2:PrAt [] cD c11 q4:=kid_at q4_chk rfl rfl rfl g3 g1
 have k3:PrAt [] cE c11 q5:=kid_at q5_chk rfl rfl rfl h3 h1
 have w1:=fun v s rs=>Y6 v (some ⟨s,0,none⟩) [] rs cC o1 Zf (one_at e2 e1) ⟨0,0,2⟩ m1 m2 1 (by decide) (by decide) YN hne i1 (kidP Zf c11) (by rw [chN1];exact k1) (by decide) (fun h=>by cases h)
 have x1:=fun v s rs=>proExit_ok v (some ⟨s,0,none⟩) [] rs cC c11 (kidP Zf c11) k1 rfl 9 (by decide) q4_chk (by decide)
 have w2:=fun v s rs=>Y6 v (some ⟨s,0,none⟩) [] rs cD o1 Zf (one_at g2 g1) ⟨0,0,2⟩ m3 m4 1 (by decide) (by decide) YN hne i1 q4 (by rw [chN1];exact k2) (by decide) (fun _=>q5_chk)
 have w3:=fun v s rs=>Y6 v (some ⟨s,0,none⟩) [] rs cE o1 Zf (one_at h2 h1) ⟨0,0,2⟩ m5 m6 1 (by decide) (by decide) YN hne i1 q5 (by rw [chN1];exact k3) (by decide) (fun h=>by cases h)
 rw [show (kidP Zf c11).st=1 from rfl] at w1
 rw [show q4.st=2 from rfl,show q4.cd=9 from rfl,chN1] at w2
 rw [show q5.st=3 from rfl] at w3
 simp only [show ¬(1:Int)=2 by decide,if_false,if_true] at w1
 simp only [show ¬(2:Int)=1 by decide,show ¬(2:Int)=3 by decide,if_false,if_true] at w2
 simp only [show ¬(3:Int)=2 by decide,show ¬(3:Int)=1 by decide,if_false,if_true] at w3
 rw [show (cC++[⟨pnm c11,pencS {kidP Zf c11 with st:=2,cd:=9},false⟩]:List Ch)=cD from rfl] at x1
 clear a1 a2 b1 b2 b3 e1 e2 e3 e4 g1 g2 g3 g4 h1 h2 h3 h4 m1 m2 m3 m4 m5 m6 k1 k2 k3
 have n0:=begun_ok
 generalize cC=sC at *
 generalize cB=sB at *
 generalize cA=sA at *
 have y1:(c11.toList == (⟨#[49,46,49]⟩:ByteArray).toList)=true:=by simp [c11]
 have y2:(c12.toList == (⟨#[49,46,50]⟩:ByteArray).toList)=true:=by simp [c12]
 refine ZI [] func10 ntmps10 fun G w hp=>?_
 repeat' (first|refine ZC ?_|refine ZB ?_|refine ZS ?_|refine ZD ?_|refine ZG ?_|refine ZA (n0) (fun _ _=>?_)|refine ZA (f1 _ _ _) (fun _ _=>?_)|refine ZA (f2 _ _ _) (fun _ _=>?_)|refine ZA (w1 _ _ _) (fun _ _=>?_)|refine ZA (x1 _ _ _) (fun _ _=>?_)|refine ZA (w2 _ _ _) (fun _ _=>?_)|refine ZA (w3 _ _ _) (fun _ _=>?_)|rw [y1]|rw [y2]|fail)
 all_goals (refine ZF () ?_ trivial;simp [RetV,resV])
section
open Go.ChangeShapes Go.WideShapes Go.ChangeAt
structure Kept (W W':World):Prop where
 os:W'.os=W.os
 output:W'.output=W.output
 heap:∀(b:Nat) (o:Obj),W.heap[b]? = some o→W'.heap[b]? = some o
theorem Kept.but {W W':World} (h:Kept W W') (may:MemPlace→Prop):W.keptBut W' may:=by
 refine ⟨h.os,h.output,fun i hi=>?_⟩
 have h1:W.heap[i]? = some W.heap[i]:=Array.getElem?_eq_getElem hi
 have h2:=h.heap i _ h1
 rw [h1,h2]
 split
 ·rename_i c t fr c' t' fr' e1 e2
  rw [e1] at e2
  injection e2 with e2
  injection e2 with a1 a2 a3
  subst a1 a2 a3
  exact ⟨rfl,rfl,rfl,fun _ _=>rfl⟩
 ·rename_i es clock es' clock' e1 e2
  rw [e1] at e2
  injection e2 with e2
  injection e2 with a1 a2
  subst a1 a2
  exact .inr ⟨rfl,rfl⟩
 ·rfl
theorem WC {f:FuncId} {args:Array Value} {F:List Pf} {v:Value} (h:Spec prog f args F [] (RetV v)) (W:World) (hF:∀x ∈ F,x.p fun b=>W.heap[b]?) :
  Calls prog f args W fun e W'=>e = .returned v∧Kept W W':=by
 have hs:Sat emp W (fun b=>W.heap[b]?) F [] W:=⟨fun b=>W.heap[b]?,emp,fun _ _ e=>e,(fun _ _ e=>by cases e),(fun _ _ e=>by cases e),fun _=>.inr rfl,fun _=>.inr rfl,fun _=>.inr rfl,Sub.refl _,hF,trivial,Same.refl _⟩
 refine (h _ _ _ hs).mono ?_
 rintro e W' ⟨_,rfl,_,hp',hr,st⟩
 exact ⟨rfl,st.same.os,st.same.output,fun b o hb=>st.inp b o (st.sub b o hb)⟩
def contig (P:Program):Nat→List Field→Option Nat
 | o,[]=>some o
 | o,f::fs=>if f.offset=o then contig P (o+P.cellsOf f.type) fs else none
def plainT (P:Program):Nat→TypeId→Bool
 | 0,_=>false
 | k+1,t=>match P.underlying t with
  | some .bool=>true
  | some (.int _)=>true
  | some .string=>true
  | some (.struct fs)=>(fs.toList.all fun f=>plainT P k f.type) && (contig P 0 fs.toList == some (P.cellsOf t))
  | some (.array n e)=>plainT P k e && (P.cellsOf t == n * P.cellsOf e)
  | _=>false
variable {H:Type} {enc:TypeId×Value→H} {P:Program}
theorem Z9 {α β:Type} {f g:α→Option β}:∀{l:List α} {r:List β},(∀a ∈ l,∀x,f a=some x→g a=some x)→l.mapM f=some r→l.mapM g=some r
 | [],r,_,h=>h
 | a::l,r,hfg,h=>by
  rw [List.mapM_cons] at h ⊢
  simp only [Option.bind_eq_bind,Option.bind_eq_some_iff,Option.pure_def,Option.some.injEq] at h ⊢
  obtain ⟨x,hx,xs,hxs,rfl⟩:=h
  exact ⟨x,hfg a (by simp) x hx,xs,Z9 (fun b hb=>hfg b (by simp [hb])) hxs,rfl⟩
theorem mapM_all {α β:Type} {f:α→Option β} {p:β→Prop}:∀{l:List α} {r:List β},(∀a ∈ l,∀x,f a=some x→p x)→l.mapM f=some r→∀x ∈ r,p x
 | [],r,_,h=>by simp at h;subst h;simp
 | a::l,r,hfg,h=>by
  rw [List.mapM_cons] at h
  simp only [Option.bind_eq_bind,Option.bind_eq_some_iff,Option.pure_def,Option.some.injEq] at h
  obtain ⟨x,hx,xs,hxs,rfl⟩:=h
  intro y hy
  rcases List.mem_cons.1 hy with rfl|hy
  ·exact hfg a (by simp) y hx
  ·exact mapM_all (fun b hb=>hfg b (by simp [hb])) hxs y hy
theorem Y1 {β γ:Type} {f:β→List γ}:∀{l:List β},(∀x ∈ l,f x=[])→l.flatMap f=[]
 | [],_=>rfl
 | a::l,h=>by rw [List.flatMap_cons,h a (by simp),Y1 (fun x hx=>h x (by simp [hx]))];rfl
theorem YM:∀(n k:Nat) (t:TypeId) (w:World) (base:Nat) (sp:Nat→Bool) (hd:Bool) (cs:List Value) (x:DataW H×List MemPlace),plainT P k t=true→DataW.trod enc P w base sp hd n t cs=some x→
  x.2=[]∧∀w' base' sp' hd',DataW.trod enc P w' base' sp' hd' n t cs=some x
 | 0,_,_,_,_,_,_,_,_,_,h=>by simp [DataW.trod] at h
 | n+1,0,_,_,_,_,_,_,_,hp,_=>by simp [plainT] at hp
 | n+1,k+1,t,w,base,sp,hd,cs,x,hp,h=>by
  unfold plainT at hp
  split at hp
  ·rename_i hu
   obtain ⟨b,rfl,rfl⟩:=DataW.trod_bool hu h
   exact ⟨rfl,fun _ _ _ _=>by simp [DataW.trod,hu]⟩
  ·rename_i hu
   obtain ⟨z,rfl,rfl,hz⟩:=DataW.trod_int hu h
   exact ⟨rfl,fun _ _ _ _=>by simp [DataW.trod,hu,hz]⟩
  ·rename_i hu
   obtain ⟨s,rfl,rfl,hs⟩:=DataW.trod_string hu h
   exact ⟨rfl,fun _ _ _ _=>by simp [DataW.trod,hu,hs]⟩
  ·rename_i fs hu
   rw [Bool.and_eq_true,List.all_eq_true] at hp
   simp only [DataW.trod,hu] at h ⊢
   split at h
   ·rename_i hl
    simp only [Option.map_eq_some_iff] at h
    obtain ⟨xs,hxs,rfl⟩:=h
    have ih:∀f ∈ fs.toList,∀y,DataW.trod enc P w base sp hd n f.type ((cs.drop f.offset).take (P.cellsOf f.type))=some y→y.2=[]∧∀w' base' sp' hd',DataW.trod enc P w' base' sp' hd' n f.type ((cs.drop f.offset).take (P.cellsOf f.type))=some y:=fun f hf y hy=>
     YM n k f.type w base sp hd _ y (hp.1 f hf) hy
    refine ⟨Y1 (mapM_all (fun f hf y hy=>(ih f hf y hy).1) hxs),fun w' base' sp' hd'=>?_⟩
    rw [if_pos hl,Z9 (fun f hf y hy=>(ih f hf y hy).2 w' base' sp' hd') hxs]
    rfl
   ·cases h
  ·rename_i m e hu
   rw [Bool.and_eq_true] at hp
   simp only [DataW.trod,hu] at h ⊢
   split at h
   ·rename_i hl
    simp only [Option.map_eq_some_iff] at h
    obtain ⟨xs,hxs,rfl⟩:=h
    have ih:∀i ∈ List.range m,∀y,DataW.trod enc P w base sp hd n e ((cs.drop (i * P.cellsOf e)).take (P.cellsOf e))=some y→y.2=[]∧∀w' base' sp' hd',DataW.trod enc P w' base' sp' hd' n e ((cs.drop (i * P.cellsOf e)).take (P.cellsOf e))=some y:=fun i _ y hy=>
     YM n k e w base sp hd _ y hp.1 hy
    refine ⟨Y1 (mapM_all (fun i hi y hy=>(ih i hi y hy).1) hxs),fun w' base' sp' hd'=>?_⟩
    rw [if_pos hl,Z9 (fun i hi y hy=>(ih i hi y hy).2 w' base' sp' hd') hxs]
    rfl
   ·cases h
  ·cases hp
theorem Z1 {α β:Type} {f:α→Option β}:∀{l:List α} {r:List β},l.mapM f=some r→∀(i:Nat) (a:α),l[i]? = some a→∃b,r[i]? = some b∧f a=some b
 | [],r,_,i,a,hi=>by simp at hi
 | c::l,r,h,i,a,hi=>by
  rw [List.mapM_cons] at h
  simp only [Option.bind_eq_bind,Option.bind_eq_some_iff,Option.pure_def,Option.some.injEq] at h
  obtain ⟨x,hx,xs,hxs,rfl⟩:=h
  cases i with
  | zero=>simp at hi;subst hi;exact ⟨x,by simp,hx⟩
  | succ i=>simpa using Z1 hxs i a (by simpa using hi)
theorem cover:∀(fs:List Field) (o total:Nat) (cs cs':List Value),contig P o fs=some total→cs.length=total→cs'.length=total→
  (∀f ∈ fs,(cs.drop f.offset).take (P.cellsOf f.type)=(cs'.drop f.offset).take (P.cellsOf f.type))→cs.drop o=cs'.drop o
 | [],o,total,cs,cs',h,h1,h2,_=>by
  simp only [contig,Option.some.injEq] at h
  rw [List.drop_eq_nil_of_le (by omega),List.drop_eq_nil_of_le (by omega)]
 | f::fs,o,total,cs,cs',h,h1,h2,hp=>by
  unfold contig at h
  split at h
  ·rename_i ho
   have ih:=cover fs (o+P.cellsOf f.type) total cs cs' h h1 h2 fun g hg=>hp g (by simp [hg])
   have h3:=hp f (by simp)
   rw [ho] at h3
   rw [←List.take_append_drop (P.cellsOf f.type) (cs.drop o),←List.take_append_drop (P.cellsOf f.type) (cs'.drop o),List.drop_drop,List.drop_drop,h3,ih]
  ·cases h
theorem Xt {H':Type} {enc':TypeId×Value→H'}:∀(n n' k:Nat) (t:TypeId) (w w':World) (base base':Nat) (sp sp':Nat→Bool) (hd hd':Bool) (cs cs':List Value) (x x':DataW H×List MemPlace),plainT P k t=true→
  DataW.trod enc P w base sp hd n t cs=some x→DataW.trod enc P w' base' sp' hd' n' t cs'=some x'→x.1=x'.1→cs=cs'
 | 0,_,_,_,_,_,_,_,_,_,_,_,_,_,_,_,_,h,_,_=>by simp [DataW.trod] at h
 | _+1,0,_,_,_,_,_,_,_,_,_,_,_,_,_,_,_,_,h,_=>by simp [DataW.trod] at h
 | n+1,n'+1,0,_,_,_,_,_,_,_,_,_,_,_,_,_,hp,_,_,_=>by simp [plainT] at hp
 | n+1,n'+1,k+1,t,w,w',base,base',sp,sp',hd,hd',cs,cs',x,x',hp,h,h',he=>by
  unfold plainT at hp
  split at hp
  ·rename_i hu
   obtain ⟨b,rfl,rfl⟩:=DataW.trod_bool hu h
   obtain ⟨b',rfl,rfl⟩:=DataW.trod_bool hu h'
   simp at he;subst he;rfl
  ·rename_i hu
   obtain ⟨z,rfl,rfl,hz⟩:=DataW.trod_int hu h
   obtain ⟨z',rfl,rfl,hz'⟩:=DataW.trod_int hu h'
   simp at he;subst he;rfl
  ·rename_i hu
   obtain ⟨s,rfl,rfl,hs⟩:=DataW.trod_string hu h
   obtain ⟨s',rfl,rfl,hs'⟩:=DataW.trod_string hu h'
   simp at he
   rw [Xg (by rw [he]:s.data.toList=s'.data.toList)]
  ·rename_i fs hu
   rw [Bool.and_eq_true,List.all_eq_true,beq_iff_eq] at hp
   simp only [DataW.trod,hu] at h h'
   split at h
   ·rename_i hl
    split at h'
    ·rename_i hl'
     simp only [Option.map_eq_some_iff] at h h'
     obtain ⟨xs,hxs,rfl⟩:=h
     obtain ⟨xs',hxs',rfl⟩:=h'
     simp only [DataW.agg.injEq] at he
     have:=cover fs.toList 0 _ cs cs' hp.2 hl hl' fun f hf=>by
      obtain ⟨i,hi,rfl⟩:=List.mem_iff_getElem.1 hf
      have hi':=List.getElem?_eq_getElem hi
      obtain ⟨y,hy1,hy2⟩:=Z1 hxs i _ hi'
      obtain ⟨y',hy1',hy2'⟩:=Z1 hxs' i _ hi'
      have hyy:y.1=y'.1:=by
       have h1:(xs.map (·.1))[i]? = some y.1:=by simp [hy1]
       have h2:(xs'.map (·.1))[i]? = some y'.1:=by simp [hy1']
       rw [he] at h1
       exact Option.some.inj (h1.symm.trans h2)
      exact Xt (enc':=enc') n n' k _ w w' base base' sp sp' hd hd' _ _ y y' (hp.1 _ hf) hy2 hy2' hyy
     simpa using this
    ·cases h'
   ·cases h
  ·rename_i m e hu
   rw [Bool.and_eq_true,beq_iff_eq] at hp
   simp only [DataW.trod,hu] at h h'
   split at h
   ·rename_i hl
    split at h'
    ·rename_i hl'
     simp only [Option.map_eq_some_iff] at h h'
     obtain ⟨xs,hxs,rfl⟩:=h
     obtain ⟨xs',hxs',rfl⟩:=h'
     simp only [DataW.agg.injEq] at he
     have hpart:∀i,i<m→(cs.drop (i * P.cellsOf e)).take (P.cellsOf e)=(cs'.drop (i * P.cellsOf e)).take (P.cellsOf e):=fun i hi=>by
      have hi':(List.range m)[i]? = some i:=by simp [hi]
      obtain ⟨y,hy1,hy2⟩:=Z1 hxs i _ hi'
      obtain ⟨y',hy1',hy2'⟩:=Z1 hxs' i _ hi'
      have hyy:y.1=y'.1:=by
       have h1:(xs.map (·.1))[i]? = some y.1:=by simp [hy1]
       have h2:(xs'.map (·.1))[i]? = some y'.1:=by simp [hy1']
       rw [he] at h1
       exact Option.some.inj (h1.symm.trans h2)
      exact Xt (enc':=enc') n n' k _ w w' base base' sp sp' hd hd' _ _ y y' hp.1 hy2 hy2' hyy
     apply List.ext_getElem?
     intro j
     by_cases hj:j<m * P.cellsOf e
     ·have hc:0<P.cellsOf e:=Nat.pos_of_ne_zero fun h0=>by rw [h0] at hj;simp at hj
      have h1:=congrArg (fun l=>l[j % P.cellsOf e]?) (hpart (j / P.cellsOf e) (Nat.div_lt_of_lt_mul (by rw [Nat.mul_comm];exact hj)))
      simp only [List.getElem?_take,List.getElem?_drop,if_pos (Nat.mod_lt j hc)] at h1
      rw [show j / P.cellsOf e * P.cellsOf e+j % P.cellsOf e=j by rw [Nat.mul_comm];exact Nat.div_add_mod j _] at h1
      exact h1
     ·rw [List.getElem?_eq_none (by omega),List.getElem?_eq_none (by omega)]
    ·cases h'
   ·cases h
  ·cases hp
theorem WH {f:Func} {s:ChangeSpec} {apart fresh handsOn again:Bool} {W W':World} {args:Array Value} {v:Value} {ds gs:List (DataW H)} {before pa pv:List MemPlace}
  (hW:DataW.Whole enc P f.params.toList s.vars apart W args.toList ds gs before)
  (hres:∀(b:Nat) (sp:Nat→Bool) (hd:Bool),DataW.TrodAll enc P W' b sp hd f.resultTypes.toList (v.resultList f.resultTypes.size) (s.fn H (ds++gs)).results [])
  (hargs:∀sp:Nat→Bool,(∀b<W.heap.size,sp b=true)→DataW.TrodAll enc P W' 0 sp true f.params.toList args.toList (s.fn H (ds++gs)).args pa)
  (hvars:∀sp:Nat→Bool,(∀b<W.heap.size,sp b=true)→DataW.TrodVars enc P W' sp s.vars (s.fn H (ds++gs)).vars pv)
  (hps:before=pa++pv) (hk:Kept W W')
  (hok:∀(j:Nat) (t:TypeId) (r:Value),f.resultTypes[j]? = some t→(v.resultList f.resultTypes.size)[j]? = some r→Value.okWide P W' .any 0 t r) :
  s.post enc P f apart fresh handsOn again W args v W':=by
 have hlt:=hW.lt
 refine ⟨ds,gs,before,[],pa,pv,hW,hres _ _ _,hargs _ (fun b hb=>by simpa using hb),hvars _ (fun b hb=>by simpa using hb),World.keptBut_mono (fun p hp=>⟨hp,?_⟩) (hk.but (· ∈ before)),fun _=>?_⟩
 ·rw [hps,List.mem_append] at hp
  exact Or.inr hp
 ·obtain ⟨_,_,_,_,_,hz,hn⟩:=hW
  refine ⟨hok,_,_,([]++pa)++pv,⟨[]++pa,pv,trodAll_append (hargs _ (fun _ _=>rfl)) (hres _ _ _),hvars _ (fun _ _=>rfl),rfl,?_,?_⟩,?_⟩
  ·intro b off hp
   have hm:MemPlace.cell b off ∈ before:=by rw [hps];simpa using hp
   have h1:=hz b off hm
   have h2:b<W.heap.size:=hlt _ hm
   have h4:W.heap[b]? = some W.heap[b]:=Array.getElem?_eq_getElem h2
   have h3:=hk.heap b _ h4
   unfold World.frozen? at h1 ⊢
   dsimp only at h1 ⊢
   rw [h4] at h1
   rw [h3]
   exact h1
  ·intro ha
   have:=hn ha
   rw [hps] at this
   simpa using this
  ·intro p hp _
   rw [hps]
   simpa using hp
def laidU : List (String × DataW Unit) := [("replevin/object.usages", Rows.laid_replevin_object_usages)]
theorem gUsg : prog.globalNamed "replevin/object.usages" = some 0 := by kernel_rfl
theorem tUsg:(prog.globals[0]?).map (·.type)=some 236:=by kernel_rfl
theorem plUsg:plainT prog 5 236=true:=by decide +kernel
theorem rdUsg (w:World):DataW.trod (fun _=>()) prog w 0 (fun _=>true) false 8 236 (usages.flatMap uf)=some (Rows.laid_replevin_object_usages,[]):=by kernel_rfl
inductive SK where
 | b
 | i (k:IntKind)
 | s
def sksF (g:TypeId→Option (List SK)):List Field→Option (List SK)
 | []=>some []
 | f::fs=>match g f.type,sksF g fs with
  | some a,some r=>some (a++r)
  | _,_=>none
def sks (P:Program):Nat→TypeId→Option (List SK)
 | 0,_=>none
 | k+1,t=>match P.underlying t with
  | some .bool=>some [.b]
  | some (.int ik)=>some [.i ik]
  | some .string=>some [.s]
  | some (.struct fs)=>sksF (sks P k) fs.toList
  | some (.array n e)=>(sks P k e).map fun l=>(List.replicate n l).flatten
  | _=>none
def CellOK (M:Nat):SK→Value→Prop
 | .b,v=>∃b,v = .bool b
 | .i k,v=>∃z,v = .int k z∧(Lit.int k z).wf=true
 | .s,v=>∃s:ByteArray,v = .string s∧s.size≤M
def CellsOK (M:Nat):List SK→List Value→Prop
 | [],[]=>True
 | k::ks,v::vs=>CellOK M k v∧CellsOK M ks vs
 | _,_=>False
theorem Ye {M:Nat}:∀{a b:List SK} {x y:List Value},CellsOK M a x→CellsOK M b y→CellsOK M (a++b) (x++y)
 | [],_,[],_,_,h=>h
 | _::_,_,_::_,_,⟨h1,h2⟩,h=>⟨h1,Ye h2 h⟩
theorem YV {M M':Nat} (hM:M≤M'):∀{a:List SK} {x:List Value},CellsOK M a x→CellsOK M' a x
 | [],[],_=>trivial
 | k::_,_::_,⟨h1,h2⟩=>⟨by
   cases k with
   | b=>exact h1
   | i k=>exact h1
   | s=>obtain ⟨s,hs,hl⟩:=h1;exact ⟨s,hs,Nat.le_trans hl hM⟩,YV hM h2⟩
theorem XG:∀{l:List (DataW H)} {d:DataW H},d ∈ l→Rows.uptoBulk d≤Rows.uptoBulkAll l
 | c::l,d,h=>by
  rcases List.mem_cons.1 h with rfl|h
  ·simp only [Rows.uptoBulkAll];omega
  ·have:=XG h
   simp only [Rows.uptoBulkAll];omega
theorem sksF_ok {M:Nat} {g:TypeId→Option (List SK)}:∀(fs:List Field) (o total:Nat) (cs:List Value) (ks:List SK),contig P o fs=some total→cs.length=total→sksF g fs=some ks→
  (∀f ∈ fs,∀k,g f.type=some k→CellsOK M k ((cs.drop f.offset).take (P.cellsOf f.type)))→CellsOK M ks (cs.drop o)
 | [],o,total,cs,ks,h,h1,h2,_=>by
  simp only [contig,Option.some.injEq] at h
  simp only [sksF,Option.some.injEq] at h2
  rw [←h2,List.drop_eq_nil_of_le (by omega)];trivial
 | f::fs,o,total,cs,ks,h,h1,h2,hp=>by
  unfold contig at h
  split at h
  ·rename_i ho
   unfold sksF at h2
   split at h2
   ·rename_i a r ha hr
    obtain rfl:=Option.some.inj h2
    have ih:=sksF_ok fs (o+P.cellsOf f.type) total cs r h h1 hr fun g hg=>hp g (by simp [hg])
    have h3:=hp f (by simp) a ha
    rw [ho] at h3
    rw [←List.take_append_drop (P.cellsOf f.type) (cs.drop o),List.drop_drop]
    exact Ye h3 ih
   ·cases h2
  ·cases h
theorem arr_cells {M c:Nat} {l:List SK}:∀(m:Nat) (cs:List Value),cs.length=m * c→(∀i,i<m→CellsOK M l ((cs.drop (i * c)).take c))→CellsOK M (List.replicate m l).flatten cs
 | 0,cs,h,_=>by
  have:cs=[]:=List.length_eq_zero_iff.1 (by omega)
  subst this;trivial
 | m+1,cs,h,hp=>by
  have h0:=hp 0 (by omega)
  rw [Nat.zero_mul,List.drop_zero] at h0
  have hl:cs.length=m * c+c:=by rw [h,Nat.succ_mul]
  have ih:=arr_cells (M:=M) (c:=c) (l:=l) m (cs.drop c) (by rw [List.length_drop];omega) fun i hi=>by
   have:=hp (i+1) (by omega)
   rw [List.drop_drop,show c+i * c=(i+1) * c by rw [Nat.succ_mul];omega]
   exact this
  rw [List.replicate_succ,List.flatten_cons,←List.take_append_drop c cs]
  exact Ye h0 ih
theorem Yz:∀(n k:Nat) (t:TypeId) (w:World) (base:Nat) (sp:Nat→Bool) (hd:Bool) (cs:List Value) (x:DataW H×List MemPlace) (ks:List SK),plainT P k t=true→sks P k t=some ks→DataW.trod enc P w base sp hd n t cs=some x→CellsOK (Rows.uptoBulk x.1) ks cs
 | 0,_,_,_,_,_,_,_,_,_,_,_,h=>by simp [DataW.trod] at h
 | n+1,0,_,_,_,_,_,_,_,_,hp,_,_=>by simp [plainT] at hp
 | n+1,k+1,t,w,base,sp,hd,cs,x,ks,hp,hk,h=>by
  unfold plainT at hp
  unfold sks at hk
  split at hp
  ·rename_i hu
   rw [hu] at hk
   obtain rfl:=Option.some.inj hk
   obtain ⟨b,rfl,rfl⟩:=DataW.trod_bool hu h
   exact ⟨⟨b,rfl⟩,trivial⟩
  ·rename_i hu
   rw [hu] at hk
   obtain rfl:=Option.some.inj hk
   obtain ⟨z,rfl,rfl,hz⟩:=DataW.trod_int hu h
   exact ⟨⟨z,rfl,hz⟩,trivial⟩
  ·rename_i hu
   rw [hu] at hk
   obtain rfl:=Option.some.inj hk
   obtain ⟨s,rfl,rfl,hs⟩:=DataW.trod_string hu h
   refine ⟨⟨s,rfl,?_⟩,trivial⟩
   have hsz:s.data.toList.length=s.size:=by simp
   simp only [Rows.uptoBulk];omega
  ·rename_i fs hu
   rw [hu] at hk
   rw [Bool.and_eq_true,List.all_eq_true,beq_iff_eq] at hp
   simp only [DataW.trod,hu] at h
   split at h
   ·rename_i hl
    simp only [Option.map_eq_some_iff] at h
    obtain ⟨xs,hxs,rfl⟩:=h
    have:=sksF_ok (M:=Rows.uptoBulk (.agg (xs.map (·.1)))) (g:=sks P k) fs.toList 0 _ cs ks hp.2 hl hk fun f hf k' hk'=>by
     obtain ⟨i,hi,rfl⟩:=List.mem_iff_getElem.1 hf
     obtain ⟨y,hy1,hy2⟩:=Z1 hxs i _ (List.getElem?_eq_getElem hi)
     refine YV ?_ (Yz n k _ w base sp hd _ y k' (hp.1 _ hf) hk' hy2)
     have hm:y.1 ∈ xs.map (·.1):=List.mem_map.2 ⟨y,List.mem_of_getElem? hy1,rfl⟩
     have:=XG hm
     simp only [Rows.uptoBulk];omega
    simpa using this
   ·cases h
  ·rename_i m e hu
   rw [hu] at hk
   rw [Bool.and_eq_true,beq_iff_eq] at hp
   simp only [DataW.trod,hu] at h
   split at h
   ·rename_i hl
    simp only [Option.map_eq_some_iff] at h hk
    obtain ⟨xs,hxs,rfl⟩:=h
    obtain ⟨l,hl2,rfl⟩:=hk
    refine arr_cells m cs (by rw [hl,hp.2]) fun i hi=>?_
    have hi':(List.range m)[i]? = some i:=by simp [hi]
    obtain ⟨y,hy1,hy2⟩:=Z1 hxs i _ hi'
    refine YV ?_ (Yz n k _ w base sp hd _ y l hp.1 hl2 hy2)
    have hm:y.1 ∈ xs.map (·.1):=List.mem_map.2 ⟨y,List.mem_of_getElem? hy1,rfl⟩
    have:=XG hm
    simp only [Rows.uptoBulk];omega
   ·cases h
  ·cases hp
end
section
open Go.ChangeShapes Go.WideShapes Go.ChangeAt
theorem Xn {W:World} {a:Addr} {n:Nat} {cs:List Value} (h:W.cells? 0 a n=some cs) (hn:0<n) :
  a.spot=none∧∃(c:Array Value) (fz:Nat×Nat×Nat),W.heap[a.block]? = some (.cells c fz.1 fz.2)∧cs.length=n∧∀j,j<n→c[a.off+j]? = cs[j]?:=by
 unfold World.cells? at h
 rw [if_pos (Nat.zero_le _)] at h
 have hl:cs.length=n:=by
  have:∀{α β:Type} {f:α→Option β} {l:List α} {r:List β},l.mapM f=some r→r.length=l.length:=fun {α β f} l=>by
   induction l with
   | nil=>intro r h;simp at h;subst h;rfl
   | cons x l ih=>
    intro r h
    rw [List.mapM_cons] at h
    simp only [Option.bind_eq_bind,Option.bind_eq_some_iff,Option.pure_def,Option.some.injEq] at h
    obtain ⟨y,_,ys,hys,rfl⟩:=h
    simp [ih hys]
  simpa using this h
 have hget:∀j,j<n→∃v,cs[j]? = some v∧W.cell? (a.add j)=some v:=fun j hj=>Z1 h j j (by simp [hj])
 obtain ⟨v0,_,h0⟩:=hget 0 hn
 have ha0:a.add 0=a:=by simp [Addr.add]
 rw [ha0] at h0
 unfold World.cell? at h0
 split at h0
 ·rename_i c T fz hb
  split at h0
  ·cases h0
  ·rename_i hsp
   have hsp:a.spot=none:=by simpa using hsp
   refine ⟨hsp,c,(T,fz),hb,hl,fun j hj=>?_⟩
   obtain ⟨v,hv1,hv2⟩:=hget j hj
   rw [hv1]
   obtain ⟨ab,ao,asp⟩:=a
   dsimp only at hsp hb ⊢
   subst hsp
   rw [Y5 rfl] at hv2
   unfold World.cell? at hv2
   dsimp only at hv2
   rw [hb] at hv2
   simpa using hv2
 ·cases h0
theorem Kept.cell {W W':World} (h:Kept W W') {a:Addr} {v:Value} (hc:W.cell? a=some v):W'.cell? a=some v:=by
 unfold World.cell? at hc ⊢
 split at hc
 ·rename_i c T fz hb
  rw [h.heap _ _ hb]
  exact hc
 ·cases hc
theorem Kept.cells {W W':World} (h:Kept W W') {a:Addr} {n:Nat} {cs:List Value} (hc:W.cells? 0 a n=some cs):W'.cells? 0 a n=some cs:=by
 unfold World.cells? at hc ⊢
 rw [if_pos (Nat.zero_le _)] at hc ⊢
 exact Z9 (fun i _ x hx=>h.cell hx) hc
variable {H:Type} {enc:TypeId×Value→H} {P:Program}
theorem WO:∀(l:List (DataW H)),l.length≤Rows.uptoBulkAll l
 | []=>by simp [Rows.uptoBulkAll]
 | d::l=>by
  have:=WO l
  have h1:1≤Rows.uptoBulk d:=by
   cases d with
   | lit x=>cases x<;>simp only [Rows.uptoBulk]<;>omega
   | _=>simp only [Rows.uptoBulk];omega
  simp only [Rows.uptoBulkAll,List.length_cons];omega
theorem WP {α:Type} {p:Nat→α→Prop}:∀(n:Nat),(∀i,i<n→∃y,p i y)→∃es:List α,es.length=n∧∀i y,es[i]? = some y→p i y
 | 0,_=>⟨[],rfl,by simp⟩
 | n+1,h=>by
  obtain ⟨es,hl,he⟩:=WP n fun i hi=>h i (by omega)
  obtain ⟨y,hy⟩:=h n (by omega)
  refine ⟨es++[y],by simp [hl],fun i z hz=>?_⟩
  by_cases hi:i<n
  ·exact he i z (by rwa [List.getElem?_append_left (by omega)] at hz)
  ·rw [List.getElem?_append_right (by omega)] at hz
   have h0:i - es.length=0:=by
    have:=(List.getElem?_eq_some_iff.1 hz).1
    simp at this;omega
   rw [h0] at hz
   simp at hz
   subst hz
   rw [show i=n by omega];exact hy
theorem drop_flat {α:Type} {fa:α→List Value} {sz:Nat} (hsz:∀e,(fa e).length=sz) (l:List Value):∀(es:List α) (off:Nat),(∀i e,es[i]? = some e→∀j,j<sz→l[off+i * sz+j]? = (fa e)[j]?)→l.drop off=es.flatMap fa++l.drop (off+es.length * sz)
 | [],off,_=>by simp
 | e::es,off,h=>by
  have h1:(l.drop off).take sz=fa e:=by
   apply List.ext_getElem?
   intro j
   rw [List.getElem?_take,List.getElem?_drop]
   split
   ·rename_i hj
    have:=h 0 e rfl j hj
    simpa using this
   ·rename_i hj
    rw [List.getElem?_eq_none (by rw [hsz];omega)]
  have ih:=drop_flat hsz l es (off+sz) fun i e' he j hj=>by
   have:=h (i+1) e' (by simpa using he) j hj
   rw [←this];congr 1;rw [Nat.add_mul];omega
  rw [←List.take_append_drop sz (l.drop off),h1,List.drop_drop,ih,List.flatMap_cons,List.append_assoc,List.length_cons]
  congr 3;rw [Nat.add_mul];omega
theorem mapM_len {α β:Type} {f:α→Option β} {l:List α}:∀{r:List β},l.mapM f=some r→r.length=l.length:=by
 induction l with
 | nil=>intro r h;simp at h;subst h;rfl
 | cons x l ih=>
  intro r h
  rw [List.mapM_cons] at h
  simp only [Option.bind_eq_bind,Option.bind_eq_some_iff,Option.pure_def,Option.some.injEq] at h
  obtain ⟨y,_,ys,hys,rfl⟩:=h
  simp [ih hys]
theorem open_slC {α:Type} {fa:α→List Value} {Q:α→Nat→Prop} {t e k:Nat} {W:World} {v:Value} {d:DataW H} {p:List MemPlace} (T:Nat) (hu:P.underlying t=some (.slice e)) (hpl:plainT P k e=true) (hc0:0<P.cellsOf e) (hsz:∀y,(fa y).length=P.cellsOf e)
  (hopen:∀(n:Nat) (cs:List Value) (x:DataW H×List MemPlace),DataW.trod enc P W 0 (fun _=>true) true n e cs=some x→∃y,cs=fa y∧Q y (Rows.uptoBulk x.1)) (hmono:∀y M M',Q y M→M≤M'→Q y M')
  (hv:∃a len cap,v = .slice a len cap) (h:DataW.Trod enc P W 0 (fun _=>true) true t v d p) :
  ∃(o:Option Addr) (cap:Nat) (es:List α),v = .slice o es.length cap∧(Sl T fa o cap es).p (fun b=>W.heap[b]?)∧es.length≤Rows.uptoBulk d∧(∀y ∈ es,Q y (Rows.uptoBulk d))∧
   ∀(W':World) (sp:Nat→Bool),Kept W W'→(∀b<W.heap.size,sp b=true)→DataW.Trod enc P W' 0 sp true t v d p:=by
 obtain ⟨a,len,cap,rfl⟩:=hv
 obtain ⟨n,hn⟩:=h
 cases n with
 | zero=>simp [DataW.trod] at hn
 | succ n=>
  have hcl:(Value.slice a len cap).cells.toList=[.slice a len cap]:=rfl
  rw [hcl] at hn
  cases a with
  | none=>
   have h0:len=0∧cap=0:=by
    unfold DataW.trod at hn
    rw [hu] at hn
    split at hn<;>simp_all
   obtain ⟨rfl,rfl⟩:=h0
   have hd:d = .nil∧p=[]:=by
    simp [DataW.trod,hu] at hn
    exact ⟨hn.1.symm,hn.2⟩
   obtain ⟨rfl,rfl⟩:=hd
   exact ⟨none,0,[],rfl,⟨by simp,.inl rfl⟩,by simp,by simp,fun W' sp _ _=>⟨n+1,by rw [hcl];simp [DataW.trod,hu]⟩⟩
  | some a=>
   simp only [DataW.trod,hu] at hn
   split at hn
   ·rename_i hb
    simp only [Option.bind_eq_some_iff,if_true,Option.map_eq_some_iff] at hn
    obtain ⟨elems,he,rest,hr,hx⟩:=hn
    simp only [Prod.mk.injEq] at hx
    obtain ⟨rfl,rfl⟩:=hx
    have hle:=mapM_len he
    rw [List.length_range] at hle
    have hbulk:∀x ∈ elems,Rows.uptoBulk x.1≤Rows.uptoBulk (DataW.slice (elems.map (·.1)) (rest.map (·.1))):=fun x hx=>by
     have:=XG (List.mem_map.2 ⟨x,hx,rfl⟩:x.1 ∈ elems.map (·.1))
     simp only [Rows.uptoBulk];omega
    obtain ⟨es,hel,hes⟩:=WP (p:=fun i y=>∃x,x ∈ elems∧W.cells? 0 (a.add (i * P.cellsOf e)) (P.cellsOf e)=some (fa y)∧Q y (Rows.uptoBulk x.1)) len fun i hi=>by
     obtain ⟨x,hx1,hx2⟩:=Z1 he i i (by simp [hi])
     simp only [Option.bind_eq_some_iff] at hx2
     obtain ⟨cs,hcs,htr⟩:=hx2
     obtain ⟨y,rfl,hy⟩:=hopen n cs x htr
     exact ⟨y,x,List.mem_of_getElem? hx1,hcs,hy⟩
    refine ⟨some a,cap,es,by rw [hel],⟨by omega,?_⟩,?_,?_,?_⟩
    ·by_cases hl0:es=[]
     ·exact .inl hl0
     ·right
      have hpos:0<es.length:=List.length_pos_iff.2 hl0
      obtain ⟨x0,_,hc1,_⟩:=hes 0 es[0] (List.getElem?_eq_getElem hpos)
      have ha0:a.add (0 * P.cellsOf e)=a:=by simp [Addr.add]
      rw [ha0] at hc1
      obtain ⟨hsp,c,fz,hblk,_,hcell⟩:=Xn hc1 hc0
      obtain ⟨ab,ao,asp⟩:=a
      dsimp only at hsp hblk hcell
      subst hsp
      have hlt:ao<c.size:=by
       have h1:=hcell 0 hc0
       have h2:(fa es[0])[0]?≠none:=by
        rw [List.getElem?_eq_getElem (by rw [hsz];exact hc0)];simp
       rw [←h1] at h2
       exact Nat.lt_of_not_le fun h=>h2 (by simpa using Array.getElem?_eq_none_iff.2 h)
      have hdrop:=drop_flat hsz c.toList es ao fun i y hy j hj=>by
       obtain ⟨x,_,hci,_⟩:=hes i y hy
       rw [Y5 rfl] at hci
       obtain ⟨_,c',fz',hblk',_,hcell'⟩:=Xn hci hc0
       dsimp only at hblk' hcell'
       rw [hblk] at hblk'
       injection hblk' with hblk'
       injection hblk' with e1
       subst e1
       rw [←hcell' j hj];simp
      refine ⟨ab,c,fz,c.toList.take ao,c.toList.drop (ao+es.length * P.cellsOf e),?_,hblk,?_⟩
      ·rw [List.length_take,Nat.min_eq_left (by simpa using Nat.le_of_lt hlt)]
      ·rw [←hdrop,List.take_append_drop]
    ·have:=WO (elems.map (·.1))
     simp only [List.length_map] at this
     simp only [Rows.uptoBulk];omega
    ·intro y hy
     obtain ⟨i,hi,rfl⟩:=List.mem_iff_getElem.1 hy
     obtain ⟨x,hx,_,hq⟩:=hes i _ (List.getElem?_eq_getElem hi)
     exact hmono _ _ _ hq (hbulk x hx)
    ·intro W' sp hk hsp
     have hel1:∀i x,((W.cells? 0 (a.add (i * P.cellsOf e)) (P.cellsOf e)).bind (DataW.trod enc P W 0 (fun _=>true) true n e))=some x→((W'.cells? 0 (a.add (i * P.cellsOf e)) (P.cellsOf e)).bind (DataW.trod enc P W' 0 sp true n e))=some x:=fun i x hx=>by
      simp only [Option.bind_eq_some_iff] at hx ⊢
      obtain ⟨cs,hcs,htr⟩:=hx
      exact ⟨cs,hk.cells hcs,(YM n _ _ W 0 _ _ _ _ hpl htr).2 W' 0 sp true⟩
     refine ⟨n+1,?_⟩
     rw [hcl]
     simp only [DataW.trod,hu]
     rw [if_pos hb]
     simp only [Option.bind_eq_some_iff,Option.map_eq_some_iff]
     refine ⟨elems,Z9 (fun i _ x hx=>hel1 i x hx) he,rest,?_,rfl⟩
     by_cases hcap:cap=len
     ·have hrest:rest=[]:=by
       subst hcap
       simp at hr
       exact hr
      subst hrest
      subst hcap
      split<;>simp
     ·have hlt:a.block<W.heap.size:=by
       obtain ⟨x,_,hx2⟩:=Z1 hr 0 0 (by rw [List.getElem?_range (by omega)])
       simp only [Option.bind_eq_some_iff] at hx2
       obtain ⟨cs,hcs,_⟩:=hx2
       obtain ⟨_,c,fz,hblk,_⟩:=Xn hcs hc0
       have h1:=(Array.getElem?_eq_some_iff.1 hblk).1
       have h2:(a.add ((len+0) * P.cellsOf e)).block=a.block:=by unfold Addr.add;split<;>rfl
       rwa [h2] at h1
      rw [if_pos (hsp _ hlt)]
      exact Z9 (fun j _ x hx=>hel1 (len+j) x hx) hr
   ·cases hn
theorem open_sl {α:Type} {fa:α→List Value} {Q:α→Nat→Prop} {t e k:Nat} {W:World} {base:Nat} {v:Value} {d:DataW H} {p:List MemPlace} (T:Nat) (hu:P.underlying t=some (.slice e)) (hpl:plainT P k e=true) (hc0:0<P.cellsOf e) (hsz:∀y,(fa y).length=P.cellsOf e)
  (hopen:∀(n:Nat) (cs:List Value) (x:DataW H×List MemPlace),DataW.trod enc P W 0 (fun _=>true) true n e cs=some x→∃y,cs=fa y∧Q y (Rows.uptoBulk x.1)) (hmono:∀y M M',Q y M→M≤M'→Q y M')
  (hv:Value.okWide P W .any base t v) (h:DataW.Trod enc P W 0 (fun _=>true) true t v d p) :
  ∃(o:Option Addr) (cap:Nat) (es:List α),v = .slice o es.length cap∧(Sl T fa o cap es).p (fun b=>W.heap[b]?)∧es.length≤Rows.uptoBulk d∧(∀y ∈ es,Q y (Rows.uptoBulk d))∧
   ∀(W':World) (sp:Nat→Bool),Kept W W'→(∀b<W.heap.size,sp b=true)→DataW.Trod enc P W' 0 sp true t v d p:=
 open_slC T hu hpl hc0 hsz hopen hmono (okWide_slice hu hv) h
end
section
open Go.ChangeShapes Go.WideShapes Go.ChangeAt
theorem own:ownKnob prog.godebug=none:=by kernel_rfl
theorem u8_of {n:Int} (h:(Lit.int .u8 n).wf=true):∃c:UInt8,n=(c.toNat:Int):=by
 have h1:0≤n∧n<256:=by
  simp [Lit.wf,IntKind.min,IntKind.max,IntKind.bits,IntKind.signed] at h
  omega
 exact ⟨UInt8.ofNat n.toNat,by simp;omega⟩
noncomputable def laidWorld (os:Os):World:=
 {World.holding prog os ⟨#[],#[],[]⟩ with heap:=(World.holding prog os ⟨#[],#[],[]⟩).heap.modify 0 fun
   | .cells _ t frozen=>.cells (usages.flatMap uf).toArray t frozen
   | o=>o}
theorem cells_s {M:Nat} {ks:List SK} {cs:List Value} (h:CellsOK M (.s::ks) cs):∃(s:ByteArray) (cs':List Value),cs = .string s::cs'∧s.size≤M∧CellsOK M ks cs':=by
 obtain _|⟨v,cs⟩:=cs
 ·exact h.elim
 ·obtain ⟨⟨z,rfl,hz⟩,h⟩:=h
  exact ⟨z,cs,rfl,hz,h⟩
section
variable {H:Type} {enc:TypeId×Value→H} {W:World} {base:Nat} {v:Value} {d:DataW H} {p:List MemPlace}
theorem aggS {t:TypeId} {fs:Array Field} (hu:prog.underlying t=some (.struct fs)) (hv:Value.okWide prog W .any base t v):∃cs,v = .agg cs:=
 let ⟨cs,h,_⟩:=okWide_struct hu hv
 ⟨cs,h⟩
theorem open_str {t:TypeId} (hu:prog.underlying t=some .string) (hv:Value.okWide prog W .any base t v) (h:DataW.Trod enc prog W 0 (fun _=>true) true t v d p) :
  ∃s:ByteArray,v = .string s∧s.size≤Rows.uptoBulk d∧p=[]∧∀w' base' sp' hd',DataW.Trod enc prog w' base' sp' hd' t v d []:=by
 obtain ⟨s,rfl⟩:=okWide_string hu hv
 obtain ⟨n,hn⟩:=h
 have hpl:plainT prog 5 t=true:=by unfold plainT;rw [hu]
 have hsk:sks prog 5 t=some [.s]:=by unfold sks;rw [hu]
 have hc:=Yz n 5 _ W 0 _ _ _ _ _ hpl hsk hn
 obtain ⟨hp,hr⟩:=YM n 5 _ W 0 _ _ _ _ hpl hn
 dsimp only at hp
 subst hp
 obtain ⟨s',cs',h1,h2,_⟩:=cells_s hc
 injection h1 with h3 _
 injection h3 with h4
 exact ⟨s,rfl,by rw [h4];exact h2,rfl,fun w' base' sp' hd'=>⟨n,hr w' base' sp' hd'⟩⟩
end
end
section
variable {n:Nat} {C:Cx} {Q:Exit→Act→World→Prop} {E E':List (Nat×Value)} {F F' F1 Fs F0:List Pf} {R R' R0 Rs N N' A:List HP} {k k':List Fr} {ops l:List Oper} {i d:Nat} {t ty0:TypeId} {x y z:Operand} {pos:String} {aft:Array Edge} {gd:Option (Nat×Bool)} {α β:Type} [DecidableEq α] {K:α→Value} {V:β→Value}
end
def En.v (e:En):Value:=.agg #[.string e.who,.int .i64 e.nu,.int .i64 e.tk,.int .i64 e.o.ch,.string e.o.tg,.string e.o.tx,.int .i64 e.o.us]
abbrev Sd:=ByteArray×Int
def sdv (s:Sd):Value:=.agg #[.string s.1,.int .i64 s.2]
def En.sd (e:En):Sd:=(e.who,e.nu)
def bv (b:Bool):Value:=.bool b
structure Cq where
 kind:Int
 who:ByteArray
 nu:Int
 place:Int
 old:Ou
 oldAt:Int
 new:Ou
 newAt:Int
 deriving DecidableEq
def cqf (c:Cq):List Value:=[.int .i64 c.kind,.string c.who,.int .i64 c.nu,.int .i64 c.place,.int .i64 c.old.ch,.string c.old.tg,.string c.old.tx,.int .i64 c.old.us,.int .i64 c.oldAt,.int .i64 c.new.ch,.string c.new.tg,.string c.new.tx,.int .i64 c.new.us,.int .i64 c.newAt]
def con1 (all:List En) (x:Lf) (p:Nat):Cq:=
 if x.e ∈ all then ⟨1,x.e.who,x.e.nu,p,x.e.o,x.e.tk,x.e.o,x.e.tk⟩
 else match all.find? fun y=>y.sd=x.e.sd with
  | some y=>⟨3,x.e.who,x.e.nu,p,x.e.o,x.e.tk,y.o,y.tk⟩
  | none=>⟨2,x.e.who,x.e.nu,p,x.e.o,x.e.tk,Ou.z,0⟩
def knw (all:List En) (x:Lf):List En:=
 (if x.e ∈ all then [] else match all.find? fun y=>y.sd=x.e.sd with|some y=>[y]|none=>[])++[x.e]
def cons1 (all:List En) (ls:List Lf):List Cq:=ls.mapIdx fun p x=>con1 all x p
def con2 (y:En):Cq:=⟨4,y.who,y.nu,-1,Ou.z,0,y.o,y.tk⟩
def cons2 (known:List En) (ys:List En):List Cq:=(ys.filter fun y=>decide (y ∉ known)).map con2
def consE (all:List En) (ls:List Lf):List Cq:=cons1 all ls++cons2 (ls.flatMap (knw all)) all
structure C1 (all:List En) where
 i:Nat
 m1:List (En×Bool)
 m2:List (Sd×En)
 hi:i≤all.length
 h1:∀e,mget e m1=if e ∈ all.take i then some true else none
 h2:∀s,mget s m2=(all.take i).find? fun y=>y.sd=s
structure C2 (all:List En) (ls:List Lf) where
 j:Nat
 o:Option Addr
 cap:Nat
 m3:List (En×Bool)
 hj:j≤ls.length
 h3:∀e,mget e m3=if e ∈ (ls.take j).flatMap (knw all) then some true else none
structure C3 (all:List En) where
 i:Nat
 o:Option Addr
 cap:Nat
 hi:i≤all.length
section
variable {n:Nat} {C:Cx} {Q:Exit→Act→World→Prop} {E E':List (Nat×Value)} {F F' F1 Fs F0:List Pf} {R R' R0 Rs N N' A:List HP} {k k':List Fr} {ops l:List Oper} {L L':List (Nat×Nat)} {Tl:List Nat} {d:Nat} {t ty0:TypeId} {x y:Operand} {pos:String} {aft:Array Edge} {gd:Option (Nat×Bool)} {v:Value}
end
structure It where
 who:UInt8
 nu:UInt8
 tk:UInt8
 ch:UInt8
 tx:ByteArray
def itf (x:It):List Value:=[.int .u8 x.who.toNat,.int .u8 x.nu.toNat,.int .u8 x.tk.toNat,.int .u8 x.ch.toNat,.string x.tx]
def It.v (x:It):Value:=.agg #[.int .u8 x.who.toNat,.int .u8 x.nu.toNat,.int .u8 x.tk.toNat,.int .u8 x.ch.toNat,.string x.tx]
def nm0:ByteArray:=⟨#[49]⟩
def nm1:ByteArray:=⟨#[49,46,50]⟩
def nm2:ByteArray:=⟨#[51]⟩
def who3 (j:Nat):ByteArray:=if j=0 then nm0 else if j=1 then nm1 else nm2
def ito (x:It):Ou:=⟨1+(x.ch.toNat % 4:Nat),⟨#[116]⟩,x.tx.extract 0 (min x.tx.size 20),5⟩
def itn (x:It):Nm:=⟨18,who3 (x.who.toNat % 3),(x.nu.toNat % 4:Nat),(x.tk.toNat % 8:Nat),⟨#[]⟩⟩
def itl (x:It) (p:Nat):Lf:=⟨⟨who3 (x.who.toNat % 3),(x.nu.toNat % 4:Nat),(x.tk.toNat % 8:Nat),ito x⟩,(9+p:Nat),(p / 5:Nat)⟩
def stF (es:Al) (l:List It):Al:=l.foldl (fun es x=>insO (itn x) (oencS (ito x)) es) es
def ldF (l:List It):List Lf:=l.mapIdx fun p x=>itl x p
structure B1 (now:List It) where
 i:Nat
 q:Option Addr
 es:Al
 h1:i≤now.length∧i≤20
 h2:es=stF [] (now.take i)
 h3:es.length≤i
structure B2 (left:List It) where
 i:Nat
 h1:i≤left.length∧i≤20
section
open Go.ChangeShapes Go.WideShapes Go.ChangeAt

end
section
open Go.ChangeShapes Go.WideShapes Go.ChangeAt

def laidT : List (String × DataW Unit) := [("math/bits.deBruijn32tab", Rows.laid_math_bits_deBruijn32tab), ("math/bits.deBruijn64tab", Rows.laid_math_bits_deBruijn64tab), ("internal/strconv.uint64pow10", Rows.laid_internal_strconv_uint64pow10), ("replevin/object.usages", Rows.laid_replevin_object_usages)]
theorem tP10 : (Tryz.prog.globals[2]?).map (·.type) = some 309 := by kernel_rfl
theorem plP10 : plainT Tryz.prog 5 309 = true := by decide +kernel
theorem rdP10 (w : World) : DataW.trod (fun _ => ()) Tryz.prog w 0 (fun _ => true) false 8 309 (Lib.pow10Tab.map fun z => Value.int .u64 z) = some (Rows.laid_internal_strconv_uint64pow10, []) := by kernel_rfl
theorem YA {W : World} (h : laidMetH Tryz.prog laidT W) : (Usg.p fun b => W.heap[b]?) ∧ P10.p fun b => W.heap[b]? := by
  rw [MakeChecks.laidMetH_plain _ _ _ (by kernel_rfl)] at h
  obtain ⟨ps, ⟨_, _, _, _, _, _, _, _, _, _, ⟨_, _, _, _, _, _, _, _, _, _, ⟨g1, t1, cs1, f1, p1, q1, hg1, ht1, hv1, hd1, ⟨g0, t0, cs0, f0, p0, q0, hg0, ht0, hv0, hd0, _, _⟩, _⟩, _⟩, _⟩, _, _⟩ := h
  refine ⟨?_, ?_⟩
  · obtain rfl := Option.some.inj (gUsg.symm.trans hg0)
    obtain rfl := Option.some.inj (tUsg.symm.trans ht0)
    have hcs : cs0.toList = usages.flatMap uf := Xt (enc' := fun _ => ()) _ _ _ _ W W _ _ _ _ _ _ _ _ _ _ plUsg hd0 (rdUsg W) rfl
    unfold World.var? at hv0
    rw [hg0] at hv0
    simp only [Option.bind_some] at hv0
    split at hv0
    · rename_i cs t fr hb
      obtain rfl := Option.some.inj hv0
      exact ⟨t, fr, by rw [← hcs]; simpa using hb⟩
    · cases hv0
  · obtain rfl := Option.some.inj (g10.symm.trans hg1)
    obtain rfl := Option.some.inj (tP10.symm.trans ht1)
    have hcs : cs1.toList = Lib.pow10Tab.map fun z => Value.int .u64 z := Xt (enc' := fun _ => ()) _ _ _ _ W W _ _ _ _ _ _ _ _ _ _ plP10 hd1 (rdP10 W) rfl
    unfold World.var? at hv1
    rw [hg1] at hv1
    simp only [Option.bind_some] at hv1
    split at hv1
    · rename_i cs t fr hb
      obtain rfl := Option.some.inj hv1
      exact ⟨t, fr, by rw [← hcs]; simpa using hb⟩
    · cases hv1

def bits (l : List Int) : List Value := l.map fun z => Value.int .u8 z
def b32 : List Int := [0, 1, 28, 2, 29, 14, 24, 3, 30, 22, 20, 15, 25, 17, 4, 8, 31, 27, 13, 23, 21, 19, 16, 7, 26, 12, 18, 6, 11, 5, 10, 9]
def b64 : List Int := [0, 1, 56, 2, 57, 49, 28, 3, 61, 58, 42, 50, 38, 29, 17, 4, 62, 47, 59, 36, 45, 43, 51, 22, 53, 39, 33, 30, 24, 18, 12, 5, 63, 55, 48, 27, 60, 41, 37, 16, 46, 35, 44, 21, 52, 32, 23, 11, 54, 26, 40, 15, 34, 20, 31, 10, 25, 14, 19, 9, 13, 8, 7, 6]
noncomputable def laidWorldT (os : Os) : World :=
  { laidWorld os with heap := (((laidWorld os).heap.modify 2 fun
      | .cells _ t frozen => .cells (Lib.pow10Tab.map fun z => Value.int .u64 z).toArray t frozen
      | o => o).modify 3 fun
      | .cells _ t frozen => .cells (bits b32).toArray t frozen
      | o => o).modify 4 fun
      | .cells _ t frozen => .cells (bits b64).toArray t frozen
      | o => o }
end
end Go.Proofs.YtgfohjbcccfolaaGreatDoor
