/-
  For any text, any places and any registers, the law ProcessForks returns true, and its arguments read as before.
  Conditions: those of the given card: the tables of the kinds of objects and of the powers of ten lie in memory as the program's text lays it; what is read is of bulk at most 1048576.
-/
import Derived.Test.YtgfohjbcccfolaaGreatDoorHClPForks1
import Derived.Test.YtgfohjbcccfolaaGreatDoorF3
set_option maxRecDepth 10000
namespace Go.Proofs.YtgfohjbcccfolaaGreatDoor.processForks
open Go.RowKit Go.ChangeShapes Go.WideShapes Go.ChangeAt
theorem contract (H:Type) (enc:TypeId×Value→H) (W:World) (base:Nat) (args:Array Value) (ds gs:List (DataW H)) (before:List MemPlace)
  (hval:∀(j:Nat) t v,Tryz.f5.params[j]? = some t→args[j]? = some v→Value.okWide Tryz.prog W .any base t v)
  (hW:DataW.Whole enc Tryz.prog Tryz.f5.params.toList Rows.processForksSpec.vars false W args.toList ds gs before) (hB:Rows.uptoBulkAll (ds++gs)≤1048576) (hL:laidMetH Tryz.prog Rows.processForksRow.laid W) :
  Calls Tryz.prog 5 args W fun e W'=>∃v,e = .returned v∧Rows.processForksSpec.post enc Tryz.prog Tryz.f5 false true false false W args v W':=by
 have hW':=hW
 obtain ⟨p,q,hA0,hV,rfl,hfz,hnd⟩:=hW
 have hA:DataW.TrodAll enc Tryz.prog W 0 (fun _=>true) true Tryz.f5.params.toList args.toList ds p:=hA0
 rw [Tryz.params5] at hA hval
 obtain ⟨v0,vs0,d0,ds0,p0,q0',ha0,rfl,rfl,h0,r0⟩:=trodAll_cons hA
 obtain ⟨v1,vs1,d1,ds1,p1,q1',rfl,rfl,rfl,h1,r1⟩:=trodAll_cons r0
 obtain ⟨v2,vs2,d2,ds2,p2,q2',rfl,rfl,rfl,h2,r2⟩:=trodAll_cons r1
 obtain ⟨rfl,rfl,rfl⟩:=trodAll_nil r2
 obtain rfl:args = #[v0,v1,v2]:=by cases args;simp_all
 obtain ⟨rfl,rfl⟩:=trodVars_none hV
 obtain ⟨a0,rfl,s0,rfl,t0⟩:=open_str Tryz.underlying9 (hval 0 _ v0 rfl rfl) h0
 obtain ⟨o1,c1,e1,rfl,s1,l1,t1⟩:=open_bytes (hval 1 _ v1 rfl rfl) h1
 obtain ⟨m2,n2,j2,k2,x2,y2,z2,f2,g2,rfl,s2,rfl,t2⟩:=open_rg (hval 2 _ v2 rfl rfl) h2
 simp only [List.append_nil,Rows.uptoBulkAll] at hB
 refine (calls_law (lawPForks_ok a0 o1 c1 e1 (by omega) m2 n2 j2 k2 x2 y2 z2 f2 g2 s2).2 W (fun x hx=>by
  simp only [List.mem_cons,List.not_mem_nil,or_false] at hx
  rcases hx with rfl|rfl|rfl
  ·exact s1
  ·exact (Yd hL).1
  ·exact (Yd hL).2)).mono ?_
 rintro e W' ⟨rfl,hk⟩
 refine ⟨_,rfl,post_kept (pa:=[]++(p1++([]++([])))) (pv:=[]) hW' (fun _ _ _=>trodAll_cons_mk (shut_bool Tryz.underlying4 _) trodAll_mk0) (fun sp hsp=>?_) (fun _ _=>rfl) (by simp) hk (ok_one (by kernel_rfl) rfl (okWide_bool_mk Tryz.underlying4 _))⟩
 exact (trodAll_cons_mk (t0 W' 0 sp true) (trodAll_cons_mk (t1 W' sp hk hsp) (trodAll_cons_mk (t2 W' 0 sp true) trodAll_mk0)))
theorem laid_met (os:Os):laidMet Tryz.prog Rows.processForksUptoRow.laid ((laidWorldT os).forCall (fun _ _=>0) ⟨#[],#[Value.string ⟨#[]⟩,Value.slice none 0 0,Value.agg #[.int .u32 0,.int .u32 0,.int .u32 0,.int .u32 0,.int .u32 0,.int .u32 0,.int .u32 0,.int .u32 0,.int .u32 0]],[]⟩).memory:=
 laidMet_of_run' 8 (by kernel_rfl) (by kernel_rfl)
theorem reads (os:Os) {H:Type} (enc:TypeId×Value→H):∃places,DataW.whole enc Tryz.prog ((laidWorldT os).forCall (fun _ _=>0) ⟨#[],#[Value.string ⟨#[]⟩,Value.slice none 0 0,Value.agg #[.int .u32 0,.int .u32 0,.int .u32 0,.int .u32 0,.int .u32 0,.int .u32 0,.int .u32 0,.int .u32 0,.int .u32 0]],[]⟩).memory Tryz.f5.params.toList Rows.processForksSpec.vars false #[Value.string ⟨#[]⟩,Value.slice none 0 0,Value.agg #[.int .u32 0,.int .u32 0,.int .u32 0,.int .u32 0,.int .u32 0,.int .u32 0,.int .u32 0,.int .u32 0,.int .u32 0]].toList 8=some ([.lit (.string []),.nil,.agg [.agg [.lit (.int .u32 0),.lit (.int .u32 0),.lit (.int .u32 0),.lit (.int .u32 0),.lit (.int .u32 0),.lit (.int .u32 0),.lit (.int .u32 0),.lit (.int .u32 0)],.lit (.int .u32 0)]],[],places):=
 ⟨[],by kernel_rfl⟩
set_option maxRecDepth 100000 in
theorem liftedUpto (os:Os) (started:os.Started) (H:Type) (enc:TypeId×Value→H) (F:Stop.Interp) :
  ReturnsInHanded {} Tryz.checked os 5 .any ((Rows.OpenSpec.upto Rows.processForksSpec).preRow enc Tryz.prog Tryz.f5 Rows.processForksUptoRow.domain false Rows.processForksUptoRow.laid) (((Rows.OpenSpec.upto Rows.processForksSpec).at F).post enc Tryz.prog Tryz.f5 false true false false):=by
 obtain ⟨places,hx⟩:=reads os enc
 refine returnsInHanded_of_row (C:=Tryz.checked) (s:=Rows.OpenSpec.upto Rows.processForksSpec) own started (by kernel_rfl) Tryz.func5
  (witness_row_at (enc:=enc) (C:=Tryz.checked) false (laidWorldT os) #[Value.string ⟨#[]⟩,Value.slice none 0 0,Value.agg #[.int .u32 0,.int .u32 0,.int .u32 0,.int .u32 0,.int .u32 0,.int .u32 0,.int .u32 0,.int .u32 0,.int .u32 0]] rfl (by kernel_rfl) (by kernel_rfl) (by kernel_rfl)
   (OpenSpec.preRow_of_cond 8 hx (by kernel_rfl) (fun k hk=>by cases hk;kernel_rfl) (by kernel_rfl) (laid_met os))) ?_
 intro W base args ds gs before hval hW _ hcond _ hL _ _
 exact contract H enc W base args ds gs before hval hW (of_decide_eq_true (hcond _ rfl)) hL
set_option maxRecDepth 100000 in
set_option maxHeartbeats 400000000 in
theorem clo:joinedFacts Tryz.prog 5 Tryz.f5 (Rows.OpenSpec.upto Rows.processForksSpec).bare Rows.processForksUptoRow=true:=by
 simp only [joinedFacts,Bool.and_eq_true]
 and_intros
 all_goals (as_aux_lemma=>kernel_rfl)
theorem saidUpto:Rows.ProcessForksUptoSaid:=
 OpenClaim.holds_of_cond 5 Tryz.f5 rfl rfl rfl rfl rfl rfl rfl ⟨rfl,rfl,rfl,rfl,rfl⟩ rfl rfl rfl rfl rfl (by kernel_rfl) Tryz.func5 clo
  (of_decide_eq_true (by kernel_rfl)) (by unfold Func.isWrapper;first|(rw [if_pos (by decide +kernel)];kernel_rfl)|(rw [if_neg (by decide +kernel)];exact ⟨rfl,rfl⟩))
  (fun os started H enc _ F=>by rw [OpenClaim.pre_eq_preRow];exact liftedUpto os started H enc F)
theorem plain (f : FuncId) (fn : Func) (hf : Tryz.pinned.checked.prog.funcNamed "replevin/replevinlaw35.ProcessForks" = some f) (hfn : Tryz.pinned.checked.prog.funcs[f]? = some fn) :
  false=Tryz.pinned.checked.prog.looks []∧∀(j:Nat) t,fn.params[j]? = some t→Tryz.pinned.checked.prog.wantsStandIn t=false:=by
 obtain rfl : f = 5 := Option.some.inj ((show Tryz.prog.funcNamed "replevin/replevinlaw35.ProcessForks" = some 5 by kernel_rfl).symm.trans hf) |>.symm
 obtain rfl:fn=Tryz.f5:=(Option.some.inj (Tryz.func5.symm.trans hfn)).symm
 refine ⟨by kernel_rfl,fun j t ht=>?_⟩
 rw [Tryz.params5] at ht
 have h1:t=9∨t=22∨t=58:=by simpa using Array.mem_of_getElem? ht
 rcases h1 with rfl|rfl|rfl
 ·exact (show Tryz.prog.wantsStandIn 9=false by kernel_rfl)
 ·exact (show Tryz.prog.wantsStandIn 22=false by kernel_rfl)
 ·exact (show Tryz.prog.wantsStandIn 58=false by kernel_rfl)
theorem cardUpto:Rows.ProcessForksUptoCardSaid:=
 Claim7.holds_tied_plain_at .later [] _ _ _ _ saidUpto (fun _ h=>by cases h) (by kernel_rfl) (fun _ h=>by cases h) processForksUpto_row_tie rfl ⟨rfl,rfl⟩ (by kernel_rfl) rfl plain (by kernel_rfl)
end Go.Proofs.YtgfohjbcccfolaaGreatDoor.processForks
namespace Go.Proofs.YtgfohjbcccfolaaGreatDoor
theorem processForks_holds:Rows.ProcessForksUptoCardSaid:=processForks.cardUpto
end Go.Proofs.YtgfohjbcccfolaaGreatDoor
