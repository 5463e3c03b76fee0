/-
  For any operations and one more, the law InodeTouches returns true, and its arguments read as before.
  Conditions: those of the given card: the table of the kinds of objects lies in memory as the program's text lays it; what is read is of bulk at most 1048576.
-/
import Derived.Test.YtdkndahndgkmnaaGreatDoorT6
set_option maxRecDepth 10000
namespace Go.Proofs.YtdkndahndgkmnaaGreatDoor.inodeTouches
open Go.RowKit Go.ChangeShapes Go.WideShapes Go.ChangeAt
theorem contract (H:Type) (enc:TypeId×Value→H) (W:World) (base:Nat) (args:Array Value) (ds gs:List (DataW H)) (before:List MemPlace)
  (hval:∀(j:Nat) t v,Tryz.f6.params[j]? = some t→args[j]? = some v→Value.okWide Tryz.prog W .any base t v)
  (hW:DataW.Whole enc Tryz.prog Tryz.f6.params.toList Rows.inodeTouchesSpec.vars false W args.toList ds gs before) (hB:Rows.uptoBulkAll (ds++gs)≤1048576) (hL:laidMetH Tryz.prog Rows.inodeTouchesRow.laid W) :
  Calls Tryz.prog 6 args W fun e W'=>∃v,e = .returned v∧Rows.inodeTouchesSpec.post enc Tryz.prog Tryz.f6 false true false false W args v W':=by
 have hW':=hW
 obtain ⟨p,q,hA0,hV,rfl,hfz,hnd⟩:=hW
 have hA:DataW.TrodAll enc Tryz.prog W 0 (fun _=>true) true Tryz.f6.params.toList args.toList ds p:=hA0
 rw [Tryz.params6] at hA hval
 obtain ⟨v0,vs0,d0,ds0,p0,q0',ha0,rfl,rfl,h0,r0⟩:=trodAll_cons hA
 obtain ⟨v1,vs1,d1,ds1,p1,q1',rfl,rfl,rfl,h1,r1⟩:=trodAll_cons r0
 obtain ⟨rfl,rfl,rfl⟩:=trodAll_nil r1
 obtain rfl:args = #[v0,v1]:=by cases args;simp_all
 obtain ⟨rfl,rfl⟩:=trodVars_none hV
 obtain ⟨o0,c0,e0,rfl,s0,l0,q0,t0⟩:=open_ops7 (hval 0 _ v0 rfl rfl) h0
 obtain ⟨a1,rfl,rfl,t1⟩:=open_op7 (hval 1 _ v1 rfl rfl) h1
 simp only [List.append_nil,Rows.uptoBulkAll] at hB
 refine (calls_law (lawITouches_ok o0 c0 e0 a1).2 W (fun x hx=>by
  simp only [List.mem_cons,List.not_mem_nil,or_false] at hx
  rcases hx with rfl|rfl
  ·exact s0
  ·exact usg_of_laid hL)).mono ?_
 rintro e W' ⟨rfl,hk⟩
 refine ⟨_,rfl,post_kept (pa:=p0++([]++([]))) (pv:=[]) hW' (fun _ _ _=>trodAll_cons_mk (shut_bool Tryz.underlying4 _) trodAll_mk0) (fun sp hsp=>?_) (fun _ _=>rfl) (by simp) hk (ok_one (by kernel_rfl) rfl (okWide_bool_mk Tryz.underlying4 _))⟩
 exact (trodAll_cons_mk (t0 W' sp hk hsp) (trodAll_cons_mk (t1 W' 0 sp true) trodAll_mk0))
theorem laid_met (os:Os):laidMet Tryz.prog Rows.inodeTouchesUptoRow.laid ((laidWorld os).forCall (fun _ _=>0) ⟨#[],#[Value.slice none 0 0,Value.agg #[.int .u8 0,.int .u8 0,.int .i64 0,.int .i64 0,.string ⟨#[]⟩,.int .i64 0,.int .i64 0,.int .i64 0,.int .i64 0,.int .i64 0,.int .i64 0,.string ⟨#[]⟩]],[]⟩).memory:=
 laidMet_of_run' 8 (by kernel_rfl) (by kernel_rfl)
theorem reads (os:Os) {H:Type} (enc:TypeId×Value→H):∃places,DataW.whole enc Tryz.prog ((laidWorld os).forCall (fun _ _=>0) ⟨#[],#[Value.slice none 0 0,Value.agg #[.int .u8 0,.int .u8 0,.int .i64 0,.int .i64 0,.string ⟨#[]⟩,.int .i64 0,.int .i64 0,.int .i64 0,.int .i64 0,.int .i64 0,.int .i64 0,.string ⟨#[]⟩]],[]⟩).memory Tryz.f6.params.toList Rows.inodeTouchesSpec.vars false #[Value.slice none 0 0,Value.agg #[.int .u8 0,.int .u8 0,.int .i64 0,.int .i64 0,.string ⟨#[]⟩,.int .i64 0,.int .i64 0,.int .i64 0,.int .i64 0,.int .i64 0,.int .i64 0,.string ⟨#[]⟩]].toList 8=some ([.nil,.agg [.lit (.int .u8 0),.lit (.int .u8 0),.lit (.int .i64 0),.lit (.int .i64 0),.lit (.string []),.agg [.lit (.int .i64 0),.lit (.int .i64 0),.lit (.int .i64 0),.lit (.int .i64 0),.lit (.int .i64 0),.lit (.int .i64 0),.lit (.string [])]]],[],places):=
 ⟨[],by kernel_rfl⟩
set_option maxRecDepth 100000 in
theorem liftedUpto (os:Os) (started:os.Started) (H:Type) (enc:TypeId×Value→H) (F:Stop.Interp) :
  ReturnsInHanded {} Tryz.checked os 6 .any ((Rows.OpenSpec.upto Rows.inodeTouchesSpec).preRow enc Tryz.prog Tryz.f6 Rows.inodeTouchesUptoRow.domain false Rows.inodeTouchesUptoRow.laid) (((Rows.OpenSpec.upto Rows.inodeTouchesSpec).at F).post enc Tryz.prog Tryz.f6 false true false false):=by
 obtain ⟨places,hx⟩:=reads os enc
 refine returnsInHanded_of_row (C:=Tryz.checked) (s:=Rows.OpenSpec.upto Rows.inodeTouchesSpec) own started (by kernel_rfl) Tryz.func6
  (witness_row_at (enc:=enc) (C:=Tryz.checked) false (laidWorld os) #[Value.slice none 0 0,Value.agg #[.int .u8 0,.int .u8 0,.int .i64 0,.int .i64 0,.string ⟨#[]⟩,.int .i64 0,.int .i64 0,.int .i64 0,.int .i64 0,.int .i64 0,.int .i64 0,.string ⟨#[]⟩]] rfl (by kernel_rfl) (by kernel_rfl) (by kernel_rfl)
   (OpenSpec.preRow_of_cond 8 hx (by kernel_rfl) (fun k hk=>by cases hk;kernel_rfl) (by kernel_rfl) (laid_met os))) ?_
 intro W base args ds gs before hval hW _ hcond _ hL _ _
 exact contract H enc W base args ds gs before hval hW (of_decide_eq_true (hcond _ rfl)) hL
set_option maxRecDepth 100000 in
set_option maxHeartbeats 400000000 in
theorem clo:joinedFacts Tryz.prog 6 Tryz.f6 (Rows.OpenSpec.upto Rows.inodeTouchesSpec).bare Rows.inodeTouchesUptoRow=true:=by
 simp only [joinedFacts,Bool.and_eq_true]
 and_intros
 all_goals (as_aux_lemma=>kernel_rfl)
theorem saidUpto:Rows.InodeTouchesUptoSaid:=
 OpenClaim.holds_of_cond 6 Tryz.f6 rfl rfl rfl rfl rfl rfl rfl ⟨rfl,rfl,rfl,rfl,rfl⟩ rfl rfl rfl rfl rfl (by kernel_rfl) Tryz.func6 clo
  (of_decide_eq_true (by kernel_rfl)) (by unfold Func.isWrapper;first|(rw [if_pos (by decide +kernel)];kernel_rfl)|(rw [if_neg (by decide +kernel)];exact ⟨rfl,rfl⟩))
  (fun os started H enc _ F=>by rw [OpenClaim.pre_eq_preRow];exact liftedUpto os started H enc F)
theorem plain (f : FuncId) (fn : Func) (hf : Tryz.pinned.checked.prog.funcNamed "replevin/replevinlaw27.InodeTouches" = some f) (hfn : Tryz.pinned.checked.prog.funcs[f]? = some fn) :
  false=Tryz.pinned.checked.prog.looks []∧∀(j:Nat) t,fn.params[j]? = some t→Tryz.pinned.checked.prog.wantsStandIn t=false:=by
 obtain rfl : f = 6 := Option.some.inj ((show Tryz.prog.funcNamed "replevin/replevinlaw27.InodeTouches" = some 6 by kernel_rfl).symm.trans hf) |>.symm
 obtain rfl:fn=Tryz.f6:=(Option.some.inj (Tryz.func6.symm.trans hfn)).symm
 refine ⟨by kernel_rfl,fun j t ht=>?_⟩
 rw [Tryz.params6] at ht
 have h1:t=51∨t=76:=by simpa using Array.mem_of_getElem? ht
 rcases h1 with rfl|rfl
 ·exact (show Tryz.prog.wantsStandIn 51=false by kernel_rfl)
 ·exact (show Tryz.prog.wantsStandIn 76=false by kernel_rfl)
theorem cardUpto:Rows.InodeTouchesUptoCardSaid:=
 Claim7.holds_tied_plain_at .later [] _ _ _ _ saidUpto (fun _ h=>by cases h) (by kernel_rfl) (fun _ h=>by cases h) inodeTouchesUpto_row_tie rfl ⟨rfl,rfl⟩ (by kernel_rfl) rfl plain (by kernel_rfl)
end Go.Proofs.YtdkndahndgkmnaaGreatDoor.inodeTouches
namespace Go.Proofs.YtdkndahndgkmnaaGreatDoor
theorem inodeTouches_holds:Rows.InodeTouchesUptoCardSaid:=inodeTouches.cardUpto
end Go.Proofs.YtdkndahndgkmnaaGreatDoor
