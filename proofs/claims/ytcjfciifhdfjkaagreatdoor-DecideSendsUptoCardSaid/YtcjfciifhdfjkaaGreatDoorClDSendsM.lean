/-
  For any items and any operations, the law DecideSends returns true, and its arguments read as before.
  Conditions: those of the given card: the tables of the kinds of objects, of powers of ten, of the first bytes of runes and of bits, and the two errors of strconv, lie in memory as the program's text lays it; what is read is of bulk at most 1048576.
-/
import Derived.Test.YtcjfciifhdfjkaaGreatDoorHClDSends1
import Derived.Test.YtcjfciifhdfjkaaGreatDoorP6
set_option maxRecDepth 10000
namespace Go.Proofs.YtcjfciifhdfjkaaGreatDoor.decideSends
open Go.RowKit Go.ChangeShapes Go.WideShapes Go.ChangeAt
theorem contract (H:Type) (enc:TypeId×Value→H) (W:World) (base:Nat) (args:Array Value) (ds gs:List (DataW H)) (before:List MemPlace)
  (hval:∀(j:Nat) t v,Tryz.f4.params[j]? = some t→args[j]? = some v→Value.okWide Tryz.prog W .any base t v)
  (hW:DataW.Whole enc Tryz.prog Tryz.f4.params.toList Rows.decideSendsSpec.vars false W args.toList ds gs before) (hB:Rows.uptoBulkAll (ds++gs)≤1048576) (hL:laidMetH Tryz.prog Rows.decideSendsRow.laid W) (hSh:W.ShapedOpen Tryz.prog) :
  Calls Tryz.prog 4 args W fun e W'=>∃v,e = .returned v∧Rows.decideSendsSpec.post enc Tryz.prog Tryz.f4 false true false false W args v W':=by
 have hW':=hW
 obtain ⟨p,q,hA0,hV,rfl,hfz,hnd⟩:=hW
 have hA:DataW.TrodAll enc Tryz.prog W 0 (fun _=>true) true Tryz.f4.params.toList args.toList ds p:=hA0
 rw [Tryz.params4] at hA hval
 obtain ⟨v0,vs0,d0,ds0,p0,q0',ha0,rfl,rfl,h0,r0⟩:=trodAll_cons hA
 obtain ⟨v1,vs1,d1,ds1,p1,q1',rfl,rfl,rfl,h1,r1⟩:=trodAll_cons r0
 obtain ⟨rfl,rfl,rfl⟩:=trodAll_nil r1
 obtain rfl:args = #[v0,v1]:=by cases args;simp_all
 obtain ⟨rfl,rfl⟩:=trodVars_none hV
 obtain ⟨o0,c0,e0,rfl,s0,l0,q0,t0⟩:=UB (hval 0 _ v0 rfl rfl) h0
 obtain ⟨o1,c1,e1,rfl,⟨s1,u1⟩,l1,q1,t1⟩:=open_ods (hval 1 _ v1 rfl rfl) h1
 simp only [List.append_nil,Rows.uptoBulkAll] at hB
 refine (UQ (lawSends_ok (o0,c0) (o1,c1) e0 e1 ⟨q0,by omega,fun x hx=>by obtain ⟨b1,b2,b3,b4⟩:=q1 x hx;exact ⟨b1,by omega,by omega⟩,by omega⟩).2 W (fun x hx=>by
  simp only [List.mem_cons,List.not_mem_nil,or_false] at hx
  rcases hx with rfl|rfl|rfl|rfl|rfl|rfl|rfl
  ·exact s0
  ·exact s1
  ·exact u1
  ·exact usgD hL
  ·exact (tabsD hL).1
  ·exact (tabsD hL).2
  ·exact mxlR hSh)).mono ?_
 rintro e W' ⟨rfl,hk⟩
 refine ⟨_,rfl,UG (pa:=p0++(p1++([]))) (pv:=[]) hW' (fun _ _ _=>trodAll_cons_mk (shut_bool Tryz.underlying4 _) trodAll_mk0) (fun sp hsp=>?_) (fun _ _=>rfl) (by simp) hk (ok_one (by kernel_rfl) rfl (okWide_bool_mk Tryz.underlying4 _))⟩
 exact (trodAll_cons_mk (t0 W' sp hk hsp) (trodAll_cons_mk (t1 W' sp hk hsp) trodAll_mk0))
theorem WY (os:Os):laidMet Tryz.prog Rows.decideSendsUptoRow.laid ((laidWorldD os).forCall (fun _ _=>0) ⟨#[],#[Value.slice none 0 0,Value.slice none 0 0],[]⟩).memory:=
 laidMet_of_run3 10 (by kernel_rfl) (by kernel_rfl) (by kernel_rfl)
theorem reads (os:Os) {H:Type} (enc:TypeId×Value→H):∃places,DataW.whole enc Tryz.prog ((laidWorldD os).forCall (fun _ _=>0) ⟨#[],#[Value.slice none 0 0,Value.slice none 0 0],[]⟩).memory Tryz.f4.params.toList Rows.decideSendsSpec.vars false #[Value.slice none 0 0,Value.slice none 0 0].toList 8=some ([.nil,.nil],[],places):=
 ⟨[],by kernel_rfl⟩
set_option maxRecDepth 100000 in
theorem liftedUpto (os:Os) (started:os.Started) (H:Type) (enc:TypeId×Value→H) (F:Stop.Interp) :
  ReturnsInHanded {} Tryz.checked os 4 .any ((Rows.OpenSpec.upto Rows.decideSendsSpec).preRow enc Tryz.prog Tryz.f4 Rows.decideSendsUptoRow.domain false Rows.decideSendsUptoRow.laid) (((Rows.OpenSpec.upto Rows.decideSendsSpec).at F).post enc Tryz.prog Tryz.f4 false true false false):=by
 obtain ⟨places,hx⟩:=reads os enc
 refine returnsInHanded_of_row (C:=Tryz.checked) (s:=Rows.OpenSpec.upto Rows.decideSendsSpec) own started (by kernel_rfl) Tryz.func4
  (witness_row_atRef (enc:=enc) (C:=Tryz.checked) false (laidWorldD os) #[Value.slice none 0 0,Value.slice none 0 0] rfl (by kernel_rfl) (by kernel_rfl) (by kernel_rfl)
   (OpenSpec.preRow_of_cond 8 hx (by kernel_rfl) (fun k hk=>by cases hk;kernel_rfl) (by kernel_rfl) (WY os))) ?_
 intro W base args ds gs before hval hW _ hcond _ hL hSh _
 exact contract H enc W base args ds gs before hval hW (of_decide_eq_true (hcond _ rfl)) hL hSh
set_option maxRecDepth 100000 in
set_option maxHeartbeats 400000000 in
theorem clo:joinedFacts Tryz.prog 4 Tryz.f4 (Rows.OpenSpec.upto Rows.decideSendsSpec).bare Rows.decideSendsUptoRow=true:=by
 simp only [joinedFacts,Bool.and_eq_true]
 and_intros
 all_goals (as_aux_lemma=>kernel_rfl)
theorem saidUpto:Rows.DecideSendsUptoSaid:=
 OpenClaim.holds_of_cond 4 Tryz.f4 rfl rfl rfl rfl rfl rfl rfl ⟨rfl,rfl,rfl,rfl,rfl⟩ rfl rfl rfl rfl rfl (by kernel_rfl) Tryz.func4 clo
  (of_decide_eq_true (by kernel_rfl)) (by unfold Func.isWrapper;first|(rw [if_pos (by decide +kernel)];kernel_rfl)|(rw [if_neg (by decide +kernel)];exact ⟨rfl,rfl⟩))
  (fun os started H enc _ F=>by rw [OpenClaim.pre_eq_preRow];exact liftedUpto os started H enc F)
theorem plain (f : FuncId) (fn : Func) (hf : Tryz.pinned.checked.prog.funcNamed "replevin/replevinlaw52.DecideSends" = some f) (hfn : Tryz.pinned.checked.prog.funcs[f]? = some fn) :
  true=Tryz.pinned.checked.prog.looks []∧∀(j:Nat) t,fn.params[j]? = some t→Tryz.pinned.checked.prog.wantsStandIn t=false:=by
 obtain rfl : f = 4 := Option.some.inj ((show Tryz.prog.funcNamed "replevin/replevinlaw52.DecideSends" = some 4 by kernel_rfl).symm.trans hf) |>.symm
 obtain rfl:fn=Tryz.f4:=(Option.some.inj (Tryz.func4.symm.trans hfn)).symm
 refine ⟨by kernel_rfl,fun j t ht=>?_⟩
 rw [Tryz.params4] at ht
 have h1:t=22∨t=23:=by simpa using Array.mem_of_getElem? ht
 rcases h1 with rfl|rfl
 ·exact (show Tryz.prog.wantsStandIn 22=false by kernel_rfl)
 ·exact (show Tryz.prog.wantsStandIn 23=false by kernel_rfl)
theorem cardUpto:Rows.DecideSendsUptoCardSaid:=
 Claim7.holds_tied_plain_at .later [] _ _ _ _ saidUpto (fun _ h=>by cases h) (by kernel_rfl) (fun _ h=>by cases h) decideSendsUpto_row_tie rfl ⟨rfl,rfl⟩ (by kernel_rfl) rfl plain (by kernel_rfl)
end Go.Proofs.YtcjfciifhdfjkaaGreatDoor.decideSends
namespace Go.Proofs.YtcjfciifhdfjkaaGreatDoor
theorem decideSends_holds:Rows.DecideSendsUptoCardSaid:=decideSends.cardUpto
end Go.Proofs.YtcjfciifhdfjkaaGreatDoor
