/-
  A deferred closure that has nothing to recover.
  Conditions: those that each theorem states.
-/
import Derived.Test.YtgaipgbgppdfeaaGreatDoorMC
import Derived.RecoverIn
set_option maxRecDepth 10000
namespace Go.Proofs.YtgaipgbgppdfeaaGreatDoor
open Go.RowKit

/-- A closure that leaves all as it is, where nothing is recovered. -/
def Idle (f : FuncId) (args : Array Value) : Prop := ∀ w, CallsDIn (fz none) 0 Tryz.prog f args .returning w fun e u' w' => e = .returned (.tuple #[]) ∧ u' = .returning ∧ w' = w

theorem spec_ofD {f : FuncId} {fn : Func} {c : Code} {vs : List Value} {post : Post} {nt : Nat} {F : List Pf} {R : List HP} (hf : Tryz.prog.funcs[f]? = some fn) (hb : fn.body = some c) (hnt : fn.ntmps = nt) (hle : Nat.ble vs.length nt = true)
    (t : ∀ G w hp, Wk nt ⟨none, G, w, hp, []⟩ [.c c] (bodyPostDIn (fz none) 0 Tryz.prog fn (post.holds G w hp)) (argsE 0 vs) F R) : Spec Tryz.prog f vs.toArray F R post := by
  intro G w hp hsat
  refine (callsIn_wide (n := 0)).1 (callsIn_of_wp_defers hf hb trivial ?_)
  refine t G w hp _ w ⟨?_, rfl, fun i v hv => ?_⟩ hsat
  · have := Nat.le_of_ble_eq_true hle
    simp [hnt]; omega
  · obtain ⟨_, h2⟩ := argsE_look vs 0 i v hv
    simp only [Nat.sub_zero] at h2
    have hlt : i < vs.length := (List.getElem?_eq_some_iff.1 h2).1
    simp only
    rw [Array.getElem?_append_left (by simpa using hlt)]
    simpa using h2

section
variable {n : Nat} {C : Cx} {Q : Exit → Act → World → Prop} {E E' : List (Nat × Value)} {F F' F1 Fs F0 : List Pf} {R R' R0 Rs N N' A : List HP} {k k' : List Fr} {ops l : List Oper}
  {i d : Nat} {t ty0 : TypeId} {x y : Operand} {pos : String} {aft : Array Edge} {gd : Option (Nat × Bool)}
/-- A closure is deferred. -/
theorem l_defer {f : FuncId} {fs cs : Array Value} {tys : Array TypeId} {G : H} {w0 : World} {hp0 : H} {ds : List Deferred} (nx : Wl n ⟨none, G, w0, hp0, ⟨.fn (.func f) cs, fs⟩ :: ds⟩ ops.toArray k Q l E F R)
    (hw : wantL ops E ⟨none, .defer ⟨.value x, #[], tys⟩, ty0, pos, aft, gd⟩ = some true := by rfl) (hx : ev E x = some (.func (.func f) fs cs) := by rfl) :
    Wl n ⟨none, G, w0, hp0, ds⟩ ops.toArray k Q (⟨none, .defer ⟨.value x, #[], tys⟩, ty0, pos, aft, gd⟩ :: l) E F R := by
  intro a w ha hs
  have hw' := wantF_ok ha (wantL_ok hw)
  unfold wpListIn
  rw [if_pos hw']
  refine ⟨fun _ _ => trivial, ?_⟩
  have hr : (Oper.semAt (fz none).round a.eval ⟨none, .defer ⟨.value x, #[], tys⟩, ty0, pos, aft, gd⟩).run Tryz.prog w = .ok (.defer ⟨.fn (.func f) cs, fs⟩) w := by
    rw [show (fz none).round = none from rfl, Oper.semAt_none]
    have e1 := ha.ev (x := x) (by rw [evf_look]; exact hx)
    simp only [execOp, resolve, Sem.run_bind, Sem.run_pure, Result.andThen, e1, Deferred.ofValue]
    simp
  rw [hr]
  show wpListIn _ _ _ _ _ l _ _
  refine nx _ w ⟨?_, ?_, ?_⟩ hs
  · exact ha.size
  · show _ :: a.defers = _
    rw [ha.defers]
  · exact ha.slots

/-- A return, behind which an idle closure is called. -/
theorem k_retD {fn : Func} {post : Post} {G : H} {w0 : World} {hp0 : H} {f : FuncId} {fs cs : Array Value} (he : Enters f) (hi : Idle f (fs ++ cs)) (xx : post.X) {vs : List Value} (hv : resV vs = post.val xx) (hp : post.pure xx)
    (hr : ResOK E R fn.results.toList vs := by (repeat (first | exact ResOK.nil | exact Sel.here | apply Sel.there | exact rfl | apply ResOK.tmp | apply ResOK.cell)); first | done | fail)
    (hF : EntF F (post.F xx) := by (repeat (first | exact trivial | exact Sel.here | apply Sel.there | apply EntF.cons)); first | done | fail)
    (hR : Sels (post.R xx) R R0 := by (repeat (first | exact Sels.nil | exact Sel.here | apply Sel.there | apply Sels.cons)); first | done | fail)
    (h : nf 1000 k = .c .ret :: k' := by rfl) (hn : noR k' = true := by rfl) : Wk n ⟨none, G, w0, hp0, [⟨.fn (.func f) cs, fs⟩]⟩ k (bodyPostDIn (fz none) 0 Tryz.prog fn (post.holds G w0 hp0)) E F R := k_rt (fun a w ha hs => by
  have h2 := results_ok ha hs hr
  show LeavesIn (fz none) 0 Tryz.prog fn a.tmps _ a.defers .returning w
  rw [ha.defers]
  refine leavesIn_cons (f := f) (args := fs ++ cs) (by simp) (fun hx => by cases hx) (by simpa [invoke] using he (fs ++ cs) w) (fun _ _ => trivial) ?_
  refine (hi w).mono ?_
  rintro e u' w' ⟨rfl, rfl, rfl⟩
  refine ⟨resV vs, h2, xx, by rw [hv], hp, ((hs.sels hR).facts (F' := post.F xx) hF.all).res fun _ h => sep_left h⟩) h hn
end
end Go.Proofs.YtgaipgbgppdfeaaGreatDoor
