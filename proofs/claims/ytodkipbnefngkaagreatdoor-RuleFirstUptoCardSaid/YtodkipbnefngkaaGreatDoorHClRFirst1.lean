/-
  Two texts of rules, one behind the other: what they are read as, and what they decide. No program in sight.
  The statements' model of the language of rules: whether the first rule that applies has a template that becomes too long.
  The law RuleFirst.
  Conditions: those that each theorem states.
-/
import Derived.Test.YtodkipbnefngkaaGreatDoorP4
import Derived.Test.YtodkipbnefngkaaGreatDoorP3
import Derived.Test.YtodkipbnefngkaaGreatDoorP5
set_option maxRecDepth 10000
namespace Go.Proofs.YtodkipbnefngkaaGreatDoor
open Go.RowKit Go.Proofs.Tryz
theorem lines_neFi:∀l:List UInt8,linesF l≠[]
 | []=>by simp [linesF]
 | c::r=>by
  rw [linesF]
  split
  ·simp
  ·split<;>simp
theorem WT:∀(a b:List UInt8),linesF (a++10::b)=linesF a++linesF b
 | [],b=>by simp [linesF]
 | c::a,b=>by
  rw [List.cons_append,linesF,linesF]
  by_cases hc:(c == 10)=true
  ·rw [if_pos hc,if_pos hc,WT a b];rfl
  ·rw [if_neg hc,if_neg hc,WT a b]
   cases h:linesF a with
   | nil=>exact absurd h (lines_neFi a)
   | cons x m=>rfl
def bytesL:List (List UInt8)→Nat
 | []=>0
 | e::l=>e.length+1+bytesL l
theorem Vp:∀l:List UInt8,bytesL (linesF l)=l.length+1
 | []=>rfl
 | c::r=>by
  have ih:=Vp r
  rw [linesF]
  by_cases hc:(c == 10)=true
  ·rw [if_pos hc,bytesL,ih,List.length_nil,List.length_cons];omega
  ·rw [if_neg hc]
   cases h:linesF r with
   | nil=>exact absurd h (lines_neFi r)
   | cons x m=>
    rw [h,bytesL] at ih
    show bytesL ((c::x)::m)=_
    rw [bytesL,List.length_cons,List.length_cons];omega
theorem Wy (l2:List (List UInt8)):∀(l1:List (List UInt8)) (i:Nat) (acc:List Ru),rowsF (l1++l2) i acc=match rowsF l1 i acc with
  | .ok a=>rowsF l2 (i+l1.length) a
  | .error x=>.error x
 | [],i,acc=>rfl
 | s::l,i,acc=>by
  have e:i+(s::l).length=i+1+l.length:=by rw [List.length_cons];omega
  rw [List.cons_append,rowsF,rowsF]
  split
  ·rw [Wy l2 l (i+1),e]
  ·split
   ·rw [Wy l2 l (i+1),e]
   ·rfl
theorem WX:∀(l:List (List UInt8)) (i:Nat) (acc r:List Ru),rowsF l i acc = .ok r→acc.length≤r.length
 | [],_,acc,r,h=>by cases h;exact Nat.le_refl _
 | s::l,i,acc,r,h=>by
  rw [rowsF] at h
  split at h
  ·have:=WX l _ _ _ h
   rw [List.length_append,List.length_singleton] at this;omega
  ·split at h
   ·exact WX l _ _ _ h
   ·cases h
theorem line_someFi {s:List UInt8} {n m:Nat} {x:Ru} {y:Int×Int} (h:lineF s n=(some x,y)) (hm:m≠256):lineF s m=(some x,y):=by
 unfold lineF at h ⊢
 dsimp only at h ⊢
 generalize scanF (s.length+1) s 0 []=r at *
 split at h
 ·cases h
 ·rename_i h1
  rw [if_neg h1]
  split at h
  ·cases h
  ·split at h
   ·cases h
   ·rw [if_neg hm];exact h
theorem line_noneFi {s:List UInt8} {n:Nat} {a:Int} (h:lineF s n=(none,a,0)) (m:Nat):lineF s m=(none,0,0):=by
 unfold lineF at h ⊢
 dsimp only at h ⊢
 generalize scanF (s.length+1) s 0 []=r at *
 split at h
 ·obtain ⟨_,h2⟩:=Prod.mk.inj h
  obtain ⟨_,h3⟩:=Prod.mk.inj h2
  cases h3
 ·rename_i h1
  rw [if_neg h1]
  split at h
  ·rfl
  ·split at h
   ·obtain ⟨_,h2⟩:=Prod.mk.inj h
    obtain ⟨_,h3⟩:=Prod.mk.inj h2
    cases h3
   ·split at h
    ·rename_i hz
     obtain ⟨_,h2⟩:=Prod.mk.inj h
     obtain ⟨_,h3⟩:=Prod.mk.inj h2
     exact absurd h3 hz
    ·cases h
theorem WN (pre:List Ru):∀(l:List (List UInt8)) (i j:Nat) (acc r:List Ru),rowsF l i acc = .ok r→pre.length+r.length≤256→rowsF l j (pre++acc) = .ok (pre++r)
 | [],_,_,acc,r,h,_=>by cases h;rfl
 | s::l,i,j,acc,r,h,hb=>by
  rw [rowsF] at h ⊢
  split at h
  ·rename_i x a e hx
   have hm:=WX l _ _ _ h
   rw [List.length_append,List.length_singleton] at hm
   rw [line_someFi hx (m:=(pre++acc).length) (by rw [List.length_append];omega)]
   dsimp only
   rw [List.append_assoc]
   exact WN pre l (i+1) (j+1) _ r h hb
  ·rename_i a e hx
   split at h
   ·rename_i he
    subst he
    rw [line_noneFi hx (pre++acc).length]
    exact WN pre l (i+1) (j+1) acc r h hb
   ·cases h
theorem Xx:∀(l:List UInt8) (i:Nat) (acc t:List UInt8) (k:Nat),unqF l i acc=some (t,k)→t.length≤acc.length+l.length
 | [],_,_,_,_,h=>by simp [unqF] at h
 | [c],i,acc,t,k,h=>by
  rw [unqF] at h
  split at h
  ·cases h;simp
  ·cases h
 | c::d::r,i,acc,t,k,h=>by
  rw [unqF] at h
  simp only [List.length_cons]
  split at h
  ·cases h;omega
  ·split at h
   ·split at h
    ·have:=Xx r _ _ _ _ h;rw [List.length_append,List.length_singleton] at this;omega
    ·split at h
     ·have:=Xx r _ _ _ _ h;rw [List.length_append,List.length_singleton] at this;omega
     ·cases h
   ·have:=Xx (d::r) _ _ _ _ h
    simp only [List.length_cons,List.length_append,List.length_nil] at this;omega
theorem XH (M:Nat):∀(n:Nat) (l:List UInt8) (i:Nat) (acc:List Tk),l.length≤M→(∀t ∈ acc,t.tx.size≤M)→∀t ∈ (scanF n l i acc).1,t.tx.size≤M
 | 0,l,i,acc,_,h=>by unfold scanF;exact h
 | n+1,[],i,acc,_,h=>by unfold scanF;exact h
 | n+1,c::r,i,acc,hl,h=>by
  have add:∀(t:Tk),t.tx.size≤M→∀u ∈ acc++[t],u.tx.size≤M:=fun t ht u hu=>by
   rcases List.mem_append.1 hu with hu|hu
   ·exact h u hu
   ·rw [List.mem_singleton.1 hu];exact ht
  have hr:r.length≤M:=by rw [List.length_cons] at hl;omega
  have hd:∀k,((c::r).drop k).length≤M:=fun k=>by rw [List.length_drop];omega
  have hz:∀L:List UInt8,(ofL L).size=L.length:=fun L=>by show L.toArray.size=_;simp
  have ht:∀k,(ofL ((c::r).take k)).size≤M:=fun k=>by rw [hz,List.length_take];omega
  unfold scanF
  split
  ·exact h
  ·split
   ·exact XH M n r _ _ hr h
   ·split
    ·exact XH M n _ _ _ (hd _) (add _ (ht _))
    ·split
     ·exact XH M n _ _ _ (hd _) (add _ (ht _))
     ·split
      ·split
       ·rename_i t k hu
        exact XH M n _ _ _ (hd _) (add _ (by
         have:=Xx _ _ _ _ _ hu
         show (ofL t).size≤_
         rw [hz];simp only [List.length_nil] at this;omega))
       ·intro t ht;cases ht
      ·split
       ·exact XH M n r _ _ hr (add _ (by show (ofL [c]).size≤_;rw [hz];rw [List.length_cons] at hl;simp;omega))
       ·intro t ht;cases ht
theorem act_minFi {p:Ps} (h:(actF p).2.e=0):∃t ∈ p.tk,3≤t.tx.size:=by
 have h5:idx p.peek.tx wActs<5:=by
  by_cases h5:idx p.peek.tx wActs<5
  ·exact h5
  ·exfalso
   unfold actF at h
   dsimp only at h
   rw [if_neg h5,if_neg (by omega)] at h
   exact Z0 (by decide) h
 have hm:=Zx.1 (show idx p.peek.tx wActs<wActs.length from h5)
 have h3:3≤p.peek.tx.size:=(show ∀w ∈ wActs,3≤w.size by decide) _ hm
 unfold Ps.peek at h3
 cases ht:p.tk with
 | nil=>rw [ht] at h3;exact absurd (show 3≤(ofL []).size from h3) (by decide)
 | cons t l=>rw [ht] at h3;exact ⟨t,.head _,h3⟩
theorem rule_minFi {p:Ps} (h:(ruleF p).2.e=0):∃t ∈ p.tk,3≤t.tx.size:=by
 rw [rule_eq] at h
 dsimp only at h
 have h1:(actF (if p.is 1 wIf=true then (some (condF (fuP p.pass) p.pass).1,(condF (fuP p.pass) p.pass).2.symb yCol) else (none,p)).2).2.e=0:=by
  by_cases hz:(actF (if p.is 1 wIf=true then (some (condF (fuP p.pass) p.pass).1,(condF (fuP p.pass) p.pass).2.symb yCol) else (none,p)).2).2.e=0
  ·exact hz
  ·exact absurd h (end_e hz)
 obtain ⟨t,ht,h3⟩:=act_minFi h1
 refine ⟨t,?_,h3⟩
 split at ht
 ·exact List.IsSuffix.subset ((Sfx.pass p).trans (((Yh _).2.2.2.1 p.pass).trans (Sfx.symb _ _))) ht
 ·exact ht
theorem line_minFi {s:List UInt8} {n:Nat} {x:Ru} {y:Int×Int} (h:lineF s n=(some x,y)):3≤s.length:=by
 have hs:=XH s.length (s.length+1) s 0 [] (Nat.le_refl _) (fun t ht=>by cases ht)
 unfold lineF at h
 dsimp only at h
 generalize scanF (s.length+1) s 0 []=r at *
 split at h
 ·cases h
 ·split at h
  ·cases h
  ·split at h
   ·cases h
   ·split at h
    ·cases h
    ·rename_i hz
     obtain ⟨t,ht,h3⟩:=rule_minFi (Classical.not_not.1 hz)
     have:=hs t ht
     omega
theorem X2:∀(l:List (List UInt8)) (i:Nat) (acc r:List Ru),rowsF l i acc = .ok r→4 * r.length≤4 * acc.length+bytesL l
 | [],_,acc,r,h=>by cases h;exact Nat.le_add_right _ _
 | s::l,i,acc,r,h=>by
  rw [rowsF] at h
  rw [bytesL]
  split at h
  ·rename_i x a e hx
   have:=X2 l _ _ _ h
   have:=line_minFi hx
   rw [List.length_append,List.length_singleton] at *;omega
  ·split at h
   ·have:=X2 l _ _ _ h;omega
   ·cases h
theorem par_two {s t:ByteArray} {a b:List Ru} (hs:s.size≤500) (ht:t.size≤500) (ha:parF s = .ok a) (hb:parF t = .ok b):parF (ofL (s.data.toList++10::t.data.toList)) = .ok (a++b):=by
 have hls:s.data.toList.length=s.size:=by show _=s.data.size;simp
 have hlt:t.data.toList.length=t.size:=by show _=t.data.size;simp
 unfold parF at ha hb ⊢
 rw [if_neg (by omega)] at ha hb
 have hz:(ofL (s.data.toList++10::t.data.toList)).size=s.size+t.size+1:=by
  show (s.data.toList++10::t.data.toList).toArray.size=_
  simp;omega
 rw [if_neg (by omega)]
 have e:(ofL (s.data.toList++10::t.data.toList)).data.toList=s.data.toList++10::t.data.toList:=by show (List.toArray _).toList=_;simp
 rw [e,WT,Wy,ha]
 dsimp only
 have c1:=X2 _ _ _ _ ha
 have c2:=X2 _ _ _ _ hb
 rw [Vp] at c1 c2
 simp only [List.length_nil] at c1 c2
 have h:=WN a (linesF t.data.toList) 0 (0+(linesF s.data.toList).length) [] b hb (by omega)
 rw [List.append_nil] at h
 exact h
def longF (c:Cq):List Ru→Bool
 | []=>false
 | x::l=>if posF x.a.k c.kind=false∨condH c x=false then longF c l else decide (x.a.k=2∧4096<(expF x.a.t c).size)
theorem Xb (c:Cq):∀(l:List Ru) (i:Nat),decF c l i=((decF c l 0).1,if (decF c l 0).2<0 then -1 else (decF c l 0).2+i)∧-1≤(decF c l 0).2
 | [],i=>⟨rfl,by show (-1:Int)≤-1;omega⟩
 | x::l,i=>by
  rw [decF,decF]
  by_cases h1:posF x.a.k c.kind=false∨condH c x=false
  ·obtain ⟨a1,a2⟩:=Xb c l (i+1)
   obtain ⟨b1,_⟩:=Xb c l 1
   rw [if_pos h1,if_pos h1,a1,b1]
   dsimp only
   by_cases hz:(decF c l 0).2<0
   ·rw [if_pos hz,if_pos hz]
    exact ⟨rfl,Int.le_refl _⟩
   ·rw [if_neg hz,if_neg hz,if_neg (by omega)]
    refine ⟨?_,by omega⟩
    congr 1;omega
  ·rw [if_neg h1,if_neg h1]
   by_cases h2:x.a.k≠2
   ·rw [if_pos h2,if_pos h2]
    refine ⟨?_,by show (-1:Int)≤0;omega⟩
    rw [if_neg (by show ¬((0:Nat):Int)<0;omega)]
    congr 1;show (i:Int)=0+i;omega
   ·rw [if_neg h2,if_neg h2]
    by_cases h3:4096<(expF x.a.t c).size
    ·rw [if_pos h3,if_pos h3]
     exact ⟨rfl,Int.le_refl _⟩
    ·rw [if_neg h3,if_neg h3]
     refine ⟨?_,by show (-1:Int)≤0;omega⟩
     rw [if_neg (by show ¬((0:Nat):Int)<0;omega)]
     congr 1;show (i:Int)=0+i;omega
theorem dec_twoFi (c:Cq) (l2:List Ru):∀(l1:List Ru) (i:Nat),longF c l1=false→decF c (l1++l2) i=if 0≤(decF c l1 i).2 then decF c l1 i else decF c l2 (i+l1.length)
 | [],i,_=>by
  rw [if_neg (by show ¬(0:Int)≤-1;omega)]
  rfl
 | x::l,i,h=>by
  rw [longF] at h
  rw [List.cons_append,decF,decF]
  have e:i+(x::l).length=i+1+l.length:=by rw [List.length_cons];omega
  by_cases h1:posF x.a.k c.kind=false∨condH c x=false
  ·rw [if_pos h1] at h
   rw [if_pos h1,if_pos h1,dec_twoFi c l2 l (i+1) h,e]
  ·rw [if_neg h1] at h
   rw [if_neg h1,if_neg h1]
   by_cases h2:x.a.k≠2
   ·rw [if_pos h2,if_pos (by show (0:Int)≤(i:Int);omega)]
   ·rw [if_neg h2]
    have h3:¬4096<(expF x.a.t c).size:=fun h3=>by
     have:=of_decide_eq_false h
     exact this ⟨by omega,h3⟩
    rw [if_neg h3,if_pos (by show (0:Int)≤(i:Int);omega)]
theorem decide_two (c:Cq) (l1 l2:List Ru) (h:longF c l1=false):decideF (l1++l2) c=if 0≤(decideF l1 c).2 then decideF l1 c else ((decideF l2 c).1,if 0≤(decideF l2 c).2 then (decideF l2 c).2+(l1.length:Int) else (decideF l2 c).2):=by
 unfold decideF
 by_cases hp:posF 5 c.kind=false
 ·rw [if_pos hp,if_pos hp,if_pos hp,if_neg (by show ¬(0:Int)≤-1;omega),if_neg (by show ¬(0:Int)≤-1;omega)]
 ·rw [if_neg hp,if_neg hp,if_neg hp,dec_twoFi c l2 l1 0 h]
  obtain ⟨a1,a2⟩:=Xb c l2 (0+l1.length)
  by_cases hz:0≤(decF c l1 0).2
  ·rw [if_pos hz,if_pos hz]
  ·rw [if_neg hz,if_neg hz,a1]
   by_cases hy:0≤(decF c l2 0).2
   ·rw [if_pos hy,if_neg (by omega)]
    congr 1;omega
   ·rw [if_neg hy,if_pos (by omega)]
    congr 1;omega
theorem dec_upFi (c:Cq):∀(l:List Ru) (i:Nat),(decF c l i).2<(i+l.length:Nat)
 | [],i=>by show (-1:Int)<_;omega
 | x::l,i=>by
  rw [decF]
  split
  ·have:=dec_upFi c l (i+1)
   rw [List.length_cons];omega
  ·split
   ·show (i:Int)<_;rw [List.length_cons];omega
   ·split
    ·show (-1:Int)<_;omega
    ·show (i:Int)<_;rw [List.length_cons];omega
theorem dec_leFi (c:Cq) (l:List Ru) : -1≤(decideF l c).2∧(decideF l c).2<((l.length+1:Nat):Int):=by
 unfold decideF
 split
 ·exact ⟨Int.le_refl _,by show (-1:Int)<_;omega⟩
 ·have h1:=(Xb c l 0).2
  have h2:=dec_upFi c l 0
  omega
def lgF (s:ByteArray) (c:Cq):Bool:=match parF s with
 | .ok l=>longF c l
 | .error _=>false
set_option maxHeartbeats 8000000 in
theorem mpLong_ok (s:ByteArray) (hsz:s.size≤70000) (c:Cq) (hj:CqJ c) (hs:CqS c):Enters 29∧Spec prog 29 #[.string s,cqa c] [MxL] [] (RetV (.bool (lgF s c))):=by
 have p2:=Wu s (by omega)
 unfold lgF
 rcases par_both s with ⟨l,e1,e2,hl,hk1,hl2⟩|⟨x,e1,e2,hx⟩
 ·rw [e1] at p2
  rw [e2]
  dsimp only
  obtain ⟨V,hV⟩:∃V,longF c (l.map ruC)=V:=⟨_,rfl⟩
  rw [hV]
  rw [List.length_map] at hk1
  refine ZT [_,_] func29 ntmps29 fun G w hp=>?_
  repeat' (first|refine ZG ?_|refine ZF ?_|refine ZJ ?_|refine ZH ?_|refine ZL ?_|refine ZI ?_|refine ZN ?_|refine ZO (fun b=>?_)|refine ZM (fun b=>?_)|refine ZB ?_|refine ZD ?_|refine ZA (p2) (fun _ _=>?_)|refine l_call0 (p2) (fun _ _=>?_)|(refine ZC (fun hc=>?_) (fun hc=>?_)<;>(try simp at hc)<;>(try omega))|(refine ZE (fun hc=>?_) (fun hc=>?_)<;>(try simp at hc)<;>(try omega)))
  rename_i q hlen
  obtain ⟨vs,o,cap⟩:=q
  dsimp only at hlen ⊢
  generalize b=b3 at *
  refine YJ (X:={j:Nat // j≤l.length∧longF c ((l.drop j).map ruC)=V}) (fun j=>[(3,pv0 b3),(5,.slice o vs.length cap),(9,.int .i64 (j.1:Int))]) (fun _=>[lnS o cap vs,LnsF l vs,MxL]) (fun _=>[Pt b3 (.cells (cqf c).toArray 26)]) (fun j=>l.length - j.1) ⟨0,Nat.zero_le _,hV⟩ ⟨rfl,rfl,rfl,trivial⟩ ?_
  rintro ⟨j,hj0,hR⟩
  dsimp only at hj0 hR ⊢
  by_cases hlt:j<l.length
  ·have hxj:=List.getElem?_eq_getElem hlt
   rw [List.drop_eq_getElem_cons hlt] at hR
   obtain ⟨hxw,hxs⟩:=hl _ (List.getElem_mem hlt)
   have hx:=hl2 _ (List.mem_map.2 ⟨_,List.getElem_mem hlt,rfl⟩)
   generalize l[j]=x at *
   rw [List.map_cons,longF] at hR
   have hyj:=List.getElem?_eq_getElem (show j<vs.length by omega)
   generalize vs[j]=y at *
   have w1:=wrapi (z:=(j:Int)+1) (by omega) (by omega)
   have hjv:(j:Int)<(vs.length:Int):=by omega
   have hcd:=condH_ru c x hxw
   refine XD (f:=LnsF l vs) (.there .here) (fun h hh=>ln_open hxj hyj h hh) (fun q hq=>?_)
   obtain ⟨hq1,hq2,hq3⟩:=hq
   obtain ⟨yp,yk,yt⟩:=y
   obtain ⟨bt,tc⟩:=q
   obtain ⟨xc,xk,xt⟩:=x
   dsimp only at hq1 hq2 hq3 hcd ⊢
   subst hq2;subst hq3
   have m2:=W4 yk c.kind
   have eR:ruC ⟨xc,⟨yk,yt⟩⟩=⟨xc.map toC,⟨yk,yt⟩⟩:=rfl
   rw [eR] at hR hcd hx
   dsimp only at hR
   have hxt:yt.size≤s.size:=hx.t
   cases xc with
   | none=>
    have hq1:yp=none:=hq1
    subst hq1
    cases hpo:posF yk c.kind with
    | false=>
     rw [hpo] at m2
     rw [if_pos (.inl hpo)] at hR
     repeat' (first|refine ZG ?_|refine ZF ?_|refine ZJ ?_|refine ZH ?_|refine ZL ?_|refine ZI ?_|refine ZN ?_|refine ZO (fun b=>?_)|refine ZM (fun b=>?_)|refine ZB ?_|refine ZD ?_|refine ZX ?_|refine ZZ ?_|refine Zg ?_|refine ZY ?_|refine ZW ?_|refine Zh (fun b=>?_)|refine Zf (fun b=>?_)|refine Ze ?_|refine ZV ?_|refine ZA (m2) (fun _ _=>?_)|refine l_call0 (m2) (fun _ _=>?_)|refine ZK (m2) (fun _ _=>?_)|refine YK (es:=vs) (f:=lnf) j _ hyj (fun b off=>?_)|refine YL ?_|rw [w1]|(refine ZC (fun hc=>?_) (fun hc=>?_)<;>(try simp at hc)<;>(try omega))|(refine ZS (fun hc=>?_) (fun hc=>?_)<;>(try simp at hc)<;>(try omega))|refine ZQ 5 [] [(0,0),(1,0),(2,0),(3,0),(4,0),(5,0),(6,0),(7,0),(8,4),(9,0),(10,0),(11,0),(12,0),(13,0),(14,0),(15,0),(16,0),(17,0),(18,0),(19,0),(20,0),(21,0),(22,0),(23,0),(24,0),(25,0),(26,4),(27,0),(28,0),(29,0)] [] ?_|refine ZQ 6 [] [(0,0),(1,0),(2,0),(3,0),(4,0),(5,0),(6,0),(7,0),(8,0),(9,0),(10,0),(11,0),(12,0),(13,0),(14,0),(15,4),(16,0),(17,0),(18,0),(19,0)] [] ?_|(refine ZE (fun hc=>?_) (fun hc=>?_)<;>(try simp at hc)<;>(try omega)))
     all_goals exact Za ⟨j+1,by show j+1≤l.length;omega,hR⟩ (by show l.length - (j+1)<l.length - j;omega) ⟨rfl,rfl,rfl,trivial⟩
    | true=>
     rw [hpo] at m2
     rw [if_neg (fun h=>h.elim (fun h=>by rw [hpo] at h;cases h) (fun h=>by have h2:=h.symm.trans hcd;cases h2))] at hR
     by_cases hk:yk=2
     ·subst hk
      have htm:tmF yt.data.toList 0 0=none:=by rw [←(Xe yt c).1];exact hx.a.2.2.1 rfl
      have m5:=X3 yt (by omega) c hj hs htm
      have e5:ofL (exF c yt.data.toList 0)=expF yt c:=YH (by rw [Z8,(Xe yt c).2 htm])
      rw [e5] at m5
      generalize expF yt c=X at *
      by_cases hz:4096<X.size
      ·rw [decide_eq_true (show (2:Int)=2∧4096<X.size from ⟨rfl,hz⟩)] at hR
       subst hR
       repeat' (first|refine ZG ?_|refine ZF ?_|refine ZJ ?_|refine ZH ?_|refine ZL ?_|refine ZI ?_|refine ZN ?_|refine ZO (fun b=>?_)|refine ZM (fun b=>?_)|refine ZB ?_|refine ZD ?_|refine ZX ?_|refine ZZ ?_|refine Zg ?_|refine ZY ?_|refine ZW ?_|refine Zh (fun b=>?_)|refine Zf (fun b=>?_)|refine Ze ?_|refine ZV ?_|refine ZA (m2) (fun _ _=>?_)|refine l_call0 (m2) (fun _ _=>?_)|refine ZK (m2) (fun _ _=>?_)|refine ZA (m5) (fun _ _=>?_)|refine l_call0 (m5) (fun _ _=>?_)|refine ZK (m5) (fun _ _=>?_)|refine YK (es:=vs) (f:=lnf) j _ hyj (fun b off=>?_)|refine YL ?_|rw [w1]|(refine ZC (fun hc=>?_) (fun hc=>?_)<;>(try simp at hc)<;>(try omega))|(refine ZS (fun hc=>?_) (fun hc=>?_)<;>(try simp at hc)<;>(try omega))|refine ZQ 5 [] [(0,0),(1,0),(2,0),(3,0),(4,0),(5,0),(6,0),(7,0),(8,4),(9,0),(10,0),(11,0),(12,0),(13,0),(14,0),(15,0),(16,0),(17,0),(18,0),(19,0),(20,0),(21,0),(22,0),(23,0),(24,0),(25,0),(26,4),(27,0),(28,0),(29,0)] [] ?_|refine ZQ 6 [] [(0,0),(1,0),(2,0),(3,0),(4,0),(5,0),(6,0),(7,0),(8,0),(9,0),(10,0),(11,0),(12,0),(13,0),(14,0),(15,4),(16,0),(17,0),(18,0),(19,0)] [] ?_|(refine ZE (fun hc=>?_) (fun hc=>?_)<;>(try simp at hc)<;>(try omega)))
       all_goals (refine Zq (Zr (Zk () ?_ trivial));show Value.bool _=Value.bool _;simp;omega)
      ·rw [decide_eq_false (show ¬((2:Int)=2∧4096<X.size) from fun h=>hz h.2)] at hR
       subst hR
       repeat' (first|refine ZG ?_|refine ZF ?_|refine ZJ ?_|refine ZH ?_|refine ZL ?_|refine ZI ?_|refine ZN ?_|refine ZO (fun b=>?_)|refine ZM (fun b=>?_)|refine ZB ?_|refine ZD ?_|refine ZX ?_|refine ZZ ?_|refine Zg ?_|refine ZY ?_|refine ZW ?_|refine Zh (fun b=>?_)|refine Zf (fun b=>?_)|refine Ze ?_|refine ZV ?_|refine ZA (m2) (fun _ _=>?_)|refine l_call0 (m2) (fun _ _=>?_)|refine ZK (m2) (fun _ _=>?_)|refine ZA (m5) (fun _ _=>?_)|refine l_call0 (m5) (fun _ _=>?_)|refine ZK (m5) (fun _ _=>?_)|refine YK (es:=vs) (f:=lnf) j _ hyj (fun b off=>?_)|refine YL ?_|rw [w1]|(refine ZC (fun hc=>?_) (fun hc=>?_)<;>(try simp at hc)<;>(try omega))|(refine ZS (fun hc=>?_) (fun hc=>?_)<;>(try simp at hc)<;>(try omega))|refine ZQ 5 [] [(0,0),(1,0),(2,0),(3,0),(4,0),(5,0),(6,0),(7,0),(8,4),(9,0),(10,0),(11,0),(12,0),(13,0),(14,0),(15,0),(16,0),(17,0),(18,0),(19,0),(20,0),(21,0),(22,0),(23,0),(24,0),(25,0),(26,4),(27,0),(28,0),(29,0)] [] ?_|refine ZQ 6 [] [(0,0),(1,0),(2,0),(3,0),(4,0),(5,0),(6,0),(7,0),(8,0),(9,0),(10,0),(11,0),(12,0),(13,0),(14,0),(15,4),(16,0),(17,0),(18,0),(19,0)] [] ?_|(refine ZE (fun hc=>?_) (fun hc=>?_)<;>(try simp at hc)<;>(try omega)))
       all_goals (refine Zq (Zr (Zk () ?_ trivial));show Value.bool _=Value.bool _;simp;omega)
     ·rw [decide_eq_false (fun h=>hk h.1)] at hR
      subst hR
      repeat' (first|refine ZG ?_|refine ZF ?_|refine ZJ ?_|refine ZH ?_|refine ZL ?_|refine ZI ?_|refine ZN ?_|refine ZO (fun b=>?_)|refine ZM (fun b=>?_)|refine ZB ?_|refine ZD ?_|refine ZX ?_|refine ZZ ?_|refine Zg ?_|refine ZY ?_|refine ZW ?_|refine Zh (fun b=>?_)|refine Zf (fun b=>?_)|refine Ze ?_|refine ZV ?_|refine ZA (m2) (fun _ _=>?_)|refine l_call0 (m2) (fun _ _=>?_)|refine ZK (m2) (fun _ _=>?_)|refine YK (es:=vs) (f:=lnf) j _ hyj (fun b off=>?_)|refine YL ?_|rw [w1]|(refine ZC (fun hc=>?_) (fun hc=>?_)<;>(try simp at hc)<;>(try omega))|(refine ZS (fun hc=>?_) (fun hc=>?_)<;>(try simp at hc)<;>(try omega))|refine ZQ 5 [] [(0,0),(1,0),(2,0),(3,0),(4,0),(5,0),(6,0),(7,0),(8,4),(9,0),(10,0),(11,0),(12,0),(13,0),(14,0),(15,0),(16,0),(17,0),(18,0),(19,0),(20,0),(21,0),(22,0),(23,0),(24,0),(25,0),(26,4),(27,0),(28,0),(29,0)] [] ?_|refine ZQ 6 [] [(0,0),(1,0),(2,0),(3,0),(4,0),(5,0),(6,0),(7,0),(8,0),(9,0),(10,0),(11,0),(12,0),(13,0),(14,0),(15,4),(16,0),(17,0),(18,0),(19,0)] [] ?_|(refine ZE (fun hc=>?_) (fun hc=>?_)<;>(try simp at hc)<;>(try omega)))
      all_goals exact Zq (Zr (Zk () rfl trivial))
   | some t=>
    have hq1:yp=some ⟨bt,0,none⟩:=hq1
    subst hq1
    have m3:=Xy c hs t (hxw t rfl) (hxs t rfl) tc
    have hcd:condH c ⟨some (toC t),⟨yk,yt⟩⟩=holM c t:=hcd
    cases hpo:posF yk c.kind with
    | false=>
     rw [hpo] at m2
     rw [if_pos (.inl hpo)] at hR
     repeat' (first|refine ZG ?_|refine ZF ?_|refine ZJ ?_|refine ZH ?_|refine ZL ?_|refine ZI ?_|refine ZN ?_|refine ZO (fun b=>?_)|refine ZM (fun b=>?_)|refine ZB ?_|refine ZD ?_|refine ZX ?_|refine ZZ ?_|refine Zg ?_|refine ZY ?_|refine ZW ?_|refine Zh (fun b=>?_)|refine Zf (fun b=>?_)|refine Ze ?_|refine ZV ?_|refine ZA (m2) (fun _ _=>?_)|refine l_call0 (m2) (fun _ _=>?_)|refine ZK (m2) (fun _ _=>?_)|refine ZA (m3) (fun _ _=>?_)|refine l_call0 (m3) (fun _ _=>?_)|refine ZK (m3) (fun _ _=>?_)|refine YK (es:=vs) (f:=lnf) j _ hyj (fun b off=>?_)|refine YL ?_|rw [w1]|(refine ZC (fun hc=>?_) (fun hc=>?_)<;>(try simp at hc)<;>(try omega))|(refine ZS (fun hc=>?_) (fun hc=>?_)<;>(try simp at hc)<;>(try omega))|refine ZQ 5 [] [(0,0),(1,0),(2,0),(3,0),(4,0),(5,0),(6,0),(7,0),(8,4),(9,0),(10,0),(11,0),(12,0),(13,0),(14,0),(15,0),(16,0),(17,0),(18,0),(19,0),(20,0),(21,0),(22,0),(23,0),(24,0),(25,0),(26,4),(27,0),(28,0),(29,0)] [] ?_|refine ZQ 6 [] [(0,0),(1,0),(2,0),(3,0),(4,0),(5,0),(6,0),(7,0),(8,0),(9,0),(10,0),(11,0),(12,0),(13,0),(14,0),(15,4),(16,0),(17,0),(18,0),(19,0)] [] ?_|(refine ZE (fun hc=>?_) (fun hc=>?_)<;>(try simp at hc)<;>(try omega)))
     all_goals exact Za ⟨j+1,by show j+1≤l.length;omega,hR⟩ (by show l.length - (j+1)<l.length - j;omega) ⟨rfl,rfl,rfl,trivial⟩
    | true=>
     rw [hpo] at m2
     rw [←hcd] at m3
     cases hcd:condH c ⟨some (toC t),⟨yk,yt⟩⟩ with
     | false=>
      rw [hcd] at m3
      rw [if_pos (.inr hcd)] at hR
      repeat' (first|refine ZG ?_|refine ZF ?_|refine ZJ ?_|refine ZH ?_|refine ZL ?_|refine ZI ?_|refine ZN ?_|refine ZO (fun b=>?_)|refine ZM (fun b=>?_)|refine ZB ?_|refine ZD ?_|refine ZX ?_|refine ZZ ?_|refine Zg ?_|refine ZY ?_|refine ZW ?_|refine Zh (fun b=>?_)|refine Zf (fun b=>?_)|refine Ze ?_|refine ZV ?_|refine ZA (m2) (fun _ _=>?_)|refine l_call0 (m2) (fun _ _=>?_)|refine ZK (m2) (fun _ _=>?_)|refine ZA (m3) (fun _ _=>?_)|refine l_call0 (m3) (fun _ _=>?_)|refine ZK (m3) (fun _ _=>?_)|refine YK (es:=vs) (f:=lnf) j _ hyj (fun b off=>?_)|refine YL ?_|rw [w1]|(refine ZC (fun hc=>?_) (fun hc=>?_)<;>(try simp at hc)<;>(try omega))|(refine ZS (fun hc=>?_) (fun hc=>?_)<;>(try simp at hc)<;>(try omega))|refine ZQ 5 [] [(0,0),(1,0),(2,0),(3,0),(4,0),(5,0),(6,0),(7,0),(8,4),(9,0),(10,0),(11,0),(12,0),(13,0),(14,0),(15,0),(16,0),(17,0),(18,0),(19,0),(20,0),(21,0),(22,0),(23,0),(24,0),(25,0),(26,4),(27,0),(28,0),(29,0)] [] ?_|refine ZQ 6 [] [(0,0),(1,0),(2,0),(3,0),(4,0),(5,0),(6,0),(7,0),(8,0),(9,0),(10,0),(11,0),(12,0),(13,0),(14,0),(15,4),(16,0),(17,0),(18,0),(19,0)] [] ?_|(refine ZE (fun hc=>?_) (fun hc=>?_)<;>(try simp at hc)<;>(try omega)))
      all_goals exact Za ⟨j+1,by show j+1≤l.length;omega,hR⟩ (by show l.length - (j+1)<l.length - j;omega) ⟨rfl,rfl,rfl,trivial⟩
     | true=>
      rw [hcd] at m3
      rw [if_neg (fun h=>h.elim (fun h=>by rw [hpo] at h;cases h) (fun h=>by have h2:=h.symm.trans hcd;cases h2))] at hR
      by_cases hk:yk=2
      ·subst hk
       have htm:tmF yt.data.toList 0 0=none:=by rw [←(Xe yt c).1];exact hx.a.2.2.1 rfl
       have m5:=X3 yt (by omega) c hj hs htm
       have e5:ofL (exF c yt.data.toList 0)=expF yt c:=YH (by rw [Z8,(Xe yt c).2 htm])
       rw [e5] at m5
       generalize expF yt c=X at *
       by_cases hz:4096<X.size
       ·rw [decide_eq_true (show (2:Int)=2∧4096<X.size from ⟨rfl,hz⟩)] at hR
        subst hR
        repeat' (first|refine ZG ?_|refine ZF ?_|refine ZJ ?_|refine ZH ?_|refine ZL ?_|refine ZI ?_|refine ZN ?_|refine ZO (fun b=>?_)|refine ZM (fun b=>?_)|refine ZB ?_|refine ZD ?_|refine ZX ?_|refine ZZ ?_|refine Zg ?_|refine ZY ?_|refine ZW ?_|refine Zh (fun b=>?_)|refine Zf (fun b=>?_)|refine Ze ?_|refine ZV ?_|refine ZA (m2) (fun _ _=>?_)|refine l_call0 (m2) (fun _ _=>?_)|refine ZK (m2) (fun _ _=>?_)|refine ZA (m3) (fun _ _=>?_)|refine l_call0 (m3) (fun _ _=>?_)|refine ZK (m3) (fun _ _=>?_)|refine ZA (m5) (fun _ _=>?_)|refine l_call0 (m5) (fun _ _=>?_)|refine ZK (m5) (fun _ _=>?_)|refine YK (es:=vs) (f:=lnf) j _ hyj (fun b off=>?_)|refine YL ?_|rw [w1]|(refine ZC (fun hc=>?_) (fun hc=>?_)<;>(try simp at hc)<;>(try omega))|(refine ZS (fun hc=>?_) (fun hc=>?_)<;>(try simp at hc)<;>(try omega))|refine ZQ 5 [] [(0,0),(1,0),(2,0),(3,0),(4,0),(5,0),(6,0),(7,0),(8,4),(9,0),(10,0),(11,0),(12,0),(13,0),(14,0),(15,0),(16,0),(17,0),(18,0),(19,0),(20,0),(21,0),(22,0),(23,0),(24,0),(25,0),(26,4),(27,0),(28,0),(29,0)] [] ?_|refine ZQ 6 [] [(0,0),(1,0),(2,0),(3,0),(4,0),(5,0),(6,0),(7,0),(8,0),(9,0),(10,0),(11,0),(12,0),(13,0),(14,0),(15,4),(16,0),(17,0),(18,0),(19,0)] [] ?_|(refine ZE (fun hc=>?_) (fun hc=>?_)<;>(try simp at hc)<;>(try omega)))
        all_goals (refine Zq (Zr (Zk () ?_ trivial));show Value.bool _=Value.bool _;simp;omega)
       ·rw [decide_eq_false (show ¬((2:Int)=2∧4096<X.size) from fun h=>hz h.2)] at hR
        subst hR
        repeat' (first|refine ZG ?_|refine ZF ?_|refine ZJ ?_|refine ZH ?_|refine ZL ?_|refine ZI ?_|refine ZN ?_|refine ZO (fun b=>?_)|refine ZM (fun b=>?_)|refine ZB ?_|refine ZD ?_|refine ZX ?_|refine ZZ ?_|refine Zg ?_|refine ZY ?_|refine ZW ?_|refine Zh (fun b=>?_)|refine Zf (fun b=>?_)|refine Ze ?_|refine ZV ?_|refine ZA (m2) (fun _ _=>?_)|refine l_call0 (m2) (fun _ _=>?_)|refine ZK (m2) (fun _ _=>?_)|refine ZA (m3) (fun _ _=>?_)|refine l_call0 (m3) (fun _ _=>?_)|refine ZK (m3) (fun _ _=>?_)|refine ZA (m5) (fun _ _=>?_)|refine l_call0 (m5) (fun _ _=>?_)|refine ZK (m5) (fun _ _=>?_)|refine YK (es:=vs) (f:=lnf) j _ hyj (fun b off=>?_)|refine YL ?_|rw [w1]|(refine ZC (fun hc=>?_) (fun hc=>?_)<;>(try simp at hc)<;>(try omega))|(refine ZS (fun hc=>?_) (fun hc=>?_)<;>(try simp at hc)<;>(try omega))|refine ZQ 5 [] [(0,0),(1,0),(2,0),(3,0),(4,0),(5,0),(6,0),(7,0),(8,4),(9,0),(10,0),(11,0),(12,0),(13,0),(14,0),(15,0),(16,0),(17,0),(18,0),(19,0),(20,0),(21,0),(22,0),(23,0),(24,0),(25,0),(26,4),(27,0),(28,0),(29,0)] [] ?_|refine ZQ 6 [] [(0,0),(1,0),(2,0),(3,0),(4,0),(5,0),(6,0),(7,0),(8,0),(9,0),(10,0),(11,0),(12,0),(13,0),(14,0),(15,4),(16,0),(17,0),(18,0),(19,0)] [] ?_|(refine ZE (fun hc=>?_) (fun hc=>?_)<;>(try simp at hc)<;>(try omega)))
        all_goals (refine Zq (Zr (Zk () ?_ trivial));show Value.bool _=Value.bool _;simp;omega)
      ·rw [decide_eq_false (fun h=>hk h.1)] at hR
       subst hR
       repeat' (first|refine ZG ?_|refine ZF ?_|refine ZJ ?_|refine ZH ?_|refine ZL ?_|refine ZI ?_|refine ZN ?_|refine ZO (fun b=>?_)|refine ZM (fun b=>?_)|refine ZB ?_|refine ZD ?_|refine ZX ?_|refine ZZ ?_|refine Zg ?_|refine ZY ?_|refine ZW ?_|refine Zh (fun b=>?_)|refine Zf (fun b=>?_)|refine Ze ?_|refine ZV ?_|refine ZA (m2) (fun _ _=>?_)|refine l_call0 (m2) (fun _ _=>?_)|refine ZK (m2) (fun _ _=>?_)|refine ZA (m3) (fun _ _=>?_)|refine l_call0 (m3) (fun _ _=>?_)|refine ZK (m3) (fun _ _=>?_)|refine YK (es:=vs) (f:=lnf) j _ hyj (fun b off=>?_)|refine YL ?_|rw [w1]|(refine ZC (fun hc=>?_) (fun hc=>?_)<;>(try simp at hc)<;>(try omega))|(refine ZS (fun hc=>?_) (fun hc=>?_)<;>(try simp at hc)<;>(try omega))|refine ZQ 5 [] [(0,0),(1,0),(2,0),(3,0),(4,0),(5,0),(6,0),(7,0),(8,4),(9,0),(10,0),(11,0),(12,0),(13,0),(14,0),(15,0),(16,0),(17,0),(18,0),(19,0),(20,0),(21,0),(22,0),(23,0),(24,0),(25,0),(26,4),(27,0),(28,0),(29,0)] [] ?_|refine ZQ 6 [] [(0,0),(1,0),(2,0),(3,0),(4,0),(5,0),(6,0),(7,0),(8,0),(9,0),(10,0),(11,0),(12,0),(13,0),(14,0),(15,4),(16,0),(17,0),(18,0),(19,0)] [] ?_|(refine ZE (fun hc=>?_) (fun hc=>?_)<;>(try simp at hc)<;>(try omega)))
       all_goals exact Zq (Zr (Zk () rfl trivial))
  ·rw [List.drop_eq_nil_of_le (by omega)] at hR
   have hR:false=V:=hR
   subst hR
   have hjv:¬(j:Int)<(vs.length:Int):=by omega
   repeat' (first|refine ZG ?_|refine ZF ?_|refine ZJ ?_|refine ZH ?_|refine ZL ?_|refine ZI ?_|refine ZN ?_|refine ZO (fun b=>?_)|refine ZM (fun b=>?_)|refine ZB ?_|refine ZD ?_|refine ZP ?_|(refine ZC (fun hc=>?_) (fun hc=>?_)<;>(try simp at hc)<;>(try omega))|(refine ZE (fun hc=>?_) (fun hc=>?_)<;>(try simp at hc)<;>(try omega)))
   exact ZR () rfl trivial
 ·rw [e1] at p2
  rw [e2]
  dsimp only
  refine ZT [_,_] func29 ntmps29 fun G w hp=>?_
  repeat' (first|refine ZG ?_|refine ZF ?_|refine ZJ ?_|refine ZH ?_|refine ZL ?_|refine ZI ?_|refine ZN ?_|refine ZO (fun b=>?_)|refine ZM (fun b=>?_)|refine ZB ?_|refine ZD ?_|refine ZA (p2) (fun _ _=>?_)|refine l_call0 (p2) (fun _ _=>?_)|(refine ZC (fun hc=>?_) (fun hc=>?_)<;>(try simp at hc)<;>(try omega))|(refine ZE (fun hc=>?_) (fun hc=>?_)<;>(try simp at hc)<;>(try omega)))
  refine YJ (X:=Unit) (fun _=>[(5,.slice none 0 0),(9,.int .i64 0)]) (fun _=>[]) (fun _=>[]) (fun _=>0) () ⟨rfl,rfl,trivial⟩ ?_
  intro _
  repeat' (first|refine ZG ?_|refine ZF ?_|refine ZJ ?_|refine ZH ?_|refine ZL ?_|refine ZI ?_|refine ZN ?_|refine ZO (fun b=>?_)|refine ZM (fun b=>?_)|refine ZB ?_|refine ZD ?_|refine ZP ?_|(refine ZC (fun hc=>?_) (fun hc=>?_)<;>(try simp at hc)<;>(try omega))|(refine ZE (fun hc=>?_) (fun hc=>?_)<;>(try simp at hc)<;>(try omega)))
  exact ZR () rfl trivial
set_option maxHeartbeats 8000000 in
theorem lawFirst_ok (s t:ByteArray) (c:Cq) (hw:CqW c):Enters 7∧Spec prog 7 #[.string s,.string t,cqa c] [ErA,P10,MxL] [] (RetV (.bool true)):=by
 have n0:=VV c
 have hj:=shF_j hw
 have hq:=shF_s c
 generalize shF c=e at *
 have n1:=Ww
 have hcu:=Ya s 500
 have hcv:=Ya t 500
 generalize hu:cutS s 500=u at *
 generalize hv:cutS t 500=v at *
 have p1:=Y3 u (by omega)
 have p2:=Y3 v (by omega)
 have g1:=mpLong_ok u (by omega) e hj hq
 have g2:=mpLong_ok v (by omega) e hj hq
 unfold lgF at g1 g2
 cases hpu:parF u with
 | error x=>
  rw [hpu] at p1
  have hne:=par_err hpu
  obtain ⟨x1,x2,x3⟩:=x
  dsimp only at hne
  cases hpv:parF v with
  | error y=>
   rw [hpv] at p2
   refine ZT [_,_,_] func7 ntmps7 fun G w hp=>?_
   repeat' (first|rw [hv]|rw [hu]|refine ZG ?_|refine ZF ?_|refine ZJ ?_|refine ZH ?_|refine ZL ?_|refine ZI ?_|refine ZN ?_|refine ZO (fun b=>?_)|refine ZM (fun b=>?_)|refine ZB ?_|refine ZD ?_|refine ZP ?_|refine ZX ?_|refine ZZ ?_|refine Zg ?_|refine ZY ?_|refine ZW ?_|refine Zh (fun b=>?_)|refine Zf (fun b=>?_)|refine Ze ?_|refine ZV ?_|refine ZA (n0) (fun _ _=>?_)|refine l_call0 (n0) (fun _ _=>?_)|refine ZK (n0) (fun _ _=>?_)|refine ZA (n1) (fun _ _=>?_)|refine l_call0 (n1) (fun _ _=>?_)|refine ZK (n1) (fun _ _=>?_)|refine ZA (p1) (fun _ _=>?_)|refine l_call0 (p1) (fun _ _=>?_)|refine ZK (p1) (fun _ _=>?_)|refine ZA (p2) (fun _ _=>?_)|refine l_call0 (p2) (fun _ _=>?_)|refine ZK (p2) (fun _ _=>?_)|refine Y4 500 ?_|(refine ZC (fun hc=>?_) (fun hc=>?_)<;>(try simp at hc)<;>(try omega))|(refine ZS (fun hc=>?_) (fun hc=>?_)<;>(try simp at hc)<;>(try omega))|refine ZQ 1 [] [(0,0),(1,0),(2,0),(3,0),(4,0),(5,0),(6,0),(7,0),(8,0),(9,0),(10,0),(11,0)] [] ?_|(refine ZE (fun hc=>?_) (fun hc=>?_)<;>(try simp at hc)<;>(try omega)))
   all_goals (refine ZR () ?_ trivial;show Value.bool _=Value.bool true;simp)
  | ok b=>
   rw [hpv] at p2
   refine ZT [_,_,_] func7 ntmps7 fun G w hp=>?_
   repeat' (first|rw [hv]|rw [hu]|refine ZG ?_|refine ZF ?_|refine ZJ ?_|refine ZH ?_|refine ZL ?_|refine ZI ?_|refine ZN ?_|refine ZO (fun b=>?_)|refine ZM (fun b=>?_)|refine ZB ?_|refine ZD ?_|refine ZP ?_|refine ZX ?_|refine ZZ ?_|refine Zg ?_|refine ZY ?_|refine ZW ?_|refine Zh (fun b=>?_)|refine Zf (fun b=>?_)|refine Ze ?_|refine ZV ?_|refine ZA (n0) (fun _ _=>?_)|refine l_call0 (n0) (fun _ _=>?_)|refine ZK (n0) (fun _ _=>?_)|refine ZA (n1) (fun _ _=>?_)|refine l_call0 (n1) (fun _ _=>?_)|refine ZK (n1) (fun _ _=>?_)|refine ZA (p1) (fun _ _=>?_)|refine l_call0 (p1) (fun _ _=>?_)|refine ZK (p1) (fun _ _=>?_)|refine ZA (p2) (fun _ _=>?_)|refine l_call0 (p2) (fun _ _=>?_)|refine ZK (p2) (fun _ _=>?_)|refine Y4 500 ?_|(refine ZC (fun hc=>?_) (fun hc=>?_)<;>(try simp at hc)<;>(try omega))|(refine ZS (fun hc=>?_) (fun hc=>?_)<;>(try simp at hc)<;>(try omega))|refine ZQ 1 [] [(0,0),(1,0),(2,0),(3,0),(4,0),(5,0),(6,0),(7,0),(8,0),(9,0),(10,0),(11,0)] [] ?_|(refine ZE (fun hc=>?_) (fun hc=>?_)<;>(try simp at hc)<;>(try omega)))
   all_goals (refine ZR () ?_ trivial;show Value.bool _=Value.bool true;simp)
 | ok a=>
  rw [hpu] at p1 g1
  cases hpv:parF v with
  | error y=>
   rw [hpv] at p2
   have hne:=par_err hpv
   obtain ⟨y1,y2,y3⟩:=y
   dsimp only at hne
   refine ZT [_,_,_] func7 ntmps7 fun G w hp=>?_
   repeat' (first|rw [hv]|rw [hu]|refine ZG ?_|refine ZF ?_|refine ZJ ?_|refine ZH ?_|refine ZL ?_|refine ZI ?_|refine ZN ?_|refine ZO (fun b=>?_)|refine ZM (fun b=>?_)|refine ZB ?_|refine ZD ?_|refine ZP ?_|refine ZX ?_|refine ZZ ?_|refine Zg ?_|refine ZY ?_|refine ZW ?_|refine Zh (fun b=>?_)|refine Zf (fun b=>?_)|refine Ze ?_|refine ZV ?_|refine ZA (n0) (fun _ _=>?_)|refine l_call0 (n0) (fun _ _=>?_)|refine ZK (n0) (fun _ _=>?_)|refine ZA (n1) (fun _ _=>?_)|refine l_call0 (n1) (fun _ _=>?_)|refine ZK (n1) (fun _ _=>?_)|refine ZA (p1) (fun _ _=>?_)|refine l_call0 (p1) (fun _ _=>?_)|refine ZK (p1) (fun _ _=>?_)|refine ZA (p2) (fun _ _=>?_)|refine l_call0 (p2) (fun _ _=>?_)|refine ZK (p2) (fun _ _=>?_)|refine Y4 500 ?_|(refine ZC (fun hc=>?_) (fun hc=>?_)<;>(try simp at hc)<;>(try omega))|(refine ZS (fun hc=>?_) (fun hc=>?_)<;>(try simp at hc)<;>(try omega))|refine ZQ 1 [] [(0,0),(1,0),(2,0),(3,0),(4,0),(5,0),(6,0),(7,0),(8,0),(9,0),(10,0),(11,0)] [] ?_|(refine ZE (fun hc=>?_) (fun hc=>?_)<;>(try simp at hc)<;>(try omega)))
   all_goals (refine ZR () ?_ trivial;show Value.bool _=Value.bool true;simp)
  | ok b=>
   rw [hpv] at p2 g2
   dsimp only at g1 g2
   cases hla:longF e a with
   | true=>
    rw [hla] at g1
    refine ZT [_,_,_] func7 ntmps7 fun G w hp=>?_
    repeat' (first|rw [hv]|rw [hu]|refine ZG ?_|refine ZF ?_|refine ZJ ?_|refine ZH ?_|refine ZL ?_|refine ZI ?_|refine ZN ?_|refine ZO (fun b=>?_)|refine ZM (fun b=>?_)|refine ZB ?_|refine ZD ?_|refine ZP ?_|refine ZX ?_|refine ZZ ?_|refine Zg ?_|refine ZY ?_|refine ZW ?_|refine Zh (fun b=>?_)|refine Zf (fun b=>?_)|refine Ze ?_|refine ZV ?_|refine ZA (n0) (fun _ _=>?_)|refine l_call0 (n0) (fun _ _=>?_)|refine ZK (n0) (fun _ _=>?_)|refine ZA (n1) (fun _ _=>?_)|refine l_call0 (n1) (fun _ _=>?_)|refine ZK (n1) (fun _ _=>?_)|refine ZA (p1) (fun _ _=>?_)|refine l_call0 (p1) (fun _ _=>?_)|refine ZK (p1) (fun _ _=>?_)|refine ZA (p2) (fun _ _=>?_)|refine l_call0 (p2) (fun _ _=>?_)|refine ZK (p2) (fun _ _=>?_)|refine ZA (g1) (fun _ _=>?_)|refine l_call0 (g1) (fun _ _=>?_)|refine ZK (g1) (fun _ _=>?_)|refine Y4 500 ?_|(refine ZC (fun hc=>?_) (fun hc=>?_)<;>(try simp at hc)<;>(try omega))|(refine ZS (fun hc=>?_) (fun hc=>?_)<;>(try simp at hc)<;>(try omega))|refine ZQ 1 [] [(0,0),(1,0),(2,0),(3,0),(4,0),(5,0),(6,0),(7,0),(8,0),(9,0),(10,0),(11,0)] [] ?_|(refine ZE (fun hc=>?_) (fun hc=>?_)<;>(try simp at hc)<;>(try omega)))
    all_goals (refine ZR () ?_ trivial;show Value.bool _=Value.bool true;simp)
   | false=>
    rw [hla] at g1
    cases hlb:longF e b with
    | true=>
     rw [hlb] at g2
     refine ZT [_,_,_] func7 ntmps7 fun G w hp=>?_
     repeat' (first|rw [hv]|rw [hu]|refine ZG ?_|refine ZF ?_|refine ZJ ?_|refine ZH ?_|refine ZL ?_|refine ZI ?_|refine ZN ?_|refine ZO (fun b=>?_)|refine ZM (fun b=>?_)|refine ZB ?_|refine ZD ?_|refine ZP ?_|refine ZX ?_|refine ZZ ?_|refine Zg ?_|refine ZY ?_|refine ZW ?_|refine Zh (fun b=>?_)|refine Zf (fun b=>?_)|refine Ze ?_|refine ZV ?_|refine ZA (n0) (fun _ _=>?_)|refine l_call0 (n0) (fun _ _=>?_)|refine ZK (n0) (fun _ _=>?_)|refine ZA (n1) (fun _ _=>?_)|refine l_call0 (n1) (fun _ _=>?_)|refine ZK (n1) (fun _ _=>?_)|refine ZA (p1) (fun _ _=>?_)|refine l_call0 (p1) (fun _ _=>?_)|refine ZK (p1) (fun _ _=>?_)|refine ZA (p2) (fun _ _=>?_)|refine l_call0 (p2) (fun _ _=>?_)|refine ZK (p2) (fun _ _=>?_)|refine ZA (g1) (fun _ _=>?_)|refine l_call0 (g1) (fun _ _=>?_)|refine ZK (g1) (fun _ _=>?_)|refine ZA (g2) (fun _ _=>?_)|refine l_call0 (g2) (fun _ _=>?_)|refine ZK (g2) (fun _ _=>?_)|refine Y4 500 ?_|(refine ZC (fun hc=>?_) (fun hc=>?_)<;>(try simp at hc)<;>(try omega))|(refine ZS (fun hc=>?_) (fun hc=>?_)<;>(try simp at hc)<;>(try omega))|refine ZQ 1 [] [(0,0),(1,0),(2,0),(3,0),(4,0),(5,0),(6,0),(7,0),(8,0),(9,0),(10,0),(11,0)] [] ?_|(refine ZE (fun hc=>?_) (fun hc=>?_)<;>(try simp at hc)<;>(try omega)))
     all_goals (refine ZR () ?_ trivial;show Value.bool _=Value.bool true;simp)
    | false=>
     rw [hlb] at g2
     have hp3:=par_two hcu hcv hpu hpv
     have ew:u++(⟨#[10]⟩:ByteArray)++v=ofL (u.data.toList++10::v.data.toList):=YH (by rw [Xd,Xd,Z8];simp)
     rw [←ew] at hp3
     have s1:(⟨#[10]⟩:ByteArray).size=1:=rfl
     have s2:(u++(⟨#[10]⟩:ByteArray)).size=u.size+1:=by rw [ByteArray.size_append,s1]
     have q1:u.size+(⟨#[10]⟩:ByteArray).size≤9223372036854775807:=by omega
     have q2:(u++(⟨#[10]⟩:ByteArray)).size+v.size≤9223372036854775807:=by omega
     have s3:(u++(⟨#[10]⟩:ByteArray)++v).size≤1001:=by rw [ByteArray.size_append];omega
     have p3:=Y3 (u++(⟨#[10]⟩:ByteArray)++v) (by omega)
     rw [hp3] at p3
     obtain ⟨c1,c2⟩:=par_ok hpu
     obtain ⟨c3,c4⟩:=par_ok hpv
     obtain ⟨c5,c6⟩:=par_ok hp3
     have d1:=fun b=>YY b a e hj.i hq (show u.size≤70000 by omega) c2 c1
     have d2:=fun x=>YY x b e hj.i hq (show v.size≤70000 by omega) c4 c3
     have d3:=fun x=>YY x (a++b) e hj.i hq (by omega) c6 c5
     rw [decide_two e a b hla] at d3
     have l1:=fun x=>Xo x a
     have l3:=fun x=>Xo x (a++b)
     have l2:=fun x=>Xo x b
     rw [List.length_append] at l3 c5
     have w1:=wrapi (z:=(a.length:Int)+(b.length:Int)) (by omega) (by omega)
     have hcast:(((a.length+b.length:Nat)):Int)=(a.length:Int)+(b.length:Int):=by omega
     rw [hcast] at l3
     have hb:=dec_leFi e b
     generalize decideF a e=x at *
     generalize decideF b e=y at *
     obtain ⟨⟨xk,xt⟩,xi⟩:=x
     obtain ⟨⟨yk,yt⟩,yi⟩:=y
     dsimp only at d3 hb
     have bX:(xt.toList == xt.toList)=true:=beqT rfl
     have bY:(yt.toList == yt.toList)=true:=beqT rfl
     have w2:=wrapi (z:=yi+(a.length:Int)) (by omega) (by omega)
     by_cases hx:0≤xi
     ·rw [if_pos hx] at d3
      refine ZT [_,_,_] func7 ntmps7 fun G w hp=>?_
      repeat' (first|rw [bY]|rw [bX]|rw [w2]|rw [w1]|rw [hv]|rw [hu]|refine ZG ?_|refine ZF ?_|refine ZJ ?_|refine ZH ?_|refine ZL ?_|refine ZI ?_|refine ZN ?_|refine ZO (fun b=>?_)|refine ZM (fun b=>?_)|refine ZB ?_|refine ZD ?_|refine ZP ?_|refine ZX ?_|refine ZZ ?_|refine Zg ?_|refine ZY ?_|refine ZW ?_|refine Zh (fun b=>?_)|refine Zf (fun b=>?_)|refine Ze ?_|refine ZV ?_|refine ZA (n0) (fun _ _=>?_)|refine l_call0 (n0) (fun _ _=>?_)|refine ZK (n0) (fun _ _=>?_)|refine ZA (n1) (fun _ _=>?_)|refine l_call0 (n1) (fun _ _=>?_)|refine ZK (n1) (fun _ _=>?_)|refine ZA (p1) (fun _ _=>?_)|refine l_call0 (p1) (fun _ _=>?_)|refine ZK (p1) (fun _ _=>?_)|refine ZA (p2) (fun _ _=>?_)|refine l_call0 (p2) (fun _ _=>?_)|refine ZK (p2) (fun _ _=>?_)|refine ZA (p3) (fun _ _=>?_)|refine l_call0 (p3) (fun _ _=>?_)|refine ZK (p3) (fun _ _=>?_)|refine ZA (g1) (fun _ _=>?_)|refine l_call0 (g1) (fun _ _=>?_)|refine ZK (g1) (fun _ _=>?_)|refine ZA (g2) (fun _ _=>?_)|refine l_call0 (g2) (fun _ _=>?_)|refine ZK (g2) (fun _ _=>?_)|refine ZA (d1 _) (fun _ _=>?_)|refine l_call0 (d1 _) (fun _ _=>?_)|refine ZK (d1 _) (fun _ _=>?_)|refine ZA (d2 _) (fun _ _=>?_)|refine l_call0 (d2 _) (fun _ _=>?_)|refine ZK (d2 _) (fun _ _=>?_)|refine ZA (d3 _) (fun _ _=>?_)|refine l_call0 (d3 _) (fun _ _=>?_)|refine ZK (d3 _) (fun _ _=>?_)|refine ZA (l1 _) (fun _ _=>?_)|refine l_call0 (l1 _) (fun _ _=>?_)|refine ZK (l1 _) (fun _ _=>?_)|refine ZA (l2 _) (fun _ _=>?_)|refine l_call0 (l2 _) (fun _ _=>?_)|refine ZK (l2 _) (fun _ _=>?_)|refine ZA (l3 _) (fun _ _=>?_)|refine l_call0 (l3 _) (fun _ _=>?_)|refine ZK (l3 _) (fun _ _=>?_)|refine Y4 500 ?_|refine YO (a:=u) (b:=⟨#[10]⟩) ?_ (h:=q1)|refine YO (a:=u++⟨#[10]⟩) (b:=v) ?_ (h:=q2)|refine l_seqA ?_|(refine ZC (fun hc=>?_) (fun hc=>?_)<;>(try simp at hc)<;>(try omega))|(refine ZS (fun hc=>?_) (fun hc=>?_)<;>(try simp at hc)<;>(try omega))|refine ZQ 1 [] [(0,0),(1,0),(2,0),(3,0),(4,0),(5,0),(6,0),(7,0),(8,0),(9,0),(10,0),(11,0)] [] ?_|(refine ZE (fun hc=>?_) (fun hc=>?_)<;>(try simp at hc)<;>(try omega)))
      all_goals (refine ZR () ?_ trivial;show Value.bool _=Value.bool true;simp)
     ·rw [if_neg hx] at d3
      by_cases hy:0≤yi
      ·rw [if_pos hy] at d3
       refine ZT [_,_,_] func7 ntmps7 fun G w hp=>?_
       repeat' (first|rw [bY]|rw [bX]|rw [w2]|rw [w1]|rw [hv]|rw [hu]|refine ZG ?_|refine ZF ?_|refine ZJ ?_|refine ZH ?_|refine ZL ?_|refine ZI ?_|refine ZN ?_|refine ZO (fun b=>?_)|refine ZM (fun b=>?_)|refine ZB ?_|refine ZD ?_|refine ZP ?_|refine ZX ?_|refine ZZ ?_|refine Zg ?_|refine ZY ?_|refine ZW ?_|refine Zh (fun b=>?_)|refine Zf (fun b=>?_)|refine Ze ?_|refine ZV ?_|refine ZA (n0) (fun _ _=>?_)|refine l_call0 (n0) (fun _ _=>?_)|refine ZK (n0) (fun _ _=>?_)|refine ZA (n1) (fun _ _=>?_)|refine l_call0 (n1) (fun _ _=>?_)|refine ZK (n1) (fun _ _=>?_)|refine ZA (p1) (fun _ _=>?_)|refine l_call0 (p1) (fun _ _=>?_)|refine ZK (p1) (fun _ _=>?_)|refine ZA (p2) (fun _ _=>?_)|refine l_call0 (p2) (fun _ _=>?_)|refine ZK (p2) (fun _ _=>?_)|refine ZA (p3) (fun _ _=>?_)|refine l_call0 (p3) (fun _ _=>?_)|refine ZK (p3) (fun _ _=>?_)|refine ZA (g1) (fun _ _=>?_)|refine l_call0 (g1) (fun _ _=>?_)|refine ZK (g1) (fun _ _=>?_)|refine ZA (g2) (fun _ _=>?_)|refine l_call0 (g2) (fun _ _=>?_)|refine ZK (g2) (fun _ _=>?_)|refine ZA (d1 _) (fun _ _=>?_)|refine l_call0 (d1 _) (fun _ _=>?_)|refine ZK (d1 _) (fun _ _=>?_)|refine ZA (d2 _) (fun _ _=>?_)|refine l_call0 (d2 _) (fun _ _=>?_)|refine ZK (d2 _) (fun _ _=>?_)|refine ZA (d3 _) (fun _ _=>?_)|refine l_call0 (d3 _) (fun _ _=>?_)|refine ZK (d3 _) (fun _ _=>?_)|refine ZA (l1 _) (fun _ _=>?_)|refine l_call0 (l1 _) (fun _ _=>?_)|refine ZK (l1 _) (fun _ _=>?_)|refine ZA (l2 _) (fun _ _=>?_)|refine l_call0 (l2 _) (fun _ _=>?_)|refine ZK (l2 _) (fun _ _=>?_)|refine ZA (l3 _) (fun _ _=>?_)|refine l_call0 (l3 _) (fun _ _=>?_)|refine ZK (l3 _) (fun _ _=>?_)|refine Y4 500 ?_|refine YO (a:=u) (b:=⟨#[10]⟩) ?_ (h:=q1)|refine YO (a:=u++⟨#[10]⟩) (b:=v) ?_ (h:=q2)|refine l_seqA ?_|(refine ZC (fun hc=>?_) (fun hc=>?_)<;>(try simp at hc)<;>(try omega))|(refine ZS (fun hc=>?_) (fun hc=>?_)<;>(try simp at hc)<;>(try omega))|refine ZQ 1 [] [(0,0),(1,0),(2,0),(3,0),(4,0),(5,0),(6,0),(7,0),(8,0),(9,0),(10,0),(11,0)] [] ?_|(refine ZE (fun hc=>?_) (fun hc=>?_)<;>(try simp at hc)<;>(try omega)))
       all_goals (refine ZR () ?_ trivial;show Value.bool _=Value.bool true;simp)
      ·rw [if_neg hy] at d3
       refine ZT [_,_,_] func7 ntmps7 fun G w hp=>?_
       repeat' (first|rw [bY]|rw [bX]|rw [w2]|rw [w1]|rw [hv]|rw [hu]|refine ZG ?_|refine ZF ?_|refine ZJ ?_|refine ZH ?_|refine ZL ?_|refine ZI ?_|refine ZN ?_|refine ZO (fun b=>?_)|refine ZM (fun b=>?_)|refine ZB ?_|refine ZD ?_|refine ZP ?_|refine ZX ?_|refine ZZ ?_|refine Zg ?_|refine ZY ?_|refine ZW ?_|refine Zh (fun b=>?_)|refine Zf (fun b=>?_)|refine Ze ?_|refine ZV ?_|refine ZA (n0) (fun _ _=>?_)|refine l_call0 (n0) (fun _ _=>?_)|refine ZK (n0) (fun _ _=>?_)|refine ZA (n1) (fun _ _=>?_)|refine l_call0 (n1) (fun _ _=>?_)|refine ZK (n1) (fun _ _=>?_)|refine ZA (p1) (fun _ _=>?_)|refine l_call0 (p1) (fun _ _=>?_)|refine ZK (p1) (fun _ _=>?_)|refine ZA (p2) (fun _ _=>?_)|refine l_call0 (p2) (fun _ _=>?_)|refine ZK (p2) (fun _ _=>?_)|refine ZA (p3) (fun _ _=>?_)|refine l_call0 (p3) (fun _ _=>?_)|refine ZK (p3) (fun _ _=>?_)|refine ZA (g1) (fun _ _=>?_)|refine l_call0 (g1) (fun _ _=>?_)|refine ZK (g1) (fun _ _=>?_)|refine ZA (g2) (fun _ _=>?_)|refine l_call0 (g2) (fun _ _=>?_)|refine ZK (g2) (fun _ _=>?_)|refine ZA (d1 _) (fun _ _=>?_)|refine l_call0 (d1 _) (fun _ _=>?_)|refine ZK (d1 _) (fun _ _=>?_)|refine ZA (d2 _) (fun _ _=>?_)|refine l_call0 (d2 _) (fun _ _=>?_)|refine ZK (d2 _) (fun _ _=>?_)|refine ZA (d3 _) (fun _ _=>?_)|refine l_call0 (d3 _) (fun _ _=>?_)|refine ZK (d3 _) (fun _ _=>?_)|refine ZA (l1 _) (fun _ _=>?_)|refine l_call0 (l1 _) (fun _ _=>?_)|refine ZK (l1 _) (fun _ _=>?_)|refine ZA (l2 _) (fun _ _=>?_)|refine l_call0 (l2 _) (fun _ _=>?_)|refine ZK (l2 _) (fun _ _=>?_)|refine ZA (l3 _) (fun _ _=>?_)|refine l_call0 (l3 _) (fun _ _=>?_)|refine ZK (l3 _) (fun _ _=>?_)|refine Y4 500 ?_|refine YO (a:=u) (b:=⟨#[10]⟩) ?_ (h:=q1)|refine YO (a:=u++⟨#[10]⟩) (b:=v) ?_ (h:=q2)|refine l_seqA ?_|(refine ZC (fun hc=>?_) (fun hc=>?_)<;>(try simp at hc)<;>(try omega))|(refine ZS (fun hc=>?_) (fun hc=>?_)<;>(try simp at hc)<;>(try omega))|refine ZQ 1 [] [(0,0),(1,0),(2,0),(3,0),(4,0),(5,0),(6,0),(7,0),(8,0),(9,0),(10,0),(11,0)] [] ?_|(refine ZE (fun hc=>?_) (fun hc=>?_)<;>(try simp at hc)<;>(try omega)))
       all_goals (refine ZR () ?_ trivial;show Value.bool _=Value.bool true;simp)
end Go.Proofs.YtodkipbnefngkaaGreatDoor
